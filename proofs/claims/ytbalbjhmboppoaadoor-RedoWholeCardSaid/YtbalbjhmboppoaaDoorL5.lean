/-
  What Commit does, as a function of states; helpers for its walk.
  No condition.
-/
import Derived.Test.YtbalbjhmboppoaaDoorL4
set_option linter.unusedSimpArgs false
set_option linter.unusedVariables false
namespace Go.Proofs.YtbalbjhmboppoaaDoor
open Go.RowKit

/-- The rows of a transaction behind its first one. -/
def rowsOf (L : LogS) (ps : List PutM) : List PutM := ps.mapIdx fun i p => (slotAt L (1 + i), p.2)
def stepped (L : LogS) (n : Nat) : LogS := { L with place := (L.place + (n + 2)).tmod (L.size - 1), used := L.used + (n + 2), seq := L.seq + 1 }
def blanks (L : LogS) (n : Nat) : List PutM := [(slotAt L (n + 1), zeros 256), (slotAt L (n + 2), zeros 256)]
def txnRows (L : LogS) (ps : List PutM) : List PutM := (slotAt L 0, firstB L.seq (ps.map (·.1))) :: rowsOf L ps
def lastRow (L : LogS) (n : Nat) : List PutM := [(slotAt L (n + 1), lastB L.seq n)]
def commit3 (L : LogS) (D : DiskS) (ps : List PutM) : LRes :=
  ⟨triedS (stepped L ps.length) (D.writeF false ps).2, (D.writeF false ps).1, (D.writeF false ps).2⟩
def commit2 (L : LogS) (D : DiskS) (ps : List PutM) : LRes :=
  if (D.writeF true (lastRow L ps.length)).2 = 0 then commit3 L (D.writeF true (lastRow L ps.length)).1 ps
  else ⟨triedS L (D.writeF true (lastRow L ps.length)).2, (D.writeF true (lastRow L ps.length)).1, (D.writeF true (lastRow L ps.length)).2⟩
def commit1 (L : LogS) (D : DiskS) (ps : List PutM) : LRes :=
  if (D.writeF true (txnRows L ps)).2 = 0 then commit2 L (D.writeF true (txnRows L ps)).1 ps
  else ⟨triedS L (D.writeF true (txnRows L ps)).2, (D.writeF true (txnRows L ps)).1, (D.writeF true (txnRows L ps)).2⟩
def commitL (L : LogS) (D : DiskS) (ps : List PutM) : LRes :=
  if (D.writeF true (blanks L ps.length)).2 = 0 then commit1 L (D.writeF true (blanks L ps.length)).1 ps
  else ⟨triedS L (D.writeF true (blanks L ps.length)).2, (D.writeF true (blanks L ps.length)).1, (D.writeF true (blanks L ps.length)).2⟩
def commitC (L : LogS) (D : DiskS) (ps : List PutM) : LRes :=
  if L.size - 1 < L.used + (ps.length + 2) + 1 then
    if (checkpointS L D).err = 0 then commitL (checkpointS L D).log (checkpointS L D).disk ps else checkpointS L D
  else commitL L D ps
def commitS (L : LogS) (D : DiskS) (ps : List PutM) : LRes :=
  if L.broken = true then ⟨L, D, 13⟩
  else if ps = [] ∨ ps.any (wrongB L D) = true then ⟨L, D, 1⟩
  else if roomS L < ps.length then ⟨L, D, 11⟩
  else commitC L D ps

theorem rowsOf_length (L : LogS) (ps : List PutM) : (rowsOf L ps).length = ps.length := by simp [rowsOf]
theorem rowsOf_snoc (L : LogS) (ps : List PutM) (x : PutM) : rowsOf L (ps ++ [x]) = rowsOf L ps ++ [(slotAt L (1 + ps.length), x.2)] := by
  simp [rowsOf, List.mapIdx_append]
theorem Below.next {w w1 w2 : World} (h : Below w.heap.size w w1) (h' : Below w1.heap.size w1 w2) : Below w.heap.size w w2 := h.trans (h'.mono h.size)
theorem log2 {w : World} {q p B : Nat} {L : LogS} (h : LogAt w q p L) (hB : w.heap[B]? = some (.cells #[.pointer (some ⟨q, 0, none⟩)] 33 (0, 0))) :
    w.cell? ⟨B, 0, none⟩ = some (.pointer (some ⟨q, 0, none⟩)) ∧ w.cell? ⟨q, 0, none⟩ = some (.pointer (some ⟨p, 0, none⟩)) ∧ w.cell? ⟨q, 4, none⟩ = some (.int .i64 L.seq) := ⟨blk_cell hB 0, blk_cell h 0, blk_cell h 4⟩
theorem slotAt_range {L : LogS} (ok : L.Ok) {i : Int} (h0 : 0 ≤ i) : L.base + 1 ≤ slotAt L i ∧ slotAt L i < L.base + L.size := by
  have := ok.p0; have := ok.z0
  unfold slotAt
  have h1 := Int.tmod_nonneg (a := L.place + i) (L.size - 1) (by omega)
  have h2 := Int.tmod_lt_of_pos (L.place + i) (b := L.size - 1) (by omega)
  omega
theorem triedS_ok {L : LogS} (h : L.Ok) (e : Int) : (triedS L e).Ok := ⟨h.b0, h.b1, h.z0, h.z1, h.p0, h.p1, h.s0, h.s1, h.u0, h.u1⟩
theorem checkpointS_facts (L : LogS) (D : DiskS) (h : L.Ok) : (checkpointS L D).log.Ok ∧ (checkpointS L D).log.base = L.base ∧ (checkpointS L D).log.size = L.size := by
  have key : ∀ b, ({ L with used := 0, broken := b } : LogS).Ok := fun b => ⟨h.b0, h.b1, h.z0, h.z1, h.p0, h.p1, h.s0, h.s1, Int.le_refl _, by show (0 : Int) ≤ 65536; decide⟩
  unfold checkpointS
  split
  · exact ⟨h, rfl, rfl⟩
  · split
    · exact ⟨h, rfl, rfl⟩
    · dsimp only
      split
      · exact ⟨triedS_ok (key L.broken) _, rfl, rfl⟩
      · exact ⟨triedS_ok h _, rfl, rfl⟩
theorem headW_facts (L : LogS) {D : DiskS} (h : D.Ok) (hr : D.cache.length ≤ 1000000000000) : (headW L D).1.Ok ∧ (headW L D).1.cache.length ≤ D.cache.length + 1 ∧ (headW L D).1.sectors = D.sectors := by
  have h1 := h.writeF true [] (by simp; omega)
  have h2 := DiskS.writeF_cache D true []
  have h3 := DiskS.writeF_sectors D true []
  unfold headW
  split
  · have h5 := DiskS.writeF_cache (D.writeF true []).1 true [(L.base, headB L.place L.seq)]
    have h6 := DiskS.writeF_sectors (D.writeF true []).1 true [(L.base, headB L.place L.seq)]
    simp at h2 h5
    exact ⟨h1.writeF true _ (by simp; omega), by omega, by rw [h6, h3]⟩
  · simp at h2
    exact ⟨h1, by omega, h3⟩
theorem checkpointS_disk (L : LogS) {D : DiskS} (h : D.Ok) (hr : D.cache.length ≤ 1000000000000) : (checkpointS L D).disk.Ok ∧ (checkpointS L D).disk.cache.length ≤ D.cache.length + 1 ∧ (checkpointS L D).disk.sectors = D.sectors := by
  unfold checkpointS
  split
  · exact ⟨h, by dsimp only; omega, rfl⟩
  · split
    · exact ⟨h, by dsimp only; omega, rfl⟩
    · exact headW_facts L h hr

end Go.Proofs.YtbalbjhmboppoaaDoor
