/-
  GENERAL LEMMAS OF THIS CLAIM: a disk and a log between two calls, behind a world at which the law began.
  No condition.
-/
import Derived.Test.YtbalbjhmboppoaaDoorL6
import Derived.Test.YtbalbjhmboppoaaDoorR1
set_option linter.unusedSimpArgs false
set_option linter.unusedVariables false
namespace Go.Proofs.YtbalbjhmboppoaaDoor
open Go.RowKit

/-- A disk of the law's own, since W0. -/
structure DW (W0 w : World) (S : List Nat) (p : Nat) (D : DiskS) : Prop where
  d : DiskAt w S p D
  t : Tab w
  b : Below W0.heap.size W0 w
  s : ∀ k, k ∈ S → W0.heap.size ≤ k
  z : 0 < W0.heap.size
theorem DW.zS {W0 w : World} {S : List Nat} {p : Nat} {D : DiskS} (h : DW W0 w S p D) : (0 : Nat) ∉ S := fun hm => by
  have h1 := h.s 0 hm; have h2 := h.z; omega
theorem DW.upd {W0 w w' : World} {S T : List Nat} {p : Nat} {D : DiskS} (h : DW W0 w S p D) (hu : Upd T w w') (hn : ∀ k, k ∈ S → k ∉ T) (ht : ∀ k, k ∈ T → W0.heap.size ≤ k) : DW W0 w' S p D := by
  have hz := h.z
  refine ⟨h.d.upd hu hn, h.t.kept (hu.block 0 h.t.lt (fun hm => by have := ht 0 hm; omega)), h.b.trans (hu.below h.b.size ht), h.s, h.z⟩
theorem DW.below {W0 w w' : World} {S : List Nat} {p : Nat} {D : DiskS} (h : DW W0 w S p D) (hb : Below w.heap.size w w') : DW W0 w' S p D := h.upd (Upd.of_below (S := []) hb) (by simp) (by simp)
theorem DW.alloc {W0 w : World} {S : List Nat} {p : Nat} {D : DiskS} (h : DW W0 w S p D) (o : Obj) : DW W0 (w.alloc o) S p D := h.below ((Below.refl _ _).alloc (Nat.le_refl _) _)
theorem DW.ret {W0 w w' : World} {S S' T : List Nat} {p : Nat} {D D' : DiskS} (h : DW W0 w S p D) (hd : DiskAt w' S' p D') (hu : Upd T w w') (hs : Sub S S' w) (ht : ∀ k, k ∈ T → W0.heap.size ≤ k) : DW W0 w' S' p D' := by
  have hz := h.z
  refine ⟨hd, h.t.kept (hu.block 0 h.t.lt (fun hm => by have := ht 0 hm; omega)), h.b.trans (hu.below h.b.size ht), fun k hk => ?_, h.z⟩
  rcases hs k hk with h1 | h1
  · exact h.s k h1
  · have := h.b.size; omega
theorem DW.new {W0 w : World} {S : List Nat} {p : Nat} {D : DiskS} (hT : Tab W0) (hd : DiskAt w S p D) (hb : Below W0.heap.size W0 w) (hs : ∀ k, k ∈ S → W0.heap.size ≤ k) : DW W0 w S p D :=
  ⟨hd, hT.below hb, hb, hs, hT.lt⟩
/-- An open log over it. -/
structure LW (W0 w : World) (S : List Nat) (q p : Nat) (L : LogS) : Prop where
  l : LogAt w q p L
  n : q ∉ S
  s : W0.heap.size ≤ q
theorem LW.upd {W0 w w' : World} {S S' T : List Nat} {q p : Nat} {L : LogS} (h : LW W0 w S q p L) (hu : Upd T w w') (hs : Sub S S' w) (hq : q ∉ T) : LW W0 w' S' q p L :=
  ⟨hu.get h.l hq, hs.not h.n (blk_lt h.l), h.s⟩
theorem LW.below {W0 w w' : World} {S : List Nat} {q p : Nat} {L : LogS} (h : LW W0 w S q p L) (hb : Below w.heap.size w w') : LW W0 w' S q p L :=
  h.upd (Upd.of_below (S := []) hb) (Sub.refl _ _) (by simp)
theorem LW.alloc {W0 w : World} {S : List Nat} {q p : Nat} {L : LogS} (h : LW W0 w S q p L) (o : Obj) : LW W0 (w.alloc o) S q p L := h.below ((Below.refl _ _).alloc (Nat.le_refl _) _)
theorem new12 : DiskS.new (12 : Int).toNat = DiskS.new 12 := rfl
theorem withB_len (c : UInt8) : (withB c).length = 256 := by
  have h : fits5 [c] = true := by have := putB_le 1; simp [fits5, textB]; omega
  have h2 : (textB [c]).length ≤ 256 := by simpa [fits5] using h
  unfold withB fillB
  rw [if_pos h]
  simp; omega
theorem reads_ints {w : World} {A : Option Addr} {xs : List Int} (h : xs ≠ [] → ∃ b off, A = some ⟨b, off, none⟩ ∧ ∀ j, j < xs.length → w.cell? ⟨b, off + j, none⟩ = some (.int .i64 (xs.getD j 0))) : Reads w A (xs.map (Value.int .i64)) := by
  intro hne
  obtain ⟨b, off, hA, hc⟩ := h (by intro e; subst e; simp at hne)
  refine ⟨b, off, hA, fun j hj => ?_⟩
  have hj2 : j < xs.length := by simpa using hj
  rw [hc j hj2]
  simp [List.getD, hj2]
theorem box2 {w : World} {B : Nat} {a b : Value} {t : TypeId} {fr : Nat × Nat} (h : w.heap[B]? = some (.cells #[a, b] t fr)) : w.cell? ⟨B, 0, none⟩ = some a ∧ w.cell? ⟨B, 1, none⟩ = some b := ⟨blk_cell h 0, blk_cell h 1⟩

end Go.Proofs.YtbalbjhmboppoaaDoor
