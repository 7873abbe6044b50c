/-
  The law's helpers, walked: after, reads, puts, picks.
  The table of check lies where it lies.
-/
import Derived.Test.YtbalbjhmboppoaaDoorPK
import Derived.Test.YtbalbjhmboppoaaDoorR1
import Derived.Laws.Rows
import Derived.Laws.Tables
set_option linter.unusedSimpArgs false
set_option linter.unusedVariables false
namespace Go.Proofs.YtbalbjhmboppoaaDoor
open Go.RowKit

theorem info_state : (Tryd.prog.info? 53).map (·.size) = some 40 := by kernel_rfl
theorem sv_one (l : List Bs) : (l.map sv).toArray.all (·.oneCell') = true := by simp [sv, Value.oneCell']
theorem take_lay (S : List Bs) (ps : List PutM) (k : Nat) (h : k < ps.length) : lay S (ps.take (k + 1)) = (lay S (ps.take k)).set ps[k].1.toNat ps[k].2 := by
  rw [List.take_succ_eq_append_getElem h, lay_append]; rfl
theorem sv_set (l : List Bs) (i : Nat) (s : Bs) : ((l.map sv).toArray.setIfInBounds i (sv s)) = ((l.set i s).map sv).toArray := by
  apply Array.ext'
  simp [List.map_set]
theorem state_size {l : List Bs} (h : l.length = 40) : ((Tryd.prog.info? 53).map (·.size)) = some (l.map sv).toArray.size := by rw [info_state]; simp [h]
theorem puts_reads {w : World} {A : Option Addr} {ps : List PutM} (h : Reads w A (putCells2 ps)) {k : Nat} (hk : k < ps.length) :
    ∃ b off, A = some ⟨b, off, none⟩ ∧ b < w.heap.size ∧ w.cell? ⟨b, off + k * 2, none⟩ = some (.int .i64 ps[k].1) ∧ w.cell? ⟨b, off + k * 2 + 1, none⟩ = some (sv ps[k].2) := by
  have hl := putCells2_length ps
  obtain ⟨b, off, hA, hc⟩ := h (by intro e; rw [e] at hl; simp at hl; omega)
  obtain ⟨g1, g2⟩ := putCells2_get ps k hk
  have c1 := hc (k * 2) (by omega)
  have c2 := hc (k * 2 + 1) (by omega)
  rw [List.getElem?_eq_getElem (by omega)] at g1 g2
  rw [Option.some.inj g1] at c1
  rw [Option.some.inj g2] at c2
  refine ⟨b, off, hA, World.block_lt_of_cell? w _ c1, c1, ?_⟩
  rw [Nat.add_assoc]; exact c2

set_option maxRecDepth 100000 in
set_option maxHeartbeats 1000000 in
theorem after_any (S : List Bs) (A : Option Addr) (c : Nat) (ps : List PutM) (w : World) (hS : S.length = 40) (hR : Reads w A (putCells2 ps)) (hc : ps.length ≤ c) (hl : ps.length ≤ 65536) (ha : ∀ x ∈ ps, 0 ≤ x.1 ∧ x.1 < 40) :
    Calls Tryd.prog 27 #[.agg (S.map sv).toArray, .slice A ps.length c] w fun e w' => e = .returned (.agg ((lay S ps).map sv).toArray) ∧ Below w.heap.size w w' := by
  have HR : Hid (∀ W, Below w.heap.size w W → Reads W A (putCells2 ps)) := fun W hW => hR.below hW
  have HA := Go.Lib.hid ha
  clear hR ha
  go_enter Tryd.func27, Tryd.ntmps27
  go_wp2_with fail
  obtain ⟨Z, hZ⟩ : ∃ Z : Array Value, Z = #[.string ⟨#[]⟩, .string ⟨#[]⟩, .string ⟨#[]⟩, .string ⟨#[]⟩, .string ⟨#[]⟩, .string ⟨#[]⟩, .string ⟨#[]⟩, .string ⟨#[]⟩, .string ⟨#[]⟩, .string ⟨#[]⟩, .string ⟨#[]⟩, .string ⟨#[]⟩, .string ⟨#[]⟩, .string ⟨#[]⟩, .string ⟨#[]⟩, .string ⟨#[]⟩, .string ⟨#[]⟩, .string ⟨#[]⟩, .string ⟨#[]⟩, .string ⟨#[]⟩, .string ⟨#[]⟩, .string ⟨#[]⟩, .string ⟨#[]⟩, .string ⟨#[]⟩, .string ⟨#[]⟩, .string ⟨#[]⟩, .string ⟨#[]⟩, .string ⟨#[]⟩, .string ⟨#[]⟩, .string ⟨#[]⟩, .string ⟨#[]⟩, .string ⟨#[]⟩, .string ⟨#[]⟩, .string ⟨#[]⟩, .string ⟨#[]⟩, .string ⟨#[]⟩, .string ⟨#[]⟩, .string ⟨#[]⟩, .string ⟨#[]⟩, .string ⟨#[]⟩] := ⟨_, rfl⟩
  have hZs : Z.size = 40 := by rw [hZ]; rfl
  rw [← hZ]
  clear hZ
  obtain ⟨w0, hw0⟩ : ∃ w0, w0 = (w.alloc (.cells (S.map sv).toArray 53)).alloc (.cells Z 53) := ⟨_, rfl⟩
  have hB0 : Below w.heap.size w w0 := by rw [hw0]; exact ((Below.refl _ _).alloc (Nat.le_refl _) _).alloc (by simp) _
  have h1 : w0.heap[w.heap.size]? = some (.cells (S.map sv).toArray 53 (0, 0)) := by rw [hw0]; exact blk_alloc (blk_new _ _) _
  have h2 : w0.heap[w.heap.size + 1]? = some (.cells Z 53 (0, 0)) := by
    rw [hw0]
    have := blk_new (w.alloc (.cells (S.map sv).toArray 53)) (.cells Z 53)
    rwa [World.size_alloc] at this
  rw [← hw0]
  have HZ := Go.Lib.hid hZs
  have HS := Go.Lib.hid hS
  clear hw0 hZs hS
  go_loopw [5] (fun s wr => ∃ k : Nat, k ≤ ps.length ∧ s = .int .i64 k ∧ wr.heap[w.heap.size]? = some (.cells ((lay S (ps.take k)).map sv).toArray 53 (0, 0)) ∧ wr.heap[w.heap.size + 1]? = some (.cells Z 53 (0, 0)) ∧ Below w.heap.size w wr)
    (fun s _ => ps.length - (intOf s).toNat)
  case atStart => exact ⟨0, Nat.zero_le _, rfl, h1, h2, hB0⟩
  case round =>
    obtain ⟨k, hk, rfl, g1, g2, hB⟩ := hrel
    clear h1 h2 hB0
    have hll : ((lay S (ps.take k)).map sv).toArray.size = 40 := by simp [HS.out]
    obtain ⟨T, hT⟩ : ∃ T, T = ((lay S (ps.take k)).map sv).toArray := ⟨_, rfl⟩
    rw [← hT] at g1 hll
    have HT := Go.Lib.hid hT
    have G1 := Go.Lib.hid g1
    have G2 := Go.Lib.hid g2
    have HL := Go.Lib.hid hll
    clear hT g2
    by_cases hlt : k < ps.length
    · obtain ⟨b, off, rfl, hbl, c1, c2⟩ := puts_reads (HR.out wr hB) hlt
      obtain ⟨x, hx⟩ : ∃ x, x = ps[k] := ⟨_, rfl⟩
      rw [← hx] at c1 c2
      have hxa := HA.out x (by rw [hx]; exact List.getElem_mem hlt)
      obtain ⟨xa, xs⟩ := x
      simp only at c1 c2 hxa
      obtain ⟨hx0, hx1⟩ := hxa
      obtain ⟨v0, hcell⟩ : ∃ v0, wr.cell? ⟨w.heap.size, xa.toNat, none⟩ = some v0 := ⟨_, by rw [blk_cell g1]; exact Array.getElem?_eq_getElem (by omega)⟩
      have hfree := blk_free g1 xa.toNat
      unfold sv at c2
      have HX := Go.Lib.hid hx
      clear g1 hx hll
      go_wp2_with fail
      go_region
      go_wp2_with fail
      go_roundw
      case rel =>
        refine ⟨k + 1, by omega, by go_num, ?_, ?_, ?_⟩
        · rw [take_lay S ps k hlt, ← HX.out]
          refine (blk_set G1.out _ _).trans ?_
          rw [HT.out]
          show some (Obj.cells (((lay S (ps.take k)).map sv).toArray.setIfInBounds xa.toNat (sv xs)) _ _) = _
          rw [sv_set]
        · exact (blk_far (by omega) _ _).trans G2.out
        · exact (hB.setCell (p := ⟨w.heap.size, xa.toNat, none⟩) (Nat.le_refl _) _).drew
      case measure => simp [intOf]; omega
    · obtain rfl : k = ps.length := by omega
      clear g1 hll
      have hsz : ((Tryd.prog.info? 53).map (·.size)) = some T.size := by rw [info_state, HL.out]
      have HSZ := Go.Lib.hid hsz
      clear hsz
      go_wp2_with (first | (refine wpList_load_row rfl 53 _ rfl w.heap.size rfl 53 T (0, 0) _ G1.out Tryd.underlying53 rfl HSZ.out ?_) | (refine wpList_store_row rfl 53 _ _ rfl (w.heap.size + 1) T rfl rfl 53 Z G2.out HSZ.out (by rw [HZ.out, HL.out]) (by rw [HT.out]; exact sv_one _) ?_))
      refine bodyPost_ret (results_cell_row rfl _ _ (w.heap.size + 1) 53 T (0, 0) _ rfl (setRow_heap _ _ _ _ _ _ G2.out) Tryd.underlying53 rfl HSZ.out) rfl ?_
      refine ⟨?_, below_setRow hB (by omega) _⟩
      rw [HT.out, List.take_of_length_le (Nat.le_refl _)]

/-! ### reads -/
def readsB (S : List Bs) (D : DiskS) (n : Nat) : Bool := (List.range 40).all fun i => decide (i < n) || decide (D.readS i = (S.getD i [], 0))
theorem readsB_iff {S : List Bs} {D : DiskS} {n : Nat} : readsB S D n = true ↔ ∀ i : Nat, n ≤ i → i < 40 → D.readS i = (S.getD i [], 0) := by
  unfold readsB
  rw [List.all_eq_true]
  constructor
  · intro h i h1 h2
    have := h i (List.mem_range.2 h2)
    simp only [Bool.or_eq_true, decide_eq_true_eq] at this
    rcases this with h | h
    · omega
    · exact h
  · intro h i hi
    simp only [Bool.or_eq_true, decide_eq_true_eq]
    rcases Nat.lt_or_ge i n with h1 | h1
    · exact .inl h1
    · exact .inr (h i h1 (List.mem_range.1 hi))
theorem readsB_no {S : List Bs} {D : DiskS} {n i : Nat} (h1 : n ≤ i) (h2 : i < 40) (h : D.readS i ≠ (S.getD i [], 0)) : readsB S D n = false := by
  rw [← Bool.not_eq_true, readsB_iff]
  exact fun e => h (e i h1 h2)

set_option maxRecDepth 100000 in
set_option maxHeartbeats 1000000 in
theorem reads_any {Sb : List Nat} {q p : Nat} {L : LogS} {D : DiskS} (S : List Bs) (n : Nat) (w : World) (hS : S.length = 40) (hn : n ≤ 40) (h : LogAt w q p L) (hD : DiskAt w Sb p D) (ok : D.Ok) (hbr : L.broken = false) :
    Calls Tryd.prog 28 #[.agg (S.map sv).toArray, .pointer (some ⟨q, 0, none⟩), .int .i64 (n : Int)] w fun e w' => e = .returned (.bool (readsB S D n)) ∧ Below w.heap.size w w' := by
  obtain ⟨w0, hw0⟩ : ∃ w0, w0 = w.alloc (.cells (S.map sv).toArray 53) := ⟨_, rfl⟩
  have hB0 : Below w.heap.size w w0 := by rw [hw0]; exact (Below.refl _ _).alloc (Nat.le_refl _) _
  have h1 : w0.heap[w.heap.size]? = some (.cells (S.map sv).toArray 53 (0, 0)) := by rw [hw0]; exact blk_new _ _
  obtain ⟨b, hb⟩ : ∃ b, b = readsB S D n := ⟨_, rfl⟩
  have hlt0 := blk_lt h1
  have HB1 : Hid (∀ W, Below w0.heap.size w0 W → ∀ i, i < 40 → W.cell? ⟨w.heap.size, i, none⟩ = some (sv (S.getD i []))) := by
    intro W hW i hi
    rw [blk_cell ((hW.block _ hlt0).trans h1)]
    simp [List.getD, show i < S.length by omega]
  have HRd : Hid (∀ W, Below w0.heap.size w0 W → ∀ i : Nat, Calls Tryd.prog 25 #[.pointer (some ⟨q, 0, none⟩), .int .i64 (i : Int)] W fun e w' => e = .returned (.tuple #[.string ⟨(D.readS i).1.toArray⟩, .int .i64 (D.readS i).2]) ∧ Below W.heap.size W w') := by
    intro W hW i
    have hBB := hB0.trans (hW.mono hB0.size)
    have hx := lRead_any W (i : Int) ((hBB.block q (blk_lt h)).trans h) (hD.below hBB) ok
    unfold lReadV rdVal at hx
    rw [if_neg (by rw [hbr]; decide)] at hx
    exact hx
  have HB := Go.Lib.hid hb
  have HW := Go.Lib.hid hw0
  rw [← hb]
  clear hb hw0 h1 h hD ok hbr hS
  go_enter Tryd.func28, Tryd.ntmps28
  go_wp2_with fail
  rw [← HW.out]
  go_loopw [7] (fun s wr => ∃ k : Nat, n ≤ k ∧ k ≤ 40 ∧ s = .int .i64 k ∧ Hid (∀ i : Nat, n ≤ i → i < k → D.readS i = (S.getD i [], 0)) ∧ Below w0.heap.size w0 wr)
    (fun s _ => 40 - (intOf s).toNat)
  case atStart => exact ⟨n, Nat.le_refl _, hn, rfl, fun i h1 h2 => absurd h2 (by omega), Below.refl _ _⟩
  case round =>
    obtain ⟨k, hk1, hk2, rfl, HK, hB⟩ := hrel
    by_cases hlt : k < 40
    · have hrd := HRd.out wr hB k
      obtain ⟨u, hu⟩ : ∃ u : ByteArray, u = ⟨(D.readS k).1.toArray⟩ := ⟨_, rfl⟩
      obtain ⟨er, her⟩ : ∃ er, er = (D.readS k).2 := ⟨_, rfl⟩
      rw [← hu, ← her] at hrd
      have HU := Go.Lib.hid hu
      have HER := Go.Lib.hid her
      clear hu her
      go_wp2_with fail
      refine hrd.mono ?_
      rintro e w2 ⟨rfl, hb2⟩
      have hB2 := hB.trans (hb2.mono hB.size)
      have hcell := HB1.out w2 hB2 k hlt
      obtain ⟨s, hs⟩ : ∃ s : ByteArray, s = ⟨(S.getD k []).toArray⟩ := ⟨_, rfl⟩
      unfold sv at hcell
      rw [← hs] at hcell
      have HSS := Go.Lib.hid hs
      clear hs hrd
      have hlist : ∀ (a b : Bs), (⟨a.toArray⟩ : ByteArray) = ⟨b.toArray⟩ → a = b := fun a b e => by simpa using e
      have HLL := Go.Lib.hid hlist
      clear hlist
      by_cases hz : er = 0
      · subst hz
        by_cases hus : u = s
        · subst hus
          go_wp2_with fail
          go_roundw
          case rel =>
            refine ⟨k + 1, by omega, by omega, by go_num, ?_, hB2⟩
            show ∀ i : Nat, n ≤ i → i < k + 1 → D.readS i = (S.getD i [], 0)
            intro i h1 h2
            by_cases hik : i = k
            · subst hik
              have e1 : (D.readS i).1 = S.getD i [] := HLL.out _ _ (HU.out.symm.trans HSS.out)
              exact Prod.ext e1 HER.out.symm
            · exact HK.out i h1 (by omega)
          case measure => simp [intOf]; omega
        · have hne : (u.toList == s.toList) = false := by
            rw [ByteArray.toList_eq, ByteArray.toList_eq]
            simp only [beq_eq_false_iff_ne]
            intro e
            exact hus (by cases u; cases s; simpa using e)
          go_wp2_with fail
          go_ret
          refine ⟨ret_bool ?_, hB0.trans (hB2.mono hB0.size)⟩
          rw [HB.out, readsB_no hk1 hlt]
          intro e
          exact hus (by rw [HU.out, HSS.out, e])
      · have hz2 : (er == 0) = false := by simp [hz]
        go_wp2_with fail
        go_ret
        refine ⟨ret_bool ?_, hB0.trans (hB2.mono hB0.size)⟩
        rw [HB.out, readsB_no hk1 hlt]
        intro e
        exact hz (by rw [HER.out, e])
    · obtain rfl : k = 40 := by omega
      go_wp2_with fail
      go_ret
      refine ⟨ret_bool ?_, hB0.trans (hB.mono hB0.size)⟩
      rw [HB.out, eq_comm, readsB_iff]
      exact HK.out

end Go.Proofs.YtbalbjhmboppoaaDoor
