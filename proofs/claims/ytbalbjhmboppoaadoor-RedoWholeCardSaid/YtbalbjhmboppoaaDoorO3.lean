/-
  THE LINES of the layer redo, walked: line, put, Head, First, Last, blank.
  The table lies in memory as the program's text lays it.
-/
import Derived.Test.YtbalbjhmboppoaaDoorO2
set_option linter.unusedSimpArgs false
set_option linter.unusedVariables false
namespace Go.Proofs.YtbalbjhmboppoaaDoor
open Go.RowKit

theorem sealB_size (s : ByteArray) (hs : s.size ≤ 1099511627000) : (⟨(sealB s.data.toList).toArray⟩ : ByteArray).size ≤ 1099511627776 := by
  show (sealB s.data.toList).toArray.size ≤ _
  rw [List.size_toArray, sealB, List.length_append, le4_length, ba_size]
  omega

set_option maxRecDepth 100000 in
theorem line_any (s : ByteArray) (w : World) (hs : s.size ≤ 1099511627000) (hT : Tab w) :
    Calls Tryd.prog 33 #[.string s] w fun e w' => e = .returned (.string ⟨(lineB s.data.toList).toArray⟩) ∧ Below w.heap.size w w' := by
  have HT := Go.Lib.hid hT
  clear hT
  go_enter Tryd.func33, Tryd.ntmps33
  go_wp2_with (first
    | (go_at_call 57; refine (cSeal_any _ _ (by omega) HT.out).mono ?_; rintro e w1 ⟨rfl, hb⟩)
    | (go_at_call 56; refine (Fill_any _ _ (sealB_size s hs)).mono ?_; rintro e w2 ⟨rfl, hb2⟩))
  go_ret
  exact ⟨ret_str rfl, hb.trans (hb2.mono hb.size)⟩

set_option maxRecDepth 100000 in
theorem put_any (n most : Int) (w : World) (h0 : 0 ≤ most) (h1 : most ≤ 4611686018427387904) :
    Calls Tryd.prog 34 #[.int .i64 n, .int .i64 most] w fun e w' => e = .returned (.string ⟨(kpB n most.toNat).toArray⟩) ∧ Below w.heap.size w w' := by
  have e0 : (min (max n 0) most).toNat = keepN n most.toNat := by unfold keepN; (repeat' split) <;> omega
  have E0 := Go.Lib.hid e0
  clear e0
  go_enter Tryd.func34, Tryd.ntmps34
  go_wp2_with (go_at_call 58; refine (Put_any _ _ (by omega) (by omega)).mono ?_; rintro e w1 ⟨rfl, hb⟩)
  go_ret
  exact ⟨ret_str (by unfold kpB; rw [E0.out]), hb⟩

set_option maxRecDepth 100000 in
theorem Head_any (p q : Int) (w : World) (hT : Tab w) :
    Calls Tryd.prog 10 #[.int .i64 p, .int .i64 q] w fun e w' => e = .returned (.string ⟨(headB p q).toArray⟩) ∧ Below w.heap.size w w' := by
  have HT := Go.Lib.hid hT
  clear hT
  have l1 := kpB_le p 65535
  have l2 := kpB_le q 1099511627776
  go_enter Tryd.func10, Tryd.ntmps10
  go_wp2_with fail
  refine (put_any _ _ _ (by omega) (by omega)).mono ?_
  rintro e w1 ⟨rfl, hb⟩
  go_wp2_with fail
  refine (put_any _ _ _ (by omega) (by omega)).mono ?_
  rintro e w2 ⟨rfl, hb2⟩
  go_wp2_with fail
  refine (line_any _ _ (by simp [ByteArray.size]; omega) (HT.out.below (hb.trans (hb2.mono hb.size)))).mono ?_
  rintro e w3 ⟨rfl, hb3⟩
  go_wp2_with fail
  go_ret
  have hB := hb.trans (hb2.mono hb.size)
  exact ⟨ret_str (by unfold headB; simp [ba_app, ba_app']), hB.trans (hb3.mono hB.size)⟩

set_option maxRecDepth 100000 in
theorem Last_any (p q : Int) (w : World) (hT : Tab w) :
    Calls Tryd.prog 14 #[.int .i64 p, .int .i64 q] w fun e w' => e = .returned (.string ⟨(lastB p q).toArray⟩) ∧ Below w.heap.size w w' := by
  have HT := Go.Lib.hid hT
  clear hT
  have l1 := kpB_le p 1099511627776
  have l2 := kpB_le q 1099511627776
  go_enter Tryd.func14, Tryd.ntmps14
  go_wp2_with fail
  refine (put_any _ _ _ (by omega) (by omega)).mono ?_
  rintro e w1 ⟨rfl, hb⟩
  go_wp2_with fail
  refine (put_any _ _ _ (by omega) (by omega)).mono ?_
  rintro e w2 ⟨rfl, hb2⟩
  go_wp2_with fail
  refine (line_any _ _ (by simp [ByteArray.size]; omega) (HT.out.below (hb.trans (hb2.mono hb.size)))).mono ?_
  rintro e w3 ⟨rfl, hb3⟩
  go_wp2_with fail
  go_ret
  have hB := hb.trans (hb2.mono hb.size)
  exact ⟨ret_str (by unfold lastB; simp [ba_app, ba_app']), hB.trans (hb3.mono hB.size)⟩

theorem blank_any (w : World) :
    Calls Tryd.prog 42 #[] w fun e w' => e = .returned (.string ⟨(zeros 256).toArray⟩) ∧ Below w.heap.size w w' := by
  obtain ⟨i0, hi, hz0, hz1, hz2⟩ := info_parts info_bytes
  have hmk : ∀ u : World, (Instr.makeSlice 54 (.int .i64 256) (.int .i64 256)).run Tryd.prog u =
      .ok (.slice (some ⟨u.heap.size, 0, none⟩) 256 256) (u.alloc (.cells (bvs (zeros 256)).toArray 5)) := fun u => by
    have h := run_make (P := Tryd.prog) u 54 5 i0 (.int .u8 0) Tryd.underlying54 hi hz0 .i64 .i64 256 256 (by omega) (Int.le_refl _) (by rw [hz2]; omega) (by omega)
    have e : (256 : Int).toNat * i0.size = 256 := by rw [hz1]; rfl
    rw [e, show (Value.int .u8 0).cells = #[.int .u8 0] from rfl, madeCells_bytes] at h
    exact h
  have hcv := run_bytes_blk (P := Tryd.prog) (w.alloc (.cells (bvs (zeros 256)).toArray 5)) 54 9 5 Tryd.underlying54 Tryd.underlying5 Tryd.underlying9 (b := w.heap.size) (len := 256) (cap := 256) (l := zeros 256) (by simp) (blk_new _ _)
  clear hi hz0 hz1 hz2
  go_enter Tryd.func42, Tryd.ntmps42
  go_wp2_with fail
  go_ret
  exact ⟨ret_str rfl, (Below.refl _ _).alloc (Nat.le_refl _) _⟩

/-- A slice that is read: its cells. -/
def Reads (w : World) (A : Option Addr) (cs : List Value) : Prop := cs ≠ [] → ∃ b off, A = some ⟨b, off, none⟩ ∧ ∀ j (h : j < cs.length), w.cell? ⟨b, off + j, none⟩ = some cs[j]

set_option maxRecDepth 100000 in
theorem First_any (q : Int) (A : Option Addr) (c : Nat) (xs : List Int) (w : World) (hT : Tab w) (hR : Reads w A (xs.map (Value.int .i64))) (hc : xs.length ≤ c) (hx : xs.length ≤ 1099511627776) :
    Calls Tryd.prog 12 #[.int .i64 q, .slice A xs.length c] w fun e w' => e = .returned (.string ⟨(firstB q xs).toArray⟩) ∧ Below w.heap.size w w' := by
  have HT := Go.Lib.hid hT
  clear hT
  have l1 := kpB_le q 1099511627776
  obtain ⟨m, hm⟩ : ∃ m : Nat, m = min xs.length 60 := ⟨_, rfl⟩
  have em : min (xs.length : Int) 60 = (m : Int) := by omega
  have hm1 : m ≤ xs.length := by omega
  have hm2 : m ≤ 60 := by omega
  have hmc : m ≤ c := by omega
  have Hm := Go.Lib.hid hm
  clear hm
  obtain ⟨ys, hys⟩ : ∃ ys, ys = xs.take m := ⟨_, rfl⟩
  have hyl : ys.length = m := by rw [hys]; simp; omega
  have HY : Hid (ys = xs.take 60) := by
    show _ = _
    rw [hys, Hm.out]
    rcases Nat.le_total xs.length 60 with h | h
    · rw [Nat.min_eq_left h, List.take_of_length_le (Nat.le_refl _), List.take_of_length_le h]
    · rw [Nat.min_eq_right h]
  have hcell : ∀ k, k < m → ∃ b off, A = some ⟨b, off, none⟩ ∧ b < w.heap.size ∧ w.cell? ⟨b, off + k, none⟩ = some (.int .i64 (ys.getD k 0)) := by
    intro k hk
    obtain ⟨b, off, h1, h2⟩ := hR (by intro h; have := congrArg List.length h; simp at this; subst this; simp at hm1; omega)
    have h3 := h2 k (by simp; omega)
    refine ⟨b, off, h1, World.block_lt_of_cell? w _ h3, h3.trans ?_⟩
    have : k < xs.length := by omega
    simp [List.getD, this, hk, hys]
  have HC := Go.Lib.hid hcell
  clear hcell hR hys
  go_enter Tryd.func12, Tryd.ntmps12
  go_wp2_with fail
  refine (put_any _ _ _ (by omega) (by omega)).mono ?_
  rintro e w1 ⟨rfl, hb1⟩
  go_wp2_with fail
  refine (put_any _ _ _ (by omega) (by omega)).mono ?_
  rintro e w2 ⟨rfl, hb2⟩
  have hB := hb1.trans (hb2.mono hb1.size)
  have l2 := kpB_le m 60
  clear hb1 hb2
  obtain ⟨p, hp⟩ : ∃ p : Bs, p = ([83, 67, 68] ++ kpB q 1099511627776) ++ kpB m 60 := ⟨_, rfl⟩
  have hpl : p.length ≤ 21 := by rw [hp]; simp; omega
  have HP := Go.Lib.hid hp
  clear hp
  go_wp2_with fail
  go_loopw [5, 22] (fun s i wr => ∃ k : Nat, ∃ t : Bs, k ≤ m ∧ i = .int .i64 k ∧ s = .string ⟨t.toArray⟩ ∧ t.length ≤ 21 + 9 * k ∧ Hid (t = p ++ ((ys.take k).map fun n => kpB n 65535).flatten) ∧ Below w.heap.size w wr)
    (fun _ i _ => m - (intOf i).toNat)
  case atStart => exact ⟨0, p, Nat.zero_le _, rfl, by rw [HP.out]; simp [ba_app, ba_app'], by omega, by show _ = _; simp, hB⟩
  case round =>
    obtain ⟨k, t, hk, rfl, rfl, htl, HTT, hB2⟩ := hrel
    by_cases hlt : k < m
    · obtain ⟨b, off, rfl, hbl, hcl⟩ := HC.out k hlt
      have hcl2 := (hB2.cell (p := ⟨b, off + k, none⟩) hbl).trans hcl
      clear hcl
      obtain ⟨y, hy⟩ : ∃ y, y = ys.getD k 0 := ⟨_, rfl⟩
      rw [← hy] at hcl2
      have HYK := Go.Lib.hid hy
      clear hy
      have l3 := kpB_le y 65535
      go_wp2_with fail
      refine (put_any _ _ _ (by omega) (by omega)).mono ?_
      rintro e w3 ⟨rfl, hb3⟩
      go_wp2_with fail
      go_roundw
      case rel =>
        refine ⟨k + 1, t ++ kpB y 65535, by omega, by go_num, by rw [ba_app], by simp; omega, ?_, hB2.trans (hb3.mono hB2.size)⟩
        show _ = _
        have e2 : ys.take (k + 1) = ys.take k ++ [y] := by
          have h3 : k < ys.length := by omega
          rw [List.take_succ_eq_append_getElem h3, HYK.out]
          simp [List.getD, h3]
        rw [e2, HTT.out]
        simp
      case measure => simp [intOf]; omega
    · obtain rfl : k = m := by omega
      go_wp2_with fail
      refine (line_any _ _ (by simp [ByteArray.size]; omega) (HT.out.below hB2)).mono ?_
      rintro e w3 ⟨rfl, hb3⟩
      go_wp2_with fail
      go_ret
      refine ⟨ret_str ?_, hB2.trans (hb3.mono hB2.size)⟩
      have e3 : t = firstS q (xs.take 60) := by
        rw [HTT.out, HP.out, firstS, ← HY.out, hyl, List.take_of_length_le (by omega)]
      show (⟨(lineB t).toArray⟩ : ByteArray) = _
      rw [e3]; rfl

end Go.Proofs.YtbalbjhmboppoaaDoor
