/-
  The law's helpers, walked: puts, picks.
  No condition.
-/
import Derived.Test.YtbalbjhmboppoaaDoorV5
import Derived.Deep.RegionHeld3
import Derived.Deep.AppendLies
import Derived.Test.YtbalbjhmboppoaaDoorS6
import Derived.Test.YtbalbjhmboppoaaDoorL5
import Derived.IntWalk
set_option linter.unusedSimpArgs false
set_option linter.unusedVariables false
namespace Go.Proofs.YtbalbjhmboppoaaDoor
open Go.RowKit

/-- A write by plain numbers, as it lies. -/
def specCells (l : List (Int × UInt8)) : List Value := (l.map fun x => [Value.int .i64 x.1, bv x.2]).flatten
theorem specCells_length (l : List (Int × UInt8)) : (specCells l).length = l.length * 2 := by
  induction l with
  | nil => rfl
  | cons x l ih => simp [specCells] at ih ⊢; omega
theorem specCells_get (l : List (Int × UInt8)) (k : Nat) (h : k < l.length) : (specCells l)[k * 2]? = some (.int .i64 l[k].1) ∧ (specCells l)[k * 2 + 1]? = some (bv l[k].2) := by
  induction l generalizing k with
  | nil => simp at h
  | cons x l ih =>
    have e : specCells (x :: l) = .int .i64 x.1 :: bv x.2 :: specCells l := by simp [specCells]
    rw [e]
    cases k with
    | zero => simp
    | succ k =>
      have := ih k (by simpa using h)
      rw [show (k + 1) * 2 = k * 2 + 1 + 1 by omega]
      simpa using this
theorem spec_reads {w : World} {A : Option Addr} {l : List (Int × UInt8)} (h : Reads w A (specCells l)) {k : Nat} (hk : k < l.length) :
    ∃ b off, A = some ⟨b, off, none⟩ ∧ b < w.heap.size ∧ w.cell? ⟨b, off + k * 2, none⟩ = some (.int .i64 l[k].1) ∧ w.cell? ⟨b, off + k * 2 + 1, none⟩ = some (.int .u8 (l[k].2.toNat : Int)) := by
  have hl := specCells_length l
  obtain ⟨b, off, hA, hc⟩ := h (by intro e; rw [e] at hl; simp at hl; omega)
  obtain ⟨g1, g2⟩ := specCells_get l k hk
  have c1 := hc (k * 2) (by omega)
  have c2 := hc (k * 2 + 1) (by omega)
  rw [List.getElem?_eq_getElem (by omega)] at g1 g2
  rw [Option.some.inj g1] at c1
  rw [Option.some.inj g2] at c2
  refine ⟨b, off, hA, World.block_lt_of_cell? w _ c1, c1, ?_⟩
  rw [Nat.add_assoc]; exact c2
def posOf (a : Int) : Int := if a < 0 then -(a + 1) else a
def putP (z : Int) (x : Int × UInt8) : PutM := (z + (posOf x.1) % (40 - z), withB x.2)
theorem news_pair (w : World) (x y : Value) (T : TypeId) : ∀ j u, [x, y][j]? = some u → (w.alloc (.cells #[x, y] T)).cell? ((⟨w.heap.size, 0, none⟩ : Addr).add j) = some u := by
  intro j u hj
  match j, hj with
  | 0, hj => simp at hj; subst hj; simp [Addr.add]
  | 1, hj => simp at hj; subst hj; simp [Addr.add]
theorem below_drewV (w : World) : Below w.heap.size w w.drew := ⟨rfl, rfl, rfl, Nat.le_refl _, fun _ _ => rfl⟩
theorem posOf_nn (a : Int) : 0 ≤ posOf a := by unfold posOf; split <;> omega
theorem putP_range (z : Int) (h0 : 0 ≤ z) (h1 : z < 40) (x : Int × UInt8) : z ≤ (putP z x).1 ∧ (putP z x).1 < 40 := by
  have h2 := Int.emod_nonneg (posOf x.1) (show (40 - z) ≠ 0 by omega)
  have h3 := Int.emod_lt_of_pos (posOf x.1) (show 0 < 40 - z by omega)
  unfold putP
  dsimp only
  omega
/-- The writes that 'puts' makes. -/
def putsP (l : List (Int × UInt8)) (z : Int) (most : Nat) : List PutM := (l.take most).map (putP z)

set_option maxRecDepth 100000 in
set_option maxHeartbeats 2000000 in
theorem puts7_any (l : List (Int × UInt8)) (A : Option Addr) (c : Nat) (z : Int) (most : Nat) (w : World) (hR : Reads w A (specCells l)) (hc : l.length ≤ c) (hl : l.length ≤ 9223372036854775807) (hz0 : 0 ≤ z) (hz1 : z < 40) (hm : most ≤ 60)
    (hr : ∀ x ∈ l, -9223372036854775808 ≤ x.1 ∧ x.1 ≤ 9223372036854775807) :
    Calls Tryd.prog 26 #[.slice A l.length c, .int .i64 z, .int .i64 (most : Int)] w fun e w' => PutsNew w (putsP l z most) e w' := by
  have HR : Hid (∀ W, Below w.heap.size w W → Reads W A (specCells l)) := fun W hW => hR.below hW
  obtain ⟨n, hn⟩ : ∃ n, n = min l.length most := ⟨_, rfl⟩
  have hn1 : n ≤ l.length := by omega
  have hn2 : n ≤ most := by omega
  have hn3 : n = l.length ∨ n = most := by omega
  have HN : Hid (putsP l z most = (l.take n).map (putP z)) := by
    show _ = _
    unfold putsP
    rw [hn]
    rcases Nat.le_total l.length most with h | h
    · rw [Nat.min_eq_left h, List.take_of_length_le h, List.take_of_length_le (Nat.le_refl _)]
    · rw [Nat.min_eq_right h]
  have HRR := Go.Lib.hid hr
  clear hR hn hr
  go_enter Tryd.func26, Tryd.ntmps26
  go_wp2_with fail
  go_loopw [7, 8] (fun v i wr => ∃ k : Nat, k ≤ n ∧ i = .int .i64 k ∧ wr.ownsRow w.heap.size 40 2 v k (putCells2 ((l.take k).map (putP z))) ∧ Below w.heap.size w wr) (fun _ i _ => n - (intOf i).toNat)
  case atStart => exact ⟨0, Nat.zero_le _, rfl, World.ownsRow_nil _ _ _ _, Below.refl _ _⟩
  case round =>
    obtain ⟨k, hk, rfl, hown, hB⟩ := hrel
    obtain ⟨A1, c1, rfl⟩ := own_slice hown
    by_cases hlt : k < n
    · have hkl : k < l.length := by omega
      have hkm : k < most := by omega
      obtain ⟨b, off, rfl, hblw, d1w, d2w⟩ := spec_reads (HR.out w (Below.refl _ _)) hkl
      have hbl : b < wr.heap.size := Nat.lt_of_lt_of_le hblw hB.size
      have d1 := (hB.cell (p := ⟨b, off + k * 2, none⟩) hblw).trans d1w
      have d2 := (hB.cell (p := ⟨b, off + k * 2 + 1, none⟩) hblw).trans d2w
      clear d1w
      obtain ⟨x, hx⟩ : ∃ x, x = l[k] := ⟨_, rfl⟩
      rw [← hx] at d1 d2 d2w
      have hxr := HRR.out x (by rw [hx]; exact List.getElem_mem hkl)
      obtain ⟨a, by0⟩ := x
      simp only at d1 d2 d2w hxr
      obtain ⟨hx0, hx1⟩ := hxr
      have hby := by0.toNat_lt
      obtain ⟨f, hf⟩ : ∃ f : Int, f = (by0.toNat : Int) := ⟨_, rfl⟩
      rw [← hf] at d2 d2w
      have HD2 := Go.Lib.hid d2w
      clear d2w
      have hf0 : 0 ≤ f := by omega
      have hf1 : f ≤ 255 := by omega
      have HFB : Hid (UInt8.ofNat f.toNat = by0) := by show _ = _; rw [hf]; simp
      clear hf hby
      have hpos := posOf_nn a
      have hpm : posOf a ≤ 9223372036854775807 := by unfold posOf; split <;> omega
      obtain ⟨m, hmm⟩ : ∃ m, posOf a % (40 - z) = m := ⟨_, rfl⟩
      have hm0 : 0 ≤ m := by rw [← hmm]; exact Int.emod_nonneg _ (by omega)
      have hm1 : m < 40 := by rw [← hmm]; have := Int.emod_lt_of_pos (posOf a) (b := 40 - z) (by omega); omega
      have HPP : Hid (putP z (a, by0) = (z + m, withB by0)) := by show _ = _; unfold putP; dsimp only; rw [hmm]
      have HX := Go.Lib.hid hx
      have HO := Go.Lib.hid hown
      have HMM := Go.Lib.hid hmm
      clear hx hown hmm
      obtain ⟨s, hs⟩ : ∃ s, s = withB by0 := ⟨_, rfl⟩
      have HSW : Hid (withB by0 = s) := hs.symm
      clear hs
      obtain ⟨i0, hi, hz0, hz1, hz2⟩ := info_put_z
      by_cases hneg : a < 0
      all_goals
        have w1 : IntKind.i64.wrap (40 - z) = 40 - z := by rw [IntKind.wrap_i64]; omega
        have w2 : IntKind.i64.wrap (z + m) = z + m := by rw [IntKind.wrap_i64]; omega
        have w3 : IntKind.i64.wrap m = m := by rw [IntKind.wrap_i64]; omega
        have w4 : ¬ (40 - z = 0) := by omega
        have w5 : ((40 - z) == 0) = false := by simp; omega
        have w6 : (posOf a).tmod (40 - z) = m := by rw [Int.tmod_eq_emod_of_nonneg hpos]; exact HMM.out
        unfold posOf at w6 hpos hpm
        first | rw [if_pos hneg] at w6 hpos hpm | rw [if_neg hneg] at w6 hpos hpm
        have j0 : (0 : Int) ≤ (k : Int) := by omega
        have j1 : (k : Int) < (l.length : Int) := by omega
        have hN : Below wr.heap.size wr wr.drew := below_drewV wr
        have HBK : Hid (∀ W, Below wr.heap.size wr W → W.ownsRow w.heap.size 40 2 (.slice A1 k c1) k (putCells2 ((l.take k).map (putP z)))) := fun W hW => own_same HO.out (fun g hg => hW.block g (HO.out.lt g hg).2)
        have hzz := hB.size
        have HAP : Hid (∀ W W', Below wr.heap.size wr W → W.grownBy W' (Value.slice A1 k c1).ownBlock → Below w.heap.size w W') := fun W W' hW hg => (hB.trans (hW.mono hB.size)).trans ((upd_of_grown (S := blk1 (.slice A1 k c1)) hg (fun g hg => mem_blk1.2 hg)).below (hB.trans (hW.mono hB.size)).size (fun g hg => ((HBK.out W hW).lt g (mem_blk1.1 hg)).1))
        have hwith : Hid (∀ W, Calls Tryd.prog 21 #[.int .u8 f] W fun e w' => e = .returned (.string ⟨s.toArray⟩) ∧ Below W.heap.size W w') := by
          intro W
          have h := with_any f W hf0 hf1
          rw [HFB.out, HSW.out] at h
          exact h
        go_wp2_with fail
        go_region_held3 (fun w' => w'.cell? ⟨b, off + k * 2 + 1, none⟩ = some (.int .u8 f)) (first | exact d2 | exact (Below.cell (p := ⟨b, off + k * 2 + 1, none⟩) ‹Below wr.heap.size wr _› hbl).trans d2 | exact (Below.cell (p := ⟨b, off + k * 2 + 1, none⟩) (Below.alloc ‹Below wr.heap.size wr _› (Below.size ‹Below wr.heap.size wr _›) _) hbl).trans d2 | exact (Below.cell (p := ⟨b, off + k * 2 + 1, none⟩) (HAP.out _ _ (Below.alloc ‹Below wr.heap.size wr _› (Below.size ‹Below wr.heap.size wr _›) _) hg7) hblw).trans HD2.out) (first | (go_at_call 21; refine (hwith.out _).mono ?_; rintro e w5 ⟨rfl, hb5⟩; have hB5 := Below.next ‹Below wr.heap.size wr _› hb5) | (refine step_append_lies _ rfl _ _ 41 rfl w.heap.size 40 i0 _ 2 24 Tryd.underlying41 hi hz0 hz1 hz2 rfl (by decide) (.slice A1 k c1) k _ rfl (HBK.out _ (Below.alloc ‹Below wr.heap.size wr _› (Below.size ‹Below wr.heap.size wr _›) _)) _ 1 1 [.int .i64 (z + m), .string ⟨s.toArray⟩] rfl rfl (news_pair _ _ _ _) (by intro u hu; simp at hu; rcases hu with rfl | rfl <;> rfl) (by decide) (by unfold maxLen; omega) (by omega) (by simp; have := Below.size ‹Below wr.heap.size wr _›; omega) _ rfl ?_; intro g7 c7 w7 hpv7 hg7 hat7 hlt7))
        have hB7 := HAP.out _ _ (Below.alloc ‹Below wr.heap.size wr _› (Below.size ‹Below wr.heap.size wr _›) _) hg7
        clear hg7 hat7 hlt7 hN
        go_wp2_with fail
        go_roundw
        case rel =>
          refine ⟨k + 1, by omega, by go_num, ?_, hB7⟩
          have e7 : putCells2 ((l.take (k + 1)).map (putP z)) = putCells2 (List.map (putP z) (List.take k l)) ++ [Value.int IntKind.i64 (z + m), Value.string ⟨s.toArray⟩] := by
            rw [List.take_succ_eq_append_getElem hkl, List.map_append, putCells2_append, ← HX.out]
            congr 1
            show putCells2 [putP z (a, by0)] = _
            rw [HPP.out, HSW.out]
            rfl
          rw [e7]
          exact hpv7
        case measure => simp [intOf]; omega
    · obtain rfl : k = n := by omega
      rcases hn3 with hn3 | hn3
      · subst hn3
        go_wp2_with fail
        go_ret
        refine ⟨hB, _, rfl, ?_⟩
        rw [HN.out]
        simpa using hown
      · subst hn3
        by_cases hkl : k < l.length
        · go_wp2_with fail
          go_ret
          refine ⟨hB, _, rfl, ?_⟩
          rw [HN.out]
          simp only [List.length_map, List.length_take]
          rw [Nat.min_eq_left (by omega)]
          exact hown
        · go_wp2_with fail
          go_ret
          refine ⟨hB, _, rfl, ?_⟩
          rw [HN.out]
          simp only [List.length_map, List.length_take]
          rw [Nat.min_eq_left (by omega)]
          exact hown

end Go.Proofs.YtbalbjhmboppoaaDoor
