/-
  slices.Grow of nil and slices.Concat, over writes.
  There are fewer than 2^30 of them.
-/
import Derived.Test.YtbalbjhmboppoaaDoorW1
import Derived.Lib.AppendZerosOnto
import Derived.Lib.Walk
import Derived.Lib.SliceRun
import Derived.WalkKit
import Derived.Shelf.RegionOpenPlain
set_option linter.unusedSimpArgs false
set_option linter.unusedVariables false
namespace Go.Proofs.YtbalbjhmboppoaaDoor
open Go.RowKit

theorem putCells2_one (xs : List PutM) : ∀ u ∈ putCells2 xs, u.oneCell' = true := by
  induction xs with
  | nil => intro u hu; simp [putCells2] at hu
  | cons x xs ih =>
    intro u hu
    have e : putCells2 (x :: xs) = .int .i64 x.1 :: sv x.2 :: putCells2 xs := by simp [putCells2]
    rw [e] at hu
    simp only [List.mem_cons] at hu
    rcases hu with rfl | rfl | h
    · rfl
    · rfl
    · exact ih u h
theorem info_put_z : ∃ i0, Tryd.prog.info? 40 = some i0 ∧ i0.zero = some (.agg #[.int .i64 0, .string ⟨#[]⟩]) ∧ i0.size = 2 ∧ i0.bytes = 24 := by
  obtain ⟨i, hi, hz, hs, hb⟩ := info_parts info_put
  exact ⟨i, hi, hz, hs, hb⟩

set_option maxRecDepth 100000 in
set_option maxHeartbeats 1000000 in
theorem sGrow_any (n : Nat) (w : World) (hn : n ≤ 1073741824) :
    Calls Tryd.prog 73 #[.slice none 0 0, .int .i64 n] w fun e w' => Below w.heap.size w w' ∧ ∃ v, e = .returned v ∧ w'.ownsRow w.heap.size 40 2 v 0 [] := by
  by_cases h0 : n = 0
  · subst h0
    go_enter Tryd.func73, Tryd.ntmps73
    go_wp2_with fail
    go_ret
    exact ⟨Below.refl _ _, _, rfl, World.ownsRow_nil _ _ _ _⟩
  · obtain ⟨i0, hi0, hz0, hs0, hb0⟩ := info_put_z
    have hold : (Builtin.firstCells i0.size 0 (.slice none 0 0)).run Tryd.prog w.drew = .ok (#[] : Array Value) w.drew := run_firstCells_none _ i0.size 0 0 0
    have hgc := grownCap_ge w (0 + n) 0 40
    have hgm := grownCap_le_maxLen w (0 + n) 0 40 (by unfold maxLen; omega)
    have hfit : Builtin.nextslicecap (0 + n) 0 * i0.bytes ≤ 281474976710656 := growslice_fits (by omega) (by rw [hb0]; omega)
    have hrz : ∀ ty, (Builtin.append_ #[41, 3] ty #[.slice none 0 0, .int .i64 n]).run Tryd.prog w =
      .ok (.slice (some ⟨w.heap.size, 0, none⟩) n (grownCap w (0 + n) 0 40)) (w.drew.alloc (.cells (#[] ++ Builtin.zeroCells (Value.agg #[.int .i64 0, .string ⟨#[]⟩]).cells n ++ Builtin.zeroCells (Value.agg #[.int .i64 0, .string ⟨#[]⟩]).cells (grownCap w (0 + n) 0 40 - (0 + n))) 40)) := fun ty => by
      have h := Lib.run_append_grow_zeros w 41 3 ty 40 i0 _ .i64 .i64 Tryd.underlying41 rfl hi0 hz0 none 0 0 [] hold n (by omega) (by omega) (by omega) (by omega) (by rw [hb0]; omega) hfit
      simpa using h
    obtain ⟨G, hG⟩ : ∃ G, G = grownCap w (0 + n) 0 40 := ⟨_, rfl⟩
    simp only [← hG] at hrz hgc hgm
    have hn1 : 1 ≤ n := by omega
    have hGn : n ≤ G := by omega
    have hGm : G ≤ 9223372036854775807 := by unfold maxLen at hgm; omega
    have HM := Go.Lib.hid hgm
    obtain ⟨cs, hcs⟩ : ∃ cs, cs = (#[] ++ Builtin.zeroCells (Value.agg #[.int .i64 0, .string ⟨#[]⟩]).cells n ++ Builtin.zeroCells (Value.agg #[.int .i64 0, .string ⟨#[]⟩]).cells (G - (0 + n))) := ⟨_, rfl⟩
    rw [← hcs] at hrz
    have hcl : Hid (cs.size = G * 2) := by
      show _ = _
      rw [hcs]
      have e2 : (Value.agg #[.int .i64 0, .string ⟨#[]⟩]).cells.size = 2 := rfl
      simp only [Builtin.zeroCells, Array.size_append, Array.size_map, Array.size_range, e2]
      simp; omega
    clear hgm hold hfit hi0 hz0 hs0 hb0 hG hcs h0 hgc
    go_enter Tryd.func73, Tryd.ntmps73
    go_wp2_with (at_builtin; refine Lib.wpList_append_run _ rfl _ _ _ _ rfl _ _ rfl rfl _ _ (hrz _) ?_)
    all_goals go_ret
    refine ⟨?_, _, rfl, ⟨rfl, .inr ⟨w.heap.size, G, cs, rfl, Nat.le_refl _, blk_new w _, Nat.zero_le _, HM.out, hcl.out, by simp⟩⟩⟩
    have := (Below.refl w.heap.size w).alloc (Nat.le_refl _) (.cells cs 40)
    exact ⟨this.os, this.tape, this.output, this.size, this.block⟩

set_option maxRecDepth 100000 in
set_option maxHeartbeats 1000000 in
theorem sConcat_any {v : Value} {B : Nat} (w : World) (xss : List (List PutM)) (hall : AllAt w B v xss) (hne : ∀ xs ∈ xss, xs ≠ []) (hl : xss.flatten.length ≤ 1073741824) :
    Calls Tryd.prog 45 #[v] w fun e w' => PutsNew w xss.flatten e w' := by
  obtain ⟨vs, hvs, hin⟩ := hall
  obtain ⟨A, c, rfl⟩ := own_slice hvs
  have hvl : vs.length = xss.length := by have := hvs.1; simpa using this
  have hxl : xss.length ≤ xss.flatten.length := by
    clear hin hvs hvl hl
    induction xss with
    | nil => simp
    | cons xs xss ih =>
      have h1 := hne xs (by simp)
      have h2 := ih (fun y hy => hne y (List.mem_cons_of_mem _ hy))
      have h3 : 1 ≤ xs.length := by cases xs with | nil => exact absurd rfl h1 | cons _ _ => simp
      simp only [List.flatten_cons, List.length_append, List.length_cons]; omega
  -- what lies at i
  have hcell : ∀ i, i < xss.length → ∃ g, A = some ⟨g, 0, none⟩ ∧ g < w.heap.size ∧ ∃ gi ci xs, xss[i]? = some xs ∧ 1 ≤ xs.length ∧ w.cell? ⟨g, i, none⟩ = some (.slice (some ⟨gi, 0, none⟩) xs.length ci) ∧ xs.length ≤ ci ∧
      gi < w.heap.size ∧ ∃ cur, w.heap[gi]? = some (.cells cur 40 (0, 0)) ∧ ∀ j, j < (putCells2 xs).length → cur[j]? = (putCells2 xs)[j]? := by
    intro i hi
    obtain ⟨g, cur, hA, hg, hc⟩ := own_head hvs (by omega)
    refine ⟨g, hA, blk_lt hg, ?_⟩
    have hvi : vs[i]? = some vs[i] := List.getElem?_eq_getElem (by omega)
    have hxi : xss[i]? = some xss[i] := List.getElem?_eq_getElem hi
    have ho := hin i _ _ hvi hxi
    have hn : 1 ≤ xss[i].length := by
      have := hne xss[i] (List.getElem_mem _)
      cases h : xss[i] with | nil => exact absurd h this | cons _ _ => simp
    obtain ⟨A2, c2, hv2⟩ := own_slice ho
    rw [hv2] at ho
    obtain ⟨g2, cur2, hA2, hg2, hc2⟩ := own_head ho hn
    refine ⟨g2, c2, xss[i], hxi, hn, ?_, (own_reads ho).2, blk_lt hg2, cur2, hg2, hc2⟩
    rw [blk_cell hg, hc i (by omega), hvi, hv2, hA2]
  have HC := Go.Lib.hid hcell
  have hsum : ∀ i, i ≤ xss.length → (xss.take i).flatten.length ≤ 1073741824 := by
    intro i hi
    have : xss.flatten.length = (xss.take i).flatten.length + (xss.drop i).flatten.length := by rw [← List.length_append, ← List.flatten_append, List.take_append_drop]
    omega
  have hsnoc : ∀ i xs, xss[i]? = some xs → (xss.take (i + 1)).flatten = (xss.take i).flatten ++ xs := by
    intro i xs h
    obtain ⟨hi, rfl⟩ := List.getElem?_eq_some_iff.1 h
    rw [List.take_succ_eq_append_getElem hi, List.flatten_append]; simp only [List.flatten_cons, List.flatten_nil, List.append_nil]
  have HSUM := Go.Lib.hid hsum
  have HSN := Go.Lib.hid hsnoc
  clear hcell hsum hsnoc hvs hin hne hvl
  go_enter Tryd.func45, Tryd.ntmps45
  go_wp2_with fail
  go_loop [3, 11] (fun sv' iv => ∃ i : Nat, i ≤ xss.length ∧ iv = .int .i64 i ∧ sv' = .int .i64 ((xss.take i).flatten.length : Int)) (fun _ iv => xss.length - (intOf iv).toNat)
  case atStart => exact ⟨0, Nat.zero_le _, rfl, rfl⟩
  case round =>
    obtain ⟨i, hi, rfl, rfl⟩ := hrel
    have hsi := HSUM.out i hi
    by_cases hlt : i < xss.length
    · obtain ⟨g, rfl, hgl, gi, ci, xs, hxs, hn, hcl, hci, hgil, cur, hgi, hcur⟩ := HC.out i hlt
      have hsn := HSN.out i xs hxs
      have hs2 := HSUM.out (i + 1) (by omega)
      have hlen : ((xss.take (i + 1)).flatten.length : Int) = (xss.take i).flatten.length + xs.length := by rw [hsn]; simp
      have HL := Go.Lib.hid hlen
      obtain ⟨k, hk⟩ : ∃ k, k = (xss.take i).flatten.length := ⟨_, rfl⟩
      rw [← hk] at hlen hsi HL ⊢
      have hkx : k + xs.length ≤ 1073741824 := by omega
      clear hsn hs2 hcur hgi hlen hk
      go_wp2_with fail
      go_round
      case rel => exact ⟨i + 1, by omega, by go_num, by rw [HL.out]⟩
      case measure => simp [intOf]; omega
    · obtain rfl : i = xss.length := by omega
      obtain ⟨N, hN⟩ : ∃ N, N = (xss.take xss.length).flatten.length := ⟨_, rfl⟩
      rw [← hN] at hsi ⊢
      clear hN
      go_wp2_with fail
      refine (sGrow_any N _ hsi).mono ?_
      rintro e w1 ⟨hb1, v1, rfl, hv1⟩
      obtain ⟨A1, c1, rfl⟩ := own_slice hv1
      go_wp2_with fail
      go_loopw [6, 27] (fun nv iv wr => ∃ i : Nat, i ≤ xss.length ∧ iv = .int .i64 i ∧ wr.ownsRow w.heap.size 40 2 nv (xss.take i).flatten.length (putCells2 (xss.take i).flatten) ∧ Below w.heap.size w wr) (fun _ iv _ => xss.length - (intOf iv).toNat)
      case atStart => exact ⟨0, Nat.zero_le _, rfl, hv1, hb1⟩
      case round =>
        obtain ⟨i, hi, rfl, hrow, hBr⟩ := hrel
        obtain ⟨A2, c2, rfl⟩ := own_slice hrow
        have hsi := HSUM.out i hi
        by_cases hlt : i < xss.length
        · obtain ⟨g, rfl, hgl, gi, ci, xs, hxs, hn, hcl, hci, hgil, cur, hgi, hcur⟩ := HC.out i hlt
          have hsn := HSN.out i xs hxs
          have hs2 := HSUM.out (i + 1) (by omega)
          have HSS := Go.Lib.hid hsn
          rw [hsn] at hs2
          obtain ⟨ys, hys⟩ : ∃ ys, ys = (xss.take i).flatten := ⟨_, rfl⟩
          rw [← hys] at hrow hsi hs2 HSS ⊢
          have hcl2 := (hBr.cell (p := ⟨g, i, none⟩) hgl).trans hcl
          have hgi2 := (hBr.block gi hgil).trans hgi
          have hnews : ∀ j u, (putCells2 xs)[j]? = some u → wr.cell? ((⟨gi, 0, none⟩ : Addr).add j) = some u := by
            intro j u hj
            have hjl : j < (putCells2 xs).length := by
              rcases Nat.lt_or_ge j (putCells2 xs).length with h | h
              · exact h
              · rw [List.getElem?_eq_none h] at hj; cases hj
            have : wr.cell? ⟨gi, 0 + j, none⟩ = some u := by rw [Nat.zero_add, blk_cell hgi2, hcur j hjl, hj]
            simp only [Addr.add]
            split
            · rename_i h0; subst h0; exact this
            · simpa using this
          have hpl := putCells2_length xs
          have HXS := Go.Lib.hid hxs
          have hlen2 : ys.length + xs.length ≤ 1073741824 := by simpa using hs2
          clear hsn hs2 hcur hgi hys hcl hgi2 hxs
          go_wp2_with (at_builtin; refine wpList_append_S rfl _ _ 41 rfl w.heap.size 40 _ 2 24 Tryd.underlying41 info_put rfl (by decide) (.slice A2 ys.length c2) _ _ rfl hrow ⟨gi, 0, none⟩ xs.length ci (putCells2 xs) rfl hpl hnews ?c2 ?c3 ?c4 hBr.size ?_)
          case c2 => exact putCells2_one xs
          case c3 => unfold maxLen; omega
          case c4 => omega
          intro v3 w3 hrow3 hg3 hf3
          have hB3 : Below w.heap.size w w3 := hBr.trans ((upd_of_grown (S := blk1 (.slice A2 ys.length c2)) hg3 (fun k hk => mem_blk1.2 hk)).below hBr.size (fun k hk => (hrow.lt k (mem_blk1.1 hk)).1))
          obtain ⟨A3, c3, rfl⟩ := own_slice hrow3
          clear hg3 hf3 hrow hnews hcl2
          go_wp2_with fail
          go_roundw
          case rel =>
            refine ⟨i + 1, by omega, by go_num, ?_, hB3⟩
            rw [HSS.out, putCells2_append, List.length_append]
            exact hrow3
          case measure => simp [intOf]; omega
        · obtain rfl : i = xss.length := by omega
          go_wp2_with fail
          go_ret
          rw [List.take_of_length_le (Nat.le_refl _)] at hrow
          exact ⟨hBr, _, rfl, by rw [List.take_of_length_le (Nat.le_refl _)]; exact hrow⟩

end Go.Proofs.YtbalbjhmboppoaaDoor
