/-
  slices.Backward over writes, as an iterator; the disk's Read, which ranges over it.
  No condition.
-/
import Derived.Test.YtbalbjhmboppoaaDoorD4
import Derived.RangeFuncNested
import Derived.RangeFuncBound
import Derived.RangeFuncCalls
import Derived.RangeFuncLeaves
import Derived.Shelf.Abstract
import Derived.Shelf.RegionOpen
import Derived.OwnWalkIn
import Derived.TacticsInMore
import Derived.LoopNIn
import Derived.LoopIn
set_option linter.unusedSimpArgs false
set_option linter.unusedVariables false
namespace Go.Proofs.YtbalbjhmboppoaaDoor
open Go.RowKit Go.Shelf
attribute [local go_sem] Oper.semAt_some

/-- What comes, the last one first: its place, the write. -/
def backs (l : List PutM) : List (Nat × PutM) := (List.range l.length).map fun j => (l.length - 1 - j, l.getD (l.length - 1 - j) (0, []))
theorem backs_length (l : List PutM) : (backs l).length = l.length := by simp [backs]
def encPut (x : Nat × PutM) : Array Value := #[.int .i64 (x.1 : Int), .agg #[.int .i64 x.2.1, .string ⟨x.2.2.toArray⟩]]
theorem backs_take (l : List PutM) (m : Nat) (h : m < l.length) : (backs l).take (l.length - 1 - m + 1) = (backs l).take (l.length - 1 - m) ++ [(m, l[m])] := by
  rw [List.take_succ_eq_append_getElem (by rw [backs_length]; omega)]
  have e : l.length - 1 - (l.length - 1 - m) = m := by omega
  simp [backs, e, List.getD, h]

theorem backs_eq (l : List PutM) : (backs l).map (·.2) = l.reverse := by
  apply List.ext_getElem
  · simp [backs_length]
  · intro i h1 h2
    simp only [List.length_map, backs_length] at h1
    simp only [backs, List.getElem_map, List.getElem_range, List.getElem_reverse]
    rw [List.getD, List.getElem?_eq_getElem (by omega)]
    rfl
theorem lookup_none (c : List PutM) (at_ : Int) (h : ∀ x ∈ c.reverse, x.1 ≠ at_) : DiskS.lookup c at_ = none := by
  unfold DiskS.lookup
  rw [List.find?_eq_none.2 (by simpa using h)]
  rfl
theorem backs_none (c : List PutM) (at_ : Int) (h : ∀ x ∈ backs c, x.2.1 ≠ at_) : ∀ x ∈ c.reverse, x.1 ≠ at_ := by
  intro x hx
  rw [← backs_eq] at hx
  obtain ⟨y, hy, rfl⟩ := List.mem_map.1 hx
  exact h y hy
theorem backs_some (c : List PutM) (at_ : Int) (pre0 : List (Nat × PutM)) (x : Nat × PutM) (hp : pre0 ++ [x] <+: backs c) (hne : ∀ y ∈ pre0, y.2.1 ≠ at_) (hx : x.2.1 = at_) : DiskS.lookup c at_ = some x.2.2 := by
  obtain ⟨t, ht⟩ := hp
  unfold DiskS.lookup
  rw [← backs_eq, ← ht]
  simp only [List.map_append, List.append_assoc, List.find?_append]
  rw [List.find?_eq_none.2 (by
    intro y hy
    obtain ⟨z, hz, rfl⟩ := List.mem_map.1 hy
    simpa using hne z hz)]
  simp [hx]

set_option maxRecDepth 100000 in
set_option maxHeartbeats 1000000 in
theorem bwPut1_in (F : Fence) (n : Nat) (hf : F.fn 87) (hro : F.round = none) (hn : 1 ≤ n) (l Bn n₀ g c : Nat) (A : Option Addr) (cur : Array Value) (xs : List PutM) (J Jx : List (Nat × PutM) → World → Prop) (hx : xs.length ≤ 1099511627776)
    (hY : ∀ pre x W, J pre W → pre.length < xs.length → YieldAt F (n - 1) Tryd.prog l (encPut x) W fun e W' =>
      (e = .returned (.bool true) ∧ J (pre ++ [x]) W' ∧ Below n₀ W W') ∨ (e = .returned (.bool false) ∧ Jx (pre ++ [x]) W'))
    (W : World) (hBn : W.cell? ⟨Bn, 0, none⟩ = some (.slice A xs.length c)) (hBn0 : Bn < n₀)
    (hA : 0 < xs.length → ∃ g cur, A = some ⟨g, 0, none⟩ ∧ g < n₀ ∧ W.heap[g]? = some (.cells cur 40 (0, 0)) ∧ ∀ j, j < (putCells2 xs).length → cur[j]? = (putCells2 xs)[j]?) (h0 : J [] W) :
    CallsIn F n Tryd.prog 87 #[.func (.yield l) #[] #[], .pointer (some ⟨Bn, 0, none⟩)] W fun e W' => (∃ v, e = .returned v) ∧
      ((∃ ys, ys = backs xs ∧ J ys W') ∨ (∃ pre, pre <+: backs xs ∧ Jx pre W')) := by
  have HA := Go.Lib.hid hA
  clear hA
  refine callsIn_of_wp Tryd.func87 rfl hf ?_ hro
  simp only [Tryd.ntmps87, List.size_toArray, List.length_cons, List.length_nil, Nat.reduceAdd, Nat.reduceSub, Array.replicate_succ, Array.replicate_zero, List.push_toArray, List.append_toArray, List.nil_append, List.cons_append]
  gi_wp2
  have HB := Go.Lib.hid hBn
  gi_loopw [3] (fun i wr => ∃ z : Int, i = .int .i64 z ∧ -1 ≤ z ∧ z < xs.length ∧ J ((backs xs).take (xs.length - 1 - z).toNat) wr ∧ Below n₀ W wr) (fun i _ => (intOf i + 1).toNat)
  case atStart => exact ⟨(xs.length : Int) - 1, by simp, by omega, by omega, by simpa using h0, Below.refl _ _⟩
  case round =>
    obtain ⟨z, rfl, hz1, hz2, hJs, hBB⟩ := hrel
    have hbox := (hBB.cell (p := ⟨Bn, 0, none⟩) hBn0).trans HB.out
    clear hBn
    by_cases hz : 0 ≤ z
    · obtain ⟨m, rfl⟩ : ∃ m : Nat, z = m := ⟨z.toNat, by omega⟩
      have hm : m < xs.length := by omega
      obtain ⟨g, cur, rfl, hg, hgb, hgc⟩ := HA.out (by omega)
      have hgr := (hBB.block g hg).trans hgb
      obtain ⟨⟨qa, qs⟩, hq⟩ : ∃ q, q = xs[m] := ⟨_, rfl⟩
      have q0 : wr.cell? ⟨g, m * 2, none⟩ = some (.int .i64 qa) := by
        rw [blk_cell hgr, hgc _ (by rw [putCells2_length]; omega), (putCells2_get _ m hm).1, ← hq]
      have q1 : wr.cell? ⟨g, m * 2 + 1, none⟩ = some (.string ⟨qs.toArray⟩) := by
        rw [blk_cell hgr, hgc _ (by rw [putCells2_length]; omega), (putCells2_get _ m hm).2, ← hq]
        rfl
      have et : (xs.length - 1 - (m : Int)).toNat = xs.length - 1 - m := by omega
      rw [et] at hJs
      obtain ⟨fn, tmps, assign, body, hy, hR⟩ := hY _ (m, (qa, qs)) wr hJs (by simp [backs_length]; omega)
      unfold encPut at hy
      dsimp only at hy
      have HT : Hid ((backs xs).take (xs.length - 1 - m) ++ [(m, (qa, qs))] = (backs xs).take (xs.length - 1 - ((m : Int) - 1)).toNat) := by
        show _ = _
        rw [show (xs.length - 1 - ((m : Int) - 1)).toNat = xs.length - 1 - m + 1 by omega, backs_take xs m hm, hq]
      have HP : Hid ((backs xs).take (xs.length - 1 - m) ++ [(m, (qa, qs))] <+: backs xs) := by rw [HT.out]; exact List.take_prefix _ _
      have HJ := Go.Lib.hid hJs
      have HG := Go.Lib.hid hgr
      clear hJs hgr hgb hgc hq et hY
      gi_wp2
      refine hR.mono ?_
      rintro e W3 (⟨rfl, hJ3, hk3⟩ | ⟨rfl, hJx3⟩)
      · gi_wp2
        go_roundw
        case rel => exact ⟨(m : Int) - 1, rfl, by omega, by omega, by rw [← HT.out]; exact hJ3, hBB.trans hk3⟩
        case measure => simp [intOf]
      · gi_wp2
        refine bodyPost_ret (results_none rfl _ _ _) rfl ?_
        exact ⟨⟨_, rfl⟩, .inr ⟨_, HP.out, hJx3⟩⟩
    · obtain rfl : z = -1 := by omega
      gi_wp2
      go_end0
      have e5 : ((xs.length : Int) - 1 - (-1)).toNat = (backs xs).length := by rw [backs_length]; omega
      rw [e5, List.take_of_length_le (Nat.le_refl _)] at hJs
      exact ⟨⟨_, rfl⟩, .inl hJs⟩

theorem bwPut_any (A : Option Addr) (n c : Nat) (w : World) : Calls Tryd.prog 68 #[.slice A n c] w fun e w' => e = .returned (.func (.func 87) #[] #[.pointer (some ⟨w.heap.size, 0, none⟩)]) ∧ w.alloc (.cells #[.slice A n c] 41) = w' := by
  go_enter Tryd.func68, Tryd.ntmps68
  go_wp2_with fail
  go_ret
  exact ⟨rfl, rfl⟩

theorem below_drewN3 (w : World) (a b c : Obj) (n : Nat) : Below w.heap.size w ((((w.alloc a).alloc b).alloc c).drewN n) := by
  have h : Below w.heap.size w (((w.alloc a).alloc b).alloc c) := (((Below.refl _ _).alloc (Nat.le_refl _) _).alloc (by simp) _).alloc (by simp; omega) _
  exact ⟨h.os, h.tape, h.output, h.size, h.block⟩
/-- Where Read's results lie when it ends. -/
theorem read_ends (w : World) (at_ : Int) (nq : Nat) (s : ByteArray) (e : Int) :
    let W := ((((((w.alloc (.cells #[.int .i64 at_] 3)).alloc (.cells #[.string ⟨#[]⟩] 9)).alloc (.cells #[.int .i64 0] 31)).drewN nq).setCell ⟨w.heap.size + 1, 0, none⟩ (.string s)).setCell ⟨w.heap.size + 1 + 1, 0, none⟩ (.int .i64 e))
    W.cell? ⟨w.heap.size + 1, 0, none⟩ = some (.string s) ∧ W.cell? ⟨w.heap.size + 1 + 1, 0, none⟩ = some (.int .i64 e) ∧ Below w.heap.size w W := by
  intro W
  have b4 : (((w.alloc (.cells #[.int .i64 at_] 3)).alloc (.cells #[.string ⟨#[]⟩] 9)).alloc (.cells #[.int .i64 0] 31)).heap[w.heap.size + 1]? = some (.cells #[.string ⟨#[]⟩] 9 (0, 0)) :=
    blk_alloc (by have := blk_new (w.alloc (.cells #[.int .i64 at_] 3)) (.cells #[.string ⟨#[]⟩] 9); rwa [World.size_alloc] at this) _
  have b5 : (((w.alloc (.cells #[.int .i64 at_] 3)).alloc (.cells #[.string ⟨#[]⟩] 9)).alloc (.cells #[.int .i64 0] 31)).heap[w.heap.size + 1 + 1]? = some (.cells #[.int .i64 0] 31 (0, 0)) := by
    have := blk_new ((w.alloc (.cells #[.int .i64 at_] 3)).alloc (.cells #[.string ⟨#[]⟩] 9)) (.cells #[.int .i64 0] 31)
    rwa [World.size_alloc, World.size_alloc] at this
  have hd : ((((w.alloc (.cells #[.int .i64 at_] 3)).alloc (.cells #[.string ⟨#[]⟩] 9)).alloc (.cells #[.int .i64 0] 31)).drewN nq).heap = (((w.alloc (.cells #[.int .i64 at_] 3)).alloc (.cells #[.string ⟨#[]⟩] 9)).alloc (.cells #[.int .i64 0] 31)).heap := rfl
  rw [← hd] at b4 b5
  have c4 := (blk_far (w := (((((w.alloc (.cells #[.int .i64 at_] 3)).alloc (.cells #[.string ⟨#[]⟩] 9)).alloc (.cells #[.int .i64 0] 31)).drewN nq).setCell ⟨w.heap.size + 1, 0, none⟩ (.string s))) (b := w.heap.size + 1) (b' := w.heap.size + 1 + 1) (by omega) 0 (.int .i64 e)).trans (blk_set b4 0 (.string s))
  have c5 := blk_set ((blk_far (b := w.heap.size + 1 + 1) (b' := w.heap.size + 1) (by omega) 0 (.string s)).trans b5) 0 (.int .i64 e)
  refine ⟨blk_cell c4 0, blk_cell c5 0, ?_⟩
  exact ((below_drewN3 _ _ _ _ _).setCell (p := ⟨w.heap.size + 1, 0, none⟩) (by simp) _).setCell (p := ⟨w.heap.size + 1 + 1, 0, none⟩) (by simp; omega) _
/-- What the disk tells of a sector. -/
def rdVal (D : DiskS) (at_ : Int) : Value := .tuple #[.string ⟨(D.readS at_).1.toArray⟩, .int .i64 (D.readS at_).2]

set_option maxRecDepth 100000 in
set_option maxHeartbeats 1000000 in
theorem dRead_bad {S : List Nat} {p : Nat} {D : DiskS} (w : World) (at_ : Int) (hD : DiskAt w S p D) (hm : D.lies.length ≤ 65536) (hb : at_ < 0 ∨ D.sectors ≤ at_ ∨ D.on = false) :
    Calls Tryd.prog 43 #[.pointer (some ⟨p, 0, none⟩), .int .i64 at_] w fun e w' => e = .returned (rdVal D at_) ∧ Below w.heap.size w w' := by
  refine callsIn_wide.1 (callsIn_of_wp_marks (F := Fence.wide) (n := 3) Tryd.func43 rfl trivial ?_ rfl)
  refine wpIn_wide.2 ?_
  simp only [Tryd.ntmps43, List.size_toArray, List.length_cons, List.length_nil, Nat.reduceAdd, Nat.reduceSub, Array.replicate_succ, Array.replicate_zero, List.push_toArray, List.append_toArray, List.nil_append, List.cons_append]
  have hS := fun W (h : Below w.heap.size w W) => Sectors_any W (hD.below h) hm
  have hn0 : 0 ≤ D.sectors := by simp [DiskS.sectors]
  obtain ⟨n, hn⟩ : ∃ n : Int, n = D.sectors := ⟨_, rfl⟩
  simp only [← hn] at hS hn0 hb
  have HN := Go.Lib.hid hn
  have HS := Go.Lib.hid hS
  clear hn hS
  by_cases ha : at_ < 0
  · have hr : Hid (D.readS at_ = ([], 1)) := by show _ = _; unfold DiskS.readS; rw [if_pos (.inl ha)]
    clear hb
    go_wp2_with fail
    go_step3
    go_wp2_with fail
    go_quiet (fail)
    go_wp2_with fail
    rw [Exit.noGoto_ret]
    obtain ⟨k4, k5, hB⟩ := read_ends w at_ nq ⟨#[]⟩ 1
    have hv : rdVal D at_ = .tuple #[.string ⟨#[]⟩, .int .i64 1] := by unfold rdVal; rw [hr.out]
    refine ⟨rdVal D at_, ?_, rfl, hB⟩
    rw [hv]
    simp [results, Tryd.f43, go_sem, k4, k5]
  · have hd : decide (at_ < 0) = false := by simpa using ha
    have ha2 : 0 ≤ at_ := by omega
    by_cases hc : n ≤ at_
    · have hr : Hid (D.readS at_ = ([], 1)) := by show _ = _; unfold DiskS.readS; rw [if_pos (.inr (by rw [← HN.out]; exact hc))]
      clear hb
      go_wp2_with fail
      go_step3
      go_wp2_with fail
      go_quiet ((go_at_call 53; exact Calls.quiet_of_same ((HS.out _ (below_drewN3 _ _ _ _ _)).mono fun e w' h => ⟨h.1, h.2.symm⟩)))
      go_wp2_with fail
      rw [Exit.noGoto_ret]
      obtain ⟨k4, k5, hB⟩ := read_ends w at_ nq ⟨#[]⟩ 1
      have hv : rdVal D at_ = .tuple #[.string ⟨#[]⟩, .int .i64 1] := by unfold rdVal; rw [hr.out]
      refine ⟨rdVal D at_, ?_, rfl, hB⟩
      rw [hv]
      simp [results, Tryd.f43, go_sem, k4, k5]
    · have hon : D.on = false := by rcases hb with h | h | h <;> first | omega | exact h
      have hr : Hid (D.readS at_ = ([], 14)) := by show _ = _; unfold DiskS.readS; rw [if_neg (by rw [← HN.out]; omega), if_pos hon]
      have hc2 : at_ < n := by omega
      obtain ⟨lb, cv, hp⟩ := hD.get
      have c2 : w.cell? ⟨p, 2, none⟩ = some (.bool false) := by rw [← hon]; exact blk_cell hp 2
      have hpz := blk_lt hp
      have hpz1 : p < w.heap.size + 1 := by omega
      have hpz2 : p < w.heap.size + 1 + 1 := by omega
      clear hb hp hon
      go_wp2_with fail
      go_step3
      go_wp2_with fail
      go_quiet ((go_at_call 53; exact Calls.quiet_of_same ((HS.out _ (below_drewN3 _ _ _ _ _)).mono fun e w' h => ⟨h.1, h.2.symm⟩)))
      go_wp2_with fail
      rw [Exit.noGoto_ret]
      obtain ⟨k4, k5, hB⟩ := read_ends w at_ nq ⟨#[]⟩ 14
      have hv : rdVal D at_ = .tuple #[.string ⟨#[]⟩, .int .i64 14] := by unfold rdVal; rw [hr.out]
      refine ⟨rdVal D at_, ?_, rfl, hB⟩
      rw [hv]
      simp [results, Tryd.f43, go_sem, k4, k5]

/-- Between two rounds of Read: none of the writes that came is the sector's. -/
def RdI (w : World) (B : Nat) (at_ : Int) (pre : List (Nat × PutM)) (W : World) : Prop :=
  (Boxed W w.heap.size 3 (.int .i64 at_) ∧ Boxed W (w.heap.size + 1) 9 (.string ⟨#[]⟩) ∧ Boxed W (w.heap.size + 1 + 1) 31 (.int .i64 0) ∧ Below w.heap.size w W ∧ B ≤ W.heap.size) ∧ ∀ x ∈ pre, x.2.1 ≠ at_
/-- A round has left: the last one that came is the sector's. -/
def RdX (w : World) (at_ : Int) (c : Code) (pre : List (Nat × PutM)) (W : World) : Prop :=
  c = .ret ∧ ∃ pre0 x, pre = pre0 ++ [x] ∧ (∀ y ∈ pre0, y.2.1 ≠ at_) ∧ x.2.1 = at_ ∧ Boxed W (w.heap.size + 1) 9 (.string ⟨x.2.2.toArray⟩) ∧ Boxed W (w.heap.size + 1 + 1) 31 (.int .i64 0) ∧ Below w.heap.size w W

set_option maxRecDepth 100000 in
set_option maxHeartbeats 2000000 in
theorem dRead_good {S : List Nat} {p : Nat} {D : DiskS} (w : World) (at_ : Int) (hD : DiskAt w S p D) (hm : D.lies.length ≤ 65536) (hr : D.cache.length ≤ 1099511627776) (h0 : 0 ≤ at_) (h1 : at_ < D.sectors) (hon : D.on = true) :
    Calls Tryd.prog 43 #[.pointer (some ⟨p, 0, none⟩), .int .i64 at_] w fun e w' => e = .returned (rdVal D at_) ∧ Below w.heap.size w w' := by
  refine callsIn_wide.1 (callsIn_of_wp_marks (F := Fence.wide) (n := 3) Tryd.func43 rfl trivial ?_ rfl)
  refine wpIn_wide.2 ?_
  simp only [Tryd.ntmps43, List.size_toArray, List.length_cons, List.length_nil, Nat.reduceAdd, Nat.reduceSub, Array.replicate_succ, Array.replicate_zero, List.push_toArray, List.append_toArray, List.nil_append, List.cons_append]
  have hS := fun W (h : Below w.heap.size w W) => Sectors_any W (hD.below h) hm
  obtain ⟨n, hn⟩ : ∃ n : Int, n = D.sectors := ⟨_, rfl⟩
  rw [← hn] at h1
  simp only [← hn] at hS
  have HN := Go.Lib.hid hn
  have HS := Go.Lib.hid hS
  obtain ⟨lb, cv, hp, hl, hcv, g1, g2, g3, g4⟩ := hD
  obtain ⟨A, c, hv⟩ := own_slice hcv
  subst hv
  have c2 : w.cell? ⟨p, 2, none⟩ = some (.bool true) := by rw [← hon]; exact blk_cell hp 2
  have c1 : w.cell? ⟨p, 1, none⟩ = some (.slice A D.cache.length c) := blk_cell hp 1
  have c0 : w.cell? ⟨p, 0, none⟩ = some (.slice (some ⟨lb, 0, none⟩) D.lies.length D.lies.length) := blk_cell hp 0
  have hpz := blk_lt hp
  have hlz := blk_lt hl
  have hpz1 : p < w.heap.size + 1 := by omega
  have hpz2 : p < w.heap.size + 1 + 1 := by omega
  have hd : decide (at_ < 0) = false := by simp; omega
  have hd2 : decide (n ≤ at_) = false := by simp; omega
  have HP := Go.Lib.hid hp
  have HL := Go.Lib.hid hl
  have HC := Go.Lib.hid hcv
  have HO := Go.Lib.hid hon
  clear hn hS hp hl hcv hon g3 g4
  go_wp2_with fail
  go_step3
  go_wp2_with fail
  go_quiet ((go_at_call 53; exact Calls.quiet_of_same ((HS.out _ (below_drewN3 _ _ _ _ _)).mono fun e w' h => ⟨h.1, h.2.symm⟩)))
  go_wp2_with fail
  go_step3
  go_wp2_with fail
  obtain ⟨W0, hW0⟩ : ∃ W0, W0 = ((((w.alloc (.cells #[.int .i64 at_] 3)).alloc (.cells #[.string ⟨#[]⟩] 9)).alloc (.cells #[.int .i64 0] 31)).drewN nq) := ⟨_, rfl⟩
  have hB0 : Below w.heap.size w W0 := by rw [hW0]; exact below_drewN3 _ _ _ _ _
  have hz0 : W0.heap.size = w.heap.size + 1 + 1 + 1 := by rw [hW0]; show (((w.alloc _).alloc _).alloc _).heap.size = _; simp
  have b3 : Boxed W0 w.heap.size 3 (.int .i64 at_) := by
    rw [hW0]
    exact blk_alloc (blk_alloc (blk_new w _) _) _
  have b4 : Boxed W0 (w.heap.size + 1) 9 (.string ⟨#[]⟩) := by
    rw [hW0]
    refine blk_alloc ?_ _
    have := blk_new (w.alloc (.cells #[.int .i64 at_] 3)) (.cells #[.string ⟨#[]⟩] 9)
    rwa [World.size_alloc] at this
  have b5 : Boxed W0 (w.heap.size + 1 + 1) 31 (.int .i64 0) := by
    rw [hW0]
    have := blk_new ((w.alloc (.cells #[.int .i64 at_] 3)).alloc (.cells #[.string ⟨#[]⟩] 9)) (.cells #[.int .i64 0] 31)
    rwa [World.size_alloc, World.size_alloc] at this
  rw [← hW0]
  clear hW0
  refine (bwPut_any _ _ _ _).mono ?_
  rintro e w1 ⟨rfl, hW1⟩
  have hB1 : Below w.heap.size w w1 := by rw [← hW1]; exact hB0.alloc hB0.size _
  have hz1 : w1.heap.size = w.heap.size + 1 + 1 + 1 + 1 := by rw [← hW1]; simp [hz0]
  have bb : Boxed w1 W0.heap.size 41 (.slice A D.cache.length c) := by rw [← hW1]; exact blk_new _ _
  have b3' : Boxed w1 w.heap.size 3 (.int .i64 at_) := by rw [← hW1]; exact b3.alloc _
  have b4' : Boxed w1 (w.heap.size + 1) 9 (.string ⟨#[]⟩) := by rw [← hW1]; exact b4.alloc _
  have b5' : Boxed w1 (w.heap.size + 1 + 1) 31 (.int .i64 0) := by rw [← hW1]; exact b5.alloc _
  clear hW1 b3 b4 b5
  rw [hz0] at bb
  rw [hz0]
  go_wp2_with fail
  have hseq : SeqStopsK Fence.wide (5 - 1) Tryd.prog 87 #[.pointer (some ⟨w.heap.size + 1 + 1 + 1, 0, none⟩)] encPut (Below w1.heap.size) (fun ys => ys = backs D.cache) (fun pre => pre <+: backs D.cache) D.cache.length w1 := by
    intro l J Jx W hW hJ hJx hY h0
    refine bwPut1_in Fence.wide (5 - 1) trivial rfl (by omega) l (w.heap.size + 1 + 1 + 1) w1.heap.size 0 c A #[] D.cache J Jx hr hY W ((hW.cell (p := ⟨w.heap.size + 1 + 1 + 1, 0, none⟩) (by show w.heap.size + 1 + 1 + 1 < _; omega)).trans bb.cell) (by omega) (fun h => ?_) h0
    obtain ⟨g, cur, hA, hg, hcur⟩ := own_head HC.out h
    have hgl := blk_lt hg
    exact ⟨g, cur, hA, by omega, (hW.block g (by omega)).trans ((hB1.block g hgl).trans hg), hcur⟩
  have bx_own : ∀ {B : Nat} {t : TypeId} {v : Value} {X Y : World} {row : Option Nat} {K : Nat}, Boxed X B t v → X.grownBy Y row → (∀ r, row = some r → K ≤ r ∧ ∃ o : Obj, X.heap[r]? = some o ∧ o.isCells = false) → Boxed Y B t v := by
    intro B t v X Y row K h hg hr
    refine h.kept hg (fun e => ?_)
    obtain ⟨_, o, ho, hc⟩ := hr B e.symm
    rw [show X.heap[B]? = _ from h] at ho
    cases ho
    cases hc
  have bl_own : ∀ {X Y : World} {row : Option Nat}, Below w.heap.size w X → X.grownBy Y row → (∀ r, row = some r → w1.heap.size ≤ r ∧ ∃ o : Obj, X.heap[r]? = some o ∧ o.isCells = false) → Below w.heap.size w Y :=
    fun h hg hr => h.grown hg h.size (fun k e => by have := (hr k e).1; omega)
  have HZ1 := Go.Lib.hid hz1
  have hz1' : w.heap.size + 4 ≤ w1.heap.size := by omega
  clear hz1 hz0
  refine (wpIn_wide (n := 5)).1 (wpIn_rangeFunc_ownH (F := Fence.wide) (n := 5) rfl (by omega) (gf := 87) (lb := #[.pointer (some ⟨w.heap.size + 1 + 1 + 1, 0, none⟩)]) rfl trivial (enters_of Tryd.func87 (by kernel_rfl) rfl) hseq belowK_t (belowK_b (Nat.le_refl _)) (Below.refl _ _) (fun _ => rfl)
    (RdI w w1.heap.size at_) (RdX w at_)
    (fun s X Y row hs hg hr => ⟨⟨bx_own hs.1.1 hg hr, bx_own hs.1.2.1 hg hr, bx_own hs.1.2.2.1 hg hr, bl_own hs.1.2.2.2.1 hg hr, Nat.le_trans hs.1.2.2.2.2 hg.size⟩, hs.2⟩)
    (fun c s X Y row hs hg hr => by
      obtain ⟨h1, pre0, x, h2, h3, h4, h5, h6, h7⟩ := hs
      exact ⟨h1, pre0, x, h2, h3, h4, bx_own h5 hg hr, bx_own h6 hg hr, bl_own h7 hg hr⟩)
    ⟨⟨b3', b4', b5', hB1, Nat.le_refl _⟩, by simp⟩
    (fun x a' W => ∃ Bx, w1.heap.size ≤ Bx ∧ W.heap[Bx]? = some (.cells #[.int .i64 x.2.1, .string ⟨x.2.2.toArray⟩] 40 (0, 0)) ∧ a' = { tmps := #[.pointer (some ⟨p, 0, none⟩), .int .i64 at_, undef, .pointer (some ⟨w.heap.size, 0, none⟩), .pointer (some ⟨w.heap.size + 1, 0, none⟩), .pointer (some ⟨w.heap.size + 1 + 1, 0, none⟩), undef, .pointer (some ⟨Bx, 0, none⟩), .bool false, .int .i64 at_, .bool false, .bool false, .int .i64 at_, .pointer (some ⟨p, 0, none⟩), .int .i64 n, .bool false, .bool false, .bool false, .pointer (some ⟨p, 0, none⟩), .pointer (some ⟨p, 0, none⟩), .pointer (some ⟨p, 2, none⟩), .bool true, .bool false, .pointer (some ⟨p, 0, none⟩), .pointer (some ⟨p, 0, none⟩), .pointer (some ⟨p, 1, none⟩), .slice A D.cache.length c, .func (.func 87) #[] #[.pointer (some ⟨w.heap.size + 1 + 1 + 1, 0, none⟩)], .int .i64 (x.1 : Int), .agg #[.int .i64 x.2.1, .string ⟨x.2.2.toArray⟩], undef, undef, undef, undef, undef, undef, undef, undef, undef, undef, undef, undef, undef], defers := [] })
    (fun x a' _ X Y row hs hg hr => by
      obtain ⟨Bx, h1, h2, h3⟩ := hs
      refine ⟨Bx, h1, ?_, h3⟩
      rw [hg.block Bx (blk_lt h2) (fun e => by
        obtain ⟨_, o, ho, hc⟩ := hr Bx e.symm
        rw [h2] at ho
        cases ho
        cases hc)]
      exact h2)
    ?assign ?body ?done ?stop)
  case assign =>
    rintro l pre ⟨xi, xa, xs⟩ W K ⟨⟨q3, q4, q5, qB, qz⟩, hne⟩ hK
    simp only [encPut]
    gi_wp2
    exact hK _ _ ((KeepsOthers.alloc _ _).from _) ((Below.refl _ W).alloc qz _) ⟨⟨q3.alloc _, q4.alloc _, q5.alloc _, qB.alloc qB.size _, by simp; omega⟩, hne⟩ ⟨W.heap.size, qz, blk_new W _, rfl⟩
  case body =>
    rintro l pre ⟨xi, xa, xs⟩ a' W hl ⟨r, hrr⟩ ⟨⟨q3, q4, q5, qB, qz⟩, hne⟩ ⟨Bx, hBx, bX, rfl⟩ hlt
    have x0 : W.cell? ⟨Bx, 0, none⟩ = some (.int .i64 xa) := blk_cell bX 0
    have x1 : W.cell? ⟨Bx, 1, none⟩ = some (.string ⟨xs.toArray⟩) := blk_cell bX 1
    have y3 := q3.cell
    have y4 := q4.cell
    have y5 := q5.cell
    have z4 := q4.frozen
    have z5 := q5.frozen
    by_cases he : xa = at_
    · have hc : ((xa : Int) != at_) = false := by simp [he]
      have HE := Go.Lib.hid he
      clear he
      gi_wp2
      refine ⟨((KeepsOthers.setCell _ _ _).trans (KeepsOthers.setCell _ _ _)).from _, rfl, pre, (xi, xa, xs), rfl, hne, HE.out, (q4.set _).other (by omega) _, (q5.other (by omega) _).set _, (qB.setCell (p := ⟨w.heap.size + 1, 0, none⟩) (by simp) _).setCell (p := ⟨w.heap.size + 1 + 1, 0, none⟩) (by simp; omega) _⟩
    · have hc : ((xa : Int) != at_) = true := by simp [he]
      have HE := Go.Lib.hid he
      clear he
      gi_wp2
      refine ⟨KeepsFrom.refl _ _, Below.refl _ _, ⟨q3, q4, q5, qB, qz⟩, fun y hy => ?_⟩
      rcases List.mem_append.1 hy with h | h
      · exact hne y h
      · simp at h
        subst h
        exact HE.out
  case done =>
    rintro Dd ys W hDd rfl ⟨⟨q3, q4, q5, qB, qz⟩, hne⟩ hK
    have hpr := (qB.block p hpz).trans HP.out
    have hlr := (qB.block lb hlz).trans HL.out
    have x0 : W.cell? ⟨p, 0, none⟩ = some (.slice (some ⟨lb, 0, none⟩) D.lies.length D.lies.length) := blk_cell hpr 0
    have hlt : at_.toNat < (D.lies.map sv).length := by have := HN.out; simp [DiskS.sectors] at this ⊢; omega
    have x1 : W.cell? ⟨lb, at_.toNat, none⟩ = some ((D.lies.map sv)[at_.toNat]'hlt) := by rw [blk_cell hlr, List.getElem?_toArray, List.getElem?_eq_getElem hlt]
    have y3 := q3.cell
    have y4 := q4.cell
    have y5 := q5.cell
    have z4 := q4.frozen
    have z5 := q5.frozen
    have hlen : at_ < (D.lies.length : Int) := by have := HN.out; simp [DiskS.sectors] at this; omega
    have hsv : (D.lies.map sv)[at_.toNat]'hlt = .string ⟨(D.lies.getD at_.toNat []).toArray⟩ := by
      simp at hlt
      simp [sv, List.getD, hlt]
    rw [hsv] at x1
    obtain ⟨v, hv⟩ : ∃ v, v = D.lies.getD at_.toNat [] := ⟨_, rfl⟩
    rw [← hv] at x1
    have hval : Hid (rdVal D at_ = .tuple #[.string ⟨v.toArray⟩, .int .i64 0]) := by
      show _ = _
      have hno : DiskS.lookup D.cache at_ = none := lookup_none _ _ (backs_none _ _ hne)
      unfold rdVal DiskS.readS
      rw [if_neg (by rw [← HN.out]; omega), if_neg (by rw [HO.out]; decide), hv]
      simp only [hno]
    clear hsv hpr hlr hv hne
    go_wp2_with fail
    go_region
    go_wp2_with fail
    rw [Exit.noGoto_ret]
    have e4 : Boxed ((W.setCell ⟨w.heap.size + 1, 0, none⟩ (.string ⟨v.toArray⟩)).setCell ⟨w.heap.size + 1 + 1, 0, none⟩ (.int .i64 0)).drew (w.heap.size + 1) 9 (.string ⟨v.toArray⟩) := (q4.set _).other (by omega) _
    have e5 : Boxed ((W.setCell ⟨w.heap.size + 1, 0, none⟩ (.string ⟨v.toArray⟩)).setCell ⟨w.heap.size + 1 + 1, 0, none⟩ (.int .i64 0)).drew (w.heap.size + 1 + 1) 31 (.int .i64 0) := (q5.other (by omega) _).set _
    have hK' := (((KeepsOthers.setCell W ⟨w.heap.size + 1, 0, none⟩ (.string ⟨v.toArray⟩)).trans (KeepsOthers.setCell _ ⟨w.heap.size + 1 + 1, 0, none⟩ (.int .i64 0))).trans (KeepsOthers.drew _)).same Dd _ hK rfl
    have B1 : Below w.heap.size w ((W.setCell ⟨w.heap.size + 1, 0, none⟩ (.string ⟨v.toArray⟩)).setCell ⟨w.heap.size + 1 + 1, 0, none⟩ (.int .i64 0)).drew := by
      have := (qB.setCell (p := ⟨w.heap.size + 1, 0, none⟩) (by simp) (.string ⟨v.toArray⟩)).setCell (p := ⟨w.heap.size + 1 + 1, 0, none⟩) (by simp; omega) (.int .i64 0)
      exact ⟨this.os, this.tape, this.output, this.size, this.block⟩
    revert e4 e5 hK' B1
    generalize ((W.setCell ⟨w.heap.size + 1, 0, none⟩ (.string ⟨v.toArray⟩)).setCell ⟨w.heap.size + 1 + 1, 0, none⟩ (.int .i64 0)).drew = W4
    intro e4 e5 hK' B1
    have k4 := cell_kept e4.cell (grownBy_putObj' _ Dd (.deferred none)) (fun r e => by cases e; exact ⟨_, hK', rfl⟩)
    have k5 := cell_kept e5.cell (grownBy_putObj' _ Dd (.deferred none)) (fun r e => by cases e; exact ⟨_, hK', rfl⟩)
    refine ⟨by simp, .inl ⟨_, _, rfl, run_takeDeferred hK', ?_⟩⟩
    refine ⟨rdVal D at_, ?_, rfl, bl_own B1 (grownBy_putObj' _ Dd (.deferred none)) (fun r e => by cases e; exact ⟨hDd, _, hK', rfl⟩)⟩
    rw [hval.out]
    simp [results, Tryd.f43, go_sem, k4, k5]
  case stop =>
    rintro Dd cc pre W hDd hpre ⟨rfl, pre0, x, rfl, hne, hx, q4, q5, qB⟩ hK
    gi_wp2
    rw [Exit.noGoto_ret]
    have k4 := cell_kept q4.cell (grownBy_putObj' _ Dd (.deferred none)) (fun r e => by cases e; exact ⟨_, hK, rfl⟩)
    have k5 := cell_kept q5.cell (grownBy_putObj' _ Dd (.deferred none)) (fun r e => by cases e; exact ⟨_, hK, rfl⟩)
    refine ⟨by simp, .inl ⟨_, _, rfl, run_takeDeferred hK, ?_⟩⟩
    refine ⟨rdVal D at_, ?_, rfl, bl_own qB (grownBy_putObj' _ Dd (.deferred none)) (fun r e => by cases e; exact ⟨hDd, _, hK, rfl⟩)⟩
    have hsome : DiskS.lookup D.cache at_ = some x.2.2 := backs_some _ _ _ _ hpre hne hx
    have hval : rdVal D at_ = .tuple #[.string ⟨x.2.2.toArray⟩, .int .i64 0] := by
      unfold rdVal DiskS.readS
      rw [if_neg (by rw [← HN.out]; omega), if_neg (by rw [HO.out]; decide)]
      simp only [hsome]
    rw [hval]
    simp [results, Tryd.f43, go_sem, k4, k5]

theorem dRead_any {S : List Nat} {p : Nat} {D : DiskS} (w : World) (at_ : Int) (hD : DiskAt w S p D) (ok : D.Ok) :
    Calls Tryd.prog 43 #[.pointer (some ⟨p, 0, none⟩), .int .i64 at_] w fun e w' => e = .returned (rdVal D at_) ∧ Below w.heap.size w w' := by
  by_cases h : at_ < 0 ∨ D.sectors ≤ at_ ∨ D.on = false
  · exact dRead_bad w at_ hD ok.most h
  · refine dRead_good w at_ hD ok.most ok.room (by omega) (by omega) ?_
    cases e : D.on <;> simp_all

end Go.Proofs.YtbalbjhmboppoaaDoor
