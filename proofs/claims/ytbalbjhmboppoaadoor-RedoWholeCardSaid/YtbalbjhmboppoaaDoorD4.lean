/-
  THE LAYER sector, walked, fourth part: what of the cache stays.
  No condition.
-/
import Derived.Test.YtbalbjhmboppoaaDoorD3
set_option linter.unusedSimpArgs false
set_option linter.unusedVariables false
namespace Go.Proofs.YtbalbjhmboppoaaDoor
open Go.RowKit

set_option maxRecDepth 100000 in
set_option maxHeartbeats 1000000 in
theorem settle_flush {S : List Nat} {p : Nat} {D : DiskS} (w : World) (stays : List Bool) (hD : DiskAt w S p D) (hr : D.cache.length ≤ 1099511627776) (hc : ∀ q ∈ D.cache, 0 ≤ q.1 ∧ q.1 < D.lies.length)
    (hf : ∀ (i : Nat) (W : World), i < D.cache.length → Upd S w W → Calls Tryd.prog 86 #[.int .i64 (i : Int)] W fun e w' => e = .returned (.bool (stays.getD i false)) ∧ W = w') :
    Calls Tryd.prog 54 #[.pointer (some ⟨p, 0, none⟩), .func (.func 86) #[] #[]] w fun e w' => DRet w S p (D.settle stays) (.tuple #[]) e w' := by
  obtain ⟨lb, cv, hp, hl, hcv, g1, g2, g3, g4⟩ := hD
  obtain ⟨A, c, hv⟩ := own_slice hcv
  subst hv
  have HF := Go.Lib.hid hf
  have HQ := Go.Lib.hid hc
  have HG := Go.Lib.hid g3
  have HG4 := Go.Lib.hid g4
  clear hf hc g3 g4
  have c1 : w.cell? ⟨p, 1, none⟩ = some (.slice A D.cache.length c) := blk_cell hp 1
  have hplt := blk_lt hp
  have HP := Go.Lib.hid hp
  have HL := Go.Lib.hid hl
  have HC := Go.Lib.hid hcv
  clear hp hl hcv
  go_enter Tryd.func54, Tryd.ntmps54
  go_wp2_with fail
  go_loopw [11] (fun a wr => ∃ k : Nat, k ≤ D.cache.length ∧ a = .int .i64 k ∧ wr.heap[p]? = some (.cells (dcells D lb (.slice A D.cache.length c)) 74 (0, 0)) ∧
      wr.heap[lb]? = some (.cells ((DiskS.layAll D.lies (D.cache.take k) stays).map sv).toArray 9 (0, 0)) ∧ (∀ b, (Value.slice A D.cache.length c).ownBlock = some b → wr.heap[b]? = w.heap[b]?) ∧ Upd S w wr)
    (fun a _ => D.cache.length - (intOf a).toNat)
  case atStart => exact ⟨0, Nat.zero_le _, rfl, HP.out, by simpa [DiskS.layAll] using HL.out, fun _ _ => rfl, Upd.refl _ _⟩
  case round =>
    obtain ⟨k, hk, rfl, hpr, hlr, hcr, hU⟩ := hrel
    by_cases hlt : k < D.cache.length
    · obtain ⟨⟨qa, qs⟩, hq⟩ : ∃ q, q = D.cache[k] := ⟨_, rfl⟩
      have hqm : (qa, qs) ∈ D.cache := by rw [hq]; exact List.getElem_mem hlt
      have hq0 : 0 ≤ qa := (HQ.out _ hqm).1
      have hq1 : qa < D.lies.length := (HQ.out _ hqm).2
      clear hqm
      obtain ⟨g, cur, hA, hg, hcur⟩ := own_head HC.out (by omega)
      subst hA
      have hgr := (hcr g rfl).trans hg
      have q0 : wr.cell? ⟨g, k * 2, none⟩ = some (.int .i64 qa) := by
        rw [blk_cell hgr, hcur _ (by rw [putCells2_length]; omega), (putCells2_get _ k hlt).1, ← hq]
      have q1 : wr.cell? ⟨g, k * 2 + 1, none⟩ = some (.string ⟨qs.toArray⟩) := by
        rw [blk_cell hgr, hcur _ (by rw [putCells2_length]; omega), (putCells2_get _ k hlt).2, ← hq]
        rfl
      have HGR := Go.Lib.hid hgr
      have HPR := Go.Lib.hid hpr
      have HLR := Go.Lib.hid hlr
      have HCR := Go.Lib.hid hcr
      have HQQ := Go.Lib.hid hq
      clear hgr hg hpr hlr hcr hcur hq
      have hpz : p < wr.heap.size := blk_lt HPR.out
      have hlz : lb < wr.heap.size := blk_lt HLR.out
      have hgz : g < wr.heap.size := blk_lt HGR.out
      have hll : qa.toNat < ((DiskS.layAll D.lies (D.cache.take k) stays).map sv).length := by simp [DiskS.layAll_length]; omega
      have cl : wr.cell? ⟨lb, qa.toNat, none⟩ = some (((DiskS.layAll D.lies (D.cache.take k) stays).map sv)[qa.toNat]'hll) := by rw [blk_cell HLR.out, List.getElem?_toArray, List.getElem?_eq_getElem hll]
      have cf : wr.frozen? ⟨lb, qa.toNat, none⟩ = false := blk_free HLR.out _
      have c0 : wr.cell? ⟨p, 0, none⟩ = some (.slice (some ⟨lb, 0, none⟩) D.lies.length D.lies.length) := blk_cell HPR.out 0
      obtain ⟨cv0, hcv0⟩ : ∃ v, v = ((DiskS.layAll D.lies (D.cache.take k) stays).map sv)[qa.toNat]'hll := ⟨_, rfl⟩
      rw [← hcv0] at cl
      clear hcv0 hll
      have hne1 : lb ≠ p := ne_of_ty HLR.out HPR.out (by decide)
      have hne2 : g ≠ lb := ne_of_ty HGR.out HLR.out (by decide)
      have HTK : Hid (D.cache.take (k + 1) = D.cache.take k ++ [(qa, qs)]) := by show _ = _; rw [List.take_succ_eq_append_getElem hlt, ← HQQ.out]
      have HTL : Hid ((D.cache.take k).length = k) := by show _ = _; simp; omega
      cases hst : stays.getD k false
      · have HST := Go.Lib.hid hst
        clear hst
        have hF := HF.out k (wr.alloc (.cells #[.int .i64 qa, .string ⟨qs.toArray⟩] 40)) hlt (hU.alloc _)
        rw [HST.out] at hF
        go_wp2_with fail
        refine hF.mono ?_
        rintro e w1 ⟨rfl, rfl⟩
        go_wp2_with fail
        go_roundw
        case rel =>
          refine ⟨k + 1, by omega, by go_num, blk_alloc HPR.out _, ?_, fun b hb => (Below.heap_alloc wr _ b (by simp [Value.ownBlock] at hb; subst hb; exact hgz)).trans (HCR.out b hb), hU.alloc _⟩
          rw [HTK.out, DiskS.layAll_snoc, HTL.out, HST.out]
          exact blk_alloc HLR.out _
        case measure => simp [intOf]; omega
      · have HST := Go.Lib.hid hst
        clear hst
        have hF := HF.out k (wr.alloc (.cells #[.int .i64 qa, .string ⟨qs.toArray⟩] 40)) hlt (hU.alloc _)
        rw [HST.out] at hF
        go_wp2_with fail
        refine hF.mono ?_
        rintro e w1 ⟨rfl, rfl⟩
        go_wp2_with fail
        go_region
        go_wp2_with fail
        go_roundw
        case rel =>
          have hlz2 : lb < (wr.setCell ⟨lb, qa.toNat, none⟩ (.string ⟨qs.toArray⟩)).heap.size := by simp; exact hlz
          refine ⟨k + 1, by omega, by go_num, blk_alloc ((blk_far hne1.symm _ _).trans HPR.out) _, ?_, fun b hb => ?_, ((hU.set (.inl g2) _ _).alloc _).drew⟩
          · rw [HTK.out, DiskS.layAll_snoc, HTL.out, HST.out]
            refine (blk_alloc (blk_set HLR.out _ _) _).trans ?_
            simp [sv, List.map_set]
          · simp [Value.ownBlock] at hb
            subst hb
            exact (Below.heap_alloc _ _ _ (by simp; exact hgz)).trans ((blk_far hne2 _ _).trans (HCR.out _ rfl))
        case measure => simp [intOf]; omega
    · obtain rfl : k = D.cache.length := by omega
      have f1 := blk_free hpr 1
      have k1 : wr.cell? ⟨p, 1, none⟩ = some (.slice A D.cache.length c) := blk_cell hpr 1
      have HPR := Go.Lib.hid hpr
      have HLR := Go.Lib.hid hlr
      have HCR := Go.Lib.hid hcr
      clear hpr hlr hcr
      have hpz : p < wr.heap.size := blk_lt HPR.out
      go_wp2_with fail
      go_end0
      have hnl : lb ≠ p := ne_of_ty HLR.out HPR.out (by decide)
      refine ⟨[p, lb], rfl, ⟨lb, .slice none 0 0, ?_, ?_, ⟨by simp [DiskS.settle, putCells2], .inl ⟨rfl, rfl⟩⟩, by simp, by simp, by simp [Value.ownBlock], ?_⟩, hU.set (.inl g1) _ _, ?_⟩
      · refine (blk_set HPR.out _ _).trans ?_
        simp [dcells, DiskS.settle, DiskS.layAll_length]
      · rw [blk_far hnl]
        refine HLR.out.trans ?_
        rw [List.take_of_length_le (Nat.le_refl _)]
        rfl
      · intro j hj
        have := blk_lt HLR.out
        simp at hj
        rw [World.size_setCell]
        rcases hj with rfl | rfl <;> assumption
      · intro j hj
        simp at hj
        rcases hj with rfl | rfl
        · exact .inl g1
        · exact .inl g2

set_option maxRecDepth 100000 in
set_option maxHeartbeats 1000000 in
theorem settle_crash {S : List Nat} {p : Nat} {D : DiskS} (w : World) (bp : Nat) (stays : List Bool) (hD : DiskAt w S p D) (hr : D.cache.length ≤ 1099511627776) (hc : ∀ q ∈ D.cache, 0 ≤ q.1 ∧ q.1 < D.lies.length)
    (hf : ∀ (i : Nat) (W : World), i < D.cache.length → Upd S w W → Calls Tryd.prog 55 #[.int .i64 (i : Int), .pointer (some ⟨bp, 0, none⟩)] W fun e w' => e = .returned (.bool (stays.getD i false)) ∧ W = w') :
    Calls Tryd.prog 54 #[.pointer (some ⟨p, 0, none⟩), .func (.func 55) #[] #[.pointer (some ⟨bp, 0, none⟩)]] w fun e w' => DRet w S p (D.settle stays) (.tuple #[]) e w' := by
  obtain ⟨lb, cv, hp, hl, hcv, g1, g2, g3, g4⟩ := hD
  obtain ⟨A, c, hv⟩ := own_slice hcv
  subst hv
  have HF := Go.Lib.hid hf
  have HQ := Go.Lib.hid hc
  have HG := Go.Lib.hid g3
  have HG4 := Go.Lib.hid g4
  clear hf hc g3 g4
  have c1 : w.cell? ⟨p, 1, none⟩ = some (.slice A D.cache.length c) := blk_cell hp 1
  have hplt := blk_lt hp
  have HP := Go.Lib.hid hp
  have HL := Go.Lib.hid hl
  have HC := Go.Lib.hid hcv
  clear hp hl hcv
  go_enter Tryd.func54, Tryd.ntmps54
  go_wp2_with fail
  go_loopw [11] (fun a wr => ∃ k : Nat, k ≤ D.cache.length ∧ a = .int .i64 k ∧ wr.heap[p]? = some (.cells (dcells D lb (.slice A D.cache.length c)) 74 (0, 0)) ∧
      wr.heap[lb]? = some (.cells ((DiskS.layAll D.lies (D.cache.take k) stays).map sv).toArray 9 (0, 0)) ∧ (∀ b, (Value.slice A D.cache.length c).ownBlock = some b → wr.heap[b]? = w.heap[b]?) ∧ Upd S w wr)
    (fun a _ => D.cache.length - (intOf a).toNat)
  case atStart => exact ⟨0, Nat.zero_le _, rfl, HP.out, by simpa [DiskS.layAll] using HL.out, fun _ _ => rfl, Upd.refl _ _⟩
  case round =>
    obtain ⟨k, hk, rfl, hpr, hlr, hcr, hU⟩ := hrel
    by_cases hlt : k < D.cache.length
    · obtain ⟨⟨qa, qs⟩, hq⟩ : ∃ q, q = D.cache[k] := ⟨_, rfl⟩
      have hqm : (qa, qs) ∈ D.cache := by rw [hq]; exact List.getElem_mem hlt
      have hq0 : 0 ≤ qa := (HQ.out _ hqm).1
      have hq1 : qa < D.lies.length := (HQ.out _ hqm).2
      clear hqm
      obtain ⟨g, cur, hA, hg, hcur⟩ := own_head HC.out (by omega)
      subst hA
      have hgr := (hcr g rfl).trans hg
      have q0 : wr.cell? ⟨g, k * 2, none⟩ = some (.int .i64 qa) := by
        rw [blk_cell hgr, hcur _ (by rw [putCells2_length]; omega), (putCells2_get _ k hlt).1, ← hq]
      have q1 : wr.cell? ⟨g, k * 2 + 1, none⟩ = some (.string ⟨qs.toArray⟩) := by
        rw [blk_cell hgr, hcur _ (by rw [putCells2_length]; omega), (putCells2_get _ k hlt).2, ← hq]
        rfl
      have HGR := Go.Lib.hid hgr
      have HPR := Go.Lib.hid hpr
      have HLR := Go.Lib.hid hlr
      have HCR := Go.Lib.hid hcr
      have HQQ := Go.Lib.hid hq
      clear hgr hg hpr hlr hcr hcur hq
      have hpz : p < wr.heap.size := blk_lt HPR.out
      have hlz : lb < wr.heap.size := blk_lt HLR.out
      have hgz : g < wr.heap.size := blk_lt HGR.out
      have hll : qa.toNat < ((DiskS.layAll D.lies (D.cache.take k) stays).map sv).length := by simp [DiskS.layAll_length]; omega
      have cl : wr.cell? ⟨lb, qa.toNat, none⟩ = some (((DiskS.layAll D.lies (D.cache.take k) stays).map sv)[qa.toNat]'hll) := by rw [blk_cell HLR.out, List.getElem?_toArray, List.getElem?_eq_getElem hll]
      have cf : wr.frozen? ⟨lb, qa.toNat, none⟩ = false := blk_free HLR.out _
      have c0 : wr.cell? ⟨p, 0, none⟩ = some (.slice (some ⟨lb, 0, none⟩) D.lies.length D.lies.length) := blk_cell HPR.out 0
      obtain ⟨cv0, hcv0⟩ : ∃ v, v = ((DiskS.layAll D.lies (D.cache.take k) stays).map sv)[qa.toNat]'hll := ⟨_, rfl⟩
      rw [← hcv0] at cl
      clear hcv0 hll
      have hne1 : lb ≠ p := ne_of_ty HLR.out HPR.out (by decide)
      have hne2 : g ≠ lb := ne_of_ty HGR.out HLR.out (by decide)
      have HTK : Hid (D.cache.take (k + 1) = D.cache.take k ++ [(qa, qs)]) := by show _ = _; rw [List.take_succ_eq_append_getElem hlt, ← HQQ.out]
      have HTL : Hid ((D.cache.take k).length = k) := by show _ = _; simp; omega
      cases hst : stays.getD k false
      · have HST := Go.Lib.hid hst
        clear hst
        have hF := HF.out k (wr.alloc (.cells #[.int .i64 qa, .string ⟨qs.toArray⟩] 40)) hlt (hU.alloc _)
        rw [HST.out] at hF
        go_wp2_with fail
        refine hF.mono ?_
        rintro e w1 ⟨rfl, rfl⟩
        go_wp2_with fail
        go_roundw
        case rel =>
          refine ⟨k + 1, by omega, by go_num, blk_alloc HPR.out _, ?_, fun b hb => (Below.heap_alloc wr _ b (by simp [Value.ownBlock] at hb; subst hb; exact hgz)).trans (HCR.out b hb), hU.alloc _⟩
          rw [HTK.out, DiskS.layAll_snoc, HTL.out, HST.out]
          exact blk_alloc HLR.out _
        case measure => simp [intOf]; omega
      · have HST := Go.Lib.hid hst
        clear hst
        have hF := HF.out k (wr.alloc (.cells #[.int .i64 qa, .string ⟨qs.toArray⟩] 40)) hlt (hU.alloc _)
        rw [HST.out] at hF
        go_wp2_with fail
        refine hF.mono ?_
        rintro e w1 ⟨rfl, rfl⟩
        go_wp2_with fail
        go_region
        go_wp2_with fail
        go_roundw
        case rel =>
          have hlz2 : lb < (wr.setCell ⟨lb, qa.toNat, none⟩ (.string ⟨qs.toArray⟩)).heap.size := by simp; exact hlz
          refine ⟨k + 1, by omega, by go_num, blk_alloc ((blk_far hne1.symm _ _).trans HPR.out) _, ?_, fun b hb => ?_, ((hU.set (.inl g2) _ _).alloc _).drew⟩
          · rw [HTK.out, DiskS.layAll_snoc, HTL.out, HST.out]
            refine (blk_alloc (blk_set HLR.out _ _) _).trans ?_
            simp [sv, List.map_set]
          · simp [Value.ownBlock] at hb
            subst hb
            exact (Below.heap_alloc _ _ _ (by simp; exact hgz)).trans ((blk_far hne2 _ _).trans (HCR.out _ rfl))
        case measure => simp [intOf]; omega
    · obtain rfl : k = D.cache.length := by omega
      have f1 := blk_free hpr 1
      have k1 : wr.cell? ⟨p, 1, none⟩ = some (.slice A D.cache.length c) := blk_cell hpr 1
      have HPR := Go.Lib.hid hpr
      have HLR := Go.Lib.hid hlr
      have HCR := Go.Lib.hid hcr
      clear hpr hlr hcr
      have hpz : p < wr.heap.size := blk_lt HPR.out
      go_wp2_with fail
      go_end0
      have hnl : lb ≠ p := ne_of_ty HLR.out HPR.out (by decide)
      refine ⟨[p, lb], rfl, ⟨lb, .slice none 0 0, ?_, ?_, ⟨by simp [DiskS.settle, putCells2], .inl ⟨rfl, rfl⟩⟩, by simp, by simp, by simp [Value.ownBlock], ?_⟩, hU.set (.inl g1) _ _, ?_⟩
      · refine (blk_set HPR.out _ _).trans ?_
        simp [dcells, DiskS.settle, DiskS.layAll_length]
      · rw [blk_far hnl]
        refine HLR.out.trans ?_
        rw [List.take_of_length_le (Nat.le_refl _)]
        rfl
      · intro j hj
        have := blk_lt HLR.out
        simp at hj
        rw [World.size_setCell]
        rcases hj with rfl | rfl <;> assumption
      · intro j hj
        simp at hj
        rcases hj with rfl | rfl
        · exact .inl g1
        · exact .inl g2

theorem dFlush1_any (i : Int) (w : World) : Calls Tryd.prog 86 #[.int .i64 i] w fun e w' => e = .returned (.bool true) ∧ w = w' := by
  go_enter Tryd.func86, Tryd.ntmps86
  go_wp2_with fail
  go_ret
  exact ⟨rfl, rfl⟩

theorem dCrash1_any (i bp c : Nat) (A : Option Addr) (xs : List Int) (w : World) (hi : i ≤ 1099511627776) (hx : xs.length ≤ 1099511627776) (hb : w.cell? ⟨bp, 0, none⟩ = some (.slice A xs.length c)) (hR : Reads w A (xs.map (Value.int .i64))) :
    Calls Tryd.prog 55 #[.int .i64 (i : Int), .pointer (some ⟨bp, 0, none⟩)] w fun e w' => e = .returned (.bool ((xs.map fun n => decide (n.tmod 2 ≠ 0)).getD i false)) ∧ w = w' := by
  by_cases hlt : i < xs.length
  · obtain ⟨b, off, hA, hc⟩ := hR (by intro h; have := congrArg List.length h; simp at this; subst this; simp at hlt)
    have hc1 := hc i (by simpa using hlt)
    simp at hc1
    subst hA
    obtain ⟨x, hx2⟩ : ∃ x, x = xs[i] := ⟨_, rfl⟩
    rw [← hx2] at hc1
    have HX : Hid ((xs.map fun n => decide (n.tmod 2 ≠ 0)).getD i false = decide (x.tmod 2 ≠ 0)) := by
      show _ = _
      rw [hx2]
      simp [List.getD, hlt]
    clear hx2 hc hR
    go_enter Tryd.func55, Tryd.ntmps55
    go_wp2_with fail
    go_ret
    refine ⟨ret_bool ?_, rfl⟩
    rw [HX.out]
    rw [Bool.eq_iff_iff]
    simp
  · have HX : Hid ((xs.map fun n => decide (n.tmod 2 ≠ 0)).getD i false = false) := by
      show _ = _
      rw [List.getD, List.getElem?_eq_none (by simp; omega)]
      rfl
    clear hR
    go_enter Tryd.func55, Tryd.ntmps55
    go_wp2_with fail
    go_ret
    exact ⟨ret_bool (by rw [HX.out]), rfl⟩

set_option maxRecDepth 100000 in
theorem dFlush_any {S : List Nat} {p : Nat} {D : DiskS} (w : World) (hD : DiskAt w S p D) (hk : D.Ok) :
    Calls Tryd.prog 67 #[.pointer (some ⟨p, 0, none⟩)] w fun e w' => DRet w S p D.flushS.1 (.int .i64 D.flushS.2) e w' := by
  have hS := Sectors_any w hD hk.most
  have hst := dStep_any w hD hk.left0 hk.left1
  have hn : Hid (D.flushS = if D.stepS.2 = 0 then (D.stepS.1.settle (D.stepS.1.cache.map fun _ => true), 0) else D.stepS) := by
    show _ = _
    unfold DiskS.flushS
    rw [if_neg (by have := hk.pos; simp [DiskS.sectors]; intro h; simp [h] at this)]
  obtain ⟨n, hn2⟩ : ∃ n : Int, n = D.sectors := ⟨_, rfl⟩
  have hn0 : 1 ≤ n := by rw [hn2]; have := hk.pos; simp [DiskS.sectors]; omega
  rw [← hn2] at hS
  clear hn2
  obtain ⟨e1, he1⟩ : ∃ e1, e1 = D.stepS.2 := ⟨_, rfl⟩
  obtain ⟨D1, hD1⟩ : ∃ D1, D1 = D.stepS.1 := ⟨_, rfl⟩
  rw [← he1, ← hD1] at hst
  have hpair : Hid (D.stepS = (D1, e1)) := by show _ = _; rw [he1, hD1]
  have hc1 : D1.cache = D.cache := by rw [hD1]; unfold DiskS.stepS; (repeat' split) <;> rfl
  have hl1 : D1.lies = D.lies := by rw [hD1]; unfold DiskS.stepS; (repeat' split) <;> rfl
  have HC1 := Go.Lib.hid hc1
  have HL1 := Go.Lib.hid hl1
  have HK := Go.Lib.hid hk
  clear he1 hD1 hc1 hl1
  by_cases hz : e1 = 0
  · subst hz
    go_enter Tryd.func67, Tryd.ntmps67
    go_wp2_with fail
    refine (hS).mono ?_
    rintro e w1 ⟨rfl, rfl⟩
    go_wp2_with fail
    refine hst.mono ?_
    rintro e w1 ⟨rfl, hD2, hu⟩
    go_wp2_with fail
    refine (settle_flush w1 (D1.cache.map fun _ => true) hD2 (by rw [HC1.out]; exact HK.out.room) (fun q hq => ?_) (fun i W hi _ => ?_)).mono ?_
    · rw [HC1.out] at hq
      rw [HL1.out]
      exact ⟨(HK.out.cache q hq).1, (HK.out.cache q hq).2.1⟩
    · refine (dFlush1_any _ W).mono ?_
      rintro e w2 ⟨rfl, rfl⟩
      exact ⟨ret_bool (by simp [List.getD, hi]), rfl⟩
    rintro e w2 ⟨S', rfl, hD3, hu3, hs3⟩
    go_wp2_with fail
    go_ret
    rw [hn.out, hpair.out, if_pos rfl]
    have hu' : Upd S w w1 := hu.mono (by intro k hk; simp at hk; subst hk; exact hD.ps)
    exact ⟨S', rfl, hD3, hu'.trans hu3 (fun k hk => .inl hk), fun k hk => (hs3 k hk).imp id (fun h => Nat.le_trans hu.size h)⟩
  · have hz2 : (e1 == 0) = false := by simp [hz]
    have hws2 : Hid (D.flushS = (D1, e1)) := by show _ = _; rw [hn.out, hpair.out, if_neg (by simpa using hz)]
    clear hz
    go_enter Tryd.func67, Tryd.ntmps67
    go_wp2_with fail
    refine (hS).mono ?_
    rintro e w1 ⟨rfl, rfl⟩
    go_wp2_with fail
    refine hst.mono ?_
    rintro e w1 ⟨rfl, hD2, hu⟩
    go_wp2_with fail
    go_ret
    rw [hws2.out]
    exact ⟨S, rfl, hD2, hu.mono (by intro k hk; simp at hk; subst hk; exact hD.ps), Sub.refl _ _⟩

set_option maxRecDepth 100000 in
theorem dCrash_any {S : List Nat} {p c : Nat} {D : DiskS} {A : Option Addr} (w : World) (xs : List Int) (hD : DiskAt w S p D) (hk : D.Ok) (hx : xs.length ≤ 1099511627776)
    (hR : Reads w A (xs.map (Value.int .i64))) (hA : ∀ b off, A = some ⟨b, off, none⟩ → xs ≠ [] → b ∉ S) :
    Calls Tryd.prog 29 #[.pointer (some ⟨p, 0, none⟩), .slice A xs.length c] w fun e w' => DRet w S p (D.crashS xs) (.tuple #[]) e w' := by
  obtain ⟨W, hW⟩ : ∃ W, W = w.alloc (.cells #[.slice A xs.length c] 23) := ⟨_, rfl⟩
  have hDW : DiskAt W S p D := by rw [hW]; exact hD.below ((Below.refl _ _).alloc (Nat.le_refl _) _)
  have hS := Sectors_any W hDW hk.most
  have hbox : W.heap[w.heap.size]? = some (.cells #[.slice A xs.length c] 23 (0, 0)) := by rw [hW]; exact blk_new _ _
  have hRW : Reads W A (xs.map (Value.int .i64)) := fun h => by
    obtain ⟨b, off, h1, h2⟩ := hR h
    refine ⟨b, off, h1, fun j hj => ?_⟩
    rw [hW]
    exact (World.cell?_alloc_past _ b _ (World.block_lt_of_cell? w _ (h2 j hj))).trans (h2 j hj)
  have hsz : W.heap.size = w.heap.size + 1 := by rw [hW]; simp
  have hltS := hD.ltS
  have hUW : Upd S w W := by rw [hW]; exact (Upd.refl _ _).alloc _
  have hn : Hid (D.crashS xs = { D.settle (xs.map fun n => decide (n.tmod 2 ≠ 0)) with on := true, armed := false }) := by
    show _ = _
    unfold DiskS.crashS
    rw [if_neg (by have := hk.pos; simp [DiskS.sectors]; intro h; simp [h] at this)]
  obtain ⟨n, hn2⟩ : ∃ n : Int, n = D.sectors := ⟨_, rfl⟩
  have hn0 : 1 ≤ n := by rw [hn2]; have := hk.pos; simp [DiskS.sectors]; omega
  rw [← hn2] at hS
  have hnz : (n == 0) = false := by simp; omega
  have HK := Go.Lib.hid hk
  have HW := Go.Lib.hid hW
  have HB := Go.Lib.hid hbox
  have HR := Go.Lib.hid hRW
  have HZ := Go.Lib.hid hsz
  have HAA := Go.Lib.hid hA
  clear hn2 hW hbox hRW hR hsz hA
  go_enter Tryd.func29, Tryd.ntmps29
  go_wp2_with fail
  rw [← HW.out]
  refine hS.mono ?_
  rintro e w1 ⟨rfl, rfl⟩
  go_wp2_with fail
  refine (settle_crash W w.heap.size (xs.map fun n => decide (n.tmod 2 ≠ 0)) hDW HK.out.room (fun q hq => ⟨(HK.out.cache q hq).1, (HK.out.cache q hq).2.1⟩) (fun i W2 hi hU => ?_)).mono ?_
  · have hb2 := hU.get HB.out (fun h => by have := hltS _ h; omega)
    have := HK.out.room
    refine dCrash1_any i w.heap.size c A xs W2 (by omega) hx (blk_cell hb2 0) (fun h => ?_)
    obtain ⟨b, off, h1, h2⟩ := HR.out h
    refine ⟨b, off, h1, fun j hj => ?_⟩
    have hc := h2 j hj
    have hbl := World.block_lt_of_cell? W _ hc
    exact (World.cell?_of_block (hU.block b hbl (HAA.out b off h1 (by intro h3; subst h3; simp at h)))).trans hc
  rintro e w2 ⟨S', rfl, hD3, hu3, hs3⟩
  obtain ⟨lb, cv, hp⟩ := hD3.get
  have c2 : w2.cell? ⟨p, 2, none⟩ = some (.bool D.on) := blk_cell hp 2
  have c3 : w2.cell? ⟨p, 3, none⟩ = some (.bool D.armed) := blk_cell hp 3
  have f2 := blk_free hp 2
  have f3 := blk_free hp 3
  have HP := Go.Lib.hid hp
  clear hp
  go_wp2_with fail
  go_end0
  rw [hn.out]
  have hps := hD.ps
  refine ⟨S', rfl, ?_, ?_, ?_⟩
  · refine hD3.strct HP.out ?_ (((Upd.refl _ _).set (by simp) _ _).set (by simp) _ _) rfl rfl
    refine (blk_set (blk_set HP.out _ _) _ _).trans ?_
    simp [dcells]
  · exact ((hUW.trans hu3 (fun k hk => .inl hk)).set (.inl hps) _ _).set (.inl hps) _ _
  · intro k hk
    rcases hs3 k hk with h | h
    · exact .inl h
    · have := HZ.out; exact .inr (by omega)

end Go.Proofs.YtbalbjhmboppoaaDoor
