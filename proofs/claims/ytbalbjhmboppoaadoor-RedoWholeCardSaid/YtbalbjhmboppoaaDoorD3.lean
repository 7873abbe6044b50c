/-
  THE LAYER sector, walked, third part: writes, flushes, crashes.
  No condition.
-/
import Derived.Test.YtbalbjhmboppoaaDoorD2
set_option linter.unusedSimpArgs false
set_option linter.unusedVariables false
namespace Go.Proofs.YtbalbjhmboppoaaDoor
open Go.RowKit

theorem putCells2_length (l : List PutM) : (putCells2 l).length = l.length * 2 := by
  induction l with
  | nil => rfl
  | cons p l ih => simp [putCells2] at ih ⊢; omega
theorem putCells2_get (l : List PutM) (k : Nat) (h : k < l.length) : (putCells2 l)[k * 2]? = some (.int .i64 l[k].1) ∧ (putCells2 l)[k * 2 + 1]? = some (sv l[k].2) := by
  induction l generalizing k with
  | nil => simp at h
  | cons p l ih =>
    have e : putCells2 (p :: l) = .int .i64 p.1 :: sv p.2 :: putCells2 l := by simp [putCells2]
    rw [e]
    cases k with
    | zero => simp
    | succ k =>
      have := ih k (by simpa using h)
      rw [show (k + 1) * 2 = k * 2 + 1 + 1 by omega]
      simpa using this
theorem putCells2_append (l m : List PutM) : putCells2 (l ++ m) = putCells2 l ++ putCells2 m := by simp [putCells2]

/-- What a disk may use behind a step: what it had, or new blocks. -/
def Sub (S S' : List Nat) (w : World) : Prop := ∀ k, k ∈ S' → k ∈ S ∨ w.heap.size ≤ k
theorem Sub.refl (S : List Nat) (w : World) : Sub S S w := fun _ h => .inl h
theorem Sub.trans {S S' S2 : List Nat} {w w1 : World} (h : Sub S S' w) (h' : Sub S' S2 w1) (hs : w.heap.size ≤ w1.heap.size) : Sub S S2 w := fun k hk => by
  rcases h' k hk with h1 | h1
  · exact h k h1
  · exact .inr (by omega)

/-- A call has turned a disk: the error, the state. -/
def DRet (w : World) (S : List Nat) (p : Nat) (D' : DiskS) (v : Value) (e : Ending) (w' : World) : Prop :=
  ∃ S', e = .returned v ∧ DiskAt w' S' p D' ∧ Upd S w w' ∧ Sub S S' w

set_option maxRecDepth 100000 in
set_option maxHeartbeats 400000 in
theorem dWrite_any {S : List Nat} {p : Nat} {D : DiskS} (w : World) (at_ : Int) (s : Bs) (hD : DiskAt w S p D) (hm : D.lies.length ≤ 65536) (h0 : 0 ≤ D.left) (h1 : D.left ≤ 9223372036854775807) (hr : D.cache.length ≤ 1099511627776) (hsl : s.length ≤ 1099511627776) :
    Calls Tryd.prog 66 #[.pointer (some ⟨p, 0, none⟩), .int .i64 at_, .string ⟨s.toArray⟩] w fun e w' => DRet w S p (D.writeS at_ s).1 (.int .i64 (D.writeS at_ s).2) e w' := by
  have hS := Sectors_any w hD hm
  obtain ⟨n, hn⟩ : ∃ n : Int, n = D.sectors := ⟨_, rfl⟩
  have hn0 : 0 ≤ n := by rw [hn]; simp [DiskS.sectors]
  rw [← hn] at hS
  have HN := Go.Lib.hid hn
  clear hn
  by_cases hbad : at_ < 0 ∨ n ≤ at_ ∨ s.length ≠ 256
  · have hs : Hid (D.writeS at_ s = (D, 1)) := by show _ = _; unfold DiskS.writeS; rw [if_pos (by rw [← HN.out]; exact hbad)]
    by_cases ha : at_ < 0
    · clear hbad
      go_enter Tryd.func66, Tryd.ntmps66
      go_wp2_with fail
      go_ret
      rw [hs.out]
      exact ⟨S, rfl, hD, Upd.refl _ _, Sub.refl _ _⟩
    · by_cases hb : n ≤ at_
      · clear hbad
        go_enter Tryd.func66, Tryd.ntmps66
        go_wp2_with (go_at_call 53; refine hS.mono ?_; rintro e w1 ⟨rfl, rfl⟩)
        go_ret
        rw [hs.out]
        exact ⟨S, rfl, hD, Upd.refl _ _, Sub.refl _ _⟩
      · have hl : s.length ≠ 256 := by omega
        have hl2 : ((s.length : Int) != 256) = true := by rw [bne_iff_ne]; omega
        clear hbad
        go_enter Tryd.func66, Tryd.ntmps66
        go_wp2_with (go_at_call 53; refine hS.mono ?_; rintro e w1 ⟨rfl, rfl⟩)
        go_ret
        rw [hs.out]
        exact ⟨S, rfl, hD, Upd.refl _ _, Sub.refl _ _⟩
  · have ha : 0 ≤ at_ := by omega
    have hb : at_ < n := by omega
    have hl : s.length = 256 := by omega
    have hl2 : ((s.length : Int) != 256) = false := by simp [hl]
    have hws : Hid (D.writeS at_ s = if D.stepS.2 = 0 then ({ D.stepS.1 with cache := D.stepS.1.cache ++ [(at_, s)] }, 0) else D.stepS) := by
      show _ = _; unfold DiskS.writeS; rw [if_neg (by rw [← HN.out]; exact hbad)]
    have HL := Go.Lib.hid hl
    clear hbad hl
    have hst := dStep_any w hD h0 h1
    obtain ⟨e1, he1⟩ : ∃ e1, e1 = D.stepS.2 := ⟨_, rfl⟩
    obtain ⟨D1, hD1⟩ : ∃ D1, D1 = D.stepS.1 := ⟨_, rfl⟩
    rw [← he1, ← hD1] at hst
    have hpair : Hid (D.stepS = (D1, e1)) := by show _ = _; rw [he1, hD1]
    have hc1 : D1.cache.length ≤ 1099511627776 := by rw [hD1]; unfold DiskS.stepS; (repeat' split) <;> exact hr
    clear he1 hD1
    by_cases hz : e1 = 0
    · subst hz
      go_enter Tryd.func66, Tryd.ntmps66
      go_wp2_with fail
      refine (hS).mono ?_
      rintro e w1 ⟨rfl, rfl⟩
      go_wp2_with fail
      refine hst.mono ?_
      rintro e w1 ⟨rfl, hD2, hu⟩
      obtain ⟨lb, cv, hp, hl, hc, g1, g2, g3, g4⟩ := hD2
      have c1 : w1.cell? ⟨p, 1, none⟩ = some cv := blk_cell hp 1
      have hplt := blk_lt hp
      obtain ⟨W, hW⟩ : ∃ W, W = w1.alloc (.cells #[.int .i64 at_, .string ⟨s.toArray⟩] 40) := ⟨_, rfl⟩
      have hcA : W.ownsRow 0 40 2 cv D1.cache.length (putCells2 D1.cache) := by rw [hW]; exact hc.alloc _
      have hpA : W.heap[p]? = some (.cells #[.slice (some ⟨lb, 0, none⟩) D1.lies.length D1.lies.length, cv, .bool D1.on, .bool D1.armed, .int .i64 D1.left, .int .i64 D1.steps] 74 (0, 0)) := by rw [hW]; exact blk_alloc hp _
      have hlA : W.heap[lb]? = some (.cells (D1.lies.map sv).toArray 9 (0, 0)) := by rw [hW]; exact blk_alloc hl _
      have hn1 : ∀ j u, [Value.int .i64 at_, Value.string ⟨s.toArray⟩][j]? = some u → W.cell? ((⟨w1.heap.size, 0, none⟩ : Addr).add j) = some u := by
        intro j u hj
        rw [hW]
        match j, hj with
        | 0, hj => simp at hj; subst hj; simp [Addr.add]
        | 1, hj => simp at hj; subst hj; simp [Addr.add]
      have hAU : Upd S w W := by rw [hW]; exact (hu.mono (S' := S) (by intro k hk; simp at hk; subst hk; exact g1)).alloc _
      have hAz : w1.heap.size ≤ W.heap.size := by rw [hW]; simp
      have HP := Go.Lib.hid hpA
      have HLB := Go.Lib.hid hlA
      have HG := Go.Lib.hid g3
      have HG4 := Go.Lib.hid g4
      have HW := Go.Lib.hid hW
      have HC := Go.Lib.hid hcA
      clear hp hl g3 g4 hpA hlA hW hcA hc
      go_wp2_with (at_builtin; rw [← HW.out]; refine wpList_append_S rfl _ _ 41 rfl 0 40 _ 2 24 Tryd.underlying41 info_put rfl (by decide) cv _ _ rfl HC.out ⟨w1.heap.size, 0, none⟩ 1 1 [.int .i64 at_, .string ⟨s.toArray⟩] rfl rfl hn1 ?c2 ?c3 ?c4 (Nat.zero_le _) ?_)
      case c2 => intro u hu; simp at hu; rcases hu with rfl | rfl <;> rfl
      case c3 => unfold maxLen; omega
      case c4 => omega
      intro v' w2 hown hgrow hfresh
      have hpc : some p ≠ cv.ownBlock := fun e => by
        obtain ⟨cs, hcs⟩ := own_ty HC.out e.symm
        exact ne_of_ty HP.out hcs (by decide) rfl
      have hlc : some lb ≠ cv.ownBlock := fun e => by
        obtain ⟨cs, hcs⟩ := own_ty HC.out e.symm
        exact ne_of_ty HLB.out hcs (by decide) rfl
      have hP2 := (hgrow.block p (by omega) hpc).trans HP.out
      have hL2 := (hgrow.block lb (blk_lt HLB.out) hlc).trans HLB.out
      have k1 : w2.cell? ⟨p, 1, none⟩ = some cv := blk_cell hP2 1
      have f1 := blk_free hP2 1
      obtain ⟨A', c', hv⟩ := own_slice hown
      rw [hv]
      rw [hv] at hown hfresh
      have HP2 := Go.Lib.hid hP2
      have HL2 := Go.Lib.hid hL2
      have HO2 := Go.Lib.hid hown
      have HF := Go.Lib.hid hfresh
      have hU2 : Upd S w w2 := hAU.trans (upd_of_grown (S := S) hgrow (fun k hk => HG.out k hk)) (fun k hk => .inl hk)
      have hz2 := hgrow.size
      clear hP2 hL2 hown hv hfresh
      go_wp2_with fail
      go_ret
      rw [hws.out, hpair.out, if_pos rfl]
      have hne2 : ∀ k, (Value.slice A' (D1.cache.length + 1) c').ownBlock = some k → k ≠ p := fun k hk e => by
        subst e
        obtain ⟨cs, hcs⟩ := own_ty HO2.out hk
        exact ne_of_ty HP2.out hcs (by decide) rfl
      refine ⟨p :: lb :: blk1 (.slice A' (D1.cache.length + 1) c'), rfl, ⟨lb, .slice A' (D1.cache.length + 1) c', ?_, ?_, ?_, by simp, by simp, fun k hk => by simp [mem_blk1, hk], ?_⟩, hU2.set (.inl g1) _ _, ?_⟩
      · refine (blk_set HP2.out _ _).trans ?_
        simp
      · rw [blk_far (ne_of_ty HL2.out HP2.out (by decide))]
        exact HL2.out
      · refine own_same (w := w2) ?_ (fun k hk => blk_far (hne2 k hk) _ _)
        have := HO2.out
        simpa [putCells2_append, putCells2, sv] using this
      · intro k hk
        simp [mem_blk1] at hk
        rw [World.size_setCell]
        rcases hk with rfl | rfl | hk
        · exact blk_lt HP2.out
        · exact blk_lt HL2.out
        · exact (HO2.out.lt k hk).2
      · intro k hk
        simp [mem_blk1] at hk
        rcases hk with rfl | rfl | hk
        · exact .inl g1
        · exact .inl g2
        · rcases HF.out k hk with h | h
          · exact .inl (HG.out k h)
          · have := hu.size; exact .inr (by omega)
    · have hz2 : (e1 == 0) = false := by simp [hz]
      have hws2 : Hid (D.writeS at_ s = (D1, e1)) := by show _ = _; rw [hws.out, hpair.out, if_neg (by simpa using hz)]
      clear hz
      go_enter Tryd.func66, Tryd.ntmps66
      go_wp2_with fail
      refine (hS).mono ?_
      rintro e w1 ⟨rfl, rfl⟩
      go_wp2_with fail
      refine hst.mono ?_
      rintro e w1 ⟨rfl, hD2, hu⟩
      go_wp2_with fail
      go_ret
      rw [hws2.out]
      exact ⟨S, rfl, hD2, hu.mono (by intro k hk; simp at hk; subst hk; exact hD.ps), Sub.refl _ _⟩

end Go.Proofs.YtbalbjhmboppoaaDoor
