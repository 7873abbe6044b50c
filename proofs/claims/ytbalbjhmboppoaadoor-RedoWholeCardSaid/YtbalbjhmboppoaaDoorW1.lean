/-
  redo.write: writes, one behind the other, and a flush, on the disk's state. redo.fits.
  No condition.
-/
import Derived.Test.YtbalbjhmboppoaaDoorDisk2
import Derived.Test.YtbalbjhmboppoaaDoorRF
import Derived.Test.YtbalbjhmboppoaaDoorS5
set_option linter.unusedSimpArgs false
set_option linter.unusedVariables false
namespace Go.Proofs.YtbalbjhmboppoaaDoor
open Go.RowKit

/-- A row of writes, in no block of S. -/
def PutsR (w : World) (S : List Nat) (v : Value) (xs : List PutM) : Prop :=
  ∃ A c, v = .slice A xs.length c ∧ xs.length ≤ c ∧ (0 < xs.length → ∃ g cur, A = some ⟨g, 0, none⟩ ∧ g ∉ S ∧ w.heap[g]? = some (.cells cur 40 (0, 0)) ∧ ∀ j, j < (putCells2 xs).length → cur[j]? = (putCells2 xs)[j]?)
theorem PutsR.upd {w w' : World} {S S' : List Nat} {v : Value} {xs : List PutM} (h : PutsR w S v xs) (hu : Upd S w w') (hs : Sub S S' w) : PutsR w' S' v xs := by
  obtain ⟨A, c, h1, h2, h3⟩ := h
  refine ⟨A, c, h1, h2, fun hn => ?_⟩
  obtain ⟨g, cur, hA, hg, hb, hc⟩ := h3 hn
  refine ⟨g, cur, hA, ?_, hu.get hb hg, hc⟩
  intro hm
  rcases hs g hm with h | h
  · exact hg h
  · have := blk_lt hb; omega
theorem PutsR.of_own {w : World} {S : List Nat} {B : Nat} {v : Value} {xs : List PutM} (h : w.ownsRow B 40 2 v xs.length (putCells2 xs)) (hS : ∀ k, v.ownBlock = some k → k ∉ S) : PutsR w S v xs := by
  obtain ⟨A, c, rfl⟩ := own_slice h
  refine ⟨A, c, rfl, (own_reads h).2, fun hn => ?_⟩
  obtain ⟨g, cur, hA, hg, hc⟩ := own_head h hn
  exact ⟨g, cur, hA, hS g (by rw [hA]; rfl), hg, hc⟩

set_option maxRecDepth 100000 in
set_option maxHeartbeats 1000000 in
theorem write_any {S : List Nat} {p : Nat} {D : DiskS} {v : Value} (w : World) (fl : Bool) (xs : List PutM) (hD : DiskAt w S p D) (ok : D.Ok) (hP : PutsR w S v xs) (hr : D.cache.length + xs.length ≤ 1099511627776) (hsz : ∀ x ∈ xs, x.2.length ≤ 1099511627776) :
    Calls Tryd.prog 41 #[.pointer (some ⟨p, 0, none⟩), .bool fl, v] w fun e w' => DRet w S p (D.writeF fl xs).1 (.int .i64 (D.writeF fl xs).2) e w' := by
  obtain ⟨A, c, rfl, hc, hA⟩ := hP
  have hxl : xs.length ≤ 1099511627776 := by omega
  obtain ⟨D0, hD0⟩ : ∃ D0, D0 = D.writeF fl xs := ⟨_, rfl⟩
  rw [← hD0]
  have HD0 := Go.Lib.hid hD0
  have HA := Go.Lib.hid hA
  have HD := Go.Lib.hid hD
  have HK := Go.Lib.hid ok
  have HZ := Go.Lib.hid hsz
  have hpz := (HD.out.ltS p HD.out.ps)
  clear hD0 hA hD ok hsz
  go_enter Tryd.func41, Tryd.ntmps41
  go_wp2_with fail
  go_loopw [12] (fun iv wr => ∃ (i : Nat) (S' : List Nat), i ≤ xs.length ∧ iv = .int .i64 i ∧ (D.writesS (xs.take i)).2 = 0 ∧ DiskAt wr S' p (D.writesS (xs.take i)).1 ∧ Upd S w wr ∧ Sub S S' w) (fun iv _ => xs.length - (intOf iv).toNat)
  case atStart => exact ⟨0, S, Nat.zero_le _, rfl, rfl, HD.out, Upd.refl _ _, Sub.refl _ _⟩
  case round =>
    obtain ⟨i, S', hi, rfl, hz, hDr, hU, hSub⟩ := hrel
    have hok := DiskS.Ok.writes (xs.take i) HK.out (by simp; omega)
    have hca := DiskS.writesS_cache (xs.take i) D
    obtain ⟨Di, hDi⟩ : ∃ Di, Di = (D.writesS (xs.take i)).1 := ⟨_, rfl⟩
    have HDi : Hid (D.writesS (xs.take i) = (Di, 0)) := by show _ = _; rw [hDi, ← hz]
    rw [← hDi] at hDr hok hca
    clear hz hDi
    have hcl : Di.cache.length ≤ D.cache.length + i := by simp at hca; omega
    by_cases hlt : i < xs.length
    · obtain ⟨g, cur, rfl, hgS, hg, hcur⟩ := HA.out (by omega)
      have hgr := hU.get hg hgS
      obtain ⟨⟨qa, qs⟩, hq⟩ : ∃ q, q = xs[i] := ⟨_, rfl⟩
      have q0 : wr.cell? ⟨g, i * 2, none⟩ = some (.int .i64 qa) := by
        rw [blk_cell hgr, hcur _ (by rw [putCells2_length]; omega), (putCells2_get _ i hlt).1, ← hq]
      have q1 : wr.cell? ⟨g, i * 2 + 1, none⟩ = some (.string ⟨qs.toArray⟩) := by
        rw [blk_cell hgr, hcur _ (by rw [putCells2_length]; omega), (putCells2_get _ i hlt).2, ← hq]
        rfl
      have hqs : qs.length ≤ 1099511627776 := by have := HZ.out xs[i] (List.getElem_mem _); rw [← hq] at this; exact this
      obtain ⟨W, hW⟩ : ∃ W, W = wr.alloc (.cells #[.int .i64 qa, .string ⟨qs.toArray⟩] 40) := ⟨_, rfl⟩
      have HW := Go.Lib.hid hW
      have HQ := Go.Lib.hid hq
      clear hW hq hgr hg hcur
      go_wp2_with fail
      rw [← HW.out]
      have hDW : DiskAt W S' p Di := by rw [HW.out]; exact hDr.upd ((Upd.refl [] _).alloc _) (by simp)
      have hzW : wr.heap.size ≤ W.heap.size := by rw [HW.out]; simp
      have hUW : Upd S w W := by rw [HW.out]; exact hU.alloc _
      refine (dWrite_any W qa qs hDW hok.most hok.left0 hok.left1 hok.room hqs).mono ?_
      rintro e w5 ⟨S5, rfl, hD5, hU5, hSub5⟩
      have hz0 := hU.size
      have hU6 : Upd S w w5 := hUW.trans hU5 (fun k hk => by rcases hSub k hk with h | h; exact .inl h; exact .inr h)
      have hSub6 : Sub S S5 w := hSub.trans hSub5 (by omega)
      obtain ⟨e5, he5⟩ : ∃ e5, e5 = (Di.writeS qa qs).2 := ⟨_, rfl⟩
      obtain ⟨D5, hD5'⟩ : ∃ D5, D5 = (Di.writeS qa qs).1 := ⟨_, rfl⟩
      rw [← he5]
      rw [← hD5'] at hD5
      have HE : Hid (Di.writeS qa qs = (D5, e5)) := by show _ = _; rw [he5, hD5']
      clear he5 hD5'
      by_cases hz : e5 = 0
      · subst hz
        go_wp2_with fail
        go_roundw
        case rel =>
          have ht : D.writesS (xs.take (i + 1)) = (D5, 0) := by
            rw [List.take_succ_eq_append_getElem hlt, DiskS.writesS_snoc _ _ _ (by rw [HDi.out]), HDi.out, ← HQ.out]
            exact HE.out
          exact ⟨i + 1, S5, by omega, by go_num, by rw [ht], by rw [ht]; exact hD5, hU6, hSub6⟩
        case measure => simp [intOf]; omega
      · have hz2 : (e5 == 0) = false := by simp [hz]
        go_wp2_with fail
        go_ret
        have ht : D0 = (D5, e5) := by
          rw [HD0.out]
          have h1 : D.writesS xs = (D5, e5) := by
            have e : xs = xs.take i ++ (xs[i] :: xs.drop (i + 1)) := by rw [List.getElem_cons_drop, List.take_append_drop]
            rw [e, DiskS.writesS_append, if_pos (by rw [HDi.out]), HDi.out]
            show DiskS.writesS Di (xs[i] :: _) = _
            unfold DiskS.writesS
            rw [← HQ.out, HE.out, if_neg hz]
          unfold DiskS.writeF
          rw [h1, if_neg hz]
        rw [ht]
        exact ⟨S5, rfl, hD5, hU6, hSub6⟩
    · obtain rfl : i = xs.length := by omega
      have h1 : D.writesS xs = (Di, 0) := by have := HDi.out; rwa [List.take_of_length_le (Nat.le_refl _)] at this
      have HF : Hid (D0 = if fl then Di.flushS else (Di, 0)) := by show _ = _; rw [HD0.out]; unfold DiskS.writeF; rw [h1, if_pos rfl]
      clear h1
      cases fl
      · go_wp2_with fail
        go_ret
        rw [HF.out]
        exact ⟨S', rfl, hDr, hU, hSub⟩
      · have hz0 := hU.size
        go_wp2_with fail
        refine (dFlush_any wr hDr hok).mono ?_
        rintro e w5 ⟨S5, rfl, hD5, hU5, hSub5⟩
        go_wp2_with fail
        go_ret
        rw [HF.out]
        exact ⟨S5, rfl, hD5, hU.trans hU5 (fun k hk => by rcases hSub k hk with h | h; exact .inl h; exact .inr h), hSub.trans hSub5 hz0⟩

def fitsB (D : DiskS) (base size : Int) : Bool := decide (0 ≤ base) && decide (4 ≤ size) && decide (size ≤ 65536) && decide (base ≤ D.sectors - size)
theorem fits_any {S : List Nat} {p : Nat} {D : DiskS} (w : World) (base size : Int) (hD : DiskAt w S p D) (ok : D.Ok) :
    Calls Tryd.prog 40 #[.pointer (some ⟨p, 0, none⟩), .int .i64 base, .int .i64 size] w fun e w' => e = .returned (.bool (fitsB D base size)) ∧ w = w' := by
  have hS := Sectors_any w hD ok.most
  have hn0 : 0 ≤ D.sectors := by simp [DiskS.sectors]
  have hn1 : D.sectors ≤ 65536 := by have := ok.most; simp [DiskS.sectors]; omega
  have HF : Hid (fitsB D base size = (decide (0 ≤ base) && decide (4 ≤ size) && decide (size ≤ 65536) && decide (base ≤ D.sectors - size))) := rfl
  obtain ⟨n, hn⟩ : ∃ n : Int, n = D.sectors := ⟨_, rfl⟩
  rw [← hn] at hS HF hn0 hn1
  clear hn
  obtain ⟨v, hv⟩ : ∃ v, v = fitsB D base size := ⟨_, rfl⟩
  rw [← hv] at HF ⊢
  clear hv hD ok
  by_cases b0 : 0 ≤ base
  · by_cases b1 : 4 ≤ size
    · by_cases b2 : size ≤ 65536
      · go_enter Tryd.func40, Tryd.ntmps40
        go_wp2_with fail
        refine hS.mono ?_
        rintro e w1 ⟨rfl, rfl⟩
        go_wp2_with fail
        go_ret
        refine ⟨ret_bool ?_, rfl⟩
        rw [HF.out]
        simp [b0, b1, b2]
      · go_enter Tryd.func40, Tryd.ntmps40
        go_wp2_with fail
        go_ret
        refine ⟨ret_bool ?_, rfl⟩
        rw [HF.out]
        simp; omega
    · go_enter Tryd.func40, Tryd.ntmps40
      go_wp2_with fail
      go_ret
      refine ⟨ret_bool ?_, rfl⟩
      rw [HF.out]
      simp; omega
  · go_enter Tryd.func40, Tryd.ntmps40
    go_wp2_with fail
    go_ret
    refine ⟨ret_bool ?_, rfl⟩
    rw [HF.out]
    simp; omega

end Go.Proofs.YtbalbjhmboppoaaDoor
