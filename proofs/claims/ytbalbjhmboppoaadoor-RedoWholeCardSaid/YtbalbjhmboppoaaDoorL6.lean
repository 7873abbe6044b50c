/-
  The log's Commit, walked.
  The disk's cache holds fewer than 10^12 writes; the table of check lies where it lies.
-/
import Derived.Test.YtbalbjhmboppoaaDoorL5
import Derived.StillTailTactics
set_option linter.unusedSimpArgs false
set_option linter.unusedVariables false
namespace Go.Proofs.YtbalbjhmboppoaaDoor
open Go.RowKit

theorem below_next {B : Nat} {w w1 w2 : World} (h : Below B w w1) (h' : Below w1.heap.size w1 w2) (hB : B ≤ w.heap.size := by omega) : Below B w w2 := h.trans (h'.mono (Nat.le_trans hB h.size))
theorem below_drewN0 (w : World) (n : Nat) : Below w.heap.size w (w.drewN n) := ⟨rfl, rfl, rfl, Nat.le_refl _, fun _ _ => rfl⟩
set_option maxRecDepth 100000 in
set_option maxHeartbeats 4000000 in
theorem Commit_any {S : List Nat} {q p : Nat} {L : LogS} {D : DiskS} {v : Value} (w : World) (ps : List PutM) (h : LogAt w q p L) (hlok : L.Ok) (hD : DiskAt w S p D) (ok : D.Ok) (hr : D.cache.length ≤ 900000000000) (hqS : q ∉ S) (h0 : (0 : Nat) ∉ S) (hq0 : q ≠ 0) (hT : Tab w)
    (hP : PutsR w S v ps) (hpl : ps.length ≤ 1073741824) (hsz : ∀ x ∈ ps, x.2.length ≤ 1099511627776) :
    Calls Tryd.prog 20 #[.pointer (some ⟨q, 0, none⟩), v] w fun e w' => LRet w S q p (commitS L D ps) e w' := by
  obtain ⟨A, c, rfl, hPc, hPA⟩ := id hP
  obtain ⟨w1, hw1⟩ : ∃ w1, w1 = w.alloc (.cells #[.pointer (some ⟨q, 0, none⟩)] 33) := ⟨_, rfl⟩
  have hqz := blk_lt h
  have hA1 : Upd [] w w1 := by rw [hw1]; exact (Upd.refl _ _).alloc _
  have hB1 : w1.heap[w.heap.size]? = some (.cells #[.pointer (some ⟨q, 0, none⟩)] 33 (0, 0)) := by rw [hw1]; exact blk_new _ _
  have hL1 : LogAt w1 q p L := hA1.get h (by simp)
  have hD1 : DiskAt w1 S p D := hD.upd hA1 (by simp)
  have hT1 : Tab w1 := hT.below hA1.nil
  have hP1 : PutsR w1 S (.slice A ps.length c) ps := hP.upd (hA1.mono (by simp)) (Sub.refl _ _)
  have hz1 : w1.heap.size = w.heap.size + 1 := by rw [hw1]; simp
  have hqB : q ≠ w.heap.size := by omega
  have hBS : w.heap.size ∉ S := fun hm => by have := hD.ltS _ hm; omega
  have hB0 : w.heap.size ≠ 0 := fun e => by have := hT.lt; omega
  have cB1 : w1.cell? ⟨w.heap.size, 0, none⟩ = some (.pointer (some ⟨q, 0, none⟩)) := blk_cell hB1 0
  have hR1 := ready_any w1 hL1
  unfold readyE at hR1
  have hRoom1 := fun W (hb : Below w1.heap.size w1 W) => Room_any W ((hb.block q (blk_lt hL1)).trans hL1) (by have := hlok.z0; omega) hlok.z1
  have hCon1 := sContains_any w1 ps hL1 hD1 ok hlok.b0 hlok.b1 (by have := hlok.z0; omega) hlok.z1 hP1 (by omega) hsz
  -- what it comes to
  obtain ⟨r, hr'⟩ : ∃ r, r = commitS L D ps := ⟨_, rfl⟩
  rw [← hr']
  -- from w1 on
  suffices key : Calls Tryd.prog 20 #[.pointer (some ⟨q, 0, none⟩), .slice A ps.length c] w fun e w' => LRet w1 S q p r e w' by
    refine key.mono ?_
    rintro e w' ⟨S', g1, g2, g3, g4, g5, g6⟩
    refine ⟨S', g1, g2, g3, (hA1.mono (by simp)).trans g4 (fun k hk => .inl hk), fun k hk => ?_, g6⟩
    rcases g5 k hk with h | h
    · exact .inl h
    · exact .inr (by omega)
  have HW1 := Go.Lib.hid hw1
  have HR := Go.Lib.hid hr'
  have HS := Go.Lib.hid hsz
  have HRM := Go.Lib.hid hRoom1
  clear hw1 hr' hP h hD hPA hT hA1 hsz hRoom1
  cases hbr : L.broken
  · rw [hbr] at hR1
    have hE : Hid (r = if ps = [] ∨ ps.any (wrongB L D) = true then ⟨L, D, 1⟩ else if roomS L < ps.length then ⟨L, D, 11⟩ else commitC L D ps) := by
      show _ = _; rw [HR.out]; unfold commitS; rw [if_neg (by rw [hbr]; decide)]
    clear HR
    by_cases hn0 : ps = []
    · have hE2 : Hid (r = ⟨L, D, 1⟩) := by show _ = _; rw [hE.out, if_pos (.inl hn0)]
      have hn : ps.length = 0 := by rw [hn0]; rfl
      clear hE hn0 hCon1
      go_enter Tryd.func20, Tryd.ntmps20
      go_wp2_with fail
      rw [← HW1.out]
      refine hR1.mono ?_
      rintro e w2 ⟨rfl, rfl⟩
      go_wp2_with fail
      go_ret
      rw [hE2.out]
      exact ⟨S, rfl, hD1, hL1, Upd.refl _ _, Sub.refl _ _, hqS⟩
    · have hn1 : 0 < ps.length := by cases ps with | nil => exact absurd rfl hn0 | cons _ _ => simp
      have hn1' : ((ps.length : Int) == 0) = false := by simp; omega
      obtain ⟨b, hb⟩ : ∃ b, b = ps.any (wrongB L D) := ⟨_, rfl⟩
      rw [← hb] at hCon1
      have HBB := Go.Lib.hid hb
      have HN0 := Go.Lib.hid hn0
      cases b
      · have hE3 : Hid (r = if roomS L < ps.length then ⟨L, D, 11⟩ else commitC L D ps) := by
          show _ = _; rw [hE.out, if_neg]
          rintro (h | h)
          · exact hn0 h
          · rw [← hb] at h; cases h
        clear hE hb hn0
        have hrr : roomS L = min 60 (L.size - 4) := by unfold roomS; rw [hbr]; rfl
        obtain ⟨rm, hrm⟩ : ∃ rm, rm = roomS L := ⟨_, rfl⟩
        have hRM2 := HRM.out
        simp only [← hrm] at hRM2
        rw [← hrm] at hE3 hrr
        have HRM2 := Go.Lib.hid hRM2
        have HRR := Go.Lib.hid hrr
        have hrm1 : rm ≤ 60 := by omega
        have hrm2 : rm ≤ L.size - 4 := by omega
        have hrm0 : 0 ≤ rm := by have := hlok.z0; omega
        clear hrm hRM2 hrr hbr
        go_enter Tryd.func20, Tryd.ntmps20
        go_wp2_with fail
        rw [← HW1.out]
        refine hR1.mono ?_
        rintro e w2 ⟨rfl, rfl⟩
        clear hR1
        go_wp2_with fail
        refine hCon1.mono ?_
        rintro e w2 ⟨rfl, hb2⟩
        clear hCon1
        have hL2 : LogAt w2 q p L := (hb2.block q (blk_lt hL1)).trans hL1
        have hD2 : DiskAt w2 S p D := hD1.below hb2
        have hB2 := (hb2.block _ (blk_lt hB1)).trans hB1
        have hP2 : PutsR w2 S (.slice A ps.length c) ps := hP1.upd (Upd.of_below hb2) (Sub.refl _ _)
        have hT2 : Tab w2 := hT1.below hb2
        have cB2 : w2.cell? ⟨w.heap.size, 0, none⟩ = some (.pointer (some ⟨q, 0, none⟩)) := blk_cell hB2 0
        have cU2 : w2.cell? ⟨q, 5, none⟩ = some (.int .i64 L.used) := blk_cell hL2 5
        have hz2 := hb2.size
        go_wp2_with fail
        refine (HRM2.out w2 hb2).mono ?_
        rintro e w3 ⟨rfl, rfl⟩
        by_cases hroom : rm < ps.length
        · go_wp2_with fail
          go_ret
          rw [hE3.out, if_pos hroom]
          exact ⟨S, rfl, hD2, hL2, Upd.of_below hb2, Sub.refl _ _, hqS⟩
        · have hE4 : Hid (r = commitC L D ps) := by show _ = _; rw [hE3.out, if_neg hroom]
          clear hE3
          have hu0 := hlok.u0
          have hu1 := hlok.u1
          have hz6 := hlok.z1
          have hz5 := hlok.z0
          have hsl := fun W (h : Below w2.heap.size w2 W) => slots_any W ((h.block q (blk_lt hL2)).trans hL2) (by omega) hz6
          have HSL := Go.Lib.hid hsl
          clear hsl
          go_wp2_with fail
          go_quiet ((go_at_call 47; exact Calls.quiet_of_same ((HSL.out _ (below_drewN0 _ _)).mono fun e w' h => ⟨h.1, h.2.symm⟩)))
          by_cases hck : L.size - 1 < L.used + (ps.length + 2) + 1
          · have hE5 : Hid (r = if (checkpointS L D).err = 0 then commitL (checkpointS L D).log (checkpointS L D).disk ps else checkpointS L D) := by show _ = _; rw [hE4.out]; unfold commitC; rw [if_pos hck]
            have hLd : LogAt (w2.drewN nq) q p L := hL2
            have hDd : DiskAt (w2.drewN nq) S p D := hD2
            have hTd : Tab (w2.drewN nq) := hT2.kept rfl
            have hcp := Checkpoint_any (w2.drewN nq) hLd hDd ok (by omega) hqS h0 hq0 hTd
            have hf1 := checkpointS_facts L D hlok
            have hf2 := checkpointS_disk L ok (by omega)
            obtain ⟨⟨L3, D3, e3⟩, hc3⟩ : ∃ c3, c3 = checkpointS L D := ⟨_, rfl⟩
            rw [← hc3] at hcp hf1 hf2 hE5
            simp only at hf1 hf2 hE5
            obtain ⟨hlok3, hlb3, hls3⟩ := hf1
            obtain ⟨hok3, hca3, hse3⟩ := hf2
            clear hE4
            go_wp2_with fail
            refine hcp.mono ?_
            rintro e w3 ⟨S3, rfl, hD3, hL3, hU3', hS3', hq3⟩
            clear hcp
            have hUd : Upd [] w1 (w2.drewN nq) := (Upd.of_below hb2).trans (Upd.of_below (S := []) (below_drewN0 w2 nq)) (by simp)
            have hU3 : Upd (q :: S) w1 w3 := (hUd.mono (by simp)).trans hU3' (fun k hk => .inl hk)
            have hS3 : Sub S S3 w1 := fun k hk => by
              rcases hS3' k hk with h | h
              · exact .inl h
              · have := hUd.size; exact .inr (by omega)
            by_cases hz : e3 = 0
            · subst hz
              have hE : Hid (r = commitL L3 D3 ps) := by show _ = _; rw [hE5.out, if_pos (by first | trivial | rfl)]
              have hB3 : w3.heap[w.heap.size]? = some (.cells #[.pointer (some ⟨q, 0, none⟩)] 33 (0, 0)) := hU3.get hB1 (by simp; exact ⟨fun e => hqB e.symm, hBS⟩)
              have hP3 : PutsR w3 S3 (.slice A ps.length c) ps := by
                obtain ⟨A', c', e1, e2, e3⟩ := hP1
                refine ⟨A', c', e1, e2, fun hn => ?_⟩
                obtain ⟨g, cur, hA, hg, hb, hc⟩ := e3 hn
                have hgq : g ≠ q := fun e => by subst e; exact ne_of_ty hb hL1 (by decide) rfl
                refine ⟨g, cur, hA, hS3.not hg (blk_lt hb), hU3.get hb (by simp; exact ⟨hgq, hg⟩), hc⟩
              have hT3 : Tab w3 := hT1.kept (hU3.block 0 hT1.lt (by simp; exact ⟨fun e => hq0 e.symm, h0⟩))
              have h03 : (0 : Nat) ∉ S3 := hS3.not h0 hT1.lt
              have hBS3 : w.heap.size ∉ S3 := hS3.not hBS (by omega)
              have hca3' : D3.cache.length ≤ 900000000001 := by omega
              clear hlb3 hls3 hE5 hU3' hS3' hca3 hUd hLd hDd hTd hc3 hB2 hP2 hL2 hD2 hT2 cB2 cU2 hse3
              have hz30 := hU3.size
              have hz3q := blk_lt hL3
              have hz3B := blk_lt hB3
              obtain ⟨A', c', hAe, hPc3, hPA3⟩ := hP3
              injection hAe with hAe1 _ hAe2
              subst hAe1 hAe2
              have HPA := Go.Lib.hid hPA3
              clear hPA3
              go_wp2_with fail
              go_loopw [9, 10, 56] (fun av rv iv wr => ∃ j : Nat, j ≤ ps.length ∧ iv = .int .i64 j ∧ wr.ownsRow w3.heap.size 3 1 av j (((ps.take j).map (·.1)).map (Value.int .i64)) ∧ wr.ownsRow w3.heap.size 40 2 rv j (putCells2 (rowsOf L3 (ps.take j))) ∧ Below w3.heap.size w3 wr) (fun _ _ iv _ => ps.length - (intOf iv).toNat)
              case atStart => exact ⟨0, Nat.zero_le _, rfl, World.ownsRow_nil _ _ _ _, World.ownsRow_nil _ _ _ _, Below.refl _ _⟩
              case round =>
                obtain ⟨j, hj, rfl, hav, hrv, hBr⟩ := hrel
                obtain ⟨A1, c1, rfl⟩ := own_slice hav
                obtain ⟨A2, c2, rfl⟩ := own_slice hrv
                have hzr := hBr.size
                by_cases hlt : j < ps.length
                · obtain ⟨g, cur, rfl, hgS, hg, hcur⟩ := HPA.out (by omega)
                  have hgl := blk_lt hg
                  have hgr := (hBr.block g hgl).trans hg
                  obtain ⟨⟨xa, xs⟩, hx⟩ : ∃ x, x = ps[j] := ⟨_, rfl⟩
                  have q0 : wr.cell? ⟨g, j * 2, none⟩ = some (.int .i64 xa) := by
                    rw [blk_cell hgr, hcur _ (by rw [putCells2_length]; omega), (putCells2_get _ j hlt).1, ← hx]
                  have q1 : wr.cell? ⟨g, j * 2 + 1, none⟩ = some (.string ⟨xs.toArray⟩) := by
                    rw [blk_cell hgr, hcur _ (by rw [putCells2_length]; omega), (putCells2_get _ j hlt).2, ← hx]
                    rfl
                  have htk : ps.take (j + 1) = ps.take j ++ [(xa, xs)] := by rw [List.take_succ_eq_append_getElem hlt, ← hx]
                  have HTK := Go.Lib.hid htk
                  have htl : (ps.take j).length = j := by simp; omega
                  obtain ⟨zs, hzs⟩ : ∃ zs, zs = ps.take j := ⟨_, rfl⟩
                  rw [← hzs] at hav hrv htl HTK
                  obtain ⟨ys, hys⟩ : ∃ ys, ys = zs.map (·.1) := ⟨_, rfl⟩
                  rw [← hys] at hav
                  have HYS := Go.Lib.hid hys
                  clear hys
                  clear hgr hgl hg hcur hx htk hzs
                  obtain ⟨W1, hW1⟩ : ∃ W1, W1 = wr.alloc (.cells #[.int .i64 xa, .string ⟨xs.toArray⟩] 40) := ⟨_, rfl⟩
                  have kv0 : W1.cell? ⟨wr.heap.size, 0, none⟩ = some (.int .i64 xa) := by rw [hW1]; exact blk_cell (blk_new wr _) 0
                  have kvb : W1.heap[wr.heap.size]? = some (.cells #[.int .i64 xa, .string ⟨xs.toArray⟩] 40 (0, 0)) := by rw [hW1]; exact blk_new wr _
                  have hBW1 : Below w3.heap.size w3 W1 := by rw [hW1]; exact hBr.alloc hzr _
                  have havW1 : W1.ownsRow w3.heap.size 3 1 (.slice A1 j c1) j (ys.map (Value.int .i64)) := by rw [hW1]; exact hav.alloc _
                  have hrvW1 : W1.ownsRow w3.heap.size 40 2 (.slice A2 j c2) j (putCells2 (rowsOf L3 zs)) := by rw [hW1]; exact hrv.alloc _
                  have hzW1 : W1.heap.size = wr.heap.size + 1 := by rw [hW1]; simp
                  obtain ⟨W2, hW2⟩ : ∃ W2, W2 = W1.alloc (.cells #[.int .i64 xa] 3) := ⟨_, rfl⟩
                  have hn1 : ∀ i u, [Value.int .i64 xa][i]? = some u → W2.cell? ((⟨W1.heap.size, 0, none⟩ : Addr).add i) = some u := by
                    intro i u hi
                    rw [hW2]
                    match i, hi with
                    | 0, hi => simp at hi; subst hi; simp [Addr.add]
                  rw [hzW1] at hn1
                  have hBW2 : Below w3.heap.size w3 W2 := by rw [hW2]; exact hBW1.alloc hBW1.size _
                  have havW2 : W2.ownsRow w3.heap.size 3 1 (.slice A1 j c1) j (ys.map (Value.int .i64)) := by rw [hW2]; exact havW1.alloc _
                  have hrvW2 : W2.ownsRow w3.heap.size 40 2 (.slice A2 j c2) j (putCells2 (rowsOf L3 zs)) := by rw [hW2]; exact hrvW1.alloc _
                  have kvb2 : W2.heap[wr.heap.size]? = some (.cells #[.int .i64 xa, .string ⟨xs.toArray⟩] 40 (0, 0)) := by rw [hW2]; exact blk_alloc kvb _
                  have hWW : Hid (W2 = ((wr.alloc (.cells #[.int .i64 xa, .string ⟨xs.toArray⟩] 40)).alloc (.cells #[.int .i64 xa] 3))) := by show _ = _; rw [hW2, hW1]
                  clear hW1 hW2 havW1 hrvW1 hav hrv kv0 kvb hBW1
                  go_wp2_with (at_builtin; rw [← hWW.out]; refine wpList_append_S rfl _ _ 23 rfl w3.heap.size 3 _ 1 8 Tryd.underlying23 info_int rfl (by decide) (.slice A1 j c1) _ _ rfl havW2 ⟨wr.heap.size + 1, 0, none⟩ 1 1 [.int .i64 xa] rfl rfl hn1 ?c2 ?c3 ?c4 hBW2.size ?_)
                  case c2 => intro u hu; simp at hu; subst hu; rfl
                  case c3 => unfold maxLen; omega
                  case c4 => omega
                  intro av' w5 hav5 hg5 hf5
                  have hne5 : ∀ {b : Nat} {cs : Array Value} {t : TypeId}, W2.heap[b]? = some (.cells cs t (0, 0)) → t ≠ 3 → w5.heap[b]? = W2.heap[b]? := fun {b cs t} hb ht => hg5.block b (blk_lt hb) (fun e => by
                    obtain ⟨cs2, hcs⟩ := own_ty havW2 e.symm
                    exact ne_of_ty hb hcs ht rfl)
                  have hrv5 : w5.ownsRow w3.heap.size 40 2 (.slice A2 j c2) j (putCells2 (rowsOf L3 zs)) := own_same hrvW2 (fun b hb => by
                    obtain ⟨cs, hcs⟩ := own_ty hrvW2 hb
                    exact hne5 hcs (by decide))
                  have kvb5 := (hne5 kvb2 (by decide)).trans kvb2
                  have kv5 : w5.cell? ⟨wr.heap.size, 1, none⟩ = some (.string ⟨xs.toArray⟩) := blk_cell kvb5 1
                  have hB5 : Below w3.heap.size w3 w5 := hBW2.trans ((upd_of_grown (S := blk1 (.slice A1 j c1)) hg5 (fun k hk => mem_blk1.2 hk)).below hBW2.size (fun k hk => (havW2.lt k (mem_blk1.1 hk)).1))
                  obtain ⟨A3, c3, rfl⟩ := own_slice hav5
                  have hL5 : LogAt w5 q p L3 := (hB5.block q hz3q).trans hL3
                  have hBk5 := (hB5.block _ hz3B).trans hB3
                  have hcl := Commit1_any w.heap.size (1 + j) ⟨xs.toArray⟩ w5 hL5 hBk5 hlok3.b0 hlok3.b1 hlok3.z0 hlok3.z1 hlok3.p0 (by have := hlok3.p1; have := hlok3.z1; omega) (by omega) (by omega)
                  obtain ⟨sl, hsl⟩ : ∃ sl, sl = slotAt L3 (1 + j) := ⟨_, rfl⟩
                  rw [← hsl] at hcl
                  have HSLT := Go.Lib.hid hsl
                  clear hne5 hg5 hf5 hrvW2 hn1 hWW hBW2 havW2 kvb2 hsl
                  go_wp2_with fail
                  refine hcl.mono ?_
                  rintro e w6 ⟨rfl, hb6⟩
                  clear hcl
                  have hB6 := below_next hB5 hb6
                  have hrv6 := own_same hrv5 (fun b hb => hb6.block b (hrv5.lt b hb).2)
                  have hav6 := own_same hav5 (fun b hb => hb6.block b (hav5.lt b hb).2)
                  obtain ⟨W7, hW7⟩ : ∃ W7, W7 = w6.alloc (.cells #[.int .i64 sl, .string ⟨xs.toArray⟩] 40) := ⟨_, rfl⟩
                  have hn7 : ∀ i u, [Value.int .i64 sl, .string ⟨xs.toArray⟩][i]? = some u → W7.cell? ((⟨w6.heap.size, 0, none⟩ : Addr).add i) = some u := by
                    intro i u hi
                    rw [hW7]
                    match i, hi with
                    | 0, hi => simp at hi; subst hi; simp [Addr.add]
                    | 1, hi => simp at hi; subst hi; simp [Addr.add]
                  have hBW7 : Below w3.heap.size w3 W7 := by rw [hW7]; exact hB6.alloc hB6.size _
                  have hrvW7 : W7.ownsRow w3.heap.size 40 2 (.slice A2 j c2) j (putCells2 (rowsOf L3 zs)) := by rw [hW7]; exact hrv6.alloc _
                  have havW7 : W7.ownsRow w3.heap.size 3 1 (.slice A3 (j + 1) c3) (j + 1) (ys.map (Value.int .i64) ++ [.int .i64 xa]) := by rw [hW7]; exact hav6.alloc _
                  have HW7 := Go.Lib.hid hW7
                  clear hW7 hrv5 hav5 hrv6 hav6 kvb5 kv5 hL5 hBk5
                  go_wp2_with (at_builtin; rw [← HW7.out]; refine wpList_append_S rfl _ _ 41 rfl w3.heap.size 40 _ 2 24 Tryd.underlying41 info_put rfl (by decide) (.slice A2 j c2) _ _ rfl hrvW7 ⟨w6.heap.size, 0, none⟩ 1 1 [.int .i64 sl, .string ⟨xs.toArray⟩] rfl rfl hn7 ?c2 ?c3 ?c4 hBW7.size ?_)
                  case c2 => intro u hu; simp at hu; rcases hu with rfl | rfl <;> rfl
                  case c3 => unfold maxLen; omega
                  case c4 => omega
                  intro rv' w8 hrv8 hg8 hf8
                  have hne8 : ∀ {b : Nat} {cs : Array Value} {t : TypeId}, W7.heap[b]? = some (.cells cs t (0, 0)) → t ≠ 40 → w8.heap[b]? = W7.heap[b]? := fun {b cs t} hb ht => hg8.block b (blk_lt hb) (fun e => by
                    obtain ⟨cs2, hcs⟩ := own_ty hrvW7 e.symm
                    exact ne_of_ty hb hcs ht rfl)
                  have hav8 : w8.ownsRow w3.heap.size 3 1 (.slice A3 (j + 1) c3) (j + 1) (ys.map (Value.int .i64) ++ [.int .i64 xa]) := own_same havW7 (fun b hb => by
                    obtain ⟨cs, hcs⟩ := own_ty havW7 hb
                    exact hne8 hcs (by decide))
                  have hB8 : Below w3.heap.size w3 w8 := hBW7.trans ((upd_of_grown (S := blk1 (.slice A2 j c2)) hg8 (fun k hk => mem_blk1.2 hk)).below hBW7.size (fun k hk => (hrvW7.lt k (mem_blk1.1 hk)).1))
                  obtain ⟨A4, c4, rfl⟩ := own_slice hrv8
                  clear hne8 hg8 hf8 hrvW7 hn7 HW7 hBW7 havW7
                  go_wp2_with fail
                  go_roundw
                  case rel =>
                    refine ⟨j + 1, by omega, by go_num, ?_, ?_, hB8⟩
                    · rw [HTK.out, List.map_append, ← HYS.out]; simpa using hav8
                    · rw [HTK.out, rowsOf_snoc, putCells2_append, htl, ← HSLT.out]
                      exact hrv8
                  case measure => simp [intOf]; omega
                · obtain rfl : j = ps.length := by omega
                  rw [List.take_of_length_le (Nat.le_refl _)] at hav hrv
                  have hT9 : Tab wr := hT3.below hBr
                  have hL9 : LogAt wr q p L3 := (hBr.block q hz3q).trans hL3
                  have hB9 := (hBr.block _ hz3B).trans hB3
                  have c49 : wr.cell? ⟨q, 4, none⟩ = some (.int .i64 L3.seq) := blk_cell hL9 4
                  have cB9 : wr.cell? ⟨w.heap.size, 0, none⟩ = some (.pointer (some ⟨q, 0, none⟩)) := blk_cell hB9 0
                  obtain ⟨hAR, hAc⟩ := own_reads hav
                  obtain ⟨is, his⟩ : ∃ is, is = ps.map (·.1) := ⟨_, rfl⟩
                  rw [← his] at hAR hav
                  have hil : is.length = ps.length := by rw [his]; simp
                  have HIS := Go.Lib.hid his
                  have hFirst := First_any L3.seq A1 c1 is wr hT9 hAR (by omega) (by omega)
                  rw [hil] at hFirst
                  obtain ⟨fb, hfb⟩ : ∃ fb, fb = firstB L3.seq is := ⟨_, rfl⟩
                  rw [← hfb] at hFirst
                  have HFB := Go.Lib.hid hfb
                  clear his hav hAR hfb
                  go_wp2_with fail
                  refine hFirst.mono ?_
                  rintro e w10 ⟨rfl, hb10⟩
                  clear hFirst
                  have hB10 := below_next hBr hb10
                  have hL10 : LogAt w10 q p L3 := (hB10.block q hz3q).trans hL3
                  have hBk10 := (hB10.block _ hz3B).trans hB3
                  have hcl := Commit1_any w.heap.size 0 ⟨fb.toArray⟩ w10 hL10 hBk10 hlok3.b0 hlok3.b1 hlok3.z0 hlok3.z1 hlok3.p0 (by have := hlok3.p1; have := hlok3.z1; omega) (by omega) (by omega)
                  obtain ⟨sl, hsl⟩ : ∃ sl, sl = slotAt L3 0 := ⟨_, rfl⟩
                  rw [← hsl] at hcl
                  have HSL0 := Go.Lib.hid hsl
                  clear hsl
                  go_wp2_with fail
                  refine hcl.mono ?_
                  rintro e w11 ⟨rfl, hb11⟩
                  clear hcl
                  have hB11 := below_next hB10 hb11
                  have hrv11 := own_same hrv (fun b hb => (hb11.block b (Nat.lt_of_lt_of_le (hrv.lt b hb).2 hb10.size)).trans (hb10.block b (hrv.lt b hb).2))
                  obtain ⟨W12, hW12⟩ : ∃ W12, W12 = w11.alloc (.cells #[.int .i64 sl, .string ⟨fb.toArray⟩] 40) := ⟨_, rfl⟩
                  have hBW12 : Below w3.heap.size w3 W12 := by rw [hW12]; exact hB11.alloc hB11.size _
                  have hrvW : W12.ownsRow w3.heap.size 40 2 (.slice A2 ps.length c2) ps.length (putCells2 (rowsOf L3 ps)) := by rw [hW12]; exact hrv11.alloc _
                  have hone : W12.ownsRow w3.heap.size 40 2 (.slice (some ⟨w11.heap.size, 0, none⟩) 1 1) 1 [.int .i64 sl, .string ⟨fb.toArray⟩] := by
                    rw [hW12]
                    exact ⟨rfl, .inr ⟨w11.heap.size, 1, _, rfl, hB11.size, blk_new w11 _, Nat.le_refl _, by unfold maxLen; omega, rfl, rfl⟩⟩
                  obtain ⟨gr, cr, hAr, hgr, hcr⟩ := own_head hrvW hn1
                  subst hAr
                  have hnews : ∀ i u, (putCells2 (rowsOf L3 ps))[i]? = some u → W12.cell? ((⟨gr, 0, none⟩ : Addr).add i) = some u := by
                    intro i u hi
                    have hil2 : i < (putCells2 (rowsOf L3 ps)).length := by
                      rcases Nat.lt_or_ge i (putCells2 (rowsOf L3 ps)).length with h | h
                      · exact h
                      · rw [List.getElem?_eq_none h] at hi; cases hi
                    have : W12.cell? ⟨gr, 0 + i, none⟩ = some u := by rw [Nat.zero_add, blk_cell hgr, hcr i hil2, hi]
                    simp only [Addr.add]
                    split
                    · rename_i h0; subst h0; exact this
                    · simpa using this
                  have hpcl : (putCells2 (rowsOf L3 ps)).length = ps.length * 2 := by rw [putCells2_length, rowsOf_length]
                  have HW12 := Go.Lib.hid hW12
                  have hrc : ps.length ≤ c2 := (own_reads hrv).2
                  clear hW12 hrv hrv11 hcr hgr
                  go_wp2_with (at_builtin; rw [← HW12.out]; refine wpList_append_S rfl _ _ 41 rfl w3.heap.size 40 _ 2 24 Tryd.underlying41 info_put rfl (by decide) (.slice (some ⟨w11.heap.size, 0, none⟩) 1 1) _ _ rfl hone ⟨gr, 0, none⟩ ps.length c2 (putCells2 (rowsOf L3 ps)) rfl hpcl hnews ?c2 ?c3 ?c4 hBW12.size ?_)
                  case c2 => exact putCells2_one _
                  case c3 => unfold maxLen; omega
                  case c4 => omega
                  intro tv w13 htv hg13 hf13
                  have hB13 : Below w3.heap.size w3 w13 := hBW12.trans ((upd_of_grown (S := blk1 (.slice (some ⟨w11.heap.size, 0, none⟩) 1 1)) hg13 (fun k hk => mem_blk1.2 hk)).below hBW12.size (fun k hk => (hone.lt k (mem_blk1.1 hk)).1))
                  have hxs : Value.int .i64 sl :: .string ⟨fb.toArray⟩ :: putCells2 (rowsOf L3 ps) = putCells2 (txnRows L3 ps) := by
                    unfold txnRows
                    rw [← HIS.out, ← HFB.out, ← HSL0.out]
                    simp [putCells2, sv]
                  rw [hxs] at htv
                  have hxl : (txnRows L3 ps).length = 1 + ps.length := by unfold txnRows; rw [List.length_cons, rowsOf_length]; omega
                  rw [← hxl] at htv
                  obtain ⟨tx, htx⟩ : ∃ tx, tx = txnRows L3 ps := ⟨_, rfl⟩
                  rw [← htx] at htv hxl
                  have hS3lt := hD3.ltS
                  have hPtx : ∀ {v : Value}, w13.ownsRow w3.heap.size 40 2 v tx.length (putCells2 tx) → PutsR w13 S3 v tx := fun {v} ho => PutsR.of_own ho (fun k hk hm => by
                    have h1 := (ho.lt k hk).1
                    have h2 := hS3lt k hm
                    omega)
                  have hPtx13 := hPtx htv
                  have HTX := Go.Lib.hid htx
                  have HXL := Go.Lib.hid hxl
                  clear hPtx hS3lt htx hxl
                  clear hxs hg13 hf13 hone hrvW hnews HW12 hBW12
                  obtain ⟨At, ct, rfl⟩ := own_slice htv
                  have HTV := Go.Lib.hid htv
                  have HPTX := Go.Lib.hid hPtx13
                  clear hPtx13
                  have hrm60 : ps.length ≤ 60 := by omega
                  clear htv hL9 hB9 c49 cB9 hL10 hBk10
                  have hL13 : LogAt w13 q p L3 := (hB13.block q hz3q).trans hL3
                  have hBk13 := (hB13.block _ hz3B).trans hB3
                  have hD13 := hD3.below hB13
                  have hq13 := blk_lt hL13
                  have hzB13 := blk_lt hBk13
                  have hT13 : Tab w13 := hT3.below hB13
                  have hL13d : LogAt w13.drew q p L3 := hL13
                  have hBk13d : w13.drew.heap[w.heap.size]? = some (.cells #[.pointer (some ⟨q, 0, none⟩)] 33 (0, 0)) := hBk13
                  have hN13 : Below w13.heap.size w13 w13.drew := below_drewN0 w13 1
                  have hp3 : L3.place ≤ 65536 := by have := hlok3.p1; have := hlok3.z1; omega
                  have hszb : ∀ x ∈ blanks L3 ps.length, x.2.length ≤ 1099511627776 := by
                    intro x hx
                    simp only [blanks, List.mem_cons, List.not_mem_nil, or_false] at hx
                    rcases hx with rfl | rfl <;> simp [zeros]
                  have hroomb : D3.cache.length + (blanks L3 ps.length).length ≤ 1099511627776 := by simp [blanks]; omega
                  have hwn : IntKind.i64.wrap ((ps.length : Int) + 2 - 1) = ps.length + 1 := by rw [IntKind.wrap_i64]; omega
                  go_wp2_with fail
                  go_region_held3 (fun w' => w'.cell? ⟨w.heap.size, 0, none⟩ = some (.pointer (some ⟨q, 0, none⟩)) ∧ w'.cell? ⟨q, 0, none⟩ = some (.pointer (some ⟨p, 0, none⟩)) ∧ w'.cell? ⟨q, 4, none⟩ = some (.int .i64 L3.seq)) (first | exact log2 hL13d hBk13d | exact log2 ((Below.block ‹Below w13.heap.size w13 _› q hq13).trans hL13) ((Below.block ‹Below w13.heap.size w13 _› _ hzB13).trans hBk13) | exact log2 (blk_alloc ((Below.block ‹Below w13.heap.size w13 _› q hq13).trans hL13) _) (blk_alloc ((Below.block ‹Below w13.heap.size w13 _› _ hzB13).trans hBk13) _) | exact log2 (hU14.get hL13 hq3) (hU14.get hBk13 hBS3)) (first | (go_at_call 42; refine (blank_any _).mono ?_; rintro e w' ⟨rfl, hb⟩; have hbb := Below.next ‹Below w13.heap.size w13 _› hb) | (go_at_call 50; refine (Commit1_any w.heap.size _ _ _ ((Below.block ‹Below w13.heap.size w13 _› q hq13).trans hL13) ((Below.block ‹Below w13.heap.size w13 _› _ hzB13).trans hBk13) hlok3.b0 hlok3.b1 hlok3.z0 hlok3.z1 hlok3.p0 hp3 (by omega) (by omega)).mono ?_; rintro e w' ⟨rfl, hb⟩; have hbb := Below.next ‹Below w13.heap.size w13 _› hb) | (go_at_call 41; refine (write_new _ true (blanks L3 ps.length) _ 2 rfl rfl (by omega) (hD13.below ‹Below w13.heap.size w13 _›) hok3 hroomb hszb).mono ?_; rintro e w14 hret; have hr14 := hret.from (Upd.of_below ‹Below w13.heap.size w13 _›); clear hret; obtain ⟨S14, rfl, hD14, hU14, hS14⟩ := hr14))
                  have hL14 : LogAt w14 q p L3 := hU14.get hL13 hq3
                  have hBk14 := hU14.get hBk13 hBS3
                  have hq14 : q ∉ S14 := hS14.not hq3 hq13
                  have hBS14 : w.heap.size ∉ S14 := hS14.not hBS3 hzB13
                  have hT14 : Tab w14 := hT13.kept (hU14.block 0 hT13.lt h03)
                  have h014 : (0 : Nat) ∉ S14 := hS14.not h03 hT13.lt
                  have cB14 : w14.cell? ⟨w.heap.size, 0, none⟩ = some (.pointer (some ⟨q, 0, none⟩)) := blk_cell hBk14 0
                  have c014 : w14.cell? ⟨q, 0, none⟩ = some (.pointer (some ⟨p, 0, none⟩)) := blk_cell hL14 0
                  have hz13 := hB13.size
                  have hz14 := hU14.size
                  have hPps14 : PutsR w14 S14 (.slice A ps.length c) ps := (PutsR.upd (S := S3) ⟨A, c, rfl, hPc3, HPA.out⟩ (Upd.of_below hB13) (Sub.refl _ _)).upd hU14 hS14
                  have hPtx14 : PutsR w14 S14 (.slice At tx.length ct) tx := HPTX.out.upd hU14 hS14
                  have hU13f : Upd (q :: S) w1 w13 := hU3.trans (Upd.of_below (S := []) hB13) (by simp)
                  have hU14f : Upd (q :: S) w1 w14 := hU13f.trans hU14 (fun k hk => by rcases hS3 k hk with h | h; exact .inl (by simp [h]); exact .inr h)
                  have hS14f : Sub S S14 w1 := hS3.trans hS14 (by omega)
                  have hok14 := hok3.writeF true (blanks L3 ps.length) hroomb
                  have hca14 := DiskS.writeF_cache D3 true (blanks L3 ps.length)
                  obtain ⟨D14, hD14'⟩ : ∃ D14, D14 = (D3.writeF true (blanks L3 ps.length)).1 := ⟨_, rfl⟩
                  obtain ⟨e14, he14⟩ : ∃ e14, e14 = (D3.writeF true (blanks L3 ps.length)).2 := ⟨_, rfl⟩
                  rw [← hD14'] at hD14 hok14 hca14
                  rw [← he14]
                  have hE14 : Hid (r = if e14 = 0 then commit1 L3 D14 ps else ⟨triedS L3 e14, D14, e14⟩) := by show _ = _; rw [hE.out]; unfold commitL; rw [← he14, ← hD14']
                  have hca14' : D14.cache.length ≤ 900000000003 := by simp [blanks] at hca14; omega
                  clear he14 hD14' hE hszb hroomb hca14 hca3' hN13 hL13d hBk13d hD13 hT13
                  by_cases hz0 : e14 = 0
                  · subst hz0
                    have hE15a : Hid (r = commit1 L3 D14 ps) := by show _ = _; rw [hE14.out, if_pos (by first | trivial | rfl)]
                    have hsztx : ∀ x ∈ tx, x.2.length ≤ 1099511627776 := by
                      intro x hx
                      rw [HTX.out] at hx
                      unfold txnRows at hx
                      rcases List.mem_cons.1 hx with rfl | hx
                      · have := firstB_len L3.seq (ps.map (·.1)); dsimp only; omega
                      · unfold rowsOf at hx
                        rw [List.mem_mapIdx] at hx
                        obtain ⟨i, hi, rfl⟩ := hx
                        exact HS.out ps[i] (List.getElem_mem _)
                    have htxl : tx.length ≤ 61 := by have := HXL.out; omega
                    have hwr15 := write_any w14 true tx hD14 hok14 hPtx14 (by omega) hsztx
                    have hok15 := hok14.writeF true tx (by omega)
                    have hca15 := DiskS.writeF_cache D14 true tx
                    obtain ⟨D15, hD15'⟩ : ∃ D15, D15 = (D14.writeF true tx).1 := ⟨_, rfl⟩
                    obtain ⟨e15, he15⟩ : ∃ e15, e15 = (D14.writeF true tx).2 := ⟨_, rfl⟩
                    rw [← hD15', ← he15] at hwr15
                    rw [← hD15'] at hok15 hca15
                    have hE15 : Hid (r = if e15 = 0 then commit2 L3 D15 ps else ⟨triedS L3 e15, D15, e15⟩) := by show _ = _; rw [hE15a.out]; unfold commit1; rw [← HTX.out, ← he15, ← hD15']
                    have hca15' : D15.cache.length ≤ 900000000100 := by omega
                    clear he15 hD15' hE15a hsztx hca15 hE14
                    go_wp2_with fail
                    refine hwr15.mono ?_
                    rintro e w15 ⟨S15, rfl, hD15, hU15, hS15⟩
                    clear hwr15
                    have hL15 : LogAt w15 q p L3 := hU15.get hL14 hq14
                    have hBk15 := hU15.get hBk14 hBS14
                    have cB15 : w15.cell? ⟨w.heap.size, 0, none⟩ = some (.pointer (some ⟨q, 0, none⟩)) := blk_cell hBk15 0
                    have c015 : w15.cell? ⟨q, 0, none⟩ = some (.pointer (some ⟨p, 0, none⟩)) := blk_cell hL15 0
                    have hq15s : q ∉ S15 := hS15.not hq14 (blk_lt hL14)
                    have hBS15 : w.heap.size ∉ S15 := hS15.not hBS14 (blk_lt hBk14)
                    have hT15 : Tab w15 := hT14.kept (hU15.block 0 hT14.lt h014)
                    have h015 : (0 : Nat) ∉ S15 := hS15.not h014 hT14.lt
                    have hz15 := hU15.size
                    have hPps15 := hPps14.upd hU15 hS15
                    have hU15f : Upd (q :: S) w1 w15 := hU14f.trans hU15 (fun k hk => by rcases hS14f k hk with h | h; exact .inl (by simp [h]); exact .inr h)
                    have hS15f : Sub S S15 w1 := hS14f.trans hS15 (by omega)
                    by_cases hz1' : e15 = 0
                    · subst hz1'
                      have hE16a : Hid (r = commit2 L3 D15 ps) := by show _ = _; rw [hE15.out, if_pos (by first | trivial | rfl)]
                      have hq15 := blk_lt hL15
                      have hzB15 := blk_lt hBk15
                      have hL15d : LogAt w15.drew q p L3 := hL15
                      have hBk15d : w15.drew.heap[w.heap.size]? = some (.cells #[.pointer (some ⟨q, 0, none⟩)] 33 (0, 0)) := hBk15
                      have hN15 : Below w15.heap.size w15 w15.drew := below_drewN0 w15 1
                      have hszl : ∀ x ∈ lastRow L3 ps.length, x.2.length ≤ 1099511627776 := by
                        intro x hx
                        simp only [lastRow, List.mem_cons, List.not_mem_nil, or_false] at hx
                        subst hx
                        have := lastB_len L3.seq ps.length
                        dsimp only; omega
                      have hrooml : D15.cache.length + (lastRow L3 ps.length).length ≤ 1099511627776 := by simp [lastRow]; omega
                      clear hE15
                      go_wp2_with fail
                      go_region_held3 (fun w' => w'.cell? ⟨w.heap.size, 0, none⟩ = some (.pointer (some ⟨q, 0, none⟩)) ∧ w'.cell? ⟨q, 0, none⟩ = some (.pointer (some ⟨p, 0, none⟩)) ∧ w'.cell? ⟨q, 4, none⟩ = some (.int .i64 L3.seq)) (first | exact log2 hL15d hBk15d | exact log2 ((Below.block ‹Below w15.heap.size w15 _› q hq15).trans hL15) ((Below.block ‹Below w15.heap.size w15 _› _ hzB15).trans hBk15) | exact log2 (blk_alloc ((Below.block ‹Below w15.heap.size w15 _› q hq15).trans hL15) _) (blk_alloc ((Below.block ‹Below w15.heap.size w15 _› _ hzB15).trans hBk15) _) | exact log2 (hU16.get hL15 hq15s) (hU16.get hBk15 hBS15)) (first | (go_at_call 14; refine (Last_any _ _ _ (hT15.below ‹Below w15.heap.size w15 _›)).mono ?_; rintro e w' ⟨rfl, hb⟩; have hbb := Below.next ‹Below w15.heap.size w15 _› hb) | (go_at_call 50; refine (Commit1_any w.heap.size _ _ _ ((Below.block ‹Below w15.heap.size w15 _› q hq15).trans hL15) ((Below.block ‹Below w15.heap.size w15 _› _ hzB15).trans hBk15) hlok3.b0 hlok3.b1 hlok3.z0 hlok3.z1 hlok3.p0 hp3 (by omega) (by omega)).mono ?_; rintro e w' ⟨rfl, hb⟩; have hbb := Below.next ‹Below w15.heap.size w15 _› hb) | (go_at_call 41; refine (write_new _ true (lastRow L3 ps.length) _ 1 rfl rfl (by omega) (hD15.below ‹Below w15.heap.size w15 _›) hok15 hrooml hszl).mono ?_; rintro e w16 hret; have hr16 := hret.from (Upd.of_below ‹Below w15.heap.size w15 _›); clear hret; obtain ⟨S16, rfl, hD16, hU16, hS16⟩ := hr16))
                      have hL16 : LogAt w16 q p L3 := hU16.get hL15 hq15s
                      have hBk16 := hU16.get hBk15 hBS15
                      have hq16s : q ∉ S16 := hS16.not hq15s hq15
                      have hBS16 : w.heap.size ∉ S16 := hS16.not hBS15 hzB15
                      have cB16 : w16.cell? ⟨w.heap.size, 0, none⟩ = some (.pointer (some ⟨q, 0, none⟩)) := blk_cell hBk16 0
                      have c016 : w16.cell? ⟨q, 0, none⟩ = some (.pointer (some ⟨p, 0, none⟩)) := blk_cell hL16 0
                      have c316 : w16.cell? ⟨q, 3, none⟩ = some (.int .i64 L3.place) := blk_cell hL16 3
                      have c416 : w16.cell? ⟨q, 4, none⟩ = some (.int .i64 L3.seq) := blk_cell hL16 4
                      have c516 : w16.cell? ⟨q, 5, none⟩ = some (.int .i64 L3.used) := blk_cell hL16 5
                      have f316 := blk_free hL16 3
                      have f416 := blk_free hL16 4
                      have f516 := blk_free hL16 5
                      have hPps16 := hPps15.upd hU16 hS16
                      have hU16f : Upd (q :: S) w1 w16 := hU15f.trans hU16 (fun k hk => by rcases hS15f k hk with h | h; exact .inl (by simp [h]); exact .inr h)
                      have hS16f : Sub S S16 w1 := hS15f.trans hS16 (by omega)
                      have hok16 := hok15.writeF true (lastRow L3 ps.length) hrooml
                      have hca16 := DiskS.writeF_cache D15 true (lastRow L3 ps.length)
                      obtain ⟨D16, hD16'⟩ : ∃ D16, D16 = (D15.writeF true (lastRow L3 ps.length)).1 := ⟨_, rfl⟩
                      obtain ⟨e16, he16⟩ : ∃ e16, e16 = (D15.writeF true (lastRow L3 ps.length)).2 := ⟨_, rfl⟩
                      rw [← hD16'] at hD16 hok16 hca16
                      rw [← he16]
                      have hE16 : Hid (r = if e16 = 0 then commit3 L3 D16 ps else ⟨triedS L3 e16, D16, e16⟩) := by show _ = _; rw [hE16a.out]; unfold commit2; rw [← he16, ← hD16']
                      have hca16' : D16.cache.length ≤ 900000000101 := by simp [lastRow] at hca16; omega
                      clear he16 hD16' hE16a hszl hrooml hca16 hca15' hN15 hL15d hBk15d
                      by_cases hz6' : e16 = 0
                      · subst hz6'
                        have hE17 : Hid (r = commit3 L3 D16 ps) := by show _ = _; rw [hE16.out, if_pos (by first | trivial | rfl)]
                        have hu30 := hlok3.u0
                        have hu31 := hlok3.u1
                        have hs30 := hlok3.s0
                        have hs31 := hlok3.s1
                        have hz40 := hlok3.z0
                        have hz41 := hlok3.z1
                        have hp30 := hlok3.p0
                        have hsld := (slots_any w16.drew hL16 (by omega) hz41).mono (R' := fun e w' => e = .returned (.int .i64 (L3.size - 1)) ∧ w' = w16.drew) fun e w' h => ⟨h.1, h.2.symm⟩
                        obtain ⟨m, hm⟩ : ∃ m, (L3.place + ((ps.length : Int) + 2)) % (L3.size - 1) = m := ⟨_, rfl⟩
                        have hm0 : 0 ≤ m := by rw [← hm]; exact Int.emod_nonneg _ (by omega)
                        have hm1 : m < 65536 := by rw [← hm]; have := Int.emod_lt_of_pos (L3.place + ((ps.length : Int) + 2)) (b := L3.size - 1) (by omega); omega
                        have hnz : ¬ (L3.size - 1 = 0) := by omega
                        have hnz2 : ((L3.size - 1) == 0) = false := by simp; omega
                        have htm : (L3.place + ((ps.length : Int) + 2)).tmod (L3.size - 1) = m := by rw [Int.tmod_eq_emod_of_nonneg (by omega)]; exact hm
                        have hwm : IntKind.i64.wrap m = m := by rw [IntKind.wrap_i64]; omega
                        clear hE16
                        go_wp2_with fail
                        refine wp_region_still_tail 12 (by kernel_rfl) (by kernel_rfl) ?_
                        simp only [List.take_succ_cons, List.take_zero, List.drop_succ_cons, List.drop_zero]
                        repeat still_step
                        still_call hsld
                        repeat still_step
                        refine wpStill_nil ?_
                        change wpList _ _ _ _ _ w16.drew
                        obtain ⟨W, hW⟩ : ∃ W, W = (((w16.setCell ⟨q, 3, none⟩ (.int .i64 m)).setCell ⟨q, 5, none⟩ (.int .i64 (L3.used + ((ps.length : Int) + 2)))).setCell ⟨q, 4, none⟩ (.int .i64 (L3.seq + 1))).drew := ⟨_, rfl⟩
                        have hUW : Upd [q] w16 W := by rw [hW]; exact ((((Upd.refl [q] w16).set (.inl (by simp)) _ _).set (.inl (by simp)) _ _).set (.inl (by simp)) _ _).drew
                        have hLW : LogAt W q p (stepped L3 ps.length) := by
                          rw [hW]
                          refine (blk_set (blk_set (blk_set hL16 3 _) 5 _) 4 _).trans ?_
                          simp [lcells, stepped, htm]
                        have hDW : DiskAt W S16 p D16 := hD16.upd hUW (by intro k hk hm; simp at hm; subst hm; exact hq16s hk)
                        have hBkW := hUW.get hBk16 (by simp; exact fun e => hqB e.symm)
                        have hPW : PutsR W S16 (.slice A ps.length c) ps := by
                          obtain ⟨A', c', e1, e2, e3⟩ := hPps16
                          refine ⟨A', c', e1, e2, fun hn => ?_⟩
                          obtain ⟨g, cur, hA, hg, hb, hc⟩ := e3 hn
                          refine ⟨g, cur, hA, hg, hUW.get hb ?_, hc⟩
                          simp
                          intro e
                          subst e
                          exact ne_of_ty hb hL16 (by decide) rfl
                        have hwr17 := write_any W false ps hDW hok16 hPW (by omega) HS.out
                        have HW := Go.Lib.hid hW
                        have hE18 : Hid (r = ⟨triedS (stepped L3 ps.length) (D16.writeF false ps).2, (D16.writeF false ps).1, (D16.writeF false ps).2⟩) := by show _ = _; rw [hE17.out]; rfl
                        clear hW hE17
                        go_wp2_with fail
                        rw [← HW.out]
                        refine hwr17.mono ?_
                        rintro e w18 ⟨S18, rfl, hD18, hU18, hS18⟩
                        have hL18 : LogAt w18 q p (stepped L3 ps.length) := hU18.get hLW hq16s
                        have cB18 : w18.cell? ⟨w.heap.size, 0, none⟩ = some (.pointer (some ⟨q, 0, none⟩)) := blk_cell (hU18.get hBkW hBS16) 0
                        have hUWf : Upd (q :: S) w1 W := hU16f.trans hUW (by intro k hk; simp at hk; subst hk; exact .inl (by simp))
                        have hU18f : Upd (q :: S) w1 w18 := hUWf.trans hU18 (fun k hk => by rcases hS16f k hk with h | h; exact .inl (by simp [h]); exact .inr h)
                        have hS18f : Sub S S18 w1 := hS16f.trans hS18 (by have := hU16.size; have := hUW.size; omega)
                        have hq18 : q ∉ S18 := hS18.not hq16s (blk_lt hLW)
                        go_wp2_with fail
                        refine (tried_any w18 _ hL18).mono ?_
                        rintro e w20 ⟨rfl, hL20, hU20⟩
                        go_wp2_with fail
                        go_ret
                        rw [hE18.out]
                        exact ⟨S18, rfl, hD18.upd hU20 (by intro k hk hm; simp at hm; subst hm; exact hq18 hk), hL20, hU18f.trans hU20 (by intro k hk; simp at hk; subst hk; exact .inl (by simp)), hS18f, hq18⟩
                      · have hz2' : (e16 == 0) = false := by simp [hz6']
                        go_wp2_with fail
                        refine (tried_any w16 e16 hL16).mono ?_
                        rintro e w20 ⟨rfl, hL20, hU20⟩
                        go_wp2_with fail
                        go_ret
                        rw [hE16.out, if_neg hz6']
                        exact ⟨S16, rfl, hD16.upd hU20 (by intro k hk hm; simp at hm; subst hm; exact hq16s hk), hL20, hU16f.trans hU20 (by intro k hk; simp at hk; subst hk; exact .inl (by simp)), hS16f, hq16s⟩
                    · have hz2' : (e15 == 0) = false := by simp [hz1']
                      go_wp2_with fail
                      refine (tried_any w15 e15 hL15).mono ?_
                      rintro e w20 ⟨rfl, hL20, hU20⟩
                      go_wp2_with fail
                      go_ret
                      rw [hE15.out, if_neg hz1']
                      exact ⟨S15, rfl, hD15.upd hU20 (by intro k hk hm; simp at hm; subst hm; exact hq15s hk), hL20, hU15f.trans hU20 (by intro k hk; simp at hk; subst hk; exact .inl (by simp)), hS15f, hq15s⟩
                  · have hz2' : (e14 == 0) = false := by simp [hz0]
                    go_wp2_with fail
                    refine (tried_any w14 e14 hL14).mono ?_
                    rintro e w20 ⟨rfl, hL20, hU20⟩
                    go_wp2_with fail
                    go_ret
                    rw [hE14.out, if_neg hz0]
                    exact ⟨S14, rfl, hD14.upd hU20 (by intro k hk hm; simp at hm; subst hm; exact hq14 hk), hL20, hU14f.trans hU20 (by intro k hk; simp at hk; subst hk; exact .inl (by simp)), hS14f, hq14⟩
            · have hz2 : (e3 == 0) = false := by simp [hz]
              go_wp2_with fail
              go_ret
              rw [hE5.out, if_neg hz]
              exact ⟨S3, rfl, hD3, hL3, hU3, hS3, hq3⟩
          · have hE : Hid (r = commitL L D ps) := by show _ = _; rw [hE4.out]; unfold commitC; rw [if_neg hck]
            obtain ⟨w3, hw3⟩ : ∃ w3, w3 = w2.drewN nq := ⟨_, rfl⟩
            have hU3 : Upd (q :: S) w1 w3 := by rw [hw3]; exact (Upd.of_below hb2).trans (Upd.of_below (S := []) (below_drewN0 w2 nq)) (by simp)
            obtain ⟨S3, hSS⟩ : ∃ S3, S3 = S := ⟨_, rfl⟩
            obtain ⟨L3, hLL⟩ : ∃ L3, L3 = L := ⟨_, rfl⟩
            obtain ⟨D3, hDD⟩ : ∃ D3, D3 = D := ⟨_, rfl⟩
            have hL3 : LogAt w3 q p L3 := by rw [hw3, hLL]; exact hL2
            have hD3 : DiskAt w3 S3 p D3 := by rw [hw3, hSS, hDD]; exact hD2
            have hB3 : w3.heap[w.heap.size]? = some (.cells #[.pointer (some ⟨q, 0, none⟩)] 33 (0, 0)) := by rw [hw3]; exact hB2
            have hP3 : PutsR w3 S3 (.slice A ps.length c) ps := by rw [hw3, hSS]; exact hP2
            have hT3 : Tab w3 := by rw [hw3]; exact hT2.kept rfl
            have hS3 : Sub S S3 w1 := by rw [hSS]; exact Sub.refl _ _
            have hq3 : q ∉ S3 := by rw [hSS]; exact hqS
            have h03 : (0 : Nat) ∉ S3 := by rw [hSS]; exact h0
            have hBS3 : w.heap.size ∉ S3 := by rw [hSS]; exact hBS
            have hlok3 : L3.Ok := by rw [hLL]; exact hlok
            have hok3 : D3.Ok := by rw [hDD]; exact ok
            have hca3' : D3.cache.length ≤ 900000000001 := by rw [hDD]; omega
            have hE' : Hid (r = commitL L3 D3 ps) := by rw [hLL, hDD]; exact hE
            have HW3 := Go.Lib.hid hw3
            clear hw3 hSS hLL hDD hE hE4 hB2 hP2 hL2 hD2 hT2 cB2 cU2
            have hE := hE'
            clear hE'
            go_wp2_with fail
            rw [← HW3.out]
            clear HW3
            have hz30 := hU3.size
            have hz3q := blk_lt hL3
            have hz3B := blk_lt hB3
            obtain ⟨A', c', hAe, hPc3, hPA3⟩ := hP3
            injection hAe with hAe1 _ hAe2
            subst hAe1 hAe2
            have HPA := Go.Lib.hid hPA3
            clear hPA3
            go_wp2_with fail
            go_loopw [9, 10, 56] (fun av rv iv wr => ∃ j : Nat, j ≤ ps.length ∧ iv = .int .i64 j ∧ wr.ownsRow w3.heap.size 3 1 av j (((ps.take j).map (·.1)).map (Value.int .i64)) ∧ wr.ownsRow w3.heap.size 40 2 rv j (putCells2 (rowsOf L3 (ps.take j))) ∧ Below w3.heap.size w3 wr) (fun _ _ iv _ => ps.length - (intOf iv).toNat)
            case atStart => exact ⟨0, Nat.zero_le _, rfl, World.ownsRow_nil _ _ _ _, World.ownsRow_nil _ _ _ _, Below.refl _ _⟩
            case round =>
              obtain ⟨j, hj, rfl, hav, hrv, hBr⟩ := hrel
              obtain ⟨A1, c1, rfl⟩ := own_slice hav
              obtain ⟨A2, c2, rfl⟩ := own_slice hrv
              have hzr := hBr.size
              by_cases hlt : j < ps.length
              · obtain ⟨g, cur, rfl, hgS, hg, hcur⟩ := HPA.out (by omega)
                have hgl := blk_lt hg
                have hgr := (hBr.block g hgl).trans hg
                obtain ⟨⟨xa, xs⟩, hx⟩ : ∃ x, x = ps[j] := ⟨_, rfl⟩
                have q0 : wr.cell? ⟨g, j * 2, none⟩ = some (.int .i64 xa) := by
                  rw [blk_cell hgr, hcur _ (by rw [putCells2_length]; omega), (putCells2_get _ j hlt).1, ← hx]
                have q1 : wr.cell? ⟨g, j * 2 + 1, none⟩ = some (.string ⟨xs.toArray⟩) := by
                  rw [blk_cell hgr, hcur _ (by rw [putCells2_length]; omega), (putCells2_get _ j hlt).2, ← hx]
                  rfl
                have htk : ps.take (j + 1) = ps.take j ++ [(xa, xs)] := by rw [List.take_succ_eq_append_getElem hlt, ← hx]
                have HTK := Go.Lib.hid htk
                have htl : (ps.take j).length = j := by simp; omega
                obtain ⟨zs, hzs⟩ : ∃ zs, zs = ps.take j := ⟨_, rfl⟩
                rw [← hzs] at hav hrv htl HTK
                obtain ⟨ys, hys⟩ : ∃ ys, ys = zs.map (·.1) := ⟨_, rfl⟩
                rw [← hys] at hav
                have HYS := Go.Lib.hid hys
                clear hys
                clear hgr hgl hg hcur hx htk hzs
                obtain ⟨W1, hW1⟩ : ∃ W1, W1 = wr.alloc (.cells #[.int .i64 xa, .string ⟨xs.toArray⟩] 40) := ⟨_, rfl⟩
                have kv0 : W1.cell? ⟨wr.heap.size, 0, none⟩ = some (.int .i64 xa) := by rw [hW1]; exact blk_cell (blk_new wr _) 0
                have kvb : W1.heap[wr.heap.size]? = some (.cells #[.int .i64 xa, .string ⟨xs.toArray⟩] 40 (0, 0)) := by rw [hW1]; exact blk_new wr _
                have hBW1 : Below w3.heap.size w3 W1 := by rw [hW1]; exact hBr.alloc hzr _
                have havW1 : W1.ownsRow w3.heap.size 3 1 (.slice A1 j c1) j (ys.map (Value.int .i64)) := by rw [hW1]; exact hav.alloc _
                have hrvW1 : W1.ownsRow w3.heap.size 40 2 (.slice A2 j c2) j (putCells2 (rowsOf L3 zs)) := by rw [hW1]; exact hrv.alloc _
                have hzW1 : W1.heap.size = wr.heap.size + 1 := by rw [hW1]; simp
                obtain ⟨W2, hW2⟩ : ∃ W2, W2 = W1.alloc (.cells #[.int .i64 xa] 3) := ⟨_, rfl⟩
                have hn1 : ∀ i u, [Value.int .i64 xa][i]? = some u → W2.cell? ((⟨W1.heap.size, 0, none⟩ : Addr).add i) = some u := by
                  intro i u hi
                  rw [hW2]
                  match i, hi with
                  | 0, hi => simp at hi; subst hi; simp [Addr.add]
                rw [hzW1] at hn1
                have hBW2 : Below w3.heap.size w3 W2 := by rw [hW2]; exact hBW1.alloc hBW1.size _
                have havW2 : W2.ownsRow w3.heap.size 3 1 (.slice A1 j c1) j (ys.map (Value.int .i64)) := by rw [hW2]; exact havW1.alloc _
                have hrvW2 : W2.ownsRow w3.heap.size 40 2 (.slice A2 j c2) j (putCells2 (rowsOf L3 zs)) := by rw [hW2]; exact hrvW1.alloc _
                have kvb2 : W2.heap[wr.heap.size]? = some (.cells #[.int .i64 xa, .string ⟨xs.toArray⟩] 40 (0, 0)) := by rw [hW2]; exact blk_alloc kvb _
                have hWW : Hid (W2 = ((wr.alloc (.cells #[.int .i64 xa, .string ⟨xs.toArray⟩] 40)).alloc (.cells #[.int .i64 xa] 3))) := by show _ = _; rw [hW2, hW1]
                clear hW1 hW2 havW1 hrvW1 hav hrv kv0 kvb hBW1
                go_wp2_with (at_builtin; rw [← hWW.out]; refine wpList_append_S rfl _ _ 23 rfl w3.heap.size 3 _ 1 8 Tryd.underlying23 info_int rfl (by decide) (.slice A1 j c1) _ _ rfl havW2 ⟨wr.heap.size + 1, 0, none⟩ 1 1 [.int .i64 xa] rfl rfl hn1 ?c2 ?c3 ?c4 hBW2.size ?_)
                case c2 => intro u hu; simp at hu; subst hu; rfl
                case c3 => unfold maxLen; omega
                case c4 => omega
                intro av' w5 hav5 hg5 hf5
                have hne5 : ∀ {b : Nat} {cs : Array Value} {t : TypeId}, W2.heap[b]? = some (.cells cs t (0, 0)) → t ≠ 3 → w5.heap[b]? = W2.heap[b]? := fun {b cs t} hb ht => hg5.block b (blk_lt hb) (fun e => by
                  obtain ⟨cs2, hcs⟩ := own_ty havW2 e.symm
                  exact ne_of_ty hb hcs ht rfl)
                have hrv5 : w5.ownsRow w3.heap.size 40 2 (.slice A2 j c2) j (putCells2 (rowsOf L3 zs)) := own_same hrvW2 (fun b hb => by
                  obtain ⟨cs, hcs⟩ := own_ty hrvW2 hb
                  exact hne5 hcs (by decide))
                have kvb5 := (hne5 kvb2 (by decide)).trans kvb2
                have kv5 : w5.cell? ⟨wr.heap.size, 1, none⟩ = some (.string ⟨xs.toArray⟩) := blk_cell kvb5 1
                have hB5 : Below w3.heap.size w3 w5 := hBW2.trans ((upd_of_grown (S := blk1 (.slice A1 j c1)) hg5 (fun k hk => mem_blk1.2 hk)).below hBW2.size (fun k hk => (havW2.lt k (mem_blk1.1 hk)).1))
                obtain ⟨A3, c3, rfl⟩ := own_slice hav5
                have hL5 : LogAt w5 q p L3 := (hB5.block q hz3q).trans hL3
                have hBk5 := (hB5.block _ hz3B).trans hB3
                have hcl := Commit1_any w.heap.size (1 + j) ⟨xs.toArray⟩ w5 hL5 hBk5 hlok3.b0 hlok3.b1 hlok3.z0 hlok3.z1 hlok3.p0 (by have := hlok3.p1; have := hlok3.z1; omega) (by omega) (by omega)
                obtain ⟨sl, hsl⟩ : ∃ sl, sl = slotAt L3 (1 + j) := ⟨_, rfl⟩
                rw [← hsl] at hcl
                have HSLT := Go.Lib.hid hsl
                clear hne5 hg5 hf5 hrvW2 hn1 hWW hBW2 havW2 kvb2 hsl
                go_wp2_with fail
                refine hcl.mono ?_
                rintro e w6 ⟨rfl, hb6⟩
                clear hcl
                have hB6 := below_next hB5 hb6
                have hrv6 := own_same hrv5 (fun b hb => hb6.block b (hrv5.lt b hb).2)
                have hav6 := own_same hav5 (fun b hb => hb6.block b (hav5.lt b hb).2)
                obtain ⟨W7, hW7⟩ : ∃ W7, W7 = w6.alloc (.cells #[.int .i64 sl, .string ⟨xs.toArray⟩] 40) := ⟨_, rfl⟩
                have hn7 : ∀ i u, [Value.int .i64 sl, .string ⟨xs.toArray⟩][i]? = some u → W7.cell? ((⟨w6.heap.size, 0, none⟩ : Addr).add i) = some u := by
                  intro i u hi
                  rw [hW7]
                  match i, hi with
                  | 0, hi => simp at hi; subst hi; simp [Addr.add]
                  | 1, hi => simp at hi; subst hi; simp [Addr.add]
                have hBW7 : Below w3.heap.size w3 W7 := by rw [hW7]; exact hB6.alloc hB6.size _
                have hrvW7 : W7.ownsRow w3.heap.size 40 2 (.slice A2 j c2) j (putCells2 (rowsOf L3 zs)) := by rw [hW7]; exact hrv6.alloc _
                have havW7 : W7.ownsRow w3.heap.size 3 1 (.slice A3 (j + 1) c3) (j + 1) (ys.map (Value.int .i64) ++ [.int .i64 xa]) := by rw [hW7]; exact hav6.alloc _
                have HW7 := Go.Lib.hid hW7
                clear hW7 hrv5 hav5 hrv6 hav6 kvb5 kv5 hL5 hBk5
                go_wp2_with (at_builtin; rw [← HW7.out]; refine wpList_append_S rfl _ _ 41 rfl w3.heap.size 40 _ 2 24 Tryd.underlying41 info_put rfl (by decide) (.slice A2 j c2) _ _ rfl hrvW7 ⟨w6.heap.size, 0, none⟩ 1 1 [.int .i64 sl, .string ⟨xs.toArray⟩] rfl rfl hn7 ?c2 ?c3 ?c4 hBW7.size ?_)
                case c2 => intro u hu; simp at hu; rcases hu with rfl | rfl <;> rfl
                case c3 => unfold maxLen; omega
                case c4 => omega
                intro rv' w8 hrv8 hg8 hf8
                have hne8 : ∀ {b : Nat} {cs : Array Value} {t : TypeId}, W7.heap[b]? = some (.cells cs t (0, 0)) → t ≠ 40 → w8.heap[b]? = W7.heap[b]? := fun {b cs t} hb ht => hg8.block b (blk_lt hb) (fun e => by
                  obtain ⟨cs2, hcs⟩ := own_ty hrvW7 e.symm
                  exact ne_of_ty hb hcs ht rfl)
                have hav8 : w8.ownsRow w3.heap.size 3 1 (.slice A3 (j + 1) c3) (j + 1) (ys.map (Value.int .i64) ++ [.int .i64 xa]) := own_same havW7 (fun b hb => by
                  obtain ⟨cs, hcs⟩ := own_ty havW7 hb
                  exact hne8 hcs (by decide))
                have hB8 : Below w3.heap.size w3 w8 := hBW7.trans ((upd_of_grown (S := blk1 (.slice A2 j c2)) hg8 (fun k hk => mem_blk1.2 hk)).below hBW7.size (fun k hk => (hrvW7.lt k (mem_blk1.1 hk)).1))
                obtain ⟨A4, c4, rfl⟩ := own_slice hrv8
                clear hne8 hg8 hf8 hrvW7 hn7 HW7 hBW7 havW7
                go_wp2_with fail
                go_roundw
                case rel =>
                  refine ⟨j + 1, by omega, by go_num, ?_, ?_, hB8⟩
                  · rw [HTK.out, List.map_append, ← HYS.out]; simpa using hav8
                  · rw [HTK.out, rowsOf_snoc, putCells2_append, htl, ← HSLT.out]
                    exact hrv8
                case measure => simp [intOf]; omega
              · obtain rfl : j = ps.length := by omega
                rw [List.take_of_length_le (Nat.le_refl _)] at hav hrv
                have hT9 : Tab wr := hT3.below hBr
                have hL9 : LogAt wr q p L3 := (hBr.block q hz3q).trans hL3
                have hB9 := (hBr.block _ hz3B).trans hB3
                have c49 : wr.cell? ⟨q, 4, none⟩ = some (.int .i64 L3.seq) := blk_cell hL9 4
                have cB9 : wr.cell? ⟨w.heap.size, 0, none⟩ = some (.pointer (some ⟨q, 0, none⟩)) := blk_cell hB9 0
                obtain ⟨hAR, hAc⟩ := own_reads hav
                obtain ⟨is, his⟩ : ∃ is, is = ps.map (·.1) := ⟨_, rfl⟩
                rw [← his] at hAR hav
                have hil : is.length = ps.length := by rw [his]; simp
                have HIS := Go.Lib.hid his
                have hFirst := First_any L3.seq A1 c1 is wr hT9 hAR (by omega) (by omega)
                rw [hil] at hFirst
                obtain ⟨fb, hfb⟩ : ∃ fb, fb = firstB L3.seq is := ⟨_, rfl⟩
                rw [← hfb] at hFirst
                have HFB := Go.Lib.hid hfb
                clear his hav hAR hfb
                go_wp2_with fail
                refine hFirst.mono ?_
                rintro e w10 ⟨rfl, hb10⟩
                clear hFirst
                have hB10 := below_next hBr hb10
                have hL10 : LogAt w10 q p L3 := (hB10.block q hz3q).trans hL3
                have hBk10 := (hB10.block _ hz3B).trans hB3
                have hcl := Commit1_any w.heap.size 0 ⟨fb.toArray⟩ w10 hL10 hBk10 hlok3.b0 hlok3.b1 hlok3.z0 hlok3.z1 hlok3.p0 (by have := hlok3.p1; have := hlok3.z1; omega) (by omega) (by omega)
                obtain ⟨sl, hsl⟩ : ∃ sl, sl = slotAt L3 0 := ⟨_, rfl⟩
                rw [← hsl] at hcl
                have HSL0 := Go.Lib.hid hsl
                clear hsl
                go_wp2_with fail
                refine hcl.mono ?_
                rintro e w11 ⟨rfl, hb11⟩
                clear hcl
                have hB11 := below_next hB10 hb11
                have hrv11 := own_same hrv (fun b hb => (hb11.block b (Nat.lt_of_lt_of_le (hrv.lt b hb).2 hb10.size)).trans (hb10.block b (hrv.lt b hb).2))
                obtain ⟨W12, hW12⟩ : ∃ W12, W12 = w11.alloc (.cells #[.int .i64 sl, .string ⟨fb.toArray⟩] 40) := ⟨_, rfl⟩
                have hBW12 : Below w3.heap.size w3 W12 := by rw [hW12]; exact hB11.alloc hB11.size _
                have hrvW : W12.ownsRow w3.heap.size 40 2 (.slice A2 ps.length c2) ps.length (putCells2 (rowsOf L3 ps)) := by rw [hW12]; exact hrv11.alloc _
                have hone : W12.ownsRow w3.heap.size 40 2 (.slice (some ⟨w11.heap.size, 0, none⟩) 1 1) 1 [.int .i64 sl, .string ⟨fb.toArray⟩] := by
                  rw [hW12]
                  exact ⟨rfl, .inr ⟨w11.heap.size, 1, _, rfl, hB11.size, blk_new w11 _, Nat.le_refl _, by unfold maxLen; omega, rfl, rfl⟩⟩
                obtain ⟨gr, cr, hAr, hgr, hcr⟩ := own_head hrvW hn1
                subst hAr
                have hnews : ∀ i u, (putCells2 (rowsOf L3 ps))[i]? = some u → W12.cell? ((⟨gr, 0, none⟩ : Addr).add i) = some u := by
                  intro i u hi
                  have hil2 : i < (putCells2 (rowsOf L3 ps)).length := by
                    rcases Nat.lt_or_ge i (putCells2 (rowsOf L3 ps)).length with h | h
                    · exact h
                    · rw [List.getElem?_eq_none h] at hi; cases hi
                  have : W12.cell? ⟨gr, 0 + i, none⟩ = some u := by rw [Nat.zero_add, blk_cell hgr, hcr i hil2, hi]
                  simp only [Addr.add]
                  split
                  · rename_i h0; subst h0; exact this
                  · simpa using this
                have hpcl : (putCells2 (rowsOf L3 ps)).length = ps.length * 2 := by rw [putCells2_length, rowsOf_length]
                have HW12 := Go.Lib.hid hW12
                have hrc : ps.length ≤ c2 := (own_reads hrv).2
                clear hW12 hrv hrv11 hcr hgr
                go_wp2_with (at_builtin; rw [← HW12.out]; refine wpList_append_S rfl _ _ 41 rfl w3.heap.size 40 _ 2 24 Tryd.underlying41 info_put rfl (by decide) (.slice (some ⟨w11.heap.size, 0, none⟩) 1 1) _ _ rfl hone ⟨gr, 0, none⟩ ps.length c2 (putCells2 (rowsOf L3 ps)) rfl hpcl hnews ?c2 ?c3 ?c4 hBW12.size ?_)
                case c2 => exact putCells2_one _
                case c3 => unfold maxLen; omega
                case c4 => omega
                intro tv w13 htv hg13 hf13
                have hB13 : Below w3.heap.size w3 w13 := hBW12.trans ((upd_of_grown (S := blk1 (.slice (some ⟨w11.heap.size, 0, none⟩) 1 1)) hg13 (fun k hk => mem_blk1.2 hk)).below hBW12.size (fun k hk => (hone.lt k (mem_blk1.1 hk)).1))
                have hxs : Value.int .i64 sl :: .string ⟨fb.toArray⟩ :: putCells2 (rowsOf L3 ps) = putCells2 (txnRows L3 ps) := by
                  unfold txnRows
                  rw [← HIS.out, ← HFB.out, ← HSL0.out]
                  simp [putCells2, sv]
                rw [hxs] at htv
                have hxl : (txnRows L3 ps).length = 1 + ps.length := by unfold txnRows; rw [List.length_cons, rowsOf_length]; omega
                rw [← hxl] at htv
                obtain ⟨tx, htx⟩ : ∃ tx, tx = txnRows L3 ps := ⟨_, rfl⟩
                rw [← htx] at htv hxl
                have hS3lt := hD3.ltS
                have hPtx : ∀ {v : Value}, w13.ownsRow w3.heap.size 40 2 v tx.length (putCells2 tx) → PutsR w13 S3 v tx := fun {v} ho => PutsR.of_own ho (fun k hk hm => by
                  have h1 := (ho.lt k hk).1
                  have h2 := hS3lt k hm
                  omega)
                have hPtx13 := hPtx htv
                have HTX := Go.Lib.hid htx
                have HXL := Go.Lib.hid hxl
                clear hPtx hS3lt htx hxl
                clear hxs hg13 hf13 hone hrvW hnews HW12 hBW12
                obtain ⟨At, ct, rfl⟩ := own_slice htv
                have HTV := Go.Lib.hid htv
                have HPTX := Go.Lib.hid hPtx13
                clear hPtx13
                have hrm60 : ps.length ≤ 60 := by omega
                clear htv hL9 hB9 c49 cB9 hL10 hBk10
                have hL13 : LogAt w13 q p L3 := (hB13.block q hz3q).trans hL3
                have hBk13 := (hB13.block _ hz3B).trans hB3
                have hD13 := hD3.below hB13
                have hq13 := blk_lt hL13
                have hzB13 := blk_lt hBk13
                have hT13 : Tab w13 := hT3.below hB13
                have hL13d : LogAt w13.drew q p L3 := hL13
                have hBk13d : w13.drew.heap[w.heap.size]? = some (.cells #[.pointer (some ⟨q, 0, none⟩)] 33 (0, 0)) := hBk13
                have hN13 : Below w13.heap.size w13 w13.drew := below_drewN0 w13 1
                have hp3 : L3.place ≤ 65536 := by have := hlok3.p1; have := hlok3.z1; omega
                have hszb : ∀ x ∈ blanks L3 ps.length, x.2.length ≤ 1099511627776 := by
                  intro x hx
                  simp only [blanks, List.mem_cons, List.not_mem_nil, or_false] at hx
                  rcases hx with rfl | rfl <;> simp [zeros]
                have hroomb : D3.cache.length + (blanks L3 ps.length).length ≤ 1099511627776 := by simp [blanks]; omega
                have hwn : IntKind.i64.wrap ((ps.length : Int) + 2 - 1) = ps.length + 1 := by rw [IntKind.wrap_i64]; omega
                go_wp2_with fail
                go_region_held3 (fun w' => w'.cell? ⟨w.heap.size, 0, none⟩ = some (.pointer (some ⟨q, 0, none⟩)) ∧ w'.cell? ⟨q, 0, none⟩ = some (.pointer (some ⟨p, 0, none⟩)) ∧ w'.cell? ⟨q, 4, none⟩ = some (.int .i64 L3.seq)) (first | exact log2 hL13d hBk13d | exact log2 ((Below.block ‹Below w13.heap.size w13 _› q hq13).trans hL13) ((Below.block ‹Below w13.heap.size w13 _› _ hzB13).trans hBk13) | exact log2 (blk_alloc ((Below.block ‹Below w13.heap.size w13 _› q hq13).trans hL13) _) (blk_alloc ((Below.block ‹Below w13.heap.size w13 _› _ hzB13).trans hBk13) _) | exact log2 (hU14.get hL13 hq3) (hU14.get hBk13 hBS3)) (first | (go_at_call 42; refine (blank_any _).mono ?_; rintro e w' ⟨rfl, hb⟩; have hbb := Below.next ‹Below w13.heap.size w13 _› hb) | (go_at_call 50; refine (Commit1_any w.heap.size _ _ _ ((Below.block ‹Below w13.heap.size w13 _› q hq13).trans hL13) ((Below.block ‹Below w13.heap.size w13 _› _ hzB13).trans hBk13) hlok3.b0 hlok3.b1 hlok3.z0 hlok3.z1 hlok3.p0 hp3 (by omega) (by omega)).mono ?_; rintro e w' ⟨rfl, hb⟩; have hbb := Below.next ‹Below w13.heap.size w13 _› hb) | (go_at_call 41; refine (write_new _ true (blanks L3 ps.length) _ 2 rfl rfl (by omega) (hD13.below ‹Below w13.heap.size w13 _›) hok3 hroomb hszb).mono ?_; rintro e w14 hret; have hr14 := hret.from (Upd.of_below ‹Below w13.heap.size w13 _›); clear hret; obtain ⟨S14, rfl, hD14, hU14, hS14⟩ := hr14))
                have hL14 : LogAt w14 q p L3 := hU14.get hL13 hq3
                have hBk14 := hU14.get hBk13 hBS3
                have hq14 : q ∉ S14 := hS14.not hq3 hq13
                have hBS14 : w.heap.size ∉ S14 := hS14.not hBS3 hzB13
                have hT14 : Tab w14 := hT13.kept (hU14.block 0 hT13.lt h03)
                have h014 : (0 : Nat) ∉ S14 := hS14.not h03 hT13.lt
                have cB14 : w14.cell? ⟨w.heap.size, 0, none⟩ = some (.pointer (some ⟨q, 0, none⟩)) := blk_cell hBk14 0
                have c014 : w14.cell? ⟨q, 0, none⟩ = some (.pointer (some ⟨p, 0, none⟩)) := blk_cell hL14 0
                have hz13 := hB13.size
                have hz14 := hU14.size
                have hPps14 : PutsR w14 S14 (.slice A ps.length c) ps := (PutsR.upd (S := S3) ⟨A, c, rfl, hPc3, HPA.out⟩ (Upd.of_below hB13) (Sub.refl _ _)).upd hU14 hS14
                have hPtx14 : PutsR w14 S14 (.slice At tx.length ct) tx := HPTX.out.upd hU14 hS14
                have hU13f : Upd (q :: S) w1 w13 := hU3.trans (Upd.of_below (S := []) hB13) (by simp)
                have hU14f : Upd (q :: S) w1 w14 := hU13f.trans hU14 (fun k hk => by rcases hS3 k hk with h | h; exact .inl (by simp [h]); exact .inr h)
                have hS14f : Sub S S14 w1 := hS3.trans hS14 (by omega)
                have hok14 := hok3.writeF true (blanks L3 ps.length) hroomb
                have hca14 := DiskS.writeF_cache D3 true (blanks L3 ps.length)
                obtain ⟨D14, hD14'⟩ : ∃ D14, D14 = (D3.writeF true (blanks L3 ps.length)).1 := ⟨_, rfl⟩
                obtain ⟨e14, he14⟩ : ∃ e14, e14 = (D3.writeF true (blanks L3 ps.length)).2 := ⟨_, rfl⟩
                rw [← hD14'] at hD14 hok14 hca14
                rw [← he14]
                have hE14 : Hid (r = if e14 = 0 then commit1 L3 D14 ps else ⟨triedS L3 e14, D14, e14⟩) := by show _ = _; rw [hE.out]; unfold commitL; rw [← he14, ← hD14']
                have hca14' : D14.cache.length ≤ 900000000003 := by simp [blanks] at hca14; omega
                clear he14 hD14' hE hszb hroomb hca14 hca3' hN13 hL13d hBk13d hD13 hT13
                by_cases hz0 : e14 = 0
                · subst hz0
                  have hE15a : Hid (r = commit1 L3 D14 ps) := by show _ = _; rw [hE14.out, if_pos (by first | trivial | rfl)]
                  have hsztx : ∀ x ∈ tx, x.2.length ≤ 1099511627776 := by
                    intro x hx
                    rw [HTX.out] at hx
                    unfold txnRows at hx
                    rcases List.mem_cons.1 hx with rfl | hx
                    · have := firstB_len L3.seq (ps.map (·.1)); dsimp only; omega
                    · unfold rowsOf at hx
                      rw [List.mem_mapIdx] at hx
                      obtain ⟨i, hi, rfl⟩ := hx
                      exact HS.out ps[i] (List.getElem_mem _)
                  have htxl : tx.length ≤ 61 := by have := HXL.out; omega
                  have hwr15 := write_any w14 true tx hD14 hok14 hPtx14 (by omega) hsztx
                  have hok15 := hok14.writeF true tx (by omega)
                  have hca15 := DiskS.writeF_cache D14 true tx
                  obtain ⟨D15, hD15'⟩ : ∃ D15, D15 = (D14.writeF true tx).1 := ⟨_, rfl⟩
                  obtain ⟨e15, he15⟩ : ∃ e15, e15 = (D14.writeF true tx).2 := ⟨_, rfl⟩
                  rw [← hD15', ← he15] at hwr15
                  rw [← hD15'] at hok15 hca15
                  have hE15 : Hid (r = if e15 = 0 then commit2 L3 D15 ps else ⟨triedS L3 e15, D15, e15⟩) := by show _ = _; rw [hE15a.out]; unfold commit1; rw [← HTX.out, ← he15, ← hD15']
                  have hca15' : D15.cache.length ≤ 900000000100 := by omega
                  clear he15 hD15' hE15a hsztx hca15 hE14
                  go_wp2_with fail
                  refine hwr15.mono ?_
                  rintro e w15 ⟨S15, rfl, hD15, hU15, hS15⟩
                  clear hwr15
                  have hL15 : LogAt w15 q p L3 := hU15.get hL14 hq14
                  have hBk15 := hU15.get hBk14 hBS14
                  have cB15 : w15.cell? ⟨w.heap.size, 0, none⟩ = some (.pointer (some ⟨q, 0, none⟩)) := blk_cell hBk15 0
                  have c015 : w15.cell? ⟨q, 0, none⟩ = some (.pointer (some ⟨p, 0, none⟩)) := blk_cell hL15 0
                  have hq15s : q ∉ S15 := hS15.not hq14 (blk_lt hL14)
                  have hBS15 : w.heap.size ∉ S15 := hS15.not hBS14 (blk_lt hBk14)
                  have hT15 : Tab w15 := hT14.kept (hU15.block 0 hT14.lt h014)
                  have h015 : (0 : Nat) ∉ S15 := hS15.not h014 hT14.lt
                  have hz15 := hU15.size
                  have hPps15 := hPps14.upd hU15 hS15
                  have hU15f : Upd (q :: S) w1 w15 := hU14f.trans hU15 (fun k hk => by rcases hS14f k hk with h | h; exact .inl (by simp [h]); exact .inr h)
                  have hS15f : Sub S S15 w1 := hS14f.trans hS15 (by omega)
                  by_cases hz1' : e15 = 0
                  · subst hz1'
                    have hE16a : Hid (r = commit2 L3 D15 ps) := by show _ = _; rw [hE15.out, if_pos (by first | trivial | rfl)]
                    have hq15 := blk_lt hL15
                    have hzB15 := blk_lt hBk15
                    have hL15d : LogAt w15.drew q p L3 := hL15
                    have hBk15d : w15.drew.heap[w.heap.size]? = some (.cells #[.pointer (some ⟨q, 0, none⟩)] 33 (0, 0)) := hBk15
                    have hN15 : Below w15.heap.size w15 w15.drew := below_drewN0 w15 1
                    have hszl : ∀ x ∈ lastRow L3 ps.length, x.2.length ≤ 1099511627776 := by
                      intro x hx
                      simp only [lastRow, List.mem_cons, List.not_mem_nil, or_false] at hx
                      subst hx
                      have := lastB_len L3.seq ps.length
                      dsimp only; omega
                    have hrooml : D15.cache.length + (lastRow L3 ps.length).length ≤ 1099511627776 := by simp [lastRow]; omega
                    clear hE15
                    go_wp2_with fail
                    go_region_held3 (fun w' => w'.cell? ⟨w.heap.size, 0, none⟩ = some (.pointer (some ⟨q, 0, none⟩)) ∧ w'.cell? ⟨q, 0, none⟩ = some (.pointer (some ⟨p, 0, none⟩)) ∧ w'.cell? ⟨q, 4, none⟩ = some (.int .i64 L3.seq)) (first | exact log2 hL15d hBk15d | exact log2 ((Below.block ‹Below w15.heap.size w15 _› q hq15).trans hL15) ((Below.block ‹Below w15.heap.size w15 _› _ hzB15).trans hBk15) | exact log2 (blk_alloc ((Below.block ‹Below w15.heap.size w15 _› q hq15).trans hL15) _) (blk_alloc ((Below.block ‹Below w15.heap.size w15 _› _ hzB15).trans hBk15) _) | exact log2 (hU16.get hL15 hq15s) (hU16.get hBk15 hBS15)) (first | (go_at_call 14; refine (Last_any _ _ _ (hT15.below ‹Below w15.heap.size w15 _›)).mono ?_; rintro e w' ⟨rfl, hb⟩; have hbb := Below.next ‹Below w15.heap.size w15 _› hb) | (go_at_call 50; refine (Commit1_any w.heap.size _ _ _ ((Below.block ‹Below w15.heap.size w15 _› q hq15).trans hL15) ((Below.block ‹Below w15.heap.size w15 _› _ hzB15).trans hBk15) hlok3.b0 hlok3.b1 hlok3.z0 hlok3.z1 hlok3.p0 hp3 (by omega) (by omega)).mono ?_; rintro e w' ⟨rfl, hb⟩; have hbb := Below.next ‹Below w15.heap.size w15 _› hb) | (go_at_call 41; refine (write_new _ true (lastRow L3 ps.length) _ 1 rfl rfl (by omega) (hD15.below ‹Below w15.heap.size w15 _›) hok15 hrooml hszl).mono ?_; rintro e w16 hret; have hr16 := hret.from (Upd.of_below ‹Below w15.heap.size w15 _›); clear hret; obtain ⟨S16, rfl, hD16, hU16, hS16⟩ := hr16))
                    have hL16 : LogAt w16 q p L3 := hU16.get hL15 hq15s
                    have hBk16 := hU16.get hBk15 hBS15
                    have hq16s : q ∉ S16 := hS16.not hq15s hq15
                    have hBS16 : w.heap.size ∉ S16 := hS16.not hBS15 hzB15
                    have cB16 : w16.cell? ⟨w.heap.size, 0, none⟩ = some (.pointer (some ⟨q, 0, none⟩)) := blk_cell hBk16 0
                    have c016 : w16.cell? ⟨q, 0, none⟩ = some (.pointer (some ⟨p, 0, none⟩)) := blk_cell hL16 0
                    have c316 : w16.cell? ⟨q, 3, none⟩ = some (.int .i64 L3.place) := blk_cell hL16 3
                    have c416 : w16.cell? ⟨q, 4, none⟩ = some (.int .i64 L3.seq) := blk_cell hL16 4
                    have c516 : w16.cell? ⟨q, 5, none⟩ = some (.int .i64 L3.used) := blk_cell hL16 5
                    have f316 := blk_free hL16 3
                    have f416 := blk_free hL16 4
                    have f516 := blk_free hL16 5
                    have hPps16 := hPps15.upd hU16 hS16
                    have hU16f : Upd (q :: S) w1 w16 := hU15f.trans hU16 (fun k hk => by rcases hS15f k hk with h | h; exact .inl (by simp [h]); exact .inr h)
                    have hS16f : Sub S S16 w1 := hS15f.trans hS16 (by omega)
                    have hok16 := hok15.writeF true (lastRow L3 ps.length) hrooml
                    have hca16 := DiskS.writeF_cache D15 true (lastRow L3 ps.length)
                    obtain ⟨D16, hD16'⟩ : ∃ D16, D16 = (D15.writeF true (lastRow L3 ps.length)).1 := ⟨_, rfl⟩
                    obtain ⟨e16, he16⟩ : ∃ e16, e16 = (D15.writeF true (lastRow L3 ps.length)).2 := ⟨_, rfl⟩
                    rw [← hD16'] at hD16 hok16 hca16
                    rw [← he16]
                    have hE16 : Hid (r = if e16 = 0 then commit3 L3 D16 ps else ⟨triedS L3 e16, D16, e16⟩) := by show _ = _; rw [hE16a.out]; unfold commit2; rw [← he16, ← hD16']
                    have hca16' : D16.cache.length ≤ 900000000101 := by simp [lastRow] at hca16; omega
                    clear he16 hD16' hE16a hszl hrooml hca16 hca15' hN15 hL15d hBk15d
                    by_cases hz6' : e16 = 0
                    · subst hz6'
                      have hE17 : Hid (r = commit3 L3 D16 ps) := by show _ = _; rw [hE16.out, if_pos (by first | trivial | rfl)]
                      have hu30 := hlok3.u0
                      have hu31 := hlok3.u1
                      have hs30 := hlok3.s0
                      have hs31 := hlok3.s1
                      have hz40 := hlok3.z0
                      have hz41 := hlok3.z1
                      have hp30 := hlok3.p0
                      have hsld := (slots_any w16.drew hL16 (by omega) hz41).mono (R' := fun e w' => e = .returned (.int .i64 (L3.size - 1)) ∧ w' = w16.drew) fun e w' h => ⟨h.1, h.2.symm⟩
                      obtain ⟨m, hm⟩ : ∃ m, (L3.place + ((ps.length : Int) + 2)) % (L3.size - 1) = m := ⟨_, rfl⟩
                      have hm0 : 0 ≤ m := by rw [← hm]; exact Int.emod_nonneg _ (by omega)
                      have hm1 : m < 65536 := by rw [← hm]; have := Int.emod_lt_of_pos (L3.place + ((ps.length : Int) + 2)) (b := L3.size - 1) (by omega); omega
                      have hnz : ¬ (L3.size - 1 = 0) := by omega
                      have hnz2 : ((L3.size - 1) == 0) = false := by simp; omega
                      have htm : (L3.place + ((ps.length : Int) + 2)).tmod (L3.size - 1) = m := by rw [Int.tmod_eq_emod_of_nonneg (by omega)]; exact hm
                      have hwm : IntKind.i64.wrap m = m := by rw [IntKind.wrap_i64]; omega
                      clear hE16
                      go_wp2_with fail
                      refine wp_region_still_tail 12 (by kernel_rfl) (by kernel_rfl) ?_
                      simp only [List.take_succ_cons, List.take_zero, List.drop_succ_cons, List.drop_zero]
                      repeat still_step
                      still_call hsld
                      repeat still_step
                      refine wpStill_nil ?_
                      change wpList _ _ _ _ _ w16.drew
                      obtain ⟨W, hW⟩ : ∃ W, W = (((w16.setCell ⟨q, 3, none⟩ (.int .i64 m)).setCell ⟨q, 5, none⟩ (.int .i64 (L3.used + ((ps.length : Int) + 2)))).setCell ⟨q, 4, none⟩ (.int .i64 (L3.seq + 1))).drew := ⟨_, rfl⟩
                      have hUW : Upd [q] w16 W := by rw [hW]; exact ((((Upd.refl [q] w16).set (.inl (by simp)) _ _).set (.inl (by simp)) _ _).set (.inl (by simp)) _ _).drew
                      have hLW : LogAt W q p (stepped L3 ps.length) := by
                        rw [hW]
                        refine (blk_set (blk_set (blk_set hL16 3 _) 5 _) 4 _).trans ?_
                        simp [lcells, stepped, htm]
                      have hDW : DiskAt W S16 p D16 := hD16.upd hUW (by intro k hk hm; simp at hm; subst hm; exact hq16s hk)
                      have hBkW := hUW.get hBk16 (by simp; exact fun e => hqB e.symm)
                      have hPW : PutsR W S16 (.slice A ps.length c) ps := by
                        obtain ⟨A', c', e1, e2, e3⟩ := hPps16
                        refine ⟨A', c', e1, e2, fun hn => ?_⟩
                        obtain ⟨g, cur, hA, hg, hb, hc⟩ := e3 hn
                        refine ⟨g, cur, hA, hg, hUW.get hb ?_, hc⟩
                        simp
                        intro e
                        subst e
                        exact ne_of_ty hb hL16 (by decide) rfl
                      have hwr17 := write_any W false ps hDW hok16 hPW (by omega) HS.out
                      have HW := Go.Lib.hid hW
                      have hE18 : Hid (r = ⟨triedS (stepped L3 ps.length) (D16.writeF false ps).2, (D16.writeF false ps).1, (D16.writeF false ps).2⟩) := by show _ = _; rw [hE17.out]; rfl
                      clear hW hE17
                      go_wp2_with fail
                      rw [← HW.out]
                      refine hwr17.mono ?_
                      rintro e w18 ⟨S18, rfl, hD18, hU18, hS18⟩
                      have hL18 : LogAt w18 q p (stepped L3 ps.length) := hU18.get hLW hq16s
                      have cB18 : w18.cell? ⟨w.heap.size, 0, none⟩ = some (.pointer (some ⟨q, 0, none⟩)) := blk_cell (hU18.get hBkW hBS16) 0
                      have hUWf : Upd (q :: S) w1 W := hU16f.trans hUW (by intro k hk; simp at hk; subst hk; exact .inl (by simp))
                      have hU18f : Upd (q :: S) w1 w18 := hUWf.trans hU18 (fun k hk => by rcases hS16f k hk with h | h; exact .inl (by simp [h]); exact .inr h)
                      have hS18f : Sub S S18 w1 := hS16f.trans hS18 (by have := hU16.size; have := hUW.size; omega)
                      have hq18 : q ∉ S18 := hS18.not hq16s (blk_lt hLW)
                      go_wp2_with fail
                      refine (tried_any w18 _ hL18).mono ?_
                      rintro e w20 ⟨rfl, hL20, hU20⟩
                      go_wp2_with fail
                      go_ret
                      rw [hE18.out]
                      exact ⟨S18, rfl, hD18.upd hU20 (by intro k hk hm; simp at hm; subst hm; exact hq18 hk), hL20, hU18f.trans hU20 (by intro k hk; simp at hk; subst hk; exact .inl (by simp)), hS18f, hq18⟩
                    · have hz2' : (e16 == 0) = false := by simp [hz6']
                      go_wp2_with fail
                      refine (tried_any w16 e16 hL16).mono ?_
                      rintro e w20 ⟨rfl, hL20, hU20⟩
                      go_wp2_with fail
                      go_ret
                      rw [hE16.out, if_neg hz6']
                      exact ⟨S16, rfl, hD16.upd hU20 (by intro k hk hm; simp at hm; subst hm; exact hq16s hk), hL20, hU16f.trans hU20 (by intro k hk; simp at hk; subst hk; exact .inl (by simp)), hS16f, hq16s⟩
                  · have hz2' : (e15 == 0) = false := by simp [hz1']
                    go_wp2_with fail
                    refine (tried_any w15 e15 hL15).mono ?_
                    rintro e w20 ⟨rfl, hL20, hU20⟩
                    go_wp2_with fail
                    go_ret
                    rw [hE15.out, if_neg hz1']
                    exact ⟨S15, rfl, hD15.upd hU20 (by intro k hk hm; simp at hm; subst hm; exact hq15s hk), hL20, hU15f.trans hU20 (by intro k hk; simp at hk; subst hk; exact .inl (by simp)), hS15f, hq15s⟩
                · have hz2' : (e14 == 0) = false := by simp [hz0]
                  go_wp2_with fail
                  refine (tried_any w14 e14 hL14).mono ?_
                  rintro e w20 ⟨rfl, hL20, hU20⟩
                  go_wp2_with fail
                  go_ret
                  rw [hE14.out, if_neg hz0]
                  exact ⟨S14, rfl, hD14.upd hU20 (by intro k hk hm; simp at hm; subst hm; exact hq14 hk), hL20, hU14f.trans hU20 (by intro k hk; simp at hk; subst hk; exact .inl (by simp)), hS14f, hq14⟩
      · have hE2 : Hid (r = ⟨L, D, 1⟩) := by show _ = _; rw [hE.out, if_pos (.inr hb.symm)]
        clear hE hb hn0 hbr
        go_enter Tryd.func20, Tryd.ntmps20
        go_wp2_with fail
        rw [← HW1.out]
        refine hR1.mono ?_
        rintro e w2 ⟨rfl, rfl⟩
        go_wp2_with fail
        refine hCon1.mono ?_
        rintro e w2 ⟨rfl, hb2⟩
        go_wp2_with fail
        go_ret
        rw [hE2.out]
        exact ⟨S, rfl, hD1.below hb2, (hb2.block q (blk_lt hL1)).trans hL1, Upd.of_below hb2, Sub.refl _ _, hqS⟩
  · rw [hbr] at hR1
    have hE2 : Hid (r = ⟨L, D, 13⟩) := by show _ = _; rw [HR.out]; unfold commitS; rw [if_pos hbr]
    clear HR hCon1
    go_enter Tryd.func20, Tryd.ntmps20
    go_wp2_with fail
    rw [← HW1.out]
    refine hR1.mono ?_
    rintro e w2 ⟨rfl, rfl⟩
    go_wp2_with fail
    go_ret
    rw [hE2.out]
    exact ⟨S, rfl, hD1, hL1, Upd.refl _ _, Sub.refl _ _, hqS⟩

end Go.Proofs.YtbalbjhmboppoaaDoor
