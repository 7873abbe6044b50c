/-
  redo.Scan.
  The region has fewer than 2^16 slots; the table of check lies where it lies.
-/
import Derived.Test.YtbalbjhmboppoaaDoorS4
set_option linter.unusedSimpArgs false
set_option linter.unusedVariables false
namespace Go.Proofs.YtbalbjhmboppoaaDoor
open Go.RowKit

def scanGo (L : List Bs) : Nat → Nat → Int → Nat → Nat × Int × List (List PutM)
  | 0, place, seq, _ => (place, seq, [])
  | f + 1, place, seq, used =>
    if (foundS L place seq).length = 0 ∨ L.length < used + ((foundS L place seq).length + 2) then (place, seq, [])
    else
      ((scanGo L f ((place + (foundS L place seq).length + 2) % L.length) (seq + 1) (used + ((foundS L place seq).length + 2))).1,
       (scanGo L f ((place + (foundS L place seq).length + 2) % L.length) (seq + 1) (used + ((foundS L place seq).length + 2))).2.1,
       foundS L place seq :: (scanGo L f ((place + (foundS L place seq).length + 2) % L.length) (seq + 1) (used + ((foundS L place seq).length + 2))).2.2)
structure ScanR where
  place : Nat
  seq : Int
  all : List (List PutM)
  is : Bool
def scanS (R : List Bs) : ScanR :=
  if R.length < 4 then ⟨0, 0, [], false⟩
  else match rtextS (R.headD []) [83, 67, 72] with
  | none => ⟨0, 0, [], false⟩
  | some r =>
    let a := numS ⟨r, false⟩ 65535
    let b := numS a.1 549755813888
    if endS b.1 ≠ 0 ∨ R.tail.length ≤ a.2 ∨ b.2 < 1 then ⟨0, 0, [], false⟩
    else ⟨(scanGo R.tail (R.tail.length + 1) a.2 b.2 0).1, (scanGo R.tail (R.tail.length + 1) a.2 b.2 0).2.1, (scanGo R.tail (R.tail.length + 1) a.2 b.2 0).2.2, true⟩

theorem foundS_len (L : List Bs) (place seq : Int) : (foundS L place seq).length ≤ 60 := by
  unfold foundS
  split
  · simp
  · dsimp only
    split
    · simp
    · split
      · simp
      · rw [putsOf_length, numsS_length]; exact numS_lt _ _
/-- Rows of writes, in a row, that the call has made. -/
def AllAt (w : World) (B : Nat) (v : Value) (xss : List (List PutM)) : Prop :=
  ∃ vs : List Value, w.ownsRow B 41 1 v xss.length vs ∧ ∀ (i : Nat) (v : Value) (xs : List PutM), vs[i]? = some v → xss[i]? = some xs → w.ownsRow B 40 2 v xs.length (putCells2 xs)
theorem AllAt.nil (w : World) (B : Nat) : AllAt w B (.slice none 0 0) [] := ⟨[], World.ownsRow_nil _ _ _ _, by simp⟩
theorem AllAt.same {w w' : World} {B : Nat} {v : Value} {xss : List (List PutM)} (h : AllAt w B v xss) (hk : ∀ k, k < w.heap.size → w'.heap[k]? = w.heap[k]?) : AllAt w' B v xss := by
  obtain ⟨vs, h1, h2⟩ := h
  exact ⟨vs, own_same h1 (fun k e => hk k (h1.lt k e).2), fun i v xs hv hx => own_same (h2 i v xs hv hx) (fun k e => hk k ((h2 i v xs hv hx).lt k e).2)⟩
def ScanRet (w : World) (r : ScanR) (e : Ending) (w' : World) : Prop :=
  Below w.heap.size w w' ∧ ∃ v, e = .returned (.tuple #[.int .i64 r.place, .int .i64 r.seq, v, .bool r.is]) ∧ AllAt w' w.heap.size v r.all
theorem info_puts : (Tryd.prog.info? 41).map (fun i => (i.zero, i.size, i.bytes)) = some (some (.slice none 0 0), 1, 24) := by kernel_rfl

theorem results_tmp4 {fn : Func} {t u v x : Tmp} (h : fn.results = #[.tmp t, .tmp u, .tmp v, .tmp x]) (tmps : Array Value) (P : Program) (w : World) :
    (results fn tmps).run P w = .ok (.tuple #[tmps.getD t undef, tmps.getD u undef, tmps.getD v undef, tmps.getD x undef]) w := by
  simp [results, h]
theorem ScanRet.no {w w' : World} (h : Below w.heap.size w w') : ScanRet w ⟨0, 0, [], false⟩ (.returned (.tuple #[.int .i64 0, .int .i64 0, .slice none 0 0, .bool false])) w' :=
  ⟨h, _, rfl, AllAt.nil _ _⟩
set_option maxRecDepth 100000 in
set_option maxHeartbeats 1000000 in
theorem Scan_any (R : List Bs) (A : Option Addr) (c : Nat) (w : World) (hR : Reads w A (R.map sv)) (hL2 : R.length ≤ 65536) (hc : R.length ≤ c) (hsz : ∀ s ∈ R, s.length ≤ 1099511627776) (hT : Tab w) :
    Calls Tryd.prog 44 #[.slice A R.length c] w fun e w' => ScanRet w (scanS R) e w' := by
  obtain ⟨v, hv⟩ : ∃ v, v = scanS R := ⟨_, rfl⟩
  rw [← hv]
  have HV := Go.Lib.hid hv
  have HT := Go.Lib.hid hT
  clear hv hT
  by_cases h4 : R.length < 4
  · have HVV : Hid (v = ⟨0, 0, [], false⟩) := by show _ = _; rw [HV.out]; unfold scanS; rw [if_pos h4]
    go_enter Tryd.func44, Tryd.ntmps44
    go_wp2_with fail
    go_step3
    go_wp2_with fail
    rw [Exit.noGoto_ret]
    refine bodyPost_ret (results_tmp4 rfl _ _ _) rfl ?_
    rw [HVV.out]
    exact ScanRet.no (Below.refl _ _)
  · obtain ⟨x, L, rfl⟩ : ∃ x L, R = x :: L := by cases R with | nil => simp at h4 | cons x L => exact ⟨x, L, rfl⟩
    have hx : x.length ≤ 1099511627776 := hsz x (by simp)
    have hLl : 3 ≤ L.length := by simp at h4; omega
    have hLl2 : L.length ≤ 65535 := by simp at hL2; omega
    obtain ⟨b, off, rfl, hcc⟩ := hR (by simp)
    have h0 : w.cell? ⟨b, off, none⟩ = some (.string ⟨x.toArray⟩) := hcc 0 (by simp)
    have hRL : Reads w (some ⟨b, off + 1, none⟩) (L.map sv) := fun _ => ⟨b, off + 1, rfl, fun j hj => by
      have := hcc (j + 1) (by simpa using hj)
      rw [show off + 1 + j = off + (j + 1) by omega]
      simpa using this⟩
    have hsL : ∀ i, (atB L i).length ≤ 1099511627776 := fun i => by
      unfold atB List.getD
      cases h : L[i.toNat % L.length]? with
      | none => simp
      | some s => exact hsz s (List.mem_cons_of_mem _ (List.mem_of_getElem? h))
    have HRL := Go.Lib.hid hRL
    have HSL := Go.Lib.hid hsL
    obtain ⟨o, ho⟩ : ∃ o, o = rtextS x [83, 67, 72] := ⟨_, rfl⟩
    have hx := rtext_any ⟨x.toArray⟩ ⟨#[83, 67, 72]⟩ w hx (by decide) HT.out
    have hF : v = match (generalizing := false) o with
      | none => ⟨0, 0, [], false⟩
      | some r =>
        let a := numS ⟨r, false⟩ 65535
        let b := numS a.1 549755813888
        if endS b.1 ≠ 0 ∨ L.length ≤ a.2 ∨ b.2 < 1 then ⟨0, 0, [], false⟩
        else ⟨(scanGo L (L.length + 1) a.2 b.2 0).1, (scanGo L (L.length + 1) a.2 b.2 0).2.1, (scanGo L (L.length + 1) a.2 b.2 0).2.2, true⟩ := by
      rw [HV.out, ho]; unfold scanS; rw [if_neg h4]; rfl
    simp only [← ho] at hx
    have HF := Go.Lib.hid hF
    have HO := Go.Lib.hid ho
    clear hR hcc hRL hsL hsz ho hF HV h4
    simp only [List.length_cons] at hc hL2 ⊢
    go_enter Tryd.func44, Tryd.ntmps44
    go_wp2_with fail
    go_step3
    go_wp2_with fail
    refine hx.mono ?_
    rintro e w1 ⟨hb1, hcase⟩
    clear hx
    rcases hcase with ⟨rfl, rfl⟩ | ⟨r, p, rfl, rfl, hp, hS⟩
    · go_wp2_with fail
      refine (Num_nil _ (by omega) (by omega) _).mono ?_
      rintro e w2 ⟨rfl, rfl⟩
      go_wp2_with fail
      refine (Num_nil _ (by omega) (by omega) _).mono ?_
      rintro e w2 ⟨rfl, rfl⟩
      go_wp2_with fail
      refine (End_nil _).mono ?_
      rintro e w2 ⟨rfl, rfl⟩
      go_wp2_with fail
      rw [Exit.noGoto_ret]
      refine bodyPost_ret (results_tmp4 rfl _ _ _) rfl ?_
      rw [HF.out]
      exact ScanRet.no hb1
    · have hrl : r.length ≤ 1099511627776 := by have := rtextS_len HO.out.symm; omega
      have hal := numS_len ⟨r, false⟩ 65535
      have halt := numS_lt ⟨r, false⟩ 65535
      obtain ⟨a, ha⟩ : ∃ a, a = numS ⟨r, false⟩ 65535 := ⟨_, rfl⟩
      rw [← ha] at hal halt
      have hbl := numS_len a.1 549755813888
      have hblt := numS_lt a.1 549755813888
      obtain ⟨q, hq⟩ : ∃ q, q = numS a.1 549755813888 := ⟨_, rfl⟩
      rw [← hq] at hbl hblt
      have HF2 : Hid (v = if endS q.1 ≠ 0 ∨ L.length ≤ a.2 ∨ q.2 < 1 then ⟨0, 0, [], false⟩
        else ⟨(scanGo L (L.length + 1) a.2 q.2 0).1, (scanGo L (L.length + 1) a.2 q.2 0).2.1, (scanGo L (L.length + 1) a.2 q.2 0).2.2, true⟩) := by
        show _ = _
        rw [HF.out, hq, ha]
      have HA := Go.Lib.hid ha
      have HQ := Go.Lib.hid hq
      clear ha hq HF
      go_wp2_with fail
      refine (Num_any _ _ 65535 _ hS hrl (by omega)).mono ?_
      rintro e w2 ⟨rfl, hS2, hU2⟩
      rw [← HA.out] at hS2 ⊢
      go_wp2_with fail
      refine (Num_any _ _ 549755813888 _ hS2 (Nat.le_trans hal hrl) (by omega)).mono ?_
      rintro e w3 ⟨rfl, hS3, hU3⟩
      rw [← HQ.out] at hS3 ⊢
      have hB3 : Below w.heap.size w w3 := (hb1.trans (hU2.below hb1.size (by simpa using hp))).trans (hU3.below (by have := hb1.size; have := hU2.size; omega) (by simpa using hp))
      clear hS hS2 hU2 hU3 hb1
      obtain ⟨sa, an⟩ := a
      obtain ⟨sq, n⟩ := q
      simp only at hal halt hbl hblt HF2 hS3 ⊢
      obtain ⟨en, hen⟩ : ∃ en, en = endS sq := ⟨_, rfl⟩
      have hEnd := End_any p sq w3 hS3
      rw [← hen] at hEnd HF2
      clear hen
      go_wp2_with fail
      refine hEnd.mono ?_
      rintro e w4 ⟨rfl, rfl⟩
      clear hEnd
      by_cases hbad : en ≠ 0 ∨ L.length ≤ an ∨ n < 1
      · have HV : Hid (v = ⟨0, 0, [], false⟩) := by show _ = _; rw [HF2.out, if_pos hbad]
        have HBAD := Go.Lib.hid hbad
        clear hbad HF2
        by_cases he : en = 0
        · subst he
          by_cases hn : L.length ≤ an
          · go_wp2_with fail
            rw [Exit.noGoto_ret]
            refine bodyPost_ret (results_tmp4 rfl _ _ _) rfl ?_
            rw [HV.out]
            exact ScanRet.no hB3
          · have hn1 : n < 1 := by rcases HBAD.out with h | h | h <;> omega
            go_wp2_with fail
            rw [Exit.noGoto_ret]
            refine bodyPost_ret (results_tmp4 rfl _ _ _) rfl ?_
            rw [HV.out]
            exact ScanRet.no hB3
        · have he2 : (en == 0) = false := by simp [he]
          go_wp2_with fail
          rw [Exit.noGoto_ret]
          refine bodyPost_ret (results_tmp4 rfl _ _ _) rfl ?_
          rw [HV.out]
          exact ScanRet.no hB3
      · obtain rfl : en = 0 := by omega
        have hn1 : 1 ≤ n := by omega
        have hn2 : an < L.length := by omega
        have HF3 : Hid (v = ⟨(scanGo L (L.length + 1) an n 0).1, (scanGo L (L.length + 1) an n 0).2.1, (scanGo L (L.length + 1) an n 0).2.2, true⟩) := by show _ = _; rw [HF2.out, if_neg hbad]
        have hd1 : decide (L.length ≤ an) = false := by simp; omega
        have hd2 : decide ((n : Int) < 1) = false := by simp; omega
        clear hbad HF2
        go_wp2_with fail
        go_step3
        go_wp2_with fail
        go_loopw [2, 3, 4, 8] (fun pv sv' av uv wr => ∃ (place used f : Nat) (seq : Int) (acc : List (List PutM)), pv = .int .i64 place ∧ sv' = .int .i64 seq ∧ uv = .int .i64 used ∧ AllAt wr w.heap.size av acc ∧ Below w.heap.size w wr ∧
          place < L.length ∧ used ≤ L.length ∧ 3 * acc.length ≤ used ∧ L.length < used + 3 * f ∧ 1 ≤ seq ∧ seq ≤ 549755813888 + acc.length ∧
          Hid (scanGo L (L.length + 1) an n 0 = ((scanGo L f place seq used).1, (scanGo L f place seq used).2.1, acc ++ (scanGo L f place seq used).2.2))) (fun _ _ _ uv _ => L.length - (intOf uv).toNat)
        case atStart => exact ⟨an, 0, L.length + 1, n, [], rfl, rfl, rfl, AllAt.nil _ _, hB3, hn2, by omega, by simp, by omega, by omega, by simp; omega, by show _ = _; simp⟩
        case round =>
          obtain ⟨place, used, f, seq, acc, rfl, rfl, rfl, hall, hBr, hpl, hus, hac, hf, hs1, hs2, HG⟩ := hrel
          have hml := foundS_len L place seq
          have hFound := found_any L (some ⟨b, off + 1, none⟩) (c - 1) place seq wr (HRL.out.below hBr) (by omega) (by omega) (by omega) (by omega) HSL.out (HT.out.below hBr)
          obtain ⟨ps, hps⟩ : ∃ ps, ps = foundS L place seq := ⟨_, rfl⟩
          rw [← hps] at hFound hml
          obtain ⟨m, hm⟩ : ∃ m, m = ps.length := ⟨_, rfl⟩
          have hz0 := hBr.size
          have hacl : acc.length ≤ 65535 := by omega
          obtain ⟨f', rfl⟩ : ∃ f', f = f' + 1 := ⟨f - 1, by omega⟩
          have HG2 : Hid (scanGo L (f' + 1) place seq used = if m = 0 ∨ L.length < used + (m + 2) then (place, seq, [])
            else ((scanGo L f' ((place + m + 2) % L.length) (seq + 1) (used + (m + 2))).1, (scanGo L f' ((place + m + 2) % L.length) (seq + 1) (used + (m + 2))).2.1, ps :: (scanGo L f' ((place + m + 2) % L.length) (seq + 1) (used + (m + 2))).2.2)) := by
            show _ = _
            rw [hm, hps]; rfl
          have HPS := Go.Lib.hid hps
          have HM := Go.Lib.hid hm
          rw [← hm] at hml
          clear hps hm
          obtain ⟨vs, hvs, hin⟩ := hall
          obtain ⟨Aa, ca, rfl⟩ := own_slice hvs
          have HVS := Go.Lib.hid hvs
          have HIN := Go.Lib.hid hin
          clear hvs hin
          go_wp2_with fail
          refine hFound.mono ?_
          rintro e w4 ⟨hb4, v4, rfl, hv4⟩
          clear hFound
          have hB4 : Below w.heap.size w w4 := hBr.trans (hb4.mono hz0)
          rw [← HM.out] at hv4
          obtain ⟨A4, c4, rfl⟩ := own_slice hv4
          have HV4 := Go.Lib.hid hv4
          clear hv4
          by_cases hstop : m = 0 ∨ L.length < used + (m + 2)
          · have HST := Go.Lib.hid hstop
            have HV : Hid (v = ⟨place, seq, acc, true⟩) := by
              show _ = _
              rw [HF3.out, HG.out, HG2.out, if_pos hstop]
              simp
            clear hstop
            by_cases hm0 : m = 0
            · subst hm0
              go_wp2_with fail
              rw [Exit.noGoto_ret]
              refine bodyPost_ret (results_tmp4 rfl _ _ _) rfl ?_
              rw [HV.out]
              exact ⟨hB4, _, rfl, AllAt.same ⟨vs, HVS.out, HIN.out⟩ hb4.block⟩
            · have hlu : L.length < used + (m + 2) := by rcases HST.out with h | h; exact absurd h hm0; exact h
              go_wp2_with fail
              rw [Exit.noGoto_ret]
              refine bodyPost_ret (results_tmp4 rfl _ _ _) rfl ?_
              rw [HV.out]
              exact ⟨hB4, _, rfl, AllAt.same ⟨vs, HVS.out, HIN.out⟩ hb4.block⟩
          · have HG3 : Hid (scanGo L (L.length + 1) an n 0 = ((scanGo L f' ((place + m + 2) % L.length) (seq + 1) (used + (m + 2))).1, (scanGo L f' ((place + m + 2) % L.length) (seq + 1) (used + (m + 2))).2.1, (acc ++ [ps]) ++ (scanGo L f' ((place + m + 2) % L.length) (seq + 1) (used + (m + 2))).2.2)) := by
              show _ = _
              rw [HG.out, HG2.out, if_neg hstop]
              simp
            have hm1 : 1 ≤ m := by omega
            have hmz : ((m : Int) == 0) = false := by simp; omega
            have hlu : used + (m + 2) ≤ L.length := by omega
            clear hstop HG HG2
            obtain ⟨pl2, hp2⟩ : ∃ pl2, pl2 = (place + m + 2) % L.length := ⟨_, rfl⟩
            have hpl2 : pl2 < L.length := by rw [hp2]; exact Nat.mod_lt _ (by omega)
            have hmod : ((place : Int) + (m : Int) + 2).tmod (L.length : Int) = (pl2 : Int) := by
              rw [hp2, show ((place : Int) + (m : Int) + 2) = ((place + m + 2 : Nat) : Int) by omega]
              exact (Int.ofNat_tmod _ _).symm
            rw [← hp2] at HG3
            have HP2 := Go.Lib.hid hp2
            clear hp2
            obtain ⟨W, hW⟩ : ∃ W, W = w4.alloc (.cells #[.slice A4 m c4] 41) := ⟨_, rfl⟩
            have hn1' : ∀ i u, [Value.slice A4 m c4][i]? = some u → W.cell? ((⟨w4.heap.size, 0, none⟩ : Addr).add i) = some u := by
              intro i u hi
              rw [hW]
              match i, hi with
              | 0, hi => simp at hi; subst hi; simp [Addr.add]
            have hBW : Below w.heap.size w W := by rw [hW]; exact hB4.alloc hB4.size _
            have hWb : ∀ k, k < w4.heap.size → W.heap[k]? = w4.heap[k]? := fun k hk => by rw [hW]; exact Below.heap_alloc _ _ _ hk
            have hvsW : W.ownsRow w.heap.size 41 1 (.slice Aa acc.length ca) acc.length vs :=
              own_same HVS.out (fun k hk => by
                have hl := (HVS.out.lt k hk).2
                exact (hWb k (Nat.lt_of_lt_of_le hl hb4.size)).trans (hb4.block k hl))
            have hinW : ∀ (i : Nat) (v : Value) (xs : List PutM), vs[i]? = some v → acc[i]? = some xs → W.ownsRow w.heap.size 40 2 v xs.length (putCells2 xs) := fun i v xs hv hx =>
              own_same (HIN.out i v xs hv hx) (fun k hk => by
                have hl := ((HIN.out i v xs hv hx).lt k hk).2
                exact (hWb k (Nat.lt_of_lt_of_le hl hb4.size)).trans (hb4.block k hl))
            have hv4W : W.ownsRow w.heap.size 40 2 (.slice A4 m c4) m (putCells2 ps) := own_base (own_same HV4.out (fun k hk => hWb k ((HV4.out.lt k hk).2))) (fun k hk => Nat.le_trans hz0 (HV4.out.lt k hk).1)
            have hvl : vs.length = acc.length := by have := HVS.out.1; simpa using this
            have HW := Go.Lib.hid hW
            have HIW := Go.Lib.hid hinW
            have HV4W := Go.Lib.hid hv4W
            clear hW hinW hv4W hWb HV4 HVS HIN
            go_wp2_with (at_builtin; rw [← HW.out]; refine wpList_append_S rfl _ _ 78 rfl w.heap.size 41 _ 1 24 Tryd.underlying78 info_puts rfl (by decide) (.slice Aa acc.length ca) _ _ rfl hvsW ⟨w4.heap.size, 0, none⟩ 1 1 [.slice A4 m c4] rfl rfl hn1' ?c2 ?c3 ?c4 hBW.size ?_)
            case c2 => intro u hu; simp at hu; subst hu; rfl
            case c3 => unfold maxLen; omega
            case c4 => omega
            intro av' w5 hav5 hg5 hf5
            have hne5 : ∀ {b : Nat} {cs : Array Value} {t : TypeId}, W.heap[b]? = some (.cells cs t (0, 0)) → t ≠ 41 → w5.heap[b]? = W.heap[b]? := fun {b cs t} hb ht => hg5.block b (blk_lt hb) (fun e => by
              obtain ⟨cs2, hcs⟩ := own_ty hvsW e.symm
              exact ne_of_ty hb hcs ht rfl)
            have hin5 : ∀ (i : Nat) (v : Value) (xs : List PutM), (vs ++ [.slice A4 m c4])[i]? = some v → (acc ++ [ps])[i]? = some xs → w5.ownsRow w.heap.size 40 2 v xs.length (putCells2 xs) := by
              intro i v xs hv hx
              have key : W.ownsRow w.heap.size 40 2 v xs.length (putCells2 xs) := by
                by_cases hi : i < acc.length
                · rw [List.getElem?_append_left (by omega)] at hv hx
                  exact HIW.out i v xs hv hx
                · rw [List.getElem?_append_right (by omega)] at hv hx
                  rw [hvl] at hv
                  cases h : i - acc.length with
                  | zero =>
                    rw [h] at hv hx
                    simp at hv hx
                    subst hv hx
                    rw [← HM.out]
                    exact HV4W.out
                  | succ j => rw [h] at hx; simp at hx
              exact own_same key (fun b hb => by
                obtain ⟨cs, hcs⟩ := own_ty key hb
                exact hne5 hcs (by decide))
            have hB5 : Below w.heap.size w w5 := hBW.trans ((upd_of_grown (S := blk1 (.slice Aa acc.length ca)) hg5 (fun k hk => mem_blk1.2 hk)).below hBW.size (fun k hk => (hvsW.lt k (mem_blk1.1 hk)).1))
            obtain ⟨A5, c5, rfl⟩ := own_slice hav5
            have HN5 := Go.Lib.hid hin5
            clear hne5 hg5 hf5 hvsW hn1' HW hBW hin5 HIW HV4W
            go_wp2_with fail
            go_roundw
            case rel =>
              exact ⟨pl2, used + (m + 2), f', seq + 1, acc ++ [ps], rfl, by go_num, by go_num, ⟨vs ++ [.slice A4 m c4], by simpa using hav5, HN5.out⟩, hB5, hpl2, hlu, by simp; omega, by omega, by omega, by simp; omega, HG3⟩
            case measure => simp [intOf]; omega

end Go.Proofs.YtbalbjhmboppoaaDoor
