/-
  redo.Open, walked.
  The disk's cache holds fewer than 2^39 writes; the table of check lies where it lies.
-/
import Derived.Test.YtbalbjhmboppoaaDoorW3
set_option linter.unusedSimpArgs false
set_option linter.unusedVariables false
namespace Go.Proofs.YtbalbjhmboppoaaDoor
open Go.RowKit

set_option maxRecDepth 100000 in
set_option maxHeartbeats 2000000 in
theorem Open_any {S : List Nat} {p : Nat} {D : DiskS} (w : World) (base size : Int) (hD : DiskAt w S p D) (ok : D.Ok) (hr : D.cache.length ≤ 549755813888) (hT : Tab w) (h0 : (0 : Nat) ∉ S) :
    Calls Tryd.prog 18 #[.pointer (some ⟨p, 0, none⟩), .int .i64 base, .int .i64 size] w fun e w' => OpenRet w S p base size (openS D base size) e w' := by
  have hfit := fits_any w base size hD ok
  obtain ⟨b, hb⟩ : ∃ b, b = fitsB D base size := ⟨_, rfl⟩
  rw [← hb] at hfit
  have HB := Go.Lib.hid hb
  have HT := Go.Lib.hid hT
  have H0 := Go.Lib.hid h0
  clear hb hT h0
  have hpz := hD.ltS p hD.ps
  cases b
  · go_enter Tryd.func18, Tryd.ntmps18
    go_wp2_with fail
    refine hfit.mono ?_
    rintro e w1 ⟨rfl, rfl⟩
    go_wp2_with fail
    go_ret2
    have : openS D base size = ⟨D, 1, 0, 0⟩ := by unfold openS; rw [if_pos HB.out.symm]
    rw [this]
    exact ⟨S, hD, Upd.refl _ _, Sub.refl _ _, .inl ⟨by show (1 : Int) ≠ 0; decide, rfl⟩⟩
  · have hbase : 0 ≤ base ∧ base ≤ 65536 ∧ 4 ≤ size ∧ size ≤ 65536 ∧ base + size ≤ D.lies.length ∧ D.lies.length ≤ 65536 := by
      have h := fitsB_iff.1 HB.out.symm
      have := ok.most
      simp only [DiskS.sectors] at h
      omega
    obtain ⟨hb0, hb1, hz4, hz6, hbz, hlm⟩ := hbase
    obtain ⟨n, rfl⟩ : ∃ n : Nat, size = n := ⟨size.toNat, by omega⟩
    have hO : openS D base n = if D.on = false then ⟨D, 14, 0, 0⟩ else if (scanS (readR D base n)).is = false then ⟨D, 10, 0, 0⟩ else openL D base (scanS (readR D base n)) := by
      unfold openS
      rw [if_neg (by rw [← HB.out]; decide)]
      rfl
    have HO := Go.Lib.hid hO
    have HD := Go.Lib.hid hD
    have HK := Go.Lib.hid ok
    clear hO hD ok
    go_enter Tryd.func18, Tryd.ntmps18
    go_wp2_with fail
    refine hfit.mono ?_
    rintro e w1 ⟨rfl, rfl⟩
    clear hfit
    go_wp2_with fail
    go_loopw [8, 24] (fun rv iv wr => ∃ i : Nat, i ≤ n ∧ iv = .int .i64 i ∧ wr.ownsRow w.heap.size 9 1 rv i (((readR D base n).take i).map sv) ∧ (0 < i → D.on = true) ∧ Below w.heap.size w wr) (fun _ iv _ => n - (intOf iv).toNat)
    case atStart => exact ⟨0, Nat.zero_le _, rfl, World.ownsRow_nil _ _ _ _, by omega, Below.refl _ _⟩
    case round =>
      obtain ⟨i, hi, rfl, hrow, hon, hBr⟩ := hrel
      obtain ⟨A1, c1, rfl⟩ := own_slice hrow
      by_cases hlt : i < n
      · have hrd := dRead_any wr (base + i) (HD.out.below hBr) HK.out
        unfold rdVal at hrd
        have hsl := HK.out.read (base + i)
        have hrt := readR_take D base n i hlt
        obtain ⟨s, hs⟩ : ∃ s, s = (D.readS (base + i)).1 := ⟨_, rfl⟩
        rw [← hs] at hrd hsl hrt
        have HRT := Go.Lib.hid hrt
        have hz0 := hBr.size
        cases hd : D.on
        · have e2 : (D.readS (base + i)).2 = 14 := by unfold DiskS.readS; rw [if_neg (by simp [DiskS.sectors]; omega), if_pos hd]
          rw [e2] at hrd
          have HOO : Hid (openS D base n = ⟨D, 14, 0, 0⟩) := by show _ = _; rw [HO.out, if_pos hd]
          clear hon hs hrt hd e2
          go_wp2_with fail
          refine hrd.mono ?_
          rintro e w2 ⟨rfl, hb2⟩
          go_wp2_with fail
          go_ret2
          rw [HOO.out]
          have hB2 := hBr.trans (hb2.mono hz0)
          exact ⟨S, HD.out.below hB2, Upd.of_below hB2, Sub.refl _ _, .inl ⟨by show (14 : Int) ≠ 0; decide, rfl⟩⟩
        · have e2 : (D.readS (base + i)).2 = 0 := by unfold DiskS.readS; rw [if_neg (by simp [DiskS.sectors]; omega), if_neg (by rw [hd]; decide)]
          rw [e2] at hrd
          have HDO := Go.Lib.hid hd
          clear hon hs hrt hd e2
          go_wp2_with fail
          refine hrd.mono ?_
          rintro e w2 ⟨rfl, hb2⟩
          have hB2 := hBr.trans (hb2.mono hz0)
          obtain ⟨W, hW⟩ : ∃ W, W = w2.alloc (.cells #[.string ⟨s.toArray⟩] 9) := ⟨_, rfl⟩
          have hn1 : ∀ j u, [Value.string ⟨s.toArray⟩][j]? = some u → W.cell? ((⟨w2.heap.size, 0, none⟩ : Addr).add j) = some u := by
            intro j u hj
            rw [hW]
            match j, hj with
            | 0, hj => simp at hj; subst hj; simp [Addr.add]
          have hrowW : W.ownsRow w.heap.size 9 1 (.slice A1 i c1) i (((readR D base n).take i).map sv) := by
            rw [hW]
            exact (own_same hrow (fun k hk => hb2.block k (hrow.lt k hk).2)).alloc _
          have hBW : Below w.heap.size w W := by rw [hW]; exact hB2.alloc hB2.size _
          have HW := Go.Lib.hid hW
          clear hW hrow hrd
          go_wp2_with (at_builtin; rw [← HW.out]; refine wpList_append_S rfl _ _ 70 rfl w.heap.size 9 _ 1 16 Tryd.underlying70 info_string rfl (by decide) (.slice A1 i c1) _ _ rfl hrowW ⟨w2.heap.size, 0, none⟩ 1 1 [.string ⟨s.toArray⟩] rfl rfl hn1 ?c2 ?c3 ?c4 hBW.size ?_)
          case c2 => intro u hu; simp at hu; subst hu; rfl
          case c3 => unfold maxLen; omega
          case c4 => omega
          intro v5 w5 hrow5 hg5 hf5
          have hB5 : Below w.heap.size w w5 := hBW.trans ((upd_of_grown (S := blk1 (.slice A1 i c1)) hg5 (fun k hk => mem_blk1.2 hk)).below hBW.size (fun k hk => (hrowW.lt k (mem_blk1.1 hk)).1))
          obtain ⟨A5, c5, rfl⟩ := own_slice hrow5
          clear hg5 hf5 hrowW hn1 HW hBW
          go_wp2_with fail
          go_roundw
          case rel => exact ⟨i + 1, by omega, by go_num, by rw [HRT.out]; simpa [sv] using hrow5, fun _ => by first | exact HDO.out | trivial, hB5⟩
          case measure => simp [intOf]; omega
      · obtain rfl : i = n := by omega
        have hdon := hon (by omega)
        have HDO := Go.Lib.hid hdon
        have hO2 : openS D base i = if (scanS (readR D base i)).is = false then ⟨D, 10, 0, 0⟩ else openL D base (scanS (readR D base i)) := by rw [HO.out, if_neg (by rw [hdon]; decide)]
        have hRl := readR_len D base i
        have hRs := readR_strs HK.out base i
        have hfacts := scanS_facts _ hRs
        rw [List.take_of_length_le (by rw [readR_len]; omega)] at hrow
        obtain ⟨R, hR⟩ : ∃ R, R = readR D base i := ⟨_, rfl⟩
        rw [← hR] at hO2 hRl hRs hrow hfacts
        obtain ⟨hRd, hRc⟩ := own_reads hrow
        have hScan := Scan_any R A1 c1 wr hRd (by omega) (by omega) (fun s hs => by have := hRs s hs; omega) (HT.out.below hBr)
        rw [hRl] at hScan
        obtain ⟨r, hrr⟩ : ∃ r, r = scanS R := ⟨_, rfl⟩
        rw [← hrr] at hO2 hScan hfacts
        have HO2 := Go.Lib.hid hO2
        clear hO2 hrr hR hdon hon HO hRd hRs
        obtain ⟨hf1, hf2, hf3, hf4⟩ := hfacts
        rw [hRl] at hf1 hf3
        have HF2 := Go.Lib.hid hf2
        have HF4 := Go.Lib.hid hf4
        clear hf2 hf4
        go_wp2_with fail
        refine hScan.mono ?_
        rintro e w2 ⟨hb2, v2, rfl, hall⟩
        clear hScan
        have hz0 := hBr.size
        have hB2 := hBr.trans (hb2.mono hz0)
        obtain ⟨rp, rs, ra, ri⟩ := r
        simp only at hf1 hf3 hall HO2 HF2 HF4 ⊢
        cases ri
        · go_wp2_with fail
          go_ret2
          rw [HO2.out, if_pos trivial]
          exact ⟨S, HD.out.below hB2, Upd.of_below hB2, Sub.refl _ _, .inl ⟨by show (10 : Int) ≠ 0; decide, rfl⟩⟩
        · have HO3 : Hid (openS D base i = openL D base ⟨rp, rs, ra, true⟩) := by show _ = _; rw [HO2.out, if_neg (by decide)]
          clear HO2
          by_cases hae : ra = []
          · subst hae
            obtain ⟨vs, hvs, hin⟩ := hall
            obtain ⟨A2, c2, rfl⟩ := own_slice hvs
            have HV : Hid (openS D base i = if (D.writeF true [((base + 1 + rp : Int), zeros 256)]).2 ≠ 0 then ⟨(D.writeF true [((base + 1 + rp : Int), zeros 256)]).1, (D.writeF true [((base + 1 + rp : Int), zeros 256)]).2, 0, 0⟩ else ⟨(D.writeF true [((base + 1 + rp : Int), zeros 256)]).1, 0, rp, rs⟩) := by
              show _ = _
              rw [HO3.out]
              rfl
            have hD1 := HD.out.below hB2
            have hU1 : Upd S w w2 := Upd.of_below hB2
            have hSub1 := Sub.refl S w
            have hok1 := HK.out
            obtain ⟨w1, hw1⟩ : ∃ w1, w1 = w2 := ⟨_, rfl⟩
            obtain ⟨D1, hDD⟩ : ∃ D1, D1 = D := ⟨_, rfl⟩
            rw [← hw1] at hD1 hU1 ⊢
            rw [← hDD] at hD1 hok1
            have hc1 : D1.cache.length ≤ 1000000000000 := by rw [hDD]; omega
            have HV' : Hid (openS D base i = if (D1.writeF true [((base + 1 + rp : Int), zeros 256)]).2 ≠ 0 then ⟨(D1.writeF true [((base + 1 + rp : Int), zeros 256)]).1, (D1.writeF true [((base + 1 + rp : Int), zeros 256)]).2, 0, 0⟩ else ⟨(D1.writeF true [((base + 1 + rp : Int), zeros 256)]).1, 0, rp, rs⟩) := by rw [hDD]; exact HV
            clear HV HO3 hvs hin hrow hw1 hDD hb2 hB2 hBr
            have HV := HV'
            clear HV'
            have hz1 := hU1.size
            have hT1 : Tab w1 := HT.out.kept (hU1.block 0 HT.out.lt H0.out)
            go_wp2_with fail
            refine (blank_any _).mono ?_
            rintro e w7 ⟨rfl, hb7⟩
            have hsz7 : ∀ x ∈ [((base + 1 + rp : Int), zeros 256)], x.2.length ≤ 1099511627776 := by
              intro x hx
              simp only [List.mem_cons, List.not_mem_nil, or_false] at hx
              subst hx
              simp [zeros]
            go_wp2_with fail
            refine (write_new w7 true [((base + 1 + rp : Int), zeros 256)] _ 1 rfl rfl (by omega) (hD1.upd (Upd.of_below (S := []) hb7) (by simp)) hok1 (by simp; omega) hsz7).mono ?_
            intro e w8 hret
            have hret2 := (hret.from (Upd.of_below hb7))
            clear hret hsz7
            obtain ⟨S8, rfl, hD8, hU8, hS8⟩ := hret2
            have hU9 : Upd S w w8 := hU1.trans hU8 (fun k hk => by rcases hSub1 k hk with h | h; exact .inl h; exact .inr h)
            have hS9 : Sub S S8 w := hSub1.trans hS8 hz1
            obtain ⟨e8, he8⟩ : ∃ e8, e8 = (D1.writeF true [((base + 1 + rp : Int), zeros 256)]).2 := ⟨_, rfl⟩
            obtain ⟨D8, hD8'⟩ : ∃ D8, D8 = (D1.writeF true [((base + 1 + rp : Int), zeros 256)]).1 := ⟨_, rfl⟩
            rw [← hD8'] at hD8
            rw [← he8]
            have HV8 : Hid (openS D base i = if e8 ≠ 0 then ⟨D8, e8, 0, 0⟩ else ⟨D8, 0, rp, rs⟩) := by show _ = _; rw [HV.out, he8, hD8']
            clear he8 hD8' HV
            by_cases hz8 : e8 = 0
            · subst hz8
              go_wp2_with fail
              go_ret2
              rw [HV8.out, if_neg (by simp)]
              refine ⟨S8, hD8.upd ((Upd.refl [] _).alloc _) (by simp), hU9.alloc _, hS9, .inr ⟨rfl, w8.heap.size, rfl, blk_new w8 _, hU9.size, fun hm => ?_⟩⟩
              have := hD8.ltS _ hm
              omega
            · have hz9 : (e8 == 0) = false := by simp [hz8]
              go_wp2_with fail
              go_ret2
              rw [HV8.out, if_pos hz8]
              exact ⟨S8, hD8, hU9, hS9, .inl ⟨hz8, rfl⟩⟩
          · have hal : 0 < ra.length := by cases ra with | nil => exact absurd rfl hae | cons _ _ => simp
            obtain ⟨vs, hvs, hin⟩ := id hall
            obtain ⟨A2, c2, rfl⟩ := own_slice hvs
            have hCon := sConcat_any w2 ra hall HF2.out (by omega)
            have hae' := hae
            clear hvs hin hrow
            go_wp2_with fail
            refine hCon.mono ?_
            rintro e w3 ⟨hb3, v3, rfl, hv3⟩
            have hB3 := hB2.trans (hb3.mono hB2.size)
            have hD3 := HD.out.below hB3
            have hP3 : PutsR w3 S v3 ra.flatten := PutsR.of_own hv3 (fun k hk hm => by
              have h1 := (hv3.lt k hk).1
              have h2 := HD.out.ltS k hm
              have h3 := hB2.size
              omega)
            have hwr := write_any w3 true ra.flatten hD3 HK.out hP3 (by omega) (fun x hx => by have := HF4.out x hx; omega)
            have hca := DiskS.writeF_cache D true ra.flatten
            have hok4 := HK.out.writeF true ra.flatten (by omega)
            obtain ⟨e4, he4⟩ : ∃ e4, e4 = (D.writeF true ra.flatten).2 := ⟨_, rfl⟩
            obtain ⟨D4, hD4'⟩ : ∃ D4, D4 = (D.writeF true ra.flatten).1 := ⟨_, rfl⟩
            rw [← he4, ← hD4'] at hwr
            rw [← hD4'] at hca hok4
            have HV4 : Hid (openS D base i = openL D base ⟨rp, rs, ra, true⟩ ∧ redoS D base ⟨rp, rs, ra, true⟩ = if e4 = 0 then D4.writeF false [(base, headB rp rs)] else (D4, e4)) := by
              refine ⟨HO3.out, ?_⟩
              unfold redoS
              rw [if_neg hae]
              dsimp only
              rw [← he4, ← hD4']
              split
              · rfl
              · rw [he4, hD4']
            clear he4 hD4' hCon HO3 hP3 hv3 hall hae hae'
            go_wp2_with fail
            refine hwr.mono ?_
            intro e w4 hret
            have hret2 := hret.from (Upd.of_below hB3)
            clear hret hwr
            obtain ⟨S4, rfl, hD4, hU4, hS4⟩ := hret2
            have hz4' := hU4.size
            by_cases hz : e4 = 0
            · subst hz
              have hT4 : Tab w4 := HT.out.kept (hU4.block 0 HT.out.lt H0.out)
              go_wp2_with fail
              refine (Head_any _ _ _ hT4).mono ?_
              rintro e w5 ⟨rfl, hb5⟩
              have hsz6 : ∀ x ∈ [(base, headB rp rs)], x.2.length ≤ 1099511627776 := by
                intro x hx
                simp only [List.mem_cons, List.not_mem_nil, or_false] at hx
                subst hx
                have := headB_len rp rs
                dsimp only; omega
              have hok6 := hok4.writeF false [(base, headB rp rs)] (by simp; omega)
              have hca6 := DiskS.writeF_cache D4 false [(base, headB rp rs)]
              have hwr6 := write_new w5 false [(base, headB rp rs)] _ 1 rfl rfl (by omega) (hD4.upd (Upd.of_below (S := []) hb5) (by simp)) hok4 (by simp; omega) hsz6
              obtain ⟨e6, he6⟩ : ∃ e6, e6 = (D4.writeF false [(base, headB rp rs)]).2 := ⟨_, rfl⟩
              obtain ⟨D1, hD1'⟩ : ∃ D1, D1 = (D4.writeF false [(base, headB rp rs)]).1 := ⟨_, rfl⟩
              rw [← he6, ← hD1'] at hwr6
              rw [← hD1'] at hok6 hca6
              have HV6 : Hid (openS D base i = openL D base ⟨rp, rs, ra, true⟩ ∧ redoS D base ⟨rp, rs, ra, true⟩ = (D1, e6)) := by
                refine ⟨HV4.out.1, ?_⟩
                rw [HV4.out.2, if_pos trivial, he6, hD1']
              clear he6 hD1' HV4 hsz6
              go_wp2_with fail
              refine hwr6.mono ?_
              intro e w1 hret
              have hret2 := hret.from (Upd.of_below hb5)
              clear hret hwr6
              obtain ⟨S1, rfl, hD1, hU1', hS1⟩ := hret2
              have hU1 : Upd S w w1 := hU4.trans hU1' (fun k hk => by rcases hS4 k hk with h | h; exact .inl h; exact .inr h)
              have hSub1 : Sub S S1 w := hS4.trans hS1 hz4'
              have hok1 := hok6
              have hc1 : D1.cache.length ≤ 1000000000000 := by simp at hca6; omega
              by_cases hz6' : e6 = 0
              · subst hz6'
                have HV : Hid (openS D base i = if (D1.writeF true [((base + 1 + rp : Int), zeros 256)]).2 ≠ 0 then ⟨(D1.writeF true [((base + 1 + rp : Int), zeros 256)]).1, (D1.writeF true [((base + 1 + rp : Int), zeros 256)]).2, 0, 0⟩ else ⟨(D1.writeF true [((base + 1 + rp : Int), zeros 256)]).1, 0, rp, rs⟩) := by
                  show _ = _
                  rw [HV6.out.1]
                  unfold openL
                  rw [HV6.out.2, if_neg (by simp)]
                clear HV6 hU1' hS1 hU4 hS4 hb5 hB3 hb3 hB2 hb2 hD4 hD3 hBr
                have hz1 := hU1.size
                have hT1 : Tab w1 := HT.out.kept (hU1.block 0 HT.out.lt H0.out)
                go_wp2_with fail
                refine (blank_any _).mono ?_
                rintro e w7 ⟨rfl, hb7⟩
                have hsz7 : ∀ x ∈ [((base + 1 + rp : Int), zeros 256)], x.2.length ≤ 1099511627776 := by
                  intro x hx
                  simp only [List.mem_cons, List.not_mem_nil, or_false] at hx
                  subst hx
                  simp [zeros]
                go_wp2_with fail
                refine (write_new w7 true [((base + 1 + rp : Int), zeros 256)] _ 1 rfl rfl (by omega) (hD1.upd (Upd.of_below (S := []) hb7) (by simp)) hok1 (by simp; omega) hsz7).mono ?_
                intro e w8 hret
                have hret2 := (hret.from (Upd.of_below hb7))
                clear hret hsz7
                obtain ⟨S8, rfl, hD8, hU8, hS8⟩ := hret2
                have hU9 : Upd S w w8 := hU1.trans hU8 (fun k hk => by rcases hSub1 k hk with h | h; exact .inl h; exact .inr h)
                have hS9 : Sub S S8 w := hSub1.trans hS8 hz1
                obtain ⟨e8, he8⟩ : ∃ e8, e8 = (D1.writeF true [((base + 1 + rp : Int), zeros 256)]).2 := ⟨_, rfl⟩
                obtain ⟨D8, hD8'⟩ : ∃ D8, D8 = (D1.writeF true [((base + 1 + rp : Int), zeros 256)]).1 := ⟨_, rfl⟩
                rw [← hD8'] at hD8
                rw [← he8]
                have HV8 : Hid (openS D base i = if e8 ≠ 0 then ⟨D8, e8, 0, 0⟩ else ⟨D8, 0, rp, rs⟩) := by show _ = _; rw [HV.out, he8, hD8']
                clear he8 hD8' HV
                by_cases hz8 : e8 = 0
                · subst hz8
                  go_wp2_with fail
                  go_ret2
                  rw [HV8.out, if_neg (by simp)]
                  refine ⟨S8, hD8.upd ((Upd.refl [] _).alloc _) (by simp), hU9.alloc _, hS9, .inr ⟨rfl, w8.heap.size, rfl, blk_new w8 _, hU9.size, fun hm => ?_⟩⟩
                  have := hD8.ltS _ hm
                  omega
                · have hz9 : (e8 == 0) = false := by simp [hz8]
                  go_wp2_with fail
                  go_ret2
                  rw [HV8.out, if_pos hz8]
                  exact ⟨S8, hD8, hU9, hS9, .inl ⟨hz8, rfl⟩⟩
              · have hz7 : (e6 == 0) = false := by simp [hz6']
                go_wp2_with fail
                go_ret2
                have : openS D base i = ⟨D1, e6, 0, 0⟩ := by
                  rw [HV6.out.1]
                  unfold openL
                  rw [HV6.out.2, if_pos hz6']
                rw [this]
                exact ⟨S1, hD1, hU1, hSub1, .inl ⟨hz6', rfl⟩⟩
            · have hz7 : (e4 == 0) = false := by simp [hz]
              go_wp2_with fail
              go_ret2
              have : openS D base i = ⟨D4, e4, 0, 0⟩ := by
                rw [HV4.out.1]
                unfold openL
                rw [HV4.out.2, if_neg hz, if_pos hz]
              rw [this]
              exact ⟨S4, hD4, hU4, hS4, .inl ⟨hz, rfl⟩⟩

end Go.Proofs.YtbalbjhmboppoaaDoor
