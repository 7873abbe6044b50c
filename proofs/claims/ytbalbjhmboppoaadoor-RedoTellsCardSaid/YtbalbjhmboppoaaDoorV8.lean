/-
  RedoTells, walked: true.
  The table of check lies where it lies.
-/
import Derived.Test.YtbalbjhmboppoaaDoorV7
set_option linter.unusedSimpArgs false
set_option linter.unusedVariables false
namespace Go.Proofs.YtbalbjhmboppoaaDoor
open Go.RowKit

/-- The writes of the last transaction, as the law lays them. -/
def tellP (x : Int × UInt8) : PutM := (x.1, if x.2 = 9 then (withB x.2).take 255 else withB x.2)
def badP (n : Nat) (x : Int × UInt8) : Bool := decide (x.2 = 9) || decide (x.1 < n) || decide (39 < x.1)
theorem tellP_len (x : Int × UInt8) : (tellP x).2.length ≤ 256 := by
  unfold tellP
  dsimp only
  split
  · have := withB_len x.2; simp [this]
  · rw [withB_len]; omega
theorem badP_iff (n : Nat) (x : Int × UInt8) : badP n x = true ↔ ((tellP x).2.length ≠ 256 ∨ (tellP x).1 < n ∨ 40 ≤ (tellP x).1) := by
  have hl := withB_len x.2
  unfold badP tellP
  dsimp only
  simp only [Bool.or_eq_true, decide_eq_true_eq]
  by_cases h9 : x.2 = 9
  · rw [if_pos h9]
    have h255 : ((withB x.2).take 255).length ≠ 256 := by simp [hl]
    exact ⟨fun _ => .inl h255, fun _ => .inl (.inl h9)⟩
  · rw [if_neg h9]
    constructor
    · rintro ((h | h) | h)
      · exact absurd h h9
      · exact .inr (.inl h)
      · exact .inr (.inr (by omega))
    · rintro (h | h | h)
      · exact absurd hl h
      · exact .inl (.inr h)
      · exact .inr (by omega)
/-- Behind so many transactions. -/
structure TellI (W0 wr : World) (q p n : Nat) (u : Int) (k : Nat) (S : List Nat) (D : DiskS) (L : LogS) (St : List Bs) : Prop where
  dw : DW W0 wr S p D
  lw : LW W0 wr S q p L
  live : LiveE n D L St
  ok : D.Ok
  cache : D.cache.length ≤ 70000 + 20 * k
  armed : D.armed = false
  used : L.used = u
  u0 : 0 ≤ u
  u1 : u ≤ 100
  seq : L.seq = (k : Int) + 1
def TellX (W0 wr : World) (q p n : Nat) (u : Int) (k : Nat) : Prop := ∃ S D L St, TellI W0 wr q p n u k S D L St

set_option maxRecDepth 100000 in
set_option maxHeartbeats 4000000 in
theorem RedoTells_any (size ahead : Int) (l : List (Int × UInt8)) (A : Option Addr) (c : Nat) (w : World) (hT : Tab w) (hR : Reads w A (specCells l)) (hc : l.length ≤ c) (hl : l.length ≤ 9223372036854775807)
    (hr : ∀ x ∈ l, -9223372036854775808 ≤ x.1 ∧ x.1 ≤ 9223372036854775807) (ha0 : -9223372036854775808 ≤ ahead) (ha1 : ahead ≤ 9223372036854775807) :
    Calls Tryd.prog 4 #[.int .i64 size, .slice A l.length c, .int .i64 ahead] w fun e w' => e = .returned (.bool true) ∧ Below w.heap.size w w' := by
  have hsz := i64_and15 size
  obtain ⟨n, hn⟩ : ∃ n : Nat, (n : Int) = 5 + size % 16 := ⟨(5 + size % 16).toNat, by omega⟩
  have hn5 : 5 ≤ n := by omega
  have hn20 : n ≤ 20 := by omega
  have hw5 : IntKind.i64.wrap (5 + size % 16) = n := by rw [IntKind.wrap_i64]; omega
  have hw5' : 5 + size % 16 = (n : Int) := hn.symm
  obtain ⟨D1, D2, p2, st⟩ := started (n := n) (by omega) (by omega)
  have HT := Go.Lib.hid hT
  have HST := Go.Lib.hid st
  have HR := Go.Lib.hid hR
  have HRR := Go.Lib.hid hr
  have hroom0 : roomS ⟨0, n, p2, 1, 0, false⟩ = (n : Int) - 4 := st.live.room
  have HRM := Go.Lib.hid hroom0
  obtain ⟨r, hr0⟩ : ∃ r, ahead.tmod 21 = r := ⟨_, rfl⟩
  have hr1 : -20 ≤ r ∧ r ≤ 20 ∧ (0 ≤ ahead → 0 ≤ r) := by
    rw [← hr0]
    rcases Int.le_total 0 ahead with h | h
    · rw [Int.tmod_eq_emod_of_nonneg h]; omega
    · have h2 : ahead.tmod 21 = -((-ahead).tmod 21) := by rw [Int.neg_tmod, Int.neg_neg]
      rw [h2, Int.tmod_eq_emod_of_nonneg (by omega)]; omega
  have hr2 : 0 ≤ ahead → ahead % 21 = r := fun h => by rw [← hr0, Int.tmod_eq_emod_of_nonneg h]
  obtain ⟨hr3, hr4, hr5⟩ := hr1
  obtain ⟨kk, hkk⟩ : ∃ kk : Nat, kk = r.natAbs := ⟨_, rfl⟩
  have hk20 : kk ≤ 20 := by omega
  obtain ⟨b0, hb0⟩ : ∃ b0, ((l.length : Int) == 0) = b0 := ⟨_, rfl⟩
  have HB0 : Hid (b0 = decide (l.length = 0)) := by
    show _ = _
    rw [← hb0, Bool.eq_iff_iff]
    simp
  obtain ⟨m, hm⟩ : ∃ m : Nat, m = min l.length 12 := ⟨_, rfl⟩
  have hm1 : m ≤ l.length := by omega
  have hm2 : m ≤ 12 := by omega
  have hm3 : m = l.length ∨ m = 12 := by omega
  clear hT st hR hr hroom0 hn hm
  have hkk1 : 0 ≤ r → r = (kk : Int) := fun h => by rw [hkk]; exact (Int.natAbs_of_nonneg h).symm
  have hkk2 : r ≤ 0 → r = -(kk : Int) := fun h => by
    have h7 := Int.natAbs_of_nonneg (a := -r) (by omega)
    rw [Int.natAbs_neg, ← hkk] at h7
    omega
  clear hkk
  have h3 : (0 ≤ ahead ∧ r = (kk : Int)) ∨ (ahead < 0 ∧ r = -(kk : Int) ∧ 0 < kk) ∨ (ahead < 0 ∧ r = (kk : Int)) := by
    rcases Int.lt_or_le ahead 0 with h | h
    · rcases Int.lt_or_le r 0 with h7 | h7
      · exact .inr (.inl ⟨h, hkk2 (by omega), by have := hkk2 (by omega); omega⟩)
      · exact .inr (.inr ⟨h, hkk1 h7⟩)
    · exact .inl ⟨h, hkk1 (hr5 h)⟩
  clear hkk1 hkk2
  rcases h3 with ⟨g1, rfl⟩ | ⟨g1, rfl, g3⟩ | ⟨g1, rfl⟩
  all_goals
    have hr9 := hr2
    clear hr2
    try (have hr8 := hr9 g1)
    clear hr9 hr5 hr3 hr4
    go_enter Tryd.func4, Tryd.ntmps4
    go_wp2_with fail
    refine (awake_any _ HT.out).mono ?_
    rintro e w0 ⟨rfl, hb0'⟩
    go_wp2_with fail
    refine (new_go HT.out hb0').mono ?_
    rintro e w1 ⟨p, S1, rfl, d1⟩
    go_wp2_with fail
    refine (format_go d1 HST.out).mono ?_
    rintro e w2 ⟨S2, rfl, d2⟩
    go_wp2_with fail
    refine (open_yes d2 HST.out).mono ?_
    rintro e w3 ⟨S3, q, rfl, d3, l3⟩
    have hRm := Room_any w3 l3.l (by dsimp only; omega) (by dsimp only; omega)
    rw [HRM.out] at hRm
    clear d1 d2 hb0'
    go_wp2_with fail
    refine hRm.mono ?_
    rintro e w4 ⟨rfl, rfl⟩
    clear hRm
    have hX : TellX w w3 q p n 0 0 := ⟨S3, D2, _, _, ⟨d3, l3, HST.out.live, HST.out.ok2, by have := HST.out.c2; omega, HST.out.armed, rfl, Int.le_refl _, by omega, rfl⟩⟩
    clear d3 l3
    go_wp2_with fail
    go_loopw [13, 14] (fun u i wr => ∃ (k : Nat) (uu : Int), k ≤ kk ∧ i = .int .i64 k ∧ u = .int .i64 uu ∧ TellX w wr q p n uu k) (fun _ i _ => kk - (intOf i).toNat)
    case atStart => exact ⟨0, 0, Nat.zero_le _, rfl, rfl, hX⟩
    case round =>
      obtain ⟨k, uu, hk, rfl, rfl, S, D, L, St, hI⟩ := hrel
      have hz0 := hI.dw.z
      by_cases hlt : k < kk
      · have hk8 : IntKind.u8.wrap (k : Int) = k := by rw [IntKind.wrap_u8]; omega
        have hkm : (k : Int) % 256 = k := by omega
        obtain ⟨hdw, hlw, hlive, hok, hcache, harm, hused, hu0, hu1, hseq⟩ := hI
        have HCA := Go.Lib.hid hcache
        clear hX
        go_wp2_with fail
        refine (with_any (k : Int) _ (by omega) (by omega)).mono ?_
        rintro e w4 ⟨rfl, hb4⟩
        have hdw4 := hdw.below hb4
        have hlw4 := hlw.below hb4
        have hsl := withB_len (UInt8.ofNat (k : Int).toNat)
        obtain ⟨s, hs⟩ : ∃ s, s = withB (UInt8.ofNat (k : Int).toNat) := ⟨_, rfl⟩
        rw [← hs] at hsl ⊢
        have hcl := commit_live hlive (psOk_one (n := n) (a := 39) (s := s) (by omega) (by omega) hsl) (by simp; omega) (by omega) harm
        have hco := commitS_ok hok L [(39, s)] (by simp) (by omega)
        have hgo := commit_one_go hdw4 hlw4 hlive.logOk hok (by omega) 39 s hsl
        obtain ⟨rr, hrr⟩ : ∃ rr, rr = commitS L D [(39, s)] := ⟨_, rfl⟩
        rw [← hrr] at hcl hco hgo
        obtain ⟨r1, r2, r3, r4, r5⟩ := hcl
        rw [r1] at hgo
        simp only [List.length_singleton] at r4 hco
        unfold usedC at r4
        rw [hused] at r4
        rw [hseq] at r3
        have HCO := Go.Lib.hid hco
        clear hrr hs hdw hlw hlive hok hcache harm hused hseq hb4 r1 hco hdw4 hlw4
        go_wp2_with fail
        refine hgo.mono ?_
        rintro e w5 ⟨S5, rfl, d5, l5, -, -⟩
        have hus := used_go l5
        have hsq := seq_go l5
        have hk2 : rr.log.seq = (k : Int) + 2 := by omega
        rw [hk2] at hsq
        have HR4 := Go.Lib.hid r4
        have HR3 := Go.Lib.hid r3
        have HK2 := Go.Lib.hid hk2
        clear r4 r3 hk2
        by_cases hu : (n : Int) - 1 < uu + 4
        · have hu9 : rr.log.used = 3 := by have := HR4.out; rw [if_pos (by omega)] at this; omega
          rw [hu9] at hus
          have HU9 := Go.Lib.hid hu9
          clear hu9
          go_wp2_with fail
          refine hus.mono ?_
          rintro e w6 ⟨rfl, rfl⟩
          go_wp2_with fail
          refine hsq.mono ?_
          rintro e w6 ⟨rfl, rfl⟩
          go_wp2_with fail
          go_roundw
          case rel =>
            exact ⟨k + 1, 3, by omega, by go_num, rfl, S5, _, _, _, d5, l5, r2, HCO.out.1, by have := HCO.out.2; have := HCA.out; omega, r5, HU9.out, by omega, by omega, by rw [HK2.out]; push_cast; omega⟩
          case measure => simp [intOf]; omega
        · have hu9 : rr.log.used = uu + 3 := by have := HR4.out; rw [if_neg (by omega)] at this; omega
          have hu8 : uu + 3 ≤ 100 := by omega
          rw [hu9] at hus
          have HU9 := Go.Lib.hid hu9
          clear hu9
          go_wp2_with fail
          refine hus.mono ?_
          rintro e w6 ⟨rfl, rfl⟩
          go_wp2_with fail
          refine hsq.mono ?_
          rintro e w6 ⟨rfl, rfl⟩
          go_wp2_with fail
          go_roundw
          case rel =>
            exact ⟨k + 1, uu + 3, by omega, by go_num, rfl, S5, _, _, _, d5, l5, r2, HCO.out.1, by have := HCO.out.2; have := HCA.out; omega, r5, HU9.out, by omega, by omega, by rw [HK2.out]; push_cast; omega⟩
          case measure => simp [intOf]; omega
      · obtain ⟨hdw, hlw, hlive, hok, hcache, harm, hused, hu0, hu1, hseq⟩ := hI
        have hgk : ¬ ((k : Int) < (kk : Int)) := by omega
        obtain ⟨wB, hwB⟩ : ∃ wB : World, wB = wr := ⟨wr, rfl⟩
        rw [← hwB] at hdw hlw ⊢
        have HSQ : Hid (L.seq ≤ 100) := by show _ ≤ _; omega
        clear hwB hused hseq hu0 hu1 hX hz0
        have HD := Go.Lib.hid hdw
        have HL := Go.Lib.hid hlw
        have HLV := Go.Lib.hid hlive
        have HOK := Go.Lib.hid hok
        have HARM := Go.Lib.hid harm
        clear hdw hlw hlive hok harm
        go_wp2_with fail
        go_loopw [15, 16, 17] (fun v b i wr2 => ∃ j : Nat, j ≤ m ∧ i = .int .i64 j ∧ (∃ bb, b = .bool bb ∧ Hid (bb = (b0 || (l.take j).any (badP n)))) ∧ wr2.ownsRow wB.heap.size 40 2 v j (putCells2 ((l.take j).map tellP)) ∧ Below wB.heap.size wB wr2) (fun _ _ i _ => m - (intOf i).toNat)
        case atStart => exact ⟨0, Nat.zero_le _, rfl, ⟨b0, rfl, by show _ = _; simp⟩, World.ownsRow_nil _ _ _ _, Below.refl _ _⟩
        case round =>
          obtain ⟨j, hj, rfl, ⟨bb, rfl, HBB⟩, hown, hB⟩ := hrel
          obtain ⟨A1, c1, rfl⟩ := own_slice hown
          have HO := Go.Lib.hid hown
          clear hown
          by_cases hlt : j < m
          · have hjl : j < l.length := by omega
            have hj12 : j < 12 := by omega
            obtain ⟨b, off, hA, hblw, d1w, d2w⟩ := spec_reads HR.out hjl
            subst hA
            have hwB : Below w.heap.size w wr := HD.out.b.trans (hB.mono HD.out.b.size)
            have d1 := (hwB.cell (p := ⟨b, off + j * 2, none⟩) hblw).trans d1w
            have d2 := (hwB.cell (p := ⟨b, off + j * 2 + 1, none⟩) hblw).trans d2w
            obtain ⟨x, hx⟩ : ∃ x, x = l[j] := ⟨_, rfl⟩
            rw [← hx] at d1 d2 d1w d2w
            have hxr := HRR.out x (by rw [hx]; exact List.getElem_mem hjl)
            obtain ⟨xa, by0⟩ := x
            simp only at d1 d2 d1w d2w hxr
            obtain ⟨hx0, hx1⟩ := hxr
            have hby := by0.toNat_lt
            obtain ⟨f, hf⟩ : ∃ f : Int, f = (by0.toNat : Int) := ⟨_, rfl⟩
            rw [← hf] at d2 d2w
            have hf0 : 0 ≤ f := by omega
            have hf1 : f ≤ 255 := by omega
            have HFB : Hid (UInt8.ofNat f.toNat = by0) := by show _ = _; rw [hf]; simp
            have HF9 : Hid (f = 9 ↔ by0 = 9) := by
              show _ ↔ _
              rw [hf]
              constructor
              · intro h; apply UInt8.toNat_inj.1; have : by0.toNat = 9 := by omega
                rw [this]; rfl
              · intro h; rw [h]; rfl
            clear hf hby
            have HX := Go.Lib.hid hx
            have HW1 := Go.Lib.hid d1w
            have HW2 := Go.Lib.hid d2w
            have HBW := Go.Lib.hid hwB
            clear hx d1w d2w hwB
            have hzz := hB.size
            have hsl := withB_len by0
            have hwith : Hid (∀ W, Calls Tryd.prog 21 #[.int .u8 f] W fun e w' => e = .returned (.string ⟨(withB by0).toArray⟩) ∧ Below W.heap.size W w') := by
              intro W
              have h := with_any f W hf0 hf1
              rw [HFB.out] at h
              exact h
            obtain ⟨s, hs⟩ : ∃ s, s = withB by0 := ⟨_, rfl⟩
            rw [← hs] at hwith hsl
            have HSS := Go.Lib.hid hs
            clear hs
            have hex : (⟨s.toArray⟩ : ByteArray).extract 0 255 = ⟨(s.take 255).toArray⟩ := by rw [ba_extract]; simp
            have hsz2 : (⟨s.toArray⟩ : ByteArray).size = 256 := by rw [← hsl]; rfl
            have hcases : (bb = true ∧ (f == 9) = true) ∨ (bb = true ∧ (f == 9) = false) ∨ (bb = false ∧ (f == 9) = true) ∨ (bb = false ∧ (f == 9) = false ∧ xa < n) ∨ (bb = false ∧ (f == 9) = false ∧ (n : Int) ≤ xa ∧ 39 < xa) ∨ (bb = false ∧ (f == 9) = false ∧ (n : Int) ≤ xa ∧ xa ≤ 39) := by
              cases bb <;> by_cases h9 : f = 9 <;> simp [h9] <;> omega
            obtain ⟨T, hT⟩ : ∃ T, T = if (f == 9) = true then s.take 255 else s := ⟨_, rfl⟩
            have HTP : Hid (tellP (xa, by0) = (xa, T)) := by
              show _ = _
              rw [hT]
              unfold tellP
              dsimp only
              rw [← HSS.out]
              by_cases h9 : f = 9
              · rw [if_pos (HF9.out.1 h9), if_pos (by simp [h9])]
              · rw [if_neg (fun e => h9 (HF9.out.2 e)), if_neg (by simp [h9])]
            have HNB : Hid (badP n (xa, by0) = ((f == 9) || decide (xa < n) || decide (39 < xa))) := by
              show _ = _
              unfold badP
              dsimp only
              have : decide (by0 = 9) = (f == 9) := by rw [Bool.eq_iff_iff]; simp [HF9.out]
              rw [this]
            have HOA : Hid (∀ W, Below wr.heap.size wr W → W.ownsRow wB.heap.size 40 2 (.slice A1 j c1) j (putCells2 ((l.take j).map tellP))) := fun W hW => own_same HO.out (fun g hg => hW.block g (HO.out.lt g hg).2)
            have HAP : Hid (∀ W W', Below wr.heap.size wr W → W.grownBy W' (Value.slice A1 j c1).ownBlock → Below wB.heap.size wB W') := fun W W' hW hg => (hB.trans (hW.mono hB.size)).trans ((upd_of_grown (S := blk1 (.slice A1 j c1)) hg (fun g hg => mem_blk1.2 hg)).below (hB.trans (hW.mono hB.size)).size (fun g hg => ((HOA.out W hW).lt g (mem_blk1.1 hg)).1))
            have HD1 : Hid (∀ W, Below wr.heap.size wr W → W.cell? ⟨b, off + j * 2, none⟩ = some (.int .i64 xa) ∧ W.cell? ⟨b, off + j * 2 + 1, none⟩ = some (.int .u8 f)) := fun W hW => by
              have hBW := HBW.out.trans (hW.mono HBW.out.size)
              exact ⟨(hBW.cell (p := ⟨b, off + j * 2, none⟩) hblw).trans HW1.out, (hBW.cell (p := ⟨b, off + j * 2 + 1, none⟩) hblw).trans HW2.out⟩
            have HBB2 : Hid ((b0 || (l.take (j + 1)).any (badP n)) = (bb || ((f == 9) || decide (xa < n) || decide (39 < xa)))) := by
              show _ = _
              rw [List.take_succ_eq_append_getElem hjl, List.any_append, ← HX.out, HBB.out]
              simp only [List.any_cons, List.any_nil, Bool.or_false]
              rw [HNB.out]
              simp only [Bool.or_assoc]
            have e7 : Hid (putCells2 ((l.take (j + 1)).map tellP) = putCells2 (List.take j (List.map tellP l)) ++ [Value.int IntKind.i64 xa, Value.string ⟨T.toArray⟩]) := by
              show _ = _
              rw [List.take_succ_eq_append_getElem hjl, List.map_append, putCells2_append, ← HX.out, List.map_take]
              congr 1
              show putCells2 [tellP (xa, by0)] = _
              rw [HTP.out]
              rfl
            clear HBB HNB HTP HX
            rcases hcases with ⟨rfl, h9⟩ | ⟨rfl, h9⟩ | ⟨rfl, h9⟩ | ⟨rfl, h9, hxn⟩ | ⟨rfl, h9, hxn, hxt⟩ | ⟨rfl, h9, hxn, hxt⟩
            all_goals
              rw [h9] at hT
              simp only [if_true, if_false, Bool.false_eq_true] at hT
              subst hT
              go_wp2_with fail
              refine (hwith.out _).mono ?_
              rintro e w4 ⟨rfl, hb4⟩
              obtain ⟨k1, k2⟩ := HD1.out w4 hb4
              go_wp2_with (at_builtin; refine wpList_append_S rfl _ _ 41 rfl wB.heap.size 40 _ 2 24 Tryd.underlying41 info_put rfl (by decide) (.slice A1 j c1) _ _ rfl (HOA.out _ (Below.alloc hb4 hb4.size _)) ⟨w4.heap.size, 0, none⟩ 1 1 [.int .i64 xa, .string _] rfl rfl (news_pair _ _ _ _) (by intro u hu; simp at hu; rcases hu with rfl | rfl <;> rfl) (by unfold maxLen; omega) (by omega) (by have := hb4.size; simp; omega) ?_)
              intro pv' w7 hpv7 hg7 hf7
              have hB7 := HAP.out _ _ (Below.alloc hb4 hb4.size _) hg7
              obtain ⟨A4, c4, rfl⟩ := own_slice hpv7
              clear hg7 hf7 k1 k2
              go_wp2_with fail
              go_roundw
              case rel => exact ⟨j + 1, by omega, by go_num, ⟨_, rfl, by show _ = _; rw [HBB2.out, h9]; simp; try omega⟩, by rw [e7.out]; exact hpv7, hB7⟩
              case measure => simp [intOf]; omega
          · have hjm : j = m := by omega
            clear hlt
            have htk : l.take j = l.take 12 := by
              rcases hm3 with h | h
              · rw [hjm, h, List.take_of_length_le (Nat.le_refl _), List.take_of_length_le (by omega)]
              · rw [hjm, h]
            have hjl : j = l.length ∨ j = 12 := by omega
            have hj12 : j ≤ 12 := by omega
            clear hjm
            obtain ⟨ps, hps⟩ : ∃ ps, ps = (l.take j).map tellP := ⟨_, rfl⟩
            have hpl : ps.length = j := by rw [hps]; simp; omega
            have hown : wr.ownsRow wB.heap.size 40 2 (.slice A1 j c1) ps.length (putCells2 ps) := by rw [hpl, hps]; exact HO.out
            have hP : PutsR wr S (.slice A1 j c1) ps := PutsR.of_own hown (fun g hg hm => by
              have h1 := (hown.lt g hg).1
              have h2 := HD.out.d.ltS g hm
              omega)
            have hdw : DW w wr S p D := HD.out.upd (Upd.of_below (S := []) hB) (by simp) (by simp)
            have hlw : LW w wr S q p L := HL.out.below hB
            have hsz8 : ∀ x ∈ ps, x.2.length ≤ 256 := by
              intro x hx
              rw [hps] at hx
              obtain ⟨y, -, rfl⟩ := List.mem_map.1 hx
              exact tellP_len y
            have hco := commitS_ok HOK.out L ps (by omega) (by omega)
            have hgo := commit_go hdw hlw HLV.out.logOk HOK.out (by omega) ps hP (by omega) hsz8
            have hbad : bb = true ↔ (ps = [] ∨ ∃ x ∈ ps, x.2.length ≠ 256 ∨ x.1 < n ∨ 40 ≤ x.1) := by
              rw [HBB.out, Bool.or_eq_true, HB0.out, decide_eq_true_eq, List.any_eq_true]
              constructor
              · rintro (h | ⟨y, hy, hyb⟩)
                · left; rw [hps]; simp; right; exact List.eq_nil_of_length_eq_zero h
                · right; exact ⟨tellP y, by rw [hps]; exact List.mem_map.2 ⟨y, hy, rfl⟩, (badP_iff n y).1 hyb⟩
              · rintro (h | ⟨x, hx, hxb⟩)
                · left
                  have h9 := congrArg List.length h
                  rw [hpl] at h9
                  simp at h9
                  omega
                · right
                  rw [hps] at hx
                  obtain ⟨y, hy, rfl⟩ := List.mem_map.1 hx
                  exact ⟨y, hy, (badP_iff n y).2 hxb⟩
            have hout : (bb = true ∧ commitS L D ps = ⟨L, D, 1⟩) ∨ (bb = false ∧ (n : Int) - 4 < j ∧ commitS L D ps = ⟨L, D, 11⟩) ∨ (bb = false ∧ (j : Int) ≤ n - 4 ∧ (commitS L D ps).err = 0 ∧ ∃ St', LiveE n (commitS L D ps).disk (commitS L D ps).log St' ∧ (commitS L D ps).disk.armed = false) := by
              cases hbv : bb
              · have hnb : ¬ (ps = [] ∨ ∃ x ∈ ps, x.2.length ≠ 256 ∨ x.1 < n ∨ 40 ≤ x.1) := fun h => by rw [hbad.2 h] at hbv; cases hbv
                have hne : ps ≠ [] := fun e => hnb (.inl e)
                have hall : ∀ x ∈ ps, x.2.length = 256 ∧ (n : Int) ≤ x.1 ∧ x.1 < 40 := fun x hx => by
                  refine ⟨Classical.byContradiction fun e => hnb (.inr ⟨x, hx, .inl e⟩), ?_, ?_⟩
                  · rcases Int.lt_or_le x.1 n with h | h
                    · exact absurd (.inr ⟨x, hx, .inr (.inl h)⟩) hnb
                    · exact h
                  · rcases Int.lt_or_le x.1 40 with h | h
                    · exact h
                    · exact absurd (.inr ⟨x, hx, .inr (.inr h)⟩) hnb
                by_cases hroom : n < ps.length + 4
                · exact .inr (.inl ⟨rfl, by omega, commitS_size HLV.out hne hall hroom⟩)
                · have hpo : PsOk n ps := ⟨List.length_pos_iff.2 hne, by omega, fun x hx => (hall x hx).2, fun x hx => (hall x hx).1⟩
                  obtain ⟨c1, c2, c3, c4, c5⟩ := commit_live HLV.out hpo (by omega) (by have := HSQ.out; omega) HARM.out
                  exact .inr (.inr ⟨rfl, by omega, c1, _, c2, c5⟩)
              · exact .inl ⟨rfl, commitS_arg HLV.out (hbad.1 hbv)⟩
            have hfin : ∃ er St', (commitS L D ps).err = er ∧ ((bb = true ∧ er = 1) ∨ (bb = false ∧ (n : Int) - 4 < j ∧ er = 11) ∨ (bb = false ∧ (j : Int) ≤ n - 4 ∧ er = 0)) ∧ LiveE n (commitS L D ps).disk (commitS L D ps).log St' ∧ (commitS L D ps).disk.armed = false := by
              rcases hout with ⟨h1, h2⟩ | ⟨h1, h2, h3⟩ | ⟨h1, h2, h3, St', h4, h5⟩
              · rw [h2]; exact ⟨1, St, rfl, .inl ⟨h1, rfl⟩, HLV.out, HARM.out⟩
              · rw [h3]; exact ⟨11, St, rfl, .inr (.inl ⟨h1, h2, rfl⟩), HLV.out, HARM.out⟩
              · exact ⟨0, St', h3, .inr (.inr ⟨h1, h2, rfl⟩), h4, h5⟩
            obtain ⟨er, St', he1, he2, he3, he4⟩ := hfin
            rw [he1] at hgo
            obtain ⟨rr, hrr⟩ : ∃ rr, rr = commitS L D ps := ⟨_, rfl⟩
            rw [← hrr] at hgo he3 he4 hco
            have HE3 := Go.Lib.hid he3
            have HE4 := Go.Lib.hid he4
            have HCO := Go.Lib.hid hco
            have HPL := Go.Lib.hid hpl
            clear hrr hout hbad he1 he3 he4 hco hsz8 hdw hlw hP hown hps HBB HO htk hpl
            have hjlen : ¬ ((j : Int) < (l.length : Int) ∧ (j : Int) < 12) := by omega
            by_cases hjj : j < l.length
            all_goals
              rcases he2 with ⟨rfl, rfl⟩ | ⟨rfl, hnj, rfl⟩ | ⟨rfl, hnj, rfl⟩
              all_goals
                go_wp2_with fail
                refine hgo.mono ?_
                rintro e w5 ⟨S5, rfl, d5, l5, -, -⟩
                have hck := checkpoint_live HE3.out HE4.out
                have hcg := checkpoint_go d5 l5 HCO.out.1 (by have := HCO.out.2; have := HPL.out; omega)
                rw [hck.1] at hcg
                have hu9 := hck.2.2.1
                clear hck
                go_wp2_with fail
                refine hcg.mono ?_
                rintro e w6 ⟨S6, rfl, d6, l6, -, -⟩
                have hus := used_go l6
                rw [hu9] at hus
                have HU9 := Go.Lib.hid hu9
                clear hu9
                go_wp2_with fail
                refine hus.mono ?_
                rintro e w7 ⟨rfl, rfl⟩
                go_wp2_with fail
                go_ret
                exact ⟨rfl, d6.b⟩

end Go.Proofs.YtbalbjhmboppoaaDoor
