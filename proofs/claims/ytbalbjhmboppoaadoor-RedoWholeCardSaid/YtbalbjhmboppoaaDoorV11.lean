/-
  RedoWhole, walked: true.
  The table of check lies where it lies.
-/
import Derived.Test.YtbalbjhmboppoaaDoorV10
import Derived.Deep.WholeRow
import Derived.Deep.Cut
import Derived.Deep.CutRange
import Derived.Deep.DeepCutAuto
set_option linter.unusedSimpArgs false
set_option linter.unusedVariables false
namespace Go.Proofs.YtbalbjhmboppoaaDoor
open Go.RowKit

theorem op4 {w : World} {o : Nat} {a b c d : Value} {t : TypeId} {fr : Nat × Nat} (h : w.heap[o]? = some (.cells #[a, b, c, d] t fr)) :
    w.cell? ⟨o, 0, none⟩ = some a ∧ w.cell? ⟨o, 1, none⟩ = some b ∧ w.cell? ⟨o, 2, none⟩ = some c ∧ w.cell? ⟨o, 3, none⟩ = some d := ⟨blk_cell h 0, blk_cell h 1, blk_cell h 2, blk_cell h 3⟩
set_option maxRecDepth 100000 in
set_option maxHeartbeats 8000000 in
theorem RedoWhole_any (size : Int) (A : Option Addr) (m c : Nat) (w : World) (hT : Tab w) (hR : OpsR w A m) (hc : m ≤ c) (hm : m ≤ 9223372036854775807) :
    Calls Tryd.prog 8 #[.int .i64 size, .slice A m c] w fun e w' => e = .returned (.bool true) ∧ Below w.heap.size w w' := by
  have hsz := i64_and15 size
  obtain ⟨n, hn⟩ : ∃ n : Nat, (n : Int) = 6 + size % 16 := ⟨(6 + size % 16).toNat, by omega⟩
  have hn5 : 6 ≤ n := by omega
  have hn20 : n ≤ 21 := by omega
  have hw5 : IntKind.i64.wrap (6 + size % 16) = n := by rw [IntKind.wrap_i64]; omega
  have hw5' : 6 + size % 16 = (n : Int) := hn.symm
  obtain ⟨D1, D2, p2, st⟩ := started (n := n) (by omega) (by omega)
  have HT := Go.Lib.hid hT
  have HST := Go.Lib.hid st
  have HR := Go.Lib.hid hR
  have hmk := make_bytes (256 : Int) 256 rfl (by omega)
  clear hT st hR hn
  go_enter Tryd.func8, Tryd.ntmps8
  go_wp2_with fail
  refine (awake_any _ HT.out).mono ?_
  rintro e w0 ⟨rfl, hb0'⟩
  go_wp2_with fail
  refine (new_go HT.out hb0').mono ?_
  rintro e w1 ⟨p, S1, rfl, d1⟩
  go_wp2_with fail
  refine (format_go d1 HST.out).mono ?_
  rintro e w2 ⟨S2, rfl, d2⟩
  go_wp2_with fail
  refine (open_yes d2 HST.out).mono ?_
  rintro e w3 ⟨S3, q, rfl, d3, l3⟩
  clear d1 d2 hb0'
  go_wp2_with fail
  obtain ⟨wA, hwA⟩ : ∃ wA, wA = w3.alloc (.cells (stC (fillL 0)) 53) := ⟨_, rfl⟩
  have hgo : wA = w3.alloc (.cells #[.string ⟨#[]⟩, .string ⟨#[]⟩, .string ⟨#[]⟩, .string ⟨#[]⟩, .string ⟨#[]⟩, .string ⟨#[]⟩, .string ⟨#[]⟩, .string ⟨#[]⟩, .string ⟨#[]⟩, .string ⟨#[]⟩, .string ⟨#[]⟩, .string ⟨#[]⟩, .string ⟨#[]⟩, .string ⟨#[]⟩, .string ⟨#[]⟩, .string ⟨#[]⟩, .string ⟨#[]⟩, .string ⟨#[]⟩, .string ⟨#[]⟩, .string ⟨#[]⟩, .string ⟨#[]⟩, .string ⟨#[]⟩, .string ⟨#[]⟩, .string ⟨#[]⟩, .string ⟨#[]⟩, .string ⟨#[]⟩, .string ⟨#[]⟩, .string ⟨#[]⟩, .string ⟨#[]⟩, .string ⟨#[]⟩, .string ⟨#[]⟩, .string ⟨#[]⟩, .string ⟨#[]⟩, .string ⟨#[]⟩, .string ⟨#[]⟩, .string ⟨#[]⟩, .string ⟨#[]⟩, .string ⟨#[]⟩, .string ⟨#[]⟩, .string ⟨#[]⟩] 53) := by rw [hwA]; rfl
  rw [← hgo]
  have hAw : Upd [] w3 wA := by rw [hwA]; exact (Upd.refl _ _).alloc _
  have hrow : wA.heap[w3.heap.size]? = some (.cells (stC (fillL 0)) 53 (0, 0)) := by rw [hwA]; exact blk_new _ _
  clear hwA hgo
  have dA : DW w wA S3 p D2 := d3.upd hAw (by simp) (by simp)
  have lA : LW w wA S3 q p ⟨0, n, p2, 1, 0, false⟩ := l3.upd hAw (Sub.refl _ _) (by simp)
  have hgS : w3.heap.size ∉ S3 := fun hm => by have := d3.d.ltS _ hm; omega
  have hgq : w3.heap.size ≠ q := fun e => by have := blk_lt l3.l; omega
  have hgW : w.heap.size ≤ w3.heap.size := d3.b.size
  obtain ⟨g, hg⟩ : ∃ g, g = w3.heap.size := ⟨_, rfl⟩
  rw [← hg] at hrow hgS hgq hgW ⊢
  have hgA := blk_lt hrow
  clear hg d3 l3 hAw
  go_loopw [11] (fun s wr => ∃ k : Nat, k ≤ 40 ∧ s = .int .i64 k ∧ wr.heap[g]? = some (.cells (stC (fillL k)) 53 (0, 0)) ∧ Upd [g] wA wr) (fun s _ => 40 - (intOf s).toNat)
  case atStart => exact ⟨0, Nat.zero_le _, rfl, hrow, Upd.refl _ _⟩
  case round =>
    obtain ⟨k, hk, rfl, hrw, hU⟩ := hrel
    by_cases hlt : k < 40
    · obtain ⟨v0, hcell⟩ : ∃ v0, wr.cell? ⟨g, k, none⟩ = some v0 := ⟨_, by rw [blk_cell hrw]; exact Array.getElem?_eq_getElem (by rw [stC_size (fillL_len hk)]; omega)⟩
      have hfree := blk_free hrw k
      have hne : wr.heap.size ≠ g := by have := blk_lt hrw; omega
      have hne2 : g ≠ wr.heap.size := hne.symm
      have hne3 : g < wr.heap.size := blk_lt hrw
      have hcellA : (wr.alloc (.cells (bvs (zeros 256)).toArray 5)).cell? ⟨g, k, none⟩ = some v0 := (blk_cell (blk_alloc hrw _) k).trans ((blk_cell hrw k).symm.trans hcell)
      have hfreeA : (wr.alloc (.cells (bvs (zeros 256)).toArray 5)).frozen? ⟨g, k, none⟩ = false := blk_free (blk_alloc hrw _) k
      have hcv := conv_zeros wr 256
      have HRW := Go.Lib.hid hrw
      clear hrw hrow
      go_wp2_with fail
      go_roundw
      case rel =>
        refine ⟨k + 1, by omega, by go_num, ?_, (hU.set (b := g) (.inl (by simp)) _ _).alloc _⟩
        refine blk_alloc ?_ _
        refine (blk_set HRW.out _ _).trans ?_
        show some (Obj.cells (((fillL k).map sv).toArray.setIfInBounds k (sv (zeros 256))) _ _) = _
        rw [sv_set, fillL_set hlt]
        rfl
      case measure => simp [intOf]; omega
    · obtain rfl : k = 40 := by omega
      rw [fillL_40] at hrw
      have dB : DW w wr S3 p D2 := dA.upd hU (by intro b hb hm; simp at hm; subst hm; exact hgS hb) (by intro b hb; simp at hb; subst hb; exact hgW)
      have lB : LW w wr S3 q p ⟨0, n, p2, 1, 0, false⟩ := lA.upd hU (Sub.refl _ _) (by simp; exact fun e => hgq e.symm)
      clear hrow dA lA hgA hk hlt hmk
      obtain ⟨C, hC⟩ : ∃ C, C = stC (blankS 40) := ⟨_, rfl⟩
      have hCs : C.size = 40 := by rw [hC]; exact stC_size (by simp [blankS])
      have hC1 : C.all (·.oneCell') = true := by rw [hC]; exact stC_one _
      rw [← hC] at hrw
      have HC := Go.Lib.hid hC
      have HCS := Go.Lib.hid hCs
      have HC1 := Go.Lib.hid hC1
      have HRW := Go.Lib.hid hrw
      clear hC hCs hC1 hrw
      go_wp2_with (first | (refine wpList_load_row rfl 53 _ rfl g rfl 53 C (0, 0) _ HRW.out Tryd.underlying53 rfl (by rw [info_state, HCS.out]) ?_) | (refine wpList_store_row rfl 53 _ _ rfl wr.heap.size C rfl rfl 53 _ (blk_new _ _) (by rw [info_state, HCS.out]) (by rw [HCS.out]; rfl) HC1.out ?_))
      rw [World.setRow_alloc_new]
      obtain ⟨w4, hw4⟩ : ∃ w4, w4 = wr.alloc (.cells C 53) := ⟨_, rfl⟩
      rw [← hw4]
      have hU4 : Upd [] wr w4 := by rw [hw4]; exact (Upd.refl _ _).alloc _
      have d4 := dB.upd hU4 (by simp) (by simp)
      have l4 := lB.upd hU4 (Sub.refl _ _) (by simp)
      have hlen40 : (blankS 40).length = 40 := by simp [blankS]
      have hrows : RowsI w w4 S3 q g wr.heap.size (blankS 40) (blankS 40) := by
        rw [HC.out] at hw4
        have e1 := blk_lt HRW.out
        have e2 := blk_lt lB.l
        refine ⟨?_, ?_, hgS, fun hm => ?_, hgq, by omega, by omega, hgW, dB.b.size, hlen40, hlen40⟩
        · rw [← HC.out]; exact hU4.get HRW.out (by simp)
        · rw [hw4]; exact blk_new _ _
        · have := dB.d.ltS _ hm; omega
      have hX : PlayX w w4 q p n g wr.heap.size 0 := ⟨S3, D2, _, _, _, d4, l4, hrows, .inl ⟨HST.out.live, rfl, by show (1 : Int) ≤ _; omega⟩, HST.out.ok2, HST.out.live.logOk, by show (1 : Int) ≤ _; omega, by have := HST.out.c2; omega⟩
      obtain ⟨g2, hg2⟩ : ∃ g2, g2 = wr.heap.size := ⟨_, rfl⟩
      rw [← hg2] at hX ⊢
      clear hw4 hU4 d4 l4 hlen40 hrows hg2 dB lB HRW HC1 HCS HC hU hgS hgq hgW hsz hw5 hw5'
      go_wp2_with fail
      have HXX : Hid (PlayX w w4 q p n g g2 0) := hX
      clear hX
      go_loopw [8, 13] (fun v s wr => ∃ (k q : Nat), k ≤ m ∧ k ≤ 60 ∧ s = .int .i64 k ∧ v = .pointer (some ⟨q, 0, none⟩) ∧ PlayX w wr q p n g g2 k) (fun _ s _ => 60 - (intOf s).toNat)
      case atStart => exact ⟨0, q, Nat.zero_le _, Nat.zero_le _, rfl, rfl, HXX.out⟩
      case round =>
        obtain ⟨k, q, hkm, hk60, rfl, rfl, S, D, L, A0, B0, hI⟩ := hrel
        clear HXX
        by_cases hlt : k < m ∧ k < 60
        · obtain ⟨hlt1, hlt2⟩ := hlt
          obtain ⟨b, off, kd, N, Ap, cp, lp, Ak, ck, xs, hO⟩ := HR.out k hlt1
          obtain ⟨hdw, hlw, hrows, hst, hok, hlok, hseq, hcache⟩ := hI
          have hbb := hdw.b
          have hA := hO.at_
          have c0 := (hbb.cell (p := ⟨b, off + k * 4, none⟩) hO.blk).trans hO.c0
          have c1 := (hbb.cell (p := ⟨b, off + k * 4 + 1, none⟩) hO.blk).trans hO.c1
          have c2 := (hbb.cell (p := ⟨b, off + k * 4 + 2, none⟩) hO.blk).trans hO.c2
          have c3 := (hbb.cell (p := ⟨b, off + k * 4 + 3, none⟩) hO.blk).trans hO.c3
          obtain ⟨lpn, hlpn⟩ : ∃ lpn, lpn = lp.length := ⟨_, rfl⟩
          obtain ⟨xsn, hxsn⟩ : ∃ xsn, xsn = xs.length := ⟨_, rfl⟩
          rw [← hlpn] at c2
          rw [← hxsn] at c3
          have HO := Go.Lib.hid hO
          have HLPN := Go.Lib.hid hlpn
          have HXSN := Go.Lib.hid hxsn
          subst hA
          clear hO hlpn hxsn
          obtain ⟨tt, htt⟩ : ∃ tt, kd.tmod 10 = tt := ⟨_, rfl⟩
          have ht0 : -9 ≤ tt ∧ tt ≤ 9 := by
            rw [← htt]
            rcases Int.le_total 0 kd with h | h
            · rw [Int.tmod_eq_emod_of_nonneg h]; omega
            · have h2 : kd.tmod 10 = -((-kd).tmod 10) := by rw [Int.neg_tmod, Int.neg_neg]
              rw [h2, Int.tmod_eq_emod_of_nonneg (by omega)]; omega
          obtain ⟨ht1, ht2⟩ := ht0
          go_upto_if 75 with fail
          obtain ⟨w1, hw1⟩ : ∃ w1, w1 = wr.alloc (.cells #[.int .i64 kd, .int .i64 N, .slice Ap lpn cp, .slice Ak xsn ck] 62) := ⟨_, rfl⟩
          have hU1 : Upd [] wr w1 := by rw [hw1]; exact (Upd.refl _ _).alloc _
          have hop : w1.heap[wr.heap.size]? = some (.cells #[.int .i64 kd, .int .i64 N, .slice Ap lpn cp, .slice Ak xsn ck] 62 (0, 0)) := by rw [hw1]; exact blk_new _ _
          rw [← hw1]
          clear hw1 htt c0 c1 c2 c3
          go_cut [15] (fun v wx => ∃ r : Nat, r < 10 ∧ v = .int .i64 r ∧ wx = w1)
          case first =>
            go_wp2_with fail
            · go_meet
              case rel => exact ⟨(tt + 10).toNat, by omega, by congr 1; omega, rfl⟩
            · go_meet
              case rel => exact ⟨tt.toNat, by omega, by congr 1; omega, rfl⟩
          case rest =>
            obtain ⟨r, hr, rfl, hwx⟩ := hcut
            rw [hwx]
            have dw1 := hdw.upd hU1 (by simp) (by simp)
            have lw1 := hlw.upd hU1 (Sub.refl _ _) (by simp)
            have rows1 := hrows.upd hU1 (Sub.refl _ _) (by simp) (by simp)
            have hoS1 : wr.heap.size ∉ S := fun hm => by have := hdw.d.ltS _ hm; omega
            have hoq1 : wr.heap.size ≠ q := by have := blk_lt hlw.l; omega
            have hop1 := hop
            obtain ⟨o, ho⟩ : ∃ o, o = wr.heap.size := ⟨_, rfl⟩
            rw [← ho] at hoS1 hoq1 hop1 ⊢
            clear hdw hlw hrows hop hU1 hwx ht1 ht2 hbb ho
            have hrs : r = 5 ∨ r = 6 ∨ r = 7 ∨ r = 8 ∨ r = 9 ∨ r < 5 := by omega
            rcases hrs with rfl | rfl | rfl | rfl | rfl | hr5
            · have hcp := checkpoint_go dw1 lw1 hok (by omega)
              have hcd := checkpointS_disk L hok (by omega)
              have hcf := checkpointS_facts L D hlok
              have hcs := checkpointS_seq L D
              have hst' := (hst.checkpoint).mono (show k ≤ k + 1 by omega)
              obtain ⟨rr, hrr⟩ : ∃ rr, rr = checkpointS L D := ⟨_, rfl⟩
              rw [← hrr] at hcp hcd hcf hcs hst'
              have HS := Go.Lib.hid hst'
              have HCD := Go.Lib.hid hcd
              have HCF := Go.Lib.hid hcf
              have HCS := Go.Lib.hid hcs
              obtain ⟨er, her⟩ : ∃ er, er = rr.err := ⟨_, rfl⟩
              rw [← her] at hcp
              clear hrr her hst' hcd hcf hcs
              go_wp2_with fail
              refine hcp.mono ?_
              rintro e w2 ⟨S2c, rfl, dw2, lw2, U2, Sub2⟩
              have rows2 := rows1.log U2 Sub2
              clear hcp dw1 lw1 rows1
              go_wp2_with fail
              go_roundw
              case rel =>
                exact ⟨k + 1, q, by omega, by omega, by go_num, rfl, S2c, rr.disk, rr.log, A0, B0, dw2, lw2, rows2, HS.out, HCD.out.1, HCF.out.1, by rw [HCS.out]; omega, by have := HCD.out.2.1; omega⟩
              case measure => simp [intOf]; omega
            · obtain ⟨x40, hx40⟩ : ∃ x40, N.tmod 40 = x40 := ⟨_, rfl⟩
              have hxb : x40 ≤ 9223372036854775807 := by
                rw [← hx40]
                rcases Int.le_total 0 N with h | h
                · rw [Int.tmod_eq_emod_of_nonneg h]; omega
                · have h2 : N.tmod 40 = -((-N).tmod 40) := by rw [Int.neg_tmod, Int.neg_neg]
                  rw [h2, Int.tmod_eq_emod_of_nonneg (by omega)]; omega
              obtain ⟨e0, e1, e2, e3⟩ := op4 hop1
              go_wp2_with fail
              refine (arm_go dw1 x40).mono ?_
              rintro e w2 ⟨rfl, dw2, U2⟩
              have rows2 := rows1.disk U2 (Sub.refl _ _)
              have lw2 := lw1.upd U2 (Sub.refl _ _) lw1.n
              have hok2 := hok.arm x40 hxb
              have hst' := (hst.arm x40).mono (show k ≤ k + 1 by omega)
              have HS := Go.Lib.hid hst'
              clear hst' e0 e1 e2 e3 hx40
              go_wp2_with fail
              go_roundw
              case rel =>
                exact ⟨k + 1, q, by omega, by omega, by go_num, rfl, S, _, L, A0, B0, dw2, lw2, rows2, HS.out, hok2, hlok, by omega, by show D.cache.length ≤ _; omega⟩
              case measure => simp [intOf]; omega
            · obtain ⟨e0, e1, e2, e3⟩ := op4 hop1
              go_wp2_with fail
              refine (picks7_any kd N Ap lpn cp Ak ck xsn w1 (by have := HO.out.kc; have := HXSN.out; omega) (by have := HO.out.km; have := HXSN.out; omega)).mono ?_
              rintro e w2 ⟨rfl, hb2⟩
              have dw2 := dw1.below hb2
              have rows2' := rows1.below hb2
              have hop2 := (hb2.block _ (blk_lt hop1)).trans hop1
              have hoS2 := hoS1
              obtain ⟨C, hC, hrec1, harm1⟩ := hst.crash hst.len (xs.take (min xsn 20))
              have hcg := crash_go dw2 hok Ak ck (min xsn 20) xs (by rw [HXSN.out]) HO.out.rk
              have hok1 := hok.crash (xs.take (min xsn 20))
              have hca1 := crash_cache hst.len (xs.take (min xsn 20))
              obtain ⟨Dc, hDc⟩ : ∃ Dc, Dc = D.crashS (xs.take (min xsn 20)) := ⟨_, rfl⟩
              rw [← hDc] at hcg hrec1 harm1 hok1 hca1
              have HR1 := Go.Lib.hid hrec1
              have HA1 := Go.Lib.hid harm1
              clear hDc hrec1 harm1 dw1 rows1 hb2 e0 e1 e2 e3 hop1 hst hok hcache
              go_wp2_with fail
              refine hcg.mono ?_
              rintro e w3 ⟨S3c, rfl, dw3, U3, Sub3⟩
              have rows3' := rows2'.disk U3 Sub3
              have hop3 := U3.get hop2 hoS2
              have hoS3 := Sub3.not hoS2 (blk_lt hop2)
              clear hcg dw2 rows2' hop2 hoS2 U3 Sub3
              have dK := dw3
              have rowsK := rows3'
              have hrec := HR1.out
              have harmK := HA1.out
              have okK := hok1
              have caK : Dc.cache.length ≤ 0 := hca1
              obtain ⟨DK, hDK⟩ : ∃ DK, DK = Dc := ⟨_, rfl⟩
              rw [← hDK] at dK hrec harmK okK caK
              clear hDK dw3 rows3' hop3 hoS3 hok1 hca1
              have hop := hrec.open harmK
              have hco := openS_ok okK 0 n (by omega)
              have hcc : (openS DK 0 n).disk.cache.length ≤ 70000 + 200000 * (k + 1) := Nat.le_trans hco.2 (Nat.le_trans (Nat.add_le_add_right caK 65538) (Nat.le_trans (by decide : 0 + 65538 ≤ 70000) (Nat.le_add_right _ _)))
              obtain ⟨rr, hrr⟩ : ∃ rr, rr = openS DK 0 n := ⟨_, rfl⟩
              rw [← hrr] at hop hco hcc
              have HCC := Go.Lib.hid hcc
              obtain ⟨o1, o2, o3⟩ := hop
              have HRR := Go.Lib.hid hrr
              have HO1 := Go.Lib.hid o1
              have HO2 := Go.Lib.hid o2
              have HO3 := Go.Lib.hid o3
              have HCO := Go.Lib.hid hco
              clear hrr o1 o2 o3 hco hcc hrec harmK
              go_wp2_with fail
              refine (open_go dK okK (by omega) n).mono ?_
              rintro e wL ⟨SL, dL, UL, SubL, hor⟩
              rw [← HRR.out] at dL hor
              rcases hor with ⟨hne, -⟩ | ⟨-, q', rfl, lL, hq'⟩
              · exact absurd HO1.out hne
              have rowsL := rowsK.newlog UL SubL hq'
              have hus := used_go lL
              dsimp only at hus
              clear UL SubL hq' rowsK
              go_wp2_with fail
              refine hus.mono ?_
              rintro e wL2 ⟨rfl, rfl⟩
              clear hus
              have hrA := reads_st A0 n wL rowsL.al (by omega) lL.l dL.d HCO.out.1 rfl
              obtain ⟨ba, hba⟩ : ∃ ba, ba = readsB A0 rr.disk n := ⟨_, rfl⟩
              obtain ⟨bb, hbb2⟩ : ∃ bb, bb = readsB B0 rr.disk n := ⟨_, rfl⟩
              rw [← hba] at hrA
              have HBA := Go.Lib.hid hba
              have HBB := Go.Lib.hid hbb2
              have hread : ∀ i : Nat, n ≤ i → i < 40 → rr.disk.readS i = (C.getD i [], 0) := fun i h1 h2 => HO2.out.read HCO.out.1 h1 h2
              have HRD := Go.Lib.hid hread
              clear hba hbb2 hread
              go_wp2_with (refine wpList_load_g (by rfl) _ rfl g rfl (stC A0) rowsL.r1 (stC_size rowsL.al) ?_)
              refine hrA.mono ?_
              rintro e wM ⟨rfl, hbM⟩
              have dM := dL.below hbM
              have lM := lL.below hbM
              have rowsM := rowsL.below hbM
              have hrB := reads_st B0 n wM rowsM.bl (by omega) lM.l dM.d HCO.out.1 rfl
              rw [← HBB.out] at hrB
              clear hrA hbM rowsL
              go_wp2_with (refine wpList_load_g (by rfl) _ rfl g2 rfl (stC B0) rowsM.r2 (stC_size rowsM.bl) ?_)
              refine hrB.mono ?_
              rintro e wN ⟨rfl, hbN⟩
              have dN := dM.below hbN
              have lN := lM.below hbN
              have rowsN := rowsM.below hbN
              have lok' := HO2.out.logOk
              have hs1 := rowsN.al
              have hs2 := rowsN.bl
              have hone : ba = true ∨ (ba = false ∧ bb = true ∧ C = B0) := by
                rcases hC with rfl | rfl
                · left; rw [HBA.out, readsB_iff]; exact HRD.out
                · by_cases hb0 : ba = true
                  · exact .inl hb0
                  · exact .inr ⟨by simpa using hb0, by rw [HBB.out, readsB_iff]; exact HRD.out, rfl⟩
              have HLK := Go.Lib.hid lok'
              clear hrB hbN rowsM dL lL dM lM lok' hC
              rcases hone with rfl | ⟨rfl, rfl, rfl⟩
              · have hlen := HO2.out.facts.2.2.2.2.2.1
                have hcong : LiveE n rr.disk ⟨0, n, rr.place, rr.seq, 0, false⟩ A0 := HO2.out.congr hs1 (fun i hi => by
                  by_cases h40 : i < 40
                  · have e1 := readsB_iff.1 HBA.out.symm i hi h40
                    have e2 := HRD.out i hi h40
                    have e3 := congrArg Prod.fst (e1.symm.trans e2)
                    simp only [List.getD, List.getElem?_eq_getElem (show i < A0.length by omega), List.getElem?_eq_getElem (show i < C.length by omega), Option.getD_some] at e3
                    rw [List.getElem?_eq_getElem (by omega), List.getElem?_eq_getElem (by omega), e3]
                  · rw [List.getElem?_eq_none (by omega), List.getElem?_eq_none (by omega)])
                have HCG := Go.Lib.hid hcong
                clear hcong hlen
                cases bb
                all_goals
                  go_wp2_with (first | (refine wpList_load_g (by rfl) _ rfl g rfl (stC A0) rowsN.r1 (stC_size rowsN.al) ?_) | (refine wpList_store_g (by rfl) _ _ rfl g2 (stC A0) rfl rfl (stC B0) rowsN.r2 (stC_size rowsN.al) (stC_size rowsN.bl) (stC_one _) ?_))
                  go_roundw
                  case rel =>
                    exact ⟨k + 1, q', by omega, by omega, by go_num, rfl, SL, rr.disk, _, A0, A0, dN.set rowsN.s2 rowsN.w2 _, lN.set rowsN.q2 _, rowsN.set2 hs1, .inl ⟨HCG.out, rfl, by have := HO3.out; show rr.seq ≤ _; push_cast; omega⟩, HCO.out.1, HLK.out, by have := HO3.out; show rr.seq ≤ _; omega, HCC.out⟩
                  case measure => simp [intOf]; omega
              · have rows2 := rowsN.set1 hs2
                have rows3 := rows2.set2 (B' := C) hs2
                go_wp2_with (first | (refine wpList_load_g (by rfl) _ rfl g2 rfl (stC C) rowsN.r2 (stC_size rowsN.bl) ?_) | (refine wpList_store_g (by rfl) _ _ rfl g (stC C) rfl rfl (stC A0) rowsN.r1 (stC_size rowsN.bl) (stC_size rowsN.al) (stC_one _) ?_) | (refine wpList_load_g (by rfl) _ rfl g rfl (stC C) rows2.r1 (stC_size rows2.al) ?_) | (refine wpList_store_g (by rfl) _ _ rfl g2 (stC C) rfl rfl (stC C) rows2.r2 (stC_size rows2.al) (stC_size rows2.bl) (stC_one _) ?_))
                go_roundw
                case rel =>
                  exact ⟨k + 1, q', by omega, by omega, by go_num, rfl, SL, rr.disk, _, C, C, (dN.set rowsN.s1 rowsN.w1 _).set rowsN.s2 rowsN.w2 _, (lN.set rowsN.q1 _).set rowsN.q2 _, rows3, .inl ⟨HO2.out, rfl, by have := HO3.out; show rr.seq ≤ _; push_cast; omega⟩, HCO.out.1, HLK.out, by have := HO3.out; show rr.seq ≤ _; omega, HCC.out⟩
                case measure => simp [intOf]; omega
            · obtain ⟨e0, e1, e2, e3⟩ := op4 hop1
              go_wp2_with fail
              refine (picks7_any kd N Ap lpn cp Ak ck xsn w1 (by have := HO.out.kc; have := HXSN.out; omega) (by have := HO.out.km; have := HXSN.out; omega)).mono ?_
              rintro e w2 ⟨rfl, hb2⟩
              have dw2 := dw1.below hb2
              have rows2' := rows1.below hb2
              have hop2 := (hb2.block _ (blk_lt hop1)).trans hop1
              have hoS2 := hoS1
              obtain ⟨C, hC, hrec1, harm1⟩ := hst.crash hst.len (xs.take (min xsn 20))
              have hcg := crash_go dw2 hok Ak ck (min xsn 20) xs (by rw [HXSN.out]) HO.out.rk
              have hok1 := hok.crash (xs.take (min xsn 20))
              have hca1 := crash_cache hst.len (xs.take (min xsn 20))
              obtain ⟨Dc, hDc⟩ : ∃ Dc, Dc = D.crashS (xs.take (min xsn 20)) := ⟨_, rfl⟩
              rw [← hDc] at hcg hrec1 harm1 hok1 hca1
              have HR1 := Go.Lib.hid hrec1
              have HA1 := Go.Lib.hid harm1
              clear hDc hrec1 harm1 dw1 rows1 hb2 e0 e1 e2 e3 hop1 hst hok hcache
              go_wp2_with fail
              refine hcg.mono ?_
              rintro e w3 ⟨S3c, rfl, dw3, U3, Sub3⟩
              have rows3' := rows2'.disk U3 Sub3
              have hop3 := U3.get hop2 hoS2
              have hoS3 := Sub3.not hoS2 (blk_lt hop2)
              clear hcg dw2 rows2' hop2 hoS2 U3 Sub3
              have dK := dw3
              have rowsK := rows3'
              have hrec := HR1.out
              have harmK := HA1.out
              have okK := hok1
              have caK : Dc.cache.length ≤ 0 := hca1
              obtain ⟨DK, hDK⟩ : ∃ DK, DK = Dc := ⟨_, rfl⟩
              rw [← hDK] at dK hrec harmK okK caK
              clear hDK dw3 rows3' hop3 hoS3 hok1 hca1
              have hop := hrec.open harmK
              have hco := openS_ok okK 0 n (by omega)
              have hcc : (openS DK 0 n).disk.cache.length ≤ 70000 + 200000 * (k + 1) := Nat.le_trans hco.2 (Nat.le_trans (Nat.add_le_add_right caK 65538) (Nat.le_trans (by decide : 0 + 65538 ≤ 70000) (Nat.le_add_right _ _)))
              obtain ⟨rr, hrr⟩ : ∃ rr, rr = openS DK 0 n := ⟨_, rfl⟩
              rw [← hrr] at hop hco hcc
              have HCC := Go.Lib.hid hcc
              obtain ⟨o1, o2, o3⟩ := hop
              have HRR := Go.Lib.hid hrr
              have HO1 := Go.Lib.hid o1
              have HO2 := Go.Lib.hid o2
              have HO3 := Go.Lib.hid o3
              have HCO := Go.Lib.hid hco
              clear hrr o1 o2 o3 hco hcc hrec harmK
              go_wp2_with fail
              refine (open_go dK okK (by omega) n).mono ?_
              rintro e wL ⟨SL, dL, UL, SubL, hor⟩
              rw [← HRR.out] at dL hor
              rcases hor with ⟨hne, -⟩ | ⟨-, q', rfl, lL, hq'⟩
              · exact absurd HO1.out hne
              have rowsL := rowsK.newlog UL SubL hq'
              have hus := used_go lL
              dsimp only at hus
              clear UL SubL hq' rowsK
              go_wp2_with fail
              refine hus.mono ?_
              rintro e wL2 ⟨rfl, rfl⟩
              clear hus
              have hrA := reads_st A0 n wL rowsL.al (by omega) lL.l dL.d HCO.out.1 rfl
              obtain ⟨ba, hba⟩ : ∃ ba, ba = readsB A0 rr.disk n := ⟨_, rfl⟩
              obtain ⟨bb, hbb2⟩ : ∃ bb, bb = readsB B0 rr.disk n := ⟨_, rfl⟩
              rw [← hba] at hrA
              have HBA := Go.Lib.hid hba
              have HBB := Go.Lib.hid hbb2
              have hread : ∀ i : Nat, n ≤ i → i < 40 → rr.disk.readS i = (C.getD i [], 0) := fun i h1 h2 => HO2.out.read HCO.out.1 h1 h2
              have HRD := Go.Lib.hid hread
              clear hba hbb2 hread
              go_wp2_with (refine wpList_load_g (by rfl) _ rfl g rfl (stC A0) rowsL.r1 (stC_size rowsL.al) ?_)
              refine hrA.mono ?_
              rintro e wM ⟨rfl, hbM⟩
              have dM := dL.below hbM
              have lM := lL.below hbM
              have rowsM := rowsL.below hbM
              have hrB := reads_st B0 n wM rowsM.bl (by omega) lM.l dM.d HCO.out.1 rfl
              rw [← HBB.out] at hrB
              clear hrA hbM rowsL
              go_wp2_with (refine wpList_load_g (by rfl) _ rfl g2 rfl (stC B0) rowsM.r2 (stC_size rowsM.bl) ?_)
              refine hrB.mono ?_
              rintro e wN ⟨rfl, hbN⟩
              have dN := dM.below hbN
              have lN := lM.below hbN
              have rowsN := rowsM.below hbN
              have lok' := HO2.out.logOk
              have hs1 := rowsN.al
              have hs2 := rowsN.bl
              have hone : ba = true ∨ (ba = false ∧ bb = true ∧ C = B0) := by
                rcases hC with rfl | rfl
                · left; rw [HBA.out, readsB_iff]; exact HRD.out
                · by_cases hb0 : ba = true
                  · exact .inl hb0
                  · exact .inr ⟨by simpa using hb0, by rw [HBB.out, readsB_iff]; exact HRD.out, rfl⟩
              have HLK := Go.Lib.hid lok'
              clear hrB hbN rowsM dL lL dM lM lok' hC
              rcases hone with rfl | ⟨rfl, rfl, rfl⟩
              · have hlen := HO2.out.facts.2.2.2.2.2.1
                have hcong : LiveE n rr.disk ⟨0, n, rr.place, rr.seq, 0, false⟩ A0 := HO2.out.congr hs1 (fun i hi => by
                  by_cases h40 : i < 40
                  · have e1 := readsB_iff.1 HBA.out.symm i hi h40
                    have e2 := HRD.out i hi h40
                    have e3 := congrArg Prod.fst (e1.symm.trans e2)
                    simp only [List.getD, List.getElem?_eq_getElem (show i < A0.length by omega), List.getElem?_eq_getElem (show i < C.length by omega), Option.getD_some] at e3
                    rw [List.getElem?_eq_getElem (by omega), List.getElem?_eq_getElem (by omega), e3]
                  · rw [List.getElem?_eq_none (by omega), List.getElem?_eq_none (by omega)])
                have HCG := Go.Lib.hid hcong
                clear hcong hlen
                cases bb
                all_goals
                  go_wp2_with (first | (refine wpList_load_g (by rfl) _ rfl g rfl (stC A0) rowsN.r1 (stC_size rowsN.al) ?_) | (refine wpList_store_g (by rfl) _ _ rfl g2 (stC A0) rfl rfl (stC B0) rowsN.r2 (stC_size rowsN.al) (stC_size rowsN.bl) (stC_one _) ?_))
                  go_roundw
                  case rel =>
                    exact ⟨k + 1, q', by omega, by omega, by go_num, rfl, SL, rr.disk, _, A0, A0, dN.set rowsN.s2 rowsN.w2 _, lN.set rowsN.q2 _, rowsN.set2 hs1, .inl ⟨HCG.out, rfl, by have := HO3.out; show rr.seq ≤ _; push_cast; omega⟩, HCO.out.1, HLK.out, by have := HO3.out; show rr.seq ≤ _; omega, HCC.out⟩
                  case measure => simp [intOf]; omega
              · have rows2 := rowsN.set1 hs2
                have rows3 := rows2.set2 (B' := C) hs2
                go_wp2_with (first | (refine wpList_load_g (by rfl) _ rfl g2 rfl (stC C) rowsN.r2 (stC_size rowsN.bl) ?_) | (refine wpList_store_g (by rfl) _ _ rfl g (stC C) rfl rfl (stC A0) rowsN.r1 (stC_size rowsN.bl) (stC_size rowsN.al) (stC_one _) ?_) | (refine wpList_load_g (by rfl) _ rfl g rfl (stC C) rows2.r1 (stC_size rows2.al) ?_) | (refine wpList_store_g (by rfl) _ _ rfl g2 (stC C) rfl rfl (stC C) rows2.r2 (stC_size rows2.al) (stC_size rows2.bl) (stC_one _) ?_))
                go_roundw
                case rel =>
                  exact ⟨k + 1, q', by omega, by omega, by go_num, rfl, SL, rr.disk, _, C, C, (dN.set rowsN.s1 rowsN.w1 _).set rowsN.s2 rowsN.w2 _, (lN.set rowsN.q1 _).set rowsN.q2 _, rows3, .inl ⟨HO2.out, rfl, by have := HO3.out; show rr.seq ≤ _; push_cast; omega⟩, HCO.out.1, HLK.out, by have := HO3.out; show rr.seq ≤ _; omega, HCC.out⟩
                case measure => simp [intOf]; omega
            · obtain ⟨e0, e1, e2, e3⟩ := op4 hop1
              go_wp2_with fail
              refine (picks7_any kd N Ap lpn cp Ak ck xsn w1 (by have := HO.out.kc; have := HXSN.out; omega) (by have := HO.out.km; have := HXSN.out; omega)).mono ?_
              rintro e w2 ⟨rfl, hb2⟩
              have dw2 := dw1.below hb2
              have rows2' := rows1.below hb2
              have hop2 := (hb2.block _ (blk_lt hop1)).trans hop1
              have hoS2 := hoS1
              obtain ⟨C, hC, hrec1, harm1⟩ := hst.crash hst.len (xs.take (min xsn 20))
              have hcg := crash_go dw2 hok Ak ck (min xsn 20) xs (by rw [HXSN.out]) HO.out.rk
              have hok1 := hok.crash (xs.take (min xsn 20))
              have hca1 := crash_cache hst.len (xs.take (min xsn 20))
              obtain ⟨Dc, hDc⟩ : ∃ Dc, Dc = D.crashS (xs.take (min xsn 20)) := ⟨_, rfl⟩
              rw [← hDc] at hcg hrec1 harm1 hok1 hca1
              have HR1 := Go.Lib.hid hrec1
              have HA1 := Go.Lib.hid harm1
              clear hDc hrec1 harm1 dw1 rows1 hb2 e0 e1 e2 e3 hop1 hst hok hcache
              go_wp2_with fail
              refine hcg.mono ?_
              rintro e w3 ⟨S3c, rfl, dw3, U3, Sub3⟩
              have rows3' := rows2'.disk U3 Sub3
              have hop3 := U3.get hop2 hoS2
              have hoS3 := Sub3.not hoS2 (blk_lt hop2)
              clear hcg dw2 rows2' hop2 hoS2 U3 Sub3
              obtain ⟨x20, hx20⟩ : ∃ x20, N.tmod 20 = x20 := ⟨_, rfl⟩
              have hxb : x20 ≤ 9223372036854775807 := by
                rw [← hx20]
                rcases Int.le_total 0 N with h | h
                · rw [Int.tmod_eq_emod_of_nonneg h]; omega
                · have h2 : N.tmod 20 = -((-N).tmod 20) := by rw [Int.neg_tmod, Int.neg_neg]
                  rw [h2, Int.tmod_eq_emod_of_nonneg (by omega)]; omega
              obtain ⟨e0, e1, e2, e3⟩ := op4 hop3
              go_wp2_with fail
              refine (arm_go dw3 x20).mono ?_
              rintro e w4' ⟨rfl, dw4, U4⟩
              have rows4 := rows3'.disk U4 (Sub.refl _ _)
              have hop4 := U4.get hop3 hoS3
              have hok4 := hok1.arm x20 hxb
              have hca4 : (Dc.armS x20).cache.length ≤ 0 := hca1
              have hoa := open_any dw4 hok4 (by omega) n
              have hok5' := openS_ok hok4 0 n (by omega)
              clear dw3 rows3' hop3 U4 e0 e1 e2 e3
              go_wp2_with fail
              refine hoa.mono ?_
              rintro e w5 ⟨S5, v1, v2, rfl, dw5, U5, Sub5⟩
              have rows5 := rows4.disk U5 Sub5
              have hop5 := U5.get hop4 hoS3
              have hoS5 := Sub5.not hoS3 (blk_lt hop4)
              obtain ⟨hrec6, harm6⟩ := HR1.out.again x20 (xs.take (min xsn 20))
              obtain ⟨e0, e1, e2, e3⟩ := op4 hop5
              clear hoa dw4 rows4 hop4 hoS3 U5 Sub5
              go_wp2_with fail
              refine (picks7_any kd N Ap lpn cp Ak ck xsn w5 (by have := HO.out.kc; have := HXSN.out; omega) (by have := HO.out.km; have := HXSN.out; omega)).mono ?_
              rintro e w6 ⟨rfl, hb6⟩
              have dw6 := dw5.below hb6
              have rows6 := rows5.below hb6
              have hcg6 := crash_go dw6 hok5'.1 Ak ck (min xsn 20) xs (by rw [HXSN.out]) HO.out.rk
              have hok6 := hok5'.1.crash (xs.take (min xsn 20))
              have hln5 : (openS (Dc.armS x20) 0 n).disk.lies.length = 40 := by
                have h1 := hrec6.len
                have h2 := DiskS.crashS_sectors (openS (Dc.armS x20) 0 n).disk (xs.take (min xsn 20))
                unfold DiskS.sectors at h2
                omega
              have hca6 := crash_cache hln5 (xs.take (min xsn 20))
              obtain ⟨D6, hD6⟩ : ∃ D6, D6 = (openS (Dc.armS x20) 0 n).disk.crashS (xs.take (min xsn 20)) := ⟨_, rfl⟩
              rw [← hD6] at hcg6 hok6 hca6 hrec6 harm6
              have HR6 := Go.Lib.hid hrec6
              have HA6 := Go.Lib.hid harm6
              clear hD6 hrec6 harm6 hln5 hok5' e0 e1 e2 e3 dw5 rows5 hop5 hoS5 hb6
              go_wp2_with fail
              refine hcg6.mono ?_
              rintro e w7 ⟨S7, rfl, dw7, U7, Sub7⟩
              have rows7 := rows6.disk U7 Sub7
              have dK := dw7
              have rowsK := rows7
              have hrec := HR6.out
              have harmK := HA6.out
              have okK := hok6
              have caK : D6.cache.length ≤ 0 := hca6
              obtain ⟨DK, hDK⟩ : ∃ DK, DK = D6 := ⟨_, rfl⟩
              rw [← hDK] at dK hrec harmK okK caK
              clear hDK dw7 rows7 U7 Sub7 hok6 hca6 hcg6 dw6 rows6 hok1 hca1 hok4 hca4 hx20
              have hop := hrec.open harmK
              have hco := openS_ok okK 0 n (by omega)
              have hcc : (openS DK 0 n).disk.cache.length ≤ 70000 + 200000 * (k + 1) := Nat.le_trans hco.2 (Nat.le_trans (Nat.add_le_add_right caK 65538) (Nat.le_trans (by decide : 0 + 65538 ≤ 70000) (Nat.le_add_right _ _)))
              obtain ⟨rr, hrr⟩ : ∃ rr, rr = openS DK 0 n := ⟨_, rfl⟩
              rw [← hrr] at hop hco hcc
              have HCC := Go.Lib.hid hcc
              obtain ⟨o1, o2, o3⟩ := hop
              have HRR := Go.Lib.hid hrr
              have HO1 := Go.Lib.hid o1
              have HO2 := Go.Lib.hid o2
              have HO3 := Go.Lib.hid o3
              have HCO := Go.Lib.hid hco
              clear hrr o1 o2 o3 hco hcc hrec harmK
              go_wp2_with fail
              refine (open_go dK okK (by omega) n).mono ?_
              rintro e wL ⟨SL, dL, UL, SubL, hor⟩
              rw [← HRR.out] at dL hor
              rcases hor with ⟨hne, -⟩ | ⟨-, q', rfl, lL, hq'⟩
              · exact absurd HO1.out hne
              have rowsL := rowsK.newlog UL SubL hq'
              have hus := used_go lL
              dsimp only at hus
              clear UL SubL hq' rowsK
              go_wp2_with fail
              refine hus.mono ?_
              rintro e wL2 ⟨rfl, rfl⟩
              clear hus
              have hrA := reads_st A0 n wL rowsL.al (by omega) lL.l dL.d HCO.out.1 rfl
              obtain ⟨ba, hba⟩ : ∃ ba, ba = readsB A0 rr.disk n := ⟨_, rfl⟩
              obtain ⟨bb, hbb2⟩ : ∃ bb, bb = readsB B0 rr.disk n := ⟨_, rfl⟩
              rw [← hba] at hrA
              have HBA := Go.Lib.hid hba
              have HBB := Go.Lib.hid hbb2
              have hread : ∀ i : Nat, n ≤ i → i < 40 → rr.disk.readS i = (C.getD i [], 0) := fun i h1 h2 => HO2.out.read HCO.out.1 h1 h2
              have HRD := Go.Lib.hid hread
              clear hba hbb2 hread
              go_wp2_with (refine wpList_load_g (by rfl) _ rfl g rfl (stC A0) rowsL.r1 (stC_size rowsL.al) ?_)
              refine hrA.mono ?_
              rintro e wM ⟨rfl, hbM⟩
              have dM := dL.below hbM
              have lM := lL.below hbM
              have rowsM := rowsL.below hbM
              have hrB := reads_st B0 n wM rowsM.bl (by omega) lM.l dM.d HCO.out.1 rfl
              rw [← HBB.out] at hrB
              clear hrA hbM rowsL
              go_wp2_with (refine wpList_load_g (by rfl) _ rfl g2 rfl (stC B0) rowsM.r2 (stC_size rowsM.bl) ?_)
              refine hrB.mono ?_
              rintro e wN ⟨rfl, hbN⟩
              have dN := dM.below hbN
              have lN := lM.below hbN
              have rowsN := rowsM.below hbN
              have lok' := HO2.out.logOk
              have hs1 := rowsN.al
              have hs2 := rowsN.bl
              have hone : ba = true ∨ (ba = false ∧ bb = true ∧ C = B0) := by
                rcases hC with rfl | rfl
                · left; rw [HBA.out, readsB_iff]; exact HRD.out
                · by_cases hb0 : ba = true
                  · exact .inl hb0
                  · exact .inr ⟨by simpa using hb0, by rw [HBB.out, readsB_iff]; exact HRD.out, rfl⟩
              have HLK := Go.Lib.hid lok'
              clear hrB hbN rowsM dL lL dM lM lok' hC
              rcases hone with rfl | ⟨rfl, rfl, rfl⟩
              · have hlen := HO2.out.facts.2.2.2.2.2.1
                have hcong : LiveE n rr.disk ⟨0, n, rr.place, rr.seq, 0, false⟩ A0 := HO2.out.congr hs1 (fun i hi => by
                  by_cases h40 : i < 40
                  · have e1 := readsB_iff.1 HBA.out.symm i hi h40
                    have e2 := HRD.out i hi h40
                    have e3 := congrArg Prod.fst (e1.symm.trans e2)
                    simp only [List.getD, List.getElem?_eq_getElem (show i < A0.length by omega), List.getElem?_eq_getElem (show i < C.length by omega), Option.getD_some] at e3
                    rw [List.getElem?_eq_getElem (by omega), List.getElem?_eq_getElem (by omega), e3]
                  · rw [List.getElem?_eq_none (by omega), List.getElem?_eq_none (by omega)])
                have HCG := Go.Lib.hid hcong
                clear hcong hlen
                cases bb
                all_goals
                  go_wp2_with (first | (refine wpList_load_g (by rfl) _ rfl g rfl (stC A0) rowsN.r1 (stC_size rowsN.al) ?_) | (refine wpList_store_g (by rfl) _ _ rfl g2 (stC A0) rfl rfl (stC B0) rowsN.r2 (stC_size rowsN.al) (stC_size rowsN.bl) (stC_one _) ?_))
                  go_roundw
                  case rel =>
                    exact ⟨k + 1, q', by omega, by omega, by go_num, rfl, SL, rr.disk, _, A0, A0, dN.set rowsN.s2 rowsN.w2 _, lN.set rowsN.q2 _, rowsN.set2 hs1, .inl ⟨HCG.out, rfl, by have := HO3.out; show rr.seq ≤ _; push_cast; omega⟩, HCO.out.1, HLK.out, by have := HO3.out; show rr.seq ≤ _; omega, HCC.out⟩
                  case measure => simp [intOf]; omega
              · have rows2 := rowsN.set1 hs2
                have rows3 := rows2.set2 (B' := C) hs2
                go_wp2_with (first | (refine wpList_load_g (by rfl) _ rfl g2 rfl (stC C) rowsN.r2 (stC_size rowsN.bl) ?_) | (refine wpList_store_g (by rfl) _ _ rfl g (stC C) rfl rfl (stC A0) rowsN.r1 (stC_size rowsN.bl) (stC_size rowsN.al) (stC_one _) ?_) | (refine wpList_load_g (by rfl) _ rfl g rfl (stC C) rows2.r1 (stC_size rows2.al) ?_) | (refine wpList_store_g (by rfl) _ _ rfl g2 (stC C) rfl rfl (stC C) rows2.r2 (stC_size rows2.al) (stC_size rows2.bl) (stC_one _) ?_))
                go_roundw
                case rel =>
                  exact ⟨k + 1, q', by omega, by omega, by go_num, rfl, SL, rr.disk, _, C, C, (dN.set rowsN.s1 rowsN.w1 _).set rowsN.s2 rowsN.w2 _, (lN.set rowsN.q1 _).set rowsN.q2 _, rows3, .inl ⟨HO2.out, rfl, by have := HO3.out; show rr.seq ≤ _; push_cast; omega⟩, HCO.out.1, HLK.out, by have := HO3.out; show rr.seq ≤ _; omega, HCC.out⟩
                case measure => simp [intOf]; omega
            · have n5 : ((r : Int) == 5) = false := by simp; omega
              have n6 : ((r : Int) == 6) = false := by simp; omega
              have n7 : ((r : Int) == 7) = false := by simp; omega
              have n8 : ((r : Int) == 8) = false := by simp; omega
              have n9 : ((r : Int) == 9) = false := by simp; omega
              obtain ⟨e0, e1, e2, e3⟩ := op4 hop1
              obtain ⟨ps, hps⟩ : ∃ ps, ps = putsP lp n 6 := ⟨_, rfl⟩
              have hpx : ∀ x ∈ ps, (n : Int) ≤ x.1 ∧ x.1 < 40 ∧ x.2.length = 256 := by rw [hps]; exact specs_puts lp n 6 (by omega)
              have hp6 : ps.length ≤ 6 := by rw [hps]; exact putsP_len lp n 6
              have hpc := puts7_any lp Ap cp n 6 w1 (HO.out.rp.below dw1.b) HO.out.lc HO.out.lm (by omega) (by omega) (by omega) HO.out.lr
              rw [← hps, ← HLPN.out] at hpc
              clear hps
              go_wp2_with fail
              refine hpc.mono ?_
              rintro e w2 ⟨hb2, v, rfl, hown⟩
              have dw2 := dw1.below hb2
              have lw2 := lw1.below hb2
              have rows2 := rows1.below hb2
              have hlt2 : ∀ y, v.ownBlock = some y → y ∉ S ∧ y ≠ q := fun y hy => by
                have h1 := (hown.lt y hy).1
                refine ⟨fun hm => ?_, fun e => ?_⟩
                · have := dw1.d.ltS y hm; omega
                · have := blk_lt lw1.l; omega
              have hP : PutsR w2 S v ps := PutsR.of_own hown (fun y hy => (hlt2 y hy).1)
              have hcm := hst.commit (ps := ps) hn5 (by omega) hpx hp6
              have hco := commitS_ok hok L ps (by omega) (by omega)
              have hlo := commitS_log hlok D ps (by omega)
              have hgo := commit_go dw2 lw2 hlok hok (by omega) ps hP (by omega) (fun x hx => by have := (hpx x hx).2.2; omega)
              obtain ⟨rr, hrr⟩ : ∃ rr, rr = commitS L D ps := ⟨_, rfl⟩
              rw [← hrr] at hcm hco hlo hgo
              obtain ⟨A1, c1', rfl⟩ := own_slice hown
              have hpa : ∀ x ∈ ps, 0 ≤ x.1 ∧ x.1 < 40 := fun x hx => by have := hpx x hx; omega
              have HPA := Go.Lib.hid hpa
              have HCO := Go.Lib.hid hco
              have HLO := Go.Lib.hid hlo
              have HST := Go.Lib.hid hst
              have HOK := Go.Lib.hid hok
              have HLK := Go.Lib.hid hlok
              have HOWN : Hid (∀ W, Upd (q :: S) w2 W → Reads W A1 (putCells2 ps) ∧ ps.length ≤ c1') := fun W hW => own_reads (own_upd hown hW (fun y hy => by simp; exact ⟨(hlt2 y hy).2, (hlt2 y hy).1⟩))
              have HLT := Go.Lib.hid hlt2
              have hlayl : (lay A0 ps).length = 40 := by rw [lay_length]; exact rows1.al
              clear hrr hpc hb2 hP hco hlo hpx hpa hst hok hlok hown hlt2 dw1 lw1 rows1 e0 e1 e2 e3 hop1 hoS1
              rcases hcm with ⟨c1, c2, c3⟩ | ⟨c1, c2⟩ | ⟨c1, c2, c3, c4⟩
              · rw [c1] at hgo
                have HC2 := Go.Lib.hid c2
                have HC3 := Go.Lib.hid c3
                clear c1 c2 c3
                go_wp2_with fail
                refine hgo.mono ?_
                rintro e w3 ⟨S3c, rfl, dw3, lw3, U3, Sub3⟩
                have rows3 := rows2.log U3 Sub3
                obtain ⟨hrd3, hlc3⟩ := HOWN.out w3 U3
                have haf := after_st A0 A1 c1' ps w3 rows3.al hrd3 hlc3 (by omega) HPA.out
                clear hgo dw2 lw2 rows2 U3 Sub3 hrd3 hlc3
                go_wp2_with (refine wpList_load_g (by rfl) _ rfl g rfl (stC A0) rows3.r1 (stC_size rows3.al) ?_)
                refine haf.mono ?_
                rintro e w4' ⟨rfl, hb4⟩
                have dw4 := dw3.below hb4
                have lw4 := lw3.below hb4
                have rows4 := rows3.below hb4
                have rows5 := rows4.set1 hlayl
                have rows6 := rows5.set2 (B' := lay A0 ps) hlayl
                have dw6 := (dw4.set rows4.s1 rows4.w1 (stC (lay A0 ps))).set rows4.s2 rows4.w2 (stC (lay A0 ps))
                have lw6 := (lw4.set rows4.q1 (stC (lay A0 ps))).set rows4.q2 (stC (lay A0 ps))
                have hon := on_go dw6
                rw [HC2.out.facts.2.2.2.1] at hon
                have hrd := reads_st (lay A0 ps) n _ hlayl (by omega) lw6.l dw6.d HCO.out.1 HC2.out.facts.1
                rw [readsB_iff.2 (fun i h1 h2 => HC2.out.read HCO.out.1 h1 h2)] at hrd
                clear haf dw3 lw3 rows3 hb4
                go_wp2_with (first | (refine wpList_store_g (by rfl) _ _ rfl g (stC (lay A0 ps)) rfl rfl (stC A0) rows4.r1 (stC_size hlayl) (stC_size rows4.al) (stC_one _) ?_) | (refine wpList_load_g (by rfl) _ rfl g rfl (stC (lay A0 ps)) rows5.r1 (stC_size hlayl) ?_) | (refine wpList_store_g (by rfl) _ _ rfl g2 (stC (lay A0 ps)) rfl rfl (stC B0) rows5.r2 (stC_size hlayl) (stC_size rows5.bl) (stC_one _) ?_))
                refine hon.mono ?_
                rintro e w7 ⟨rfl, rfl⟩
                go_wp2_with (refine wpList_load_g (by rfl) _ rfl g rfl (stC (lay A0 ps)) rows6.r1 (stC_size hlayl) ?_)
                refine hrd.mono ?_
                rintro e w8 ⟨rfl, hb8⟩
                have dw8 := dw6.below hb8
                have lw8 := lw6.below hb8
                have rows8 := rows6.below hb8
                clear hrd hon dw6 lw6 rows6 rows5 rows4 dw4 lw4 hb8
                go_wp2_with fail
                go_roundw
                case rel =>
                  exact ⟨k + 1, q, by omega, by omega, by go_num, rfl, S3c, rr.disk, rr.log, _, _, dw8, lw8, rows8, .inl ⟨HC2.out, rfl, by have := HC3.out; push_cast; omega⟩, HCO.out.1, HLO.out.1, by have := HLO.out.2.2.2; omega, by have := HCO.out.2; omega⟩
                case measure => simp [intOf]; omega
              · rw [c1] at hgo
                have HC2 := Go.Lib.hid c2
                clear c1 c2
                go_wp2_with fail
                refine hgo.mono ?_
                rintro e w3 ⟨S3c, rfl, dw3, lw3, U3, Sub3⟩
                have rows3 := rows2.log U3 Sub3
                obtain ⟨hrd3, hlc3⟩ := HOWN.out w3 U3
                have haf := after_st A0 A1 c1' ps w3 rows3.al hrd3 hlc3 (by omega) HPA.out
                clear hgo dw2 lw2 rows2 U3 Sub3 hrd3 hlc3
                go_wp2_with (refine wpList_load_g (by rfl) _ rfl g rfl (stC A0) rows3.r1 (stC_size rows3.al) ?_)
                refine haf.mono ?_
                rintro e w4' ⟨rfl, hb4⟩
                have dw4 := dw3.below hb4
                have lw4 := lw3.below hb4
                have rows4 := rows3.below hb4
                have rows5 := rows4.set2 (B' := lay A0 ps) hlayl
                have dw6 := dw4.set rows4.s2 rows4.w2 (stC (lay A0 ps))
                have lw6 := lw4.set rows4.q2 (stC (lay A0 ps))
                clear haf dw3 lw3 rows3 hb4
                go_wp2_with (refine wpList_store_g (by rfl) _ _ rfl g2 (stC (lay A0 ps)) rfl rfl (stC B0) rows4.r2 (stC_size hlayl) (stC_size rows4.bl) (stC_one _) ?_)
                go_roundw
                case rel =>
                  exact ⟨k + 1, q, by omega, by omega, by go_num, rfl, S3c, rr.disk, rr.log, _, _, dw6, lw6, rows5, HC2.out, HCO.out.1, HLO.out.1, by have := HLO.out.2.2.2; omega, by have := HCO.out.2; omega⟩
                case measure => simp [intOf]; omega
              · obtain ⟨er, her⟩ : ∃ er, er = rr.err := ⟨_, rfl⟩
                rw [← her] at hgo c1 c2
                have f0 : (er == 0) = false := by simp [c1]
                have f14 : (er == 14) = false := by simp [c2]
                have HC3 := Go.Lib.hid c3
                have HC4 := Go.Lib.hid c4
                clear her c3 c4 c1 c2
                go_wp2_with fail
                refine hgo.mono ?_
                rintro e w3 ⟨S3c, rfl, dw3, lw3, U3, Sub3⟩
                have rows3 := rows2.log U3 Sub3
                clear hgo dw2 lw2 rows2 U3 Sub3
                go_wp2_with fail
                go_roundw
                case rel =>
                  refine ⟨k + 1, q, by omega, by omega, by go_num, rfl, S3c, rr.disk, rr.log, A0, B0, dw3, lw3, rows3, ?_, HCO.out.1, HLO.out.1, by have := HLO.out.2.2.2; omega, by have := HCO.out.2; omega⟩
                  rw [HC3.out, HC4.out]
                  exact HST.out.mono (by omega)
                case measure => simp [intOf]; omega
        · by_cases hkm2 : k < m
          · go_wp2_with fail
            go_ret
            exact ⟨rfl, hI.dw.b⟩
          · go_wp2_with fail
            go_ret
            exact ⟨rfl, hI.dw.b⟩

end Go.Proofs.YtbalbjhmboppoaaDoor
