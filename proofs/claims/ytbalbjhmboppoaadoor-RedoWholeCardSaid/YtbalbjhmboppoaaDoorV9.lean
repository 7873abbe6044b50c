/-
  The law's own row of 40 texts; RedoRound, walked: true.
  The table of check lies where it lies.
-/
import Derived.Test.YtbalbjhmboppoaaDoorV7
import Derived.Test.YtbalbjhmboppoaaDoorPM
import Derived.StillTailTactics
import Derived.Outline
set_option linter.unusedSimpArgs false
set_option linter.unusedVariables false
namespace Go.Proofs.YtbalbjhmboppoaaDoor
open Go.RowKit

theorem Reads.takeN {w : World} {A : Option Addr} {cs : List Value} (h : Reads w A cs) (k : Nat) : Reads w A (cs.take k) := by
  intro hne
  obtain ⟨b, off, hA, hc⟩ := h (by intro e; subst e; simp at hne)
  refine ⟨b, off, hA, fun j hj => ?_⟩
  rw [hc j (by simp at hj; omega)]
  simp
/-- The law's row. -/
def stC (l : List Bs) : Array Value := (l.map sv).toArray
theorem stC_size {l : List Bs} (h : l.length = 40) : (stC l).size = 40 := by simp [stC, h]
theorem stC_info {l : List Bs} (h : l.length = 40) : ((Tryd.prog.info? 53).map (·.size)) = some (stC l).size := by rw [info_state, stC_size h]
theorem stC_one (l : List Bs) : (stC l).all (·.oneCell') = true := sv_one l
theorem ld_state (w : World) (g : Nat) (cs : Array Value) (hg : w.heap[g]? = some (.cells cs 53 (0, 0))) (hs : cs.size = 40) : (Instr.loadAt 53 (.pointer (some ⟨g, 0, none⟩))).run Tryd.prog w = .ok (.agg cs) w := by
  simp only [Instr.loadAt, Instr.sureAddr, Sem.run_bind, Sem.run_pure, Result.andThen_ok, run_loadVar_row w g _ _ cs _ _ hg Tryd.underlying53 rfl (by rw [info_state, hs])]
theorem still_row {ops : Array Oper} {rest : List Oper} {o : Oper} {a : Act} {w : World} {Q : Act → Prop} (hgd : Region.wanted o (yielded ops a.tmps) = true) (x : Operand) (ho : o.op = .load 53 x) (g : Nat) (hx : a.eval x = .pointer (some ⟨g, 0, none⟩))
    (cs : Array Value) (hg : w.heap[g]? = some (.cells cs 53 (0, 0))) (hs : cs.size = 40) (h : wpStill Tryd.prog ops w Q rest (a.put o.dst (.agg cs))) : wpStill Tryd.prog ops w Q (o :: rest) a := by
  refine wpStill_step (fun K hK => ?_)
  rw [if_pos hgd]
  unfold Oper.still execOp
  simp only [ho, hx, Instr.loadAt, Instr.sureAddr, Sem.run_bind, Sem.run_pure, Result.andThen_ok, run_loadVar_row w g _ _ cs _ _ hg Tryd.underlying53 rfl (by rw [info_state, hs])]
  rw [Oper.stillUpon_value]
  exact hK _ h
/-- The row while it is filled. -/
def fillL (k : Nat) : List Bs := List.replicate k (zeros 256) ++ List.replicate (40 - k) []
theorem fillL_len {k : Nat} (h : k ≤ 40) : (fillL k).length = 40 := by simp [fillL]; omega
theorem fillL_set {k : Nat} (h : k < 40) : (fillL k).set k (zeros 256) = fillL (k + 1) := by
  unfold fillL
  obtain ⟨m, hm⟩ : ∃ m, 40 - k = m + 1 := ⟨40 - k - 1, by omega⟩
  rw [hm, show 40 - (k + 1) = m by omega, List.replicate_succ, List.set_append, if_neg (by simp)]
  simp [List.replicate_succ', List.append_assoc]
theorem fillL_40 : fillL 40 = blankS 40 := by simp [fillL, blankS]
theorem upd_row {w : World} (g : Nat) (cs : Array Value) : Upd [g] w (w.setRow g cs) :=
  ⟨rfl, rfl, rfl, by simp, fun k _ hn => setRow_other w g k cs (by simpa using hn)⟩
theorem specs_puts (l : List (Int × UInt8)) (z most : Nat) (hz : z < 40) : ∀ x ∈ putsP l z most, (z : Int) ≤ x.1 ∧ x.1 < 40 ∧ x.2.length = 256 := by
  intro x hx
  unfold putsP at hx
  obtain ⟨y, -, rfl⟩ := List.mem_map.1 hx
  have := putP_range z (by omega) (by omega) y
  exact ⟨this.1, this.2, withB_len y.2⟩
theorem putsP_len (l : List (Int × UInt8)) (z : Int) (most : Nat) : (putsP l z most).length ≤ most := by
  unfold putsP; simp; omega

/-- Between two transactions. -/
structure RoundI (W0 wr : World) (q p n g : Nat) (v : Value) (P : List PutM) (k : Nat) (S : List Nat) (D : DiskS) (L : LogS) : Prop where
  dw : DW W0 wr S p D
  lw : LW W0 wr S q p L
  live : LiveE n D L (lay (blankS 40) (P.take k))
  ok : D.Ok
  cache : D.cache.length ≤ 70000 + 20 * k
  armed : D.armed = false
  seq : L.seq = (k : Int) + 1
  row : wr.heap[g]? = some (.cells (stC (lay (blankS 40) (P.take k))) 53 (0, 0))
  gS : g ∉ S
  gq : g ≠ q
  gW : W0.heap.size ≤ g
  own : wr.ownsRow W0.heap.size 40 2 v P.length (putCells2 P)
  oS : ∀ b, v.ownBlock = some b → b ∉ S ∧ b ≠ q ∧ b ≠ g
def RoundX (W0 wr : World) (q p n g : Nat) (v : Value) (P : List PutM) (k : Nat) : Prop := ∃ S D L, RoundI W0 wr q p n g v P k S D L

set_option maxRecDepth 100000 in
set_option maxHeartbeats 4000000 in
theorem RedoRound_any (size : Int) (l : List (Int × UInt8)) (A : Option Addr) (c : Nat) (xs : List Int) (A2 : Option Addr) (c2 : Nat) (w : World) (hT : Tab w) (hR : Reads w A (specCells l)) (hc : l.length ≤ c) (hl : l.length ≤ 9223372036854775807)
    (hr : ∀ x ∈ l, -9223372036854775808 ≤ x.1 ∧ x.1 ≤ 9223372036854775807) (hR2 : Reads w A2 (xs.map (Value.int .i64))) (hc2 : xs.length ≤ c2) (hl2 : xs.length ≤ 9223372036854775807) :
    Calls Tryd.prog 7 #[.int .i64 size, .slice A l.length c, .slice A2 xs.length c2] w fun e w' => e = .returned (.bool true) ∧ Below w.heap.size w w' := by
  have hsz := i64_and15 size
  obtain ⟨n, hn⟩ : ∃ n : Nat, (n : Int) = 6 + size % 16 := ⟨(6 + size % 16).toNat, by omega⟩
  have hn5 : 6 ≤ n := by omega
  have hn20 : n ≤ 21 := by omega
  have hw5 : IntKind.i64.wrap (6 + size % 16) = n := by rw [IntKind.wrap_i64]; omega
  have hw5' : 6 + size % 16 = (n : Int) := hn.symm
  obtain ⟨D1, D2, p2, st⟩ := started (n := n) (by omega) (by omega)
  obtain ⟨m, hm⟩ : ∃ m : Nat, m = min xs.length 20 := ⟨_, rfl⟩
  have hm1 : m ≤ xs.length := by omega
  have hm2 : m ≤ c2 := by omega
  have h20 : (20 < xs.length ∧ m = 20) ∨ (xs.length ≤ 20 ∧ m = xs.length) := by omega
  obtain ⟨P, hP⟩ : ∃ P, P = putsP l n 60 := ⟨_, rfl⟩
  have hP60 : P.length ≤ 60 := by rw [hP]; exact putsP_len l n 60
  have hPx : ∀ x ∈ P, (n : Int) ≤ x.1 ∧ x.1 < 40 ∧ x.2.length = 256 := by rw [hP]; exact specs_puts l n 60 (by omega)
  have hPuts : Hid (∀ W, Below w.heap.size w W → Calls Tryd.prog 26 #[.slice A l.length c, .int .i64 n, .int .i64 60] W fun e w' => PutsNew W P e w') := fun W hW => by
    rw [hP]
    exact puts7_any l A c n 60 W (hR.below hW) hc hl (by omega) (by omega) (by omega) hr
  have HT := Go.Lib.hid hT
  have HST := Go.Lib.hid st
  have HR2 := Go.Lib.hid hR2
  have HPX := Go.Lib.hid hPx
  have hmk := make_bytes (256 : Int) 256 rfl (by omega)
  clear hT st hR hr hR2 hn hm hP hPx
  go_enter Tryd.func7, Tryd.ntmps7
  go_wp2_with fail
  refine (awake_any _ HT.out).mono ?_
  rintro e w0 ⟨rfl, hb0'⟩
  go_wp2_with fail
  refine (new_go HT.out hb0').mono ?_
  rintro e w1 ⟨p, S1, rfl, d1⟩
  go_wp2_with fail
  refine (format_go d1 HST.out).mono ?_
  rintro e w2 ⟨S2, rfl, d2⟩
  go_wp2_with fail
  refine (open_yes d2 HST.out).mono ?_
  rintro e w3 ⟨S3, q, rfl, d3, l3⟩
  clear d1 d2 hb0'
  go_wp2_with fail
  obtain ⟨wA, hwA⟩ : ∃ wA, wA = w3.alloc (.cells (stC (fillL 0)) 53) := ⟨_, rfl⟩
  have hgo : wA = w3.alloc (.cells #[.string ⟨#[]⟩, .string ⟨#[]⟩, .string ⟨#[]⟩, .string ⟨#[]⟩, .string ⟨#[]⟩, .string ⟨#[]⟩, .string ⟨#[]⟩, .string ⟨#[]⟩, .string ⟨#[]⟩, .string ⟨#[]⟩, .string ⟨#[]⟩, .string ⟨#[]⟩, .string ⟨#[]⟩, .string ⟨#[]⟩, .string ⟨#[]⟩, .string ⟨#[]⟩, .string ⟨#[]⟩, .string ⟨#[]⟩, .string ⟨#[]⟩, .string ⟨#[]⟩, .string ⟨#[]⟩, .string ⟨#[]⟩, .string ⟨#[]⟩, .string ⟨#[]⟩, .string ⟨#[]⟩, .string ⟨#[]⟩, .string ⟨#[]⟩, .string ⟨#[]⟩, .string ⟨#[]⟩, .string ⟨#[]⟩, .string ⟨#[]⟩, .string ⟨#[]⟩, .string ⟨#[]⟩, .string ⟨#[]⟩, .string ⟨#[]⟩, .string ⟨#[]⟩, .string ⟨#[]⟩, .string ⟨#[]⟩, .string ⟨#[]⟩, .string ⟨#[]⟩] 53) := by rw [hwA]; rfl
  rw [← hgo]
  have hAw : Upd [] w3 wA := by rw [hwA]; exact (Upd.refl _ _).alloc _
  have hrow : wA.heap[w3.heap.size]? = some (.cells (stC (fillL 0)) 53 (0, 0)) := by rw [hwA]; exact blk_new _ _
  clear hwA hgo
  have dA : DW w wA S3 p D2 := d3.upd hAw (by simp) (by simp)
  have lA : LW w wA S3 q p ⟨0, n, p2, 1, 0, false⟩ := l3.upd hAw (Sub.refl _ _) (by simp)
  have hgS : w3.heap.size ∉ S3 := fun hm => by have := d3.d.ltS _ hm; omega
  have hgq : w3.heap.size ≠ q := fun e => by have := blk_lt l3.l; omega
  have hgW : w.heap.size ≤ w3.heap.size := d3.b.size
  obtain ⟨g, hg⟩ : ∃ g, g = w3.heap.size := ⟨_, rfl⟩
  rw [← hg] at hrow hgS hgq hgW ⊢
  have hgA := blk_lt hrow
  clear hg d3 l3 hAw
  go_loopw [13] (fun s wr => ∃ k : Nat, k ≤ 40 ∧ s = .int .i64 k ∧ wr.heap[g]? = some (.cells (stC (fillL k)) 53 (0, 0)) ∧ Upd [g] wA wr) (fun s _ => 40 - (intOf s).toNat)
  case atStart => exact ⟨0, Nat.zero_le _, rfl, hrow, Upd.refl _ _⟩
  case round =>
    obtain ⟨k, hk, rfl, hrw, hU⟩ := hrel
    by_cases hlt : k < 40
    · obtain ⟨v0, hcell⟩ : ∃ v0, wr.cell? ⟨g, k, none⟩ = some v0 := ⟨_, by rw [blk_cell hrw]; exact Array.getElem?_eq_getElem (by rw [stC_size (fillL_len hk)]; omega)⟩
      have hfree := blk_free hrw k
      have hne : wr.heap.size ≠ g := by have := blk_lt hrw; omega
      have hne2 : g ≠ wr.heap.size := hne.symm
      have hne3 : g < wr.heap.size := blk_lt hrw
      have hcellA : (wr.alloc (.cells (bvs (zeros 256)).toArray 5)).cell? ⟨g, k, none⟩ = some v0 := (blk_cell (blk_alloc hrw _) k).trans ((blk_cell hrw k).symm.trans hcell)
      have hfreeA : (wr.alloc (.cells (bvs (zeros 256)).toArray 5)).frozen? ⟨g, k, none⟩ = false := blk_free (blk_alloc hrw _) k
      have hcv := conv_zeros wr 256
      have HRW := Go.Lib.hid hrw
      clear hrw hrow
      go_wp2_with fail
      go_roundw
      case rel =>
        refine ⟨k + 1, by omega, by go_num, ?_, (hU.set (b := g) (.inl (by simp)) _ _).alloc _⟩
        refine blk_alloc ?_ _
        refine (blk_set HRW.out _ _).trans ?_
        show some (Obj.cells (((fillL k).map sv).toArray.setIfInBounds k (sv (zeros 256))) _ _) = _
        rw [sv_set, fillL_set hlt]
        rfl
      case measure => simp [intOf]; omega
    · obtain rfl : k = 40 := by omega
      rw [fillL_40] at hrw
      have dB : DW w wr S3 p D2 := dA.upd hU (by intro b hb hm; simp at hm; subst hm; exact hgS hb) (by intro b hb; simp at hb; subst hb; exact hgW)
      have lB : LW w wr S3 q p ⟨0, n, p2, 1, 0, false⟩ := lA.upd hU (Sub.refl _ _) (by simp; exact fun e => hgq e.symm)
      clear hrow dA lA hgA hk hlt
      go_wp2_with fail
      refine (hPuts.out wr dB.b).mono ?_
      rintro e w4 ⟨hb4, v, rfl, hown⟩
      have hsz4 := dB.b.size
      have d4 := dB.below hb4
      have l4 := lB.below hb4
      have hrow4 : w4.heap[g]? = some (.cells (stC (lay (blankS 40) (P.take 0))) 53 (0, 0)) := (hb4.block g (blk_lt hrw)).trans hrw
      have hX : RoundX w w4 q p n g v P 0 := ⟨S3, D2, _, ⟨d4, l4, HST.out.live, HST.out.ok2, by have := HST.out.c2; omega, HST.out.armed, rfl, hrow4, hgS, hgq, hgW, own_base hown (fun b hb => Nat.le_trans hsz4 (hown.lt b hb).1), fun b hb => by
        have h1 := (hown.lt b hb).1
        refine ⟨fun hm => ?_, fun e => ?_, fun e => ?_⟩
        · have := dB.d.ltS b hm; omega
        · have := blk_lt lB.l; omega
        · have := blk_lt hrw; omega⟩⟩
      obtain ⟨A1, c1, rfl⟩ := own_slice hown
      clear dB lB hb4 hsz4 d4 l4 hrow4 hown hrw hU hgS
      go_wp2_with fail
      go_loopw [15] (fun s wr => ∃ k : Nat, k ≤ P.length ∧ s = .int .i64 k ∧ RoundX w wr q p n g (.slice A1 P.length c1) P k) (fun s _ => P.length - (intOf s).toNat)
      case atStart => exact ⟨0, Nat.zero_le _, rfl, hX⟩
      case round =>
        obtain ⟨k, hk, rfl, S, D, L, hI⟩ := hrel
        clear hX
        by_cases hlt : k < P.length
        · obtain ⟨hdw, hlw, hlive, hok, hcache, harm, hseq, hrow, hgS, hgq, hgW', hown, hoS⟩ := hI
          obtain ⟨hAR, hAc⟩ := own_reads hown
          obtain ⟨b, off, hA1, hbl, k1, k2⟩ := puts_reads hAR hlt
          obtain ⟨x, hx⟩ : ∃ x, x = P[k] := ⟨_, rfl⟩
          rw [← hx] at k1 k2
          have hxp := HPX.out x (by rw [hx]; exact List.getElem_mem hlt)
          obtain ⟨xa, xb⟩ := x
          simp only at k1 k2 hxp
          obtain ⟨hx1, hx2, hx3⟩ := hxp
          unfold sv at k2
          obtain ⟨St, hSt⟩ : ∃ St, St = lay (blankS 40) (P.take k) := ⟨_, rfl⟩
          have hSt1 : lay (blankS 40) (P.take (k + 1)) = lay St [(xa, xb)] := by rw [take_lay _ P k hlt, ← hx, ← hSt]; rfl
          have hStl : St.length = 40 := by rw [hSt]; simp [blankS]
          rw [← hSt] at hlive hrow
          have hcl := commit_live hlive (psOk_one (n := n) (a := xa) (s := xb) hx1 hx2 hx3) (by simp; omega) (by omega) harm
          have hco := commitS_ok hok L [(xa, xb)] (by simp) (by omega)
          have hgo := commit_one_go hdw hlw hlive.logOk hok (by omega) xa xb hx3
          obtain ⟨rr, hrr⟩ : ∃ rr, rr = commitS L D [(xa, xb)] := ⟨_, rfl⟩
          rw [← hrr] at hcl hco hgo
          obtain ⟨r1, r2, r3, r4, r5⟩ := hcl
          rw [r1] at hgo
          simp only [List.length_singleton] at hco
          have hk2 : rr.log.seq = (k : Int) + 2 := by omega
          have HAR : Hid (∀ W, Upd (q :: S) wr W → ∃ b', A1 = some ⟨b', off, none⟩ ∧ W.cell? ⟨b', off + k * 2, none⟩ = some (.int .i64 xa) ∧ W.cell? ⟨b', off + k * 2 + 1, none⟩ = some (.string ⟨xb.toArray⟩)) := by
            intro W hW
            have hob := hoS b (by rw [hA1]; rfl)
            refine ⟨b, hA1, ?_, ?_⟩
            · exact (World.cell?_of_block (a := ⟨b, off + k * 2, none⟩) (hW.block b hbl (by simp; exact ⟨hob.2.1, hob.1⟩))).trans k1
            · exact (World.cell?_of_block (a := ⟨b, off + k * 2 + 1, none⟩) (hW.block b hbl (by simp; exact ⟨hob.2.1, hob.1⟩))).trans k2
          subst hA1
          have hgn : ∀ y, y ∈ q :: S → y ≠ g := by
            intro y hy e
            subst e
            rcases List.mem_cons.1 hy with h | h
            · exact hgq h
            · exact hgS h
          have HROW : Hid (∀ W, Upd (q :: S) wr W → W.heap[g]? = some (.cells (stC St) 53 (0, 0))) := fun W hW => hW.get hrow (fun hm => hgn g hm rfl)
          have HX := Go.Lib.hid hx
          have HST := Go.Lib.hid hSt
          have HST1 := Go.Lib.hid hSt1
          have HCO := Go.Lib.hid hco
          have HCA := Go.Lib.hid hcache
          have HSEQ := Go.Lib.hid hseq
          have HK2 := Go.Lib.hid hk2
          have HR5 := Go.Lib.hid r5
          have HR2' := Go.Lib.hid r2
          have HSL := Go.Lib.hid hStl
          have HOWN := Go.Lib.hid hown
          have HOS := Go.Lib.hid hoS
          have hc1k : k < c1 := by omega
          have hgz := blk_lt hrow
          have hbS := hoS b rfl
          clear hx hSt hSt1 hrr r1 r2 r3 r4 r5 hco hcache hseq hdw hlw hlive hok harm hStl hown hoS hrow hAR hgn hw5 hw5' hmk
          go_wp2_with fail
          refine hgo.mono ?_
          rintro e w5 ⟨S5, rfl, d5, l5, U5, Sub5⟩
          have hsq := seq_go l5
          rw [HK2.out] at hsq
          clear hgo
          go_wp2_with fail
          refine hsq.mono ?_
          rintro e w6 ⟨rfl, rfl⟩
          clear hsq hk2
          have hrow5 := HROW.out w5 U5
          obtain ⟨C, hC⟩ : ∃ C, C = stC St := ⟨_, rfl⟩
          have hCs : C.size = 40 := by rw [hC]; exact stC_size HSL.out
          rw [← hC] at hrow5
          have hld := ld_state w5.drew g C hrow5 hCs
          have HC := Go.Lib.hid hC
          have HR5w := Go.Lib.hid hrow5
          have HCS := Go.Lib.hid hCs
          clear hC hrow5 hCs k1 k2
          have n1 : IntKind.i64.wrap ((k : Int) + 1) = (k : Int) + 1 := by rw [IntKind.wrap_i64]; omega
          have n2 : (0 : Int) ≤ (k : Int) + 1 := by omega
          have n3 : ((k : Int) + 1).toNat = k + 1 := by omega
          have n4 : (k : Int) ≤ (k : Int) + 1 := by omega
          have n5 : (k : Int) + 1 ≤ (c1 : Int) := by omega
          have n6 : (0 : Int) ≤ (k : Int) := by omega
          have n7 : k + 1 ≤ c1 := by omega
          go_wp2_with fail
          go_still_tail 6, (by kernel_rfl)
          change wpStill _ _ w5.drew (fun a' => wpList _ _ _ _ a' w5.drew) _ _
          refine still_row (by kernel_rfl) _ rfl g rfl C HR5w.out HCS.out ?_
          repeat still_step
          refine wpStill_nil ?_
          change wpList _ _ _ _ _ w5.drew
          clear n1 n2 n3 n4 n5 n6 n7 hld
          have hbz5 : b < w5.heap.size := Nat.lt_of_lt_of_le hbl U5.size
          have hob : b ∉ q :: S := by simp; exact ⟨hbS.2.1, hbS.1⟩
          have hown5 : w5.ownsRow w.heap.size 40 2 (.slice (some ⟨b, off, none⟩) P.length c1) P.length (putCells2 P) := own_upd HOWN.out U5 (fun y hy => by
            obtain rfl : b = y := by simpa [Value.ownBlock] using hy
            exact hob)
          obtain ⟨hAR5, -⟩ := own_reads hown5
          obtain ⟨b', off', hA5, -, k1, k2⟩ := puts_reads hAR5 hlt
          obtain ⟨rfl, rfl⟩ : b = b' ∧ off = off' := by simpa using hA5
          rw [← HX.out] at k1 k2
          have hRd : Reads w5.drew (some ⟨b, off + k * 2, none⟩) (putCells2 [(xa, xb)]) := by
            intro _
            refine ⟨b, off + k * 2, rfl, fun j hj => ?_⟩
            match j, hj with
            | 0, _ => exact k1
            | 1, _ => exact k2
          have haf := after_any St (some ⟨b, off + k * 2, none⟩) (c1 - k) [(xa, xb)] w5.drew HSL.out hRd (by simp; omega) (by simp) (fun y hy => by obtain rfl := List.mem_singleton.1 hy; exact ⟨by omega, hx2⟩)
          have hC2 : C = (St.map sv).toArray := HC.out
          rw [← hC2] at haf
          simp only [List.length_singleton] at haf
          obtain ⟨C', hC'⟩ : ∃ C', C' = stC (lay St [(xa, xb)]) := ⟨_, rfl⟩
          have hC3 : ((lay St [(xa, xb)]).map sv).toArray = C' := hC'.symm
          rw [hC3] at haf
          have HC' := Go.Lib.hid hC'
          have HOWN5 := Go.Lib.hid hown5
          have hCs' : C'.size = 40 := by rw [hC']; exact stC_size (by rw [lay_length]; exact HSL.out)
          have hC1' : C'.all (·.oneCell') = true := by rw [hC']; exact stC_one _
          have HCS' := Go.Lib.hid hCs'
          have HC1' := Go.Lib.hid hC1'
          clear hC2 hC3 hC' hAR5 hown5 hRd hA5 k1 k2 hCs' hC1'
          go_wp2_with fail
          refine haf.mono ?_
          rintro e w8 ⟨rfl, hb8⟩
          have hb58 : Below w5.heap.size w5 w8 := (below_drewV w5).trans hb8
          have hrow8 : w8.heap[g]? = some (.cells C 53 (0, 0)) := (hb58.block g (blk_lt HR5w.out)).trans HR5w.out
          have HR8 := Go.Lib.hid hrow8
          clear haf hrow8
          go_wp2_with (refine wpList_store_row rfl 53 _ _ rfl g C' rfl rfl 53 C HR8.out (by rw [info_state, HCS'.out]) (by rw [HCS.out, HCS'.out]) HC1'.out ?_)
          have d8 := d5.below hb58
          have l8 := l5.below hb58
          have hgS5 : g ∉ S5 := Sub5.not hgS hgz
          have hb8S : b ∉ S5 := Sub5.not hbS.1 hbl
          have U9 : Upd [g] w8 (w8.setRow g C') := upd_row g C'
          go_roundw
          case rel =>
            refine ⟨k + 1, by omega, by go_num, S5, rr.disk, rr.log, ?_⟩
            refine ⟨d8.upd U9 (by intro y hy hm; simp at hm; subst hm; exact hgS5 hy) (by intro y hy; simp at hy; subst hy; exact hgW), l8.upd U9 (Sub.refl _ _) (by simp; exact fun e => hgq e.symm), ?_, HCO.out.1, by have := HCO.out.2; have := HCA.out; omega, HR5.out, by rw [HK2.out]; push_cast; omega, ?_, hgS5, hgq, hgW, ?_, fun y hy => ?_⟩
            · rw [HST1.out]; exact HR2'.out
            · rw [HST1.out, ← HC'.out]; exact setRow_heap _ _ _ _ _ _ HR8.out
            · refine own_upd (own_upd HOWN5.out (Upd.of_below (S := []) hb58) (by simp)) U9 (fun y hy => ?_)
              obtain rfl : b = y := by simpa [Value.ownBlock] using hy
              simp; exact hbS.2.2
            · obtain rfl : b = y := by simpa [Value.ownBlock] using hy
              exact ⟨hb8S, hbS.2.1, hbS.2.2⟩
          case measure => simp [intOf]; omega
        · obtain rfl : k = P.length := by omega
          obtain ⟨hdw, hlw, hlive, hok, hcache, harm, hseq, hrow, hgS, hgq, hgW', hown, hoS⟩ := hI
          rw [List.take_of_length_le (Nat.le_refl _)] at hlive hrow
          obtain ⟨St, hSt⟩ : ∃ St, St = lay (blankS 40) P := ⟨_, rfl⟩
          have hStl : St.length = 40 := by rw [hSt]; simp [blankS]
          rw [← hSt] at hlive hrow
          have hrd : readsB St D n = true := readsB_iff.2 (fun i h1 h2 => hlive.read hok h1 h2)
          have hread := reads_any St n wr hStl (by omega) hlw.l hdw.d hok hlive.facts.1
          rw [hrd] at hread
          obtain ⟨C, hC⟩ : ∃ C, C = stC St := ⟨_, rfl⟩
          have hCs : C.size = 40 := by rw [hC]; exact stC_size hStl
          have hC2 : (St.map sv).toArray = C := hC.symm
          rw [← hC] at hrow
          rw [hC2] at hread
          obtain ⟨ys, hys⟩ : ∃ ys, ys = xs.take m := ⟨_, rfl⟩
          have hyl : ys.length = m := by rw [hys]; simp; omega
          have hro := reopen hlive ys
          have hco := openS_ok (hok.crash ys) 0 n (by rw [show (D.crashS ys).cache.length = 0 by unfold DiskS.crashS; rw [if_neg (by rw [hlive.facts.2.2.2.2.1]; decide)]; rfl]; omega)
          have hCr : Hid (∀ W, DW w W S p D → Below w.heap.size w W → Calls Tryd.prog 29 #[.pointer (some ⟨p, 0, none⟩), .slice A2 m c2] W fun e w' => DRet W S p (D.crashS ys) (.tuple #[]) e w') := by
            intro W hW hWb
            have h := dCrash_any (c := c2) W ys hW.d hok (by omega) (by rw [hys, List.map_take]; exact (HR2.out.below hWb).takeN m) (fun b off hA hne hm => by
              obtain ⟨b', off', hA', hcell⟩ := HR2.out (by intro e; apply hne; rw [hys]; simp at e; simp [e])
              rw [hA] at hA'
              obtain ⟨rfl, rfl⟩ : b = b' ∧ off = off' := by simpa using hA'
              have h1 := World.block_lt_of_cell? w _ (hcell 0 (by
                rcases Nat.eq_zero_or_pos xs.length with h0 | h0
                · exfalso; apply hne; rw [hys, List.eq_nil_of_length_eq_zero h0, List.take_nil]
                · simpa using h0))
              have h2 := hW.s b hm
              simp at h1
              omega)
            rwa [hyl] at h
          obtain ⟨D5, hD5⟩ : ∃ D5, D5 = D.crashS ys := ⟨_, rfl⟩
          rw [← hD5] at hCr hro hco
          obtain ⟨r, hr⟩ : ∃ r, r = openS D5 0 n := ⟨_, rfl⟩
          rw [← hr] at hro hco
          have hok5 : D5.Ok := by rw [hD5]; exact hok.crash ys
          have hca5 : D5.cache.length ≤ 0 := by rw [hD5]; unfold DiskS.crashS; rw [if_neg (by rw [hlive.facts.2.2.2.2.1]; decide)]; exact Nat.le_refl 0
          obtain ⟨q1, q2, q3, q4⟩ := hro
          have hrd2 : readsB St r.disk n = true := readsB_iff.2 (fun i h1 h2 => q2.read hco.1 h1 h2)
          have HRD2 := Go.Lib.hid hrd2
          have HRR := Go.Lib.hid hr
          have HQ1 := Go.Lib.hid q1
          have HQ3 := Go.Lib.hid q3
          have HSEQ := Go.Lib.hid hseq
          have HROW := Go.Lib.hid hrow
          have HCS := Go.Lib.hid hCs
          have HC := Go.Lib.hid hC2
          have HOK := Go.Lib.hid hco
          have HSL := Go.Lib.hid hStl
          have hbr2 := q2.facts.1
          have hgz := blk_lt hrow
          clear hrd2 hr q1 q3 hseq hrow hCs hC hC2 hD5 hrd hcache harm hok hlive hown hoS hSt hStl hys hyl hco hmk hw5 hw5'
          rcases h20 with ⟨h20, rfl⟩ | ⟨h20, rfl⟩
          all_goals
            go_wp2_with (refine wpList_load_row rfl 53 _ rfl g rfl 53 C (0, 0) _ HROW.out Tryd.underlying53 rfl (by rw [info_state, HCS.out]) ?_)
            refine hread.mono ?_
            rintro e w5 ⟨rfl, hb5⟩
            have d5 := hdw.below hb5
            have hrow5 := (hb5.block g (blk_lt HROW.out)).trans HROW.out
            have HROW5 := Go.Lib.hid hrow5
            clear hrow5 hread
            go_wp2_with fail
            refine (hCr.out w5 d5 d5.b).mono ?_
            rintro e w6 ⟨S6, rfl, hD6, hU6, hS6⟩
            have d6 := d5.ret hD6 hU6 hS6 d5.s
            have hrow6 := hU6.get HROW5.out hgS
            have HROW6 := Go.Lib.hid hrow6
            have hgS6 := hS6.not hgS (blk_lt hrow6 |> fun _ => blk_lt HROW5.out)
            clear hrow6
            go_wp2_with fail
            refine (open_go d6 hok5 (by omega) n).mono ?_
            rintro e w7 ⟨S7, d7, U7, Sub7, hor⟩
            rw [← HRR.out] at d7 hor
            rcases hor with ⟨hne, -⟩ | ⟨-, q7, rfl, l7, -⟩
            · exact absurd HQ1.out hne
            have hrow7 := U7.get HROW6.out hgS6
            have hread2 := reads_any St n w7 HSL.out (by omega) l7.l d7.d HOK.out.1 rfl
            rw [HRD2.out, HC.out] at hread2
            have HROW7 := Go.Lib.hid hrow7
            clear hrow7 U7 Sub7 hD6 hU6 hS6
            go_wp2_with (refine wpList_load_row rfl 53 _ rfl g rfl 53 C (0, 0) _ HROW7.out Tryd.underlying53 rfl (by rw [info_state, HCS.out]) ?_)
            refine hread2.mono ?_
            rintro e w8 ⟨rfl, hb8⟩
            have d8 := d7.below hb8
            have hsq := seq_go (l7.below hb8)
            have hq9 : ({ base := 0, size := (n : Int), place := (r.place : Int), seq := r.seq, used := 0, broken := false } : LogS).seq = (P.length : Int) + 1 := by
              show r.seq = _
              rw [HQ3.out, HSEQ.out]
            rw [hq9] at hsq
            clear hread2 hq9
            go_wp2_with fail
            refine hsq.mono ?_
            rintro e w9 ⟨rfl, rfl⟩
            go_wp2_with fail
            go_ret
            exact ⟨rfl, d8.b⟩

end Go.Proofs.YtbalbjhmboppoaaDoor
