/-
  GENERAL, OF NO PROGRAM: a law that leaves all memory that was there as it was: its arguments read behind the call as they read before, whatever their types.
  No condition.
-/
import Derived.Below
import Derived.ChangeSame
import Derived.WideKeyArgs
import Derived.WalkKit
import Derived.ProofKit
import Derived.OpenShut
import Derived.Lib.LaidTab
import Derived.Test.YtbalbjhmboppoaaDoorV10
import Derived.Deep.SlicePairs
set_option linter.unusedSimpArgs false
set_option linter.unusedVariables false
namespace Go.Proofs.YtbalbjhmboppoaaDoor
open Go.RowKit Go.WideShapes Go.ChangeShapes

section
variable {H : Type} {enc : TypeId × Value → H} {P : Program}
theorem trodAll_kept {W W' : World} {sp : Nat → Bool} (hl : laidOutB P = true) : ∀ {ts : List TypeId} {vs : List Value} {ds : List (DataW H)} {ps : List MemPlace}, (∀ t, t ∈ ts → P.readableRec t = true ∧ t < P.types.size) →
    DataW.TrodAll enc P W 0 (fun _ => true) true ts vs ds ps → (∀ p ∈ ps, W.sameAt W' p) → (∀ p ∈ ps, sp p.block = true) → DataW.TrodAll enc P W' 0 sp true ts vs ds ps
  | [], [], [], _, _, h, _, _ => h
  | t :: ts, v :: vs, d :: ds, _, hr, ⟨p, q, h1, h2, rfl⟩, hs, hsp =>
    ⟨p, q, WideElems.Trod_stays hl (hr t (by simp)).1 (hr t (by simp)).2 h1 (fun x hx => hs x (by simp [hx])) (fun x hx => hsp x (by simp [hx])),
      trodAll_kept hl (fun t ht => hr t (List.mem_cons_of_mem _ ht)) h2 (fun x hx => hs x (by simp [hx])) (fun x hx => hsp x (by simp [hx])), rfl⟩

/-- THE ROW's LAST STEP OF A LAW: it returned true, of what was there nothing has turned. -/
theorem law_post {f : Func} {s : ChangeSpec} {apart fresh handsOn again : Bool} {W W' : World} {args : Array Value} {v : Value} {ds gs : List (DataW H)} {before : List MemPlace}
    (hl : laidOutB P = true) (hr : ∀ t, t ∈ f.params.toList → P.readableRec t = true ∧ t < P.types.size) (hvs : s.vars = [])
    (hW : DataW.Whole enc P f.params.toList s.vars apart W args.toList ds gs before)
    (hres : ∀ (b : Nat) (sp : Nat → Bool) (hd : Bool), DataW.TrodAll enc P W' b sp hd f.resultTypes.toList (v.resultList f.resultTypes.size) (s.fn H (ds ++ gs)).results [])
    (hargs : (s.fn H (ds ++ gs)).args = ds) (hvars : (s.fn H (ds ++ gs)).vars = []) (hb : Below W.heap.size W W')
    (hok : ∀ (j : Nat) (t : TypeId) (r : Value), f.resultTypes[j]? = some t → (v.resultList f.resultTypes.size)[j]? = some r → Value.okWide P W' .any 0 t r) :
    s.post enc P f apart fresh handsOn again W args v W' := by
  have hlt : ∀ p ∈ before, p.block < W.heap.size := fun p hp => hW.lt p hp
  have hold : ∀ p ∈ before, (fun b => decide (b < W.heap.size)) p.block = true := fun p hp => by simpa using hlt p hp
  obtain ⟨pa, pv, hA, hV, hpp, hz2, hn⟩ := id hW
  rw [hvs] at hV
  obtain ⟨rfl, rfl⟩ := trodVars_none hV
  have hpa : before = pa := by rw [hpp]; simp
  have hargs' : ∀ sp : Nat → Bool, (∀ p ∈ before, sp p.block = true) → DataW.TrodAll enc P W' 0 sp true f.params.toList args.toList (s.fn H (ds ++ [])).args pa := by
    intro sp hsp
    rw [hargs]
    exact trodAll_kept hl hr hA (fun p hp => hb.same (hlt p (by rw [hpa]; exact hp))) (fun p hp => hsp p (by rw [hpa]; exact hp))
  have hvars' : ∀ sp : Nat → Bool, DataW.TrodVars enc P W' sp s.vars (s.fn H (ds ++ [])).vars [] := by
    intro sp
    rw [hvs, hvars]
    rfl
  refine ⟨ds, [], before, [], pa, [], hW, hres _ _ _, hargs' _ hold, hvars' _, World.keptBut_mono (fun p hp => ⟨hp, ?_⟩) (hb.frame (· ∈ before)), fun _ => ?_⟩
  · rw [hpa] at hp
    exact Or.inr (by simpa using hp)
  · refine ⟨hok, _, _, ([] ++ pa) ++ [], ⟨[] ++ pa, [], trodAll_append (hargs' _ (fun _ _ => rfl)) (hres _ _ _), hvars' _, rfl, ?_, ?_⟩, ?_⟩
    · intro b off hp
      have hin : MemPlace.cell b off ∈ before := by rw [hpa]; simpa using hp
      rw [hb.frozen (hlt _ hin)]
      exact hz2 b off hin
    · intro ha
      have := hn ha
      rw [hpa] at this
      simpa using this
    · intro p hp _
      rw [hpa]
      simpa using hp
end

/-- An array of ints that came in: its cells. -/
theorem open_int_array {H : Type} {enc : TypeId × Value → H} {P : Program} {W : World} {base b0 : Nat} {spare : Nat → Bool} {held : Bool} {r : Reach} {t e : TypeId} {n : Nat} {k : IntKind} {v : Value} {d : DataW H} {ps : List MemPlace}
    (ht : P.underlying t = some (.array n e)) (he : P.underlying e = some (.int k)) (hce : P.cellsOf e = 1) (hct : P.cellsOf t = n) (hval : Value.okWide P W r b0 t v) (hd : DataW.Trod enc P W base spare held t v d ps) :
    ∃ zs : List Int, zs.length = n ∧ v = .agg (zs.map (Value.int k)).toArray ∧ ∀ z ∈ zs, (Lit.int k z).wf = true := by
  unfold Value.okWide at hval
  rw [ht] at hval
  obtain ⟨cs, rfl, hsz, -⟩ := hval
  obtain ⟨fuel, hf⟩ := hd
  cases fuel with
  | zero => simp [DataW.trod] at hf
  | succ fuel =>
    simp only [DataW.trod, ht, hce, hct, Nat.mul_one, Value.cells] at hf
    split at hf
    · rename_i hl
      obtain ⟨xs, hm, hx⟩ := Option.map_eq_some_iff.1 hf
      have hone : ∀ i, i < n → ∃ z, cs.toList[i]? = some (.int k z) ∧ (Lit.int k z).wf = true := by
        intro i hi
        obtain ⟨b, hb, hf2⟩ := Lib.mapM_at hm i i (by simp [hi])
        obtain ⟨z, hc, _, hw⟩ := DataW.trod_int he hf2
        have h1 := congrArg (·[0]?) hc
        refine ⟨z, by simpa [List.getElem?_take, List.getElem?_drop] using h1, hw⟩
      obtain ⟨l, hlst⟩ : ∃ l, l = cs.toList := ⟨_, rfl⟩
      rw [← hlst] at hone hl
      have key : ∀ (l : List Value) (m : Nat), l.length = m → (∀ i, i < m → ∃ z, l[i]? = some (.int k z) ∧ (Lit.int k z).wf = true) → ∃ zs : List Int, zs.length = m ∧ l = zs.map (Value.int k) ∧ ∀ z ∈ zs, (Lit.int k z).wf = true := by
        intro l
        induction l with
        | nil => intro m hm _; exact ⟨[], by simpa using hm, rfl, by simp⟩
        | cons x l ih =>
          intro m hm ho
          obtain ⟨z, hz, hw⟩ := ho 0 (by simp at hm; omega)
          obtain ⟨zs, h1, h2, h3⟩ := ih (m - 1) (by simp at hm; omega) (fun i hi => by have := ho (i + 1) (by omega); simpa using this)
          refine ⟨z :: zs, by simp at hm ⊢; omega, ?_, ?_⟩
          · simp at hz; rw [h2, hz]; rfl
          · intro y hy
            rcases List.mem_cons.1 hy with rfl | hy
            · exact hw
            · exact h3 y hy
      obtain ⟨zs, h1, h2, h3⟩ := key l n hl hone
      refine ⟨zs, h1, ?_, h3⟩
      rw [← h2, hlst]
    · cases hf
/-- A slice of ints that came in. -/
theorem open_ints_reads {H : Type} {enc : TypeId × Value → H} {P : Program} {W : World} {t e : TypeId} {v : Value} {d : DataW H} {ps : List MemPlace} {b0 : Nat} {r : Reach}
    (ht : P.underlying t = some (.slice e)) (he : P.underlying e = some (.int .i64)) (hce : P.cellsOf e = 1) (hval : Value.okWide P W r b0 t v) (hd : DataW.Trod enc P W 0 (fun _ => true) true t v d ps) :
    ∃ (A : Option Addr) (len cap : Nat) (xs : List Int), v = .slice A len cap ∧ xs.length = len ∧ len ≤ cap ∧ cap ≤ maxLen ∧ (xs ≠ [] → ∃ b off, A = some ⟨b, off, none⟩ ∧ ∀ j, j < xs.length → W.cell? ⟨b, off + j, none⟩ = some (.int .i64 (xs.getD j 0))) ∧ ∀ x ∈ xs, (Lit.int .i64 x).wf = true := by
  obtain ⟨fuel, hf⟩ := hd
  have hv1 : v.cells = #[v] := by
    unfold Value.okWide Cell.okWide at hval
    rw [ht] at hval
    cases v <;> simp_all [Value.cells, Cell.ok]
  rw [hv1] at hf
  rcases open_ints ht he hce hf with ⟨h1, -⟩ | ⟨a, len, cap, zs, h1, h2, h3, h4, h5, -, h7, h8⟩
  · obtain rfl : v = .slice none 0 0 := by simpa using h1
    exact ⟨none, 0, 0, [], rfl, rfl, Nat.le_refl _, Nat.zero_le _, fun h => absurd rfl h, by simp⟩
  · obtain rfl : v = .slice (some a) len cap := by simpa using h1
    simp only [if_true] at h5
    have hlz : len ≤ zs.length := by omega
    refine ⟨some a, len, cap, zs.take len, rfl, by simp; omega, h3, h4, fun hne => ?_, fun x hx => h8 x (List.mem_of_mem_take hx)⟩
    have h0 : 0 < len := by
      rcases Nat.eq_zero_or_pos len with h | h
      · subst h; simp at hne
      · exact h
    have hc0 := h7 0 (by omega)
    have hsp : a.spot = none := by
      cases hsp : a.spot with
      | none => rfl
      | some s =>
        unfold Addr.add at hc0
        simp only [World.cell?] at hc0
        split at hc0
        · simp [hsp] at hc0
        · cases hc0
    obtain ⟨b, off, sp⟩ := a
    obtain rfl : sp = none := hsp
    refine ⟨b, off, rfl, fun j hj => ?_⟩
    have hj2 : j < len := by simp at hj; omega
    have hc := h7 j (by omega)
    have ea : (⟨b, off, none⟩ : Addr).add j = ⟨b, off + j, none⟩ := by unfold Addr.add; split <;> simp_all
    rw [ea] at hc
    rw [hc]
    simp [List.getD, hj2]

theorem spot_none {W : World} {a : Addr} {v : Value} (h : W.cell? (a.add 0) = some v) : a.spot = none := by
  cases hsp : a.spot with
  | none => rfl
  | some s =>
    unfold Addr.add at h
    simp only [World.cell?] at h
    split at h
    · simp [hsp] at h
    · cases h
theorem add_none (b off j : Nat) : (⟨b, off, none⟩ : Addr).add j = ⟨b, off + j, none⟩ := by unfold Addr.add; split <;> simp_all
theorem reads_of_specs {W : World} {b off : Nat} {l : List (Int × UInt8)} (h : ∀ i (hi : i < l.length), W.cell? ⟨b, off + i * 2, none⟩ = some (.int .i64 l[i].1) ∧ W.cell? ⟨b, off + i * 2 + 1, none⟩ = some (bv l[i].2)) : Reads W (some ⟨b, off, none⟩) (specCells l) := by
  intro _
  have hl := specCells_length l
  refine ⟨b, off, rfl, fun j hj => ?_⟩
  have hi : j / 2 < l.length := by omega
  obtain ⟨g1, g2⟩ := specCells_get l (j / 2) hi
  obtain ⟨k1, k2⟩ := h (j / 2) hi
  have hg : (specCells l)[j]? = some (specCells l)[j] := List.getElem?_eq_getElem hj
  rcases Nat.mod_two_eq_zero_or_one j with h0 | h0
  · have e : j / 2 * 2 = j := by omega
    rw [e] at g1 k1
    rw [g1] at hg
    rw [k1, ← Option.some.inj hg]
  · have e : j / 2 * 2 + 1 = j := by omega
    rw [e] at g2
    rw [Nat.add_assoc, e] at k2
    rw [g2] at hg
    rw [k2, ← Option.some.inj hg]

theorem open_specs {H : Type} {enc : TypeId × Value → H} {P : Program} {W : World} {base : Nat} {held : Bool} {t e : TypeId} {f0 f1 : Field} {fuel : Nat} {cs : List Value} {x : DataW H × List MemPlace}
    (ht : P.underlying t = some (.slice e)) (he : P.underlying e = some (.struct #[f0, f1])) (ce : P.cellsOf e = 2) (o0 : f0.offset = 0) (o1 : f1.offset = 1) (c0 : P.cellsOf f0.type = 1) (c1 : P.cellsOf f1.type = 1)
    (t0 : P.underlying f0.type = some (.int .i64)) (t1 : P.underlying f1.type = some (.int .u8)) (h : DataW.trod enc P W base (fun _ => true) held fuel t cs = some x) :
    ∃ (A : Option Addr) (len cap : Nat) (l : List (Int × UInt8)), cs = [.slice A len cap] ∧ l.length = len ∧ len ≤ cap ∧ cap ≤ maxLen ∧ Reads W A (specCells l) ∧ ∀ y ∈ l, -9223372036854775808 ≤ y.1 ∧ y.1 ≤ 9223372036854775807 := by
  rcases Deep.open_slice_pairs ht he ce o0 o1 c0 c1 h with ⟨rfl, -⟩ | ⟨a, len, cap, m, n, V0, V1, D0, D1, P0, P1, rfl, hb, hl, hm, hmm, -, hc⟩
  · exact ⟨none, 0, 0, [], rfl, rfl, Nat.le_refl _, Nat.zero_le _, fun h => absurd rfl h, by simp⟩
  · simp only [if_true] at hmm
    have hval : ∀ i, i < len → ∃ (z : Int) (b : UInt8), V0 i = .int .i64 z ∧ V1 i = bv b ∧ -9223372036854775808 ≤ z ∧ z ≤ 9223372036854775807 := by
      intro i hi
      obtain ⟨-, -, g1, g2⟩ := hc i (by omega)
      obtain ⟨z, hz, -, wz⟩ := DataW.trod_int t0 g1
      obtain ⟨f, hf, -, wf⟩ := DataW.trod_int t1 g2
      have bz := bounds_i64 wz
      have bf := bounds_u8 wf
      refine ⟨z, UInt8.ofNat f.toNat, by simpa using hz, ?_, bz.1, bz.2⟩
      have : V1 i = .int .u8 f := by simpa using hf
      rw [this]
      unfold bv
      rw [u8_toNat]
      congr 1
      omega
    have hch : ∃ l : List (Int × UInt8), l.length = len ∧ ∀ i (hi : i < l.length), V0 i = .int .i64 l[i].1 ∧ V1 i = bv l[i].2 ∧ -9223372036854775808 ≤ l[i].1 ∧ l[i].1 ≤ 9223372036854775807 := by
      clear h hl hm hmm hc
      revert hval
      induction len with
      | zero => intro _; exact ⟨[], rfl, fun i hi => absurd hi (by simp)⟩
      | succ len ih =>
        intro hval
        obtain ⟨l, h1, h2⟩ := ih (fun i hi => hval i (by omega))
        obtain ⟨z, b, g1, g2, g3, g4⟩ := hval len (by omega)
        refine ⟨l ++ [(z, b)], by simp [h1], fun i hi => ?_⟩
        by_cases hil : i < l.length
        · rw [List.getElem_append_left hil]; exact h2 i hil
        · obtain rfl : i = len := by simp at hi; omega
          rw [List.getElem_append_right (by omega)]
          simp [h1]
          exact ⟨g1, g2, g3, g4⟩
    obtain ⟨l, hll, hlv⟩ := hch
    refine ⟨some a, len, cap, l, rfl, hll, hl, hm, fun hne => ?_, fun y hy => ?_⟩
    · have h0 : 0 < len := by
        rcases Nat.eq_zero_or_pos len with h | h
        · exfalso; apply hne; rw [List.eq_nil_of_length_eq_zero (hll.trans h)]; rfl
        · exact h
      have hsp := spot_none (hc 0 (by omega)).1
      obtain ⟨b, off, sp⟩ := a
      obtain rfl : sp = none := hsp
      refine reads_of_specs (fun i hi => ?_) hne
      obtain ⟨g1, g2, -, -⟩ := hc i (by omega)
      obtain ⟨v1, v2, -, -⟩ := hlv i hi
      rw [add_none] at g1 g2
      rw [v1] at g1
      rw [v2] at g2
      exact ⟨g1, by rw [Nat.add_assoc]; exact g2⟩
    · obtain ⟨i, hi, rfl⟩ := List.getElem_of_mem hy
      exact ⟨(hlv i hi).2.2.1, (hlv i hi).2.2.2⟩
/-- A slice's value lies in one cell. -/
theorem slice_cells {P : Program} {W : World} {r : Reach} {b0 : Nat} {t e : TypeId} {v : Value} (ht : P.underlying t = some (.slice e)) (hval : Value.okWide P W r b0 t v) : v.cells.toList = [v] := by
  obtain ⟨a, len, cap, rfl⟩ := okWide_slice ht hval
  rfl

/-- A slice of ints, by its cell. -/
theorem open_ints_cells {H : Type} {enc : TypeId × Value → H} {P : Program} {W : World} {base : Nat} {held : Bool} {t e : TypeId} {fuel : Nat} {cs : List Value} {x : DataW H × List MemPlace}
    (ht : P.underlying t = some (.slice e)) (he : P.underlying e = some (.int .i64)) (hce : P.cellsOf e = 1) (h : DataW.trod enc P W base (fun _ => true) held fuel t cs = some x) :
    ∃ (A : Option Addr) (len cap : Nat) (xs : List Int), cs = [.slice A len cap] ∧ xs.length = len ∧ len ≤ cap ∧ cap ≤ maxLen ∧ Reads W A (xs.map (Value.int .i64)) := by
  rcases open_ints ht he hce h with ⟨h1, -⟩ | ⟨a, len, cap, zs, h1, h2, h3, h4, h5, -, h7, h8⟩
  · exact ⟨none, 0, 0, [], h1, rfl, Nat.le_refl _, Nat.zero_le _, fun h => absurd rfl h⟩
  · simp only [if_true] at h5
    have hlz : len ≤ zs.length := by omega
    refine ⟨some a, len, cap, zs.take len, h1, by simp; omega, h3, h4, fun hne => ?_⟩
    have h0 : 0 < len := by
      rcases Nat.eq_zero_or_pos len with h | h
      · subst h; simp at hne
      · exact h
    have hsp := spot_none (h7 0 (by omega))
    obtain ⟨b, off, sp⟩ := a
    obtain rfl : sp = none := hsp
    refine ⟨b, off, rfl, fun j hj => ?_⟩
    have hj2 : j < len := by simp at hj; omega
    have hc := h7 j (by omega)
    rw [add_none] at hc
    rw [hc]
    simp [List.getD, show j < zs.length by omega]
/-- A script that came in: its steps. -/
theorem open_ops {H : Type} {enc : TypeId × Value → H} {P : Program} {W : World} {base : Nat} {held : Bool} {t e ep ek : TypeId} {f0 f1 f2 f3 g0 g1 : Field} {fuel : Nat} {cs : List Value} {x : DataW H × List MemPlace}
    (ht : P.underlying t = some (.slice e)) (he : P.underlying e = some (.struct #[f0, f1, f2, f3])) (ce : P.cellsOf e = 4)
    (o0 : f0.offset = 0) (o1 : f1.offset = 1) (o2 : f2.offset = 2) (o3 : f3.offset = 3) (c0 : P.cellsOf f0.type = 1) (c1 : P.cellsOf f1.type = 1) (c2 : P.cellsOf f2.type = 1) (c3 : P.cellsOf f3.type = 1)
    (t0 : P.underlying f0.type = some (.int .i64)) (t1 : P.underlying f1.type = some (.int .i64)) (t2 : P.underlying f2.type = some (.slice ep)) (t3 : P.underlying f3.type = some (.slice ek))
    (tp : P.underlying ep = some (.struct #[g0, g1])) (cp : P.cellsOf ep = 2) (p0 : g0.offset = 0) (p1 : g1.offset = 1) (d0 : P.cellsOf g0.type = 1) (d1 : P.cellsOf g1.type = 1)
    (s0 : P.underlying g0.type = some (.int .i64)) (s1 : P.underlying g1.type = some (.int .u8)) (tk : P.underlying ek = some (.int .i64)) (ck : P.cellsOf ek = 1)
    (h : DataW.trod enc P W base (fun _ => true) held fuel t cs = some x) :
    ∃ (A : Option Addr) (len cap : Nat), cs = [.slice A len cap] ∧ len ≤ cap ∧ cap ≤ maxLen ∧ OpsR W A len := by
  rcases Deep.open_slice ht h with ⟨rfl, -⟩ | ⟨a, len, cap, m, n, D, Pl, rfl, hb, hl, hm, hmm, -, hx⟩
  · exact ⟨none, 0, 0, rfl, Nat.le_refl _, Nat.zero_le _, fun i hi => absurd hi (by omega)⟩
  · simp only [if_true] at hmm
    refine ⟨some a, len, cap, rfl, hl, hm, fun i hi => ?_⟩
    have hsp : a.spot = none := by
      obtain ⟨cs0, h0, -⟩ := hx 0 (by omega)
      rw [ce] at h0
      obtain ⟨_, hlen0, hcell0⟩ := World.cells?_some h0
      have e0 := hcell0 0 (by omega)
      rw [Deep.add_add] at e0
      match cs0, hlen0 with
      | [u0, u1, u2, u3], _ => exact spot_none (by simpa using e0)
    obtain ⟨cs', h1, h2⟩ := hx i (by omega)
    rw [ce] at h1
    have hblk := World.cells?_block h1 (by omega)
    obtain ⟨_, hlen, hcell⟩ := World.cells?_some h1
    obtain ⟨xs, k, -, -, -, hxl, hf⟩ := DataW.trod_struct he h2
    match xs, hxl, cs', hlen with
    | [y0, y1, y2, y3], _, [v0, v1, v2, v3], _ =>
      have q0 := hf 0 f0 rfl
      have q1 := hf 1 f1 rfl
      have q2 := hf 2 f2 rfl
      have q3 := hf 3 f3 rfl
      simp [o0, o1, o2, o3, c0, c1, c2, c3] at q0 q1 q2 q3
      have e0 := hcell 0 (by omega)
      have e1 := hcell 1 (by omega)
      have e2 := hcell 2 (by omega)
      have e3 := hcell 3 (by omega)
      rw [Deep.add_add] at e0 e1 e2 e3
      obtain ⟨b, off, sp⟩ := a
      obtain rfl : sp = none := hsp
      rw [add_none] at e0 e1 e2 e3 hblk
      obtain ⟨z0, hz0, -, w0⟩ := DataW.trod_int t0 q0
      obtain ⟨z1, hz1, -, w1⟩ := DataW.trod_int t1 q1
      obtain ⟨Ap, lp, capp, l, hv2, hl2, hlc2, hcm2, hR2, wr2⟩ := open_specs t2 tp cp p0 p1 d0 d1 s0 s1 q2
      obtain ⟨Ak, lk, capk, ys, hv3, hl3, hlc3, hcm3, hR3⟩ := open_ints_cells t3 tk ck q3
      obtain rfl : v0 = .int .i64 z0 := by simpa using hz0
      obtain rfl : v1 = .int .i64 z1 := by simpa using hz1
      obtain rfl : v2 = .slice Ap lp capp := by simpa using hv2
      obtain rfl : v3 = .slice Ak lk capk := by simpa using hv3
      subst hl2
      subst hl3
      have b0 := bounds_i64 w0
      have b1 := bounds_i64 w1
      unfold maxLen at hcm2 hcm3
      exact ⟨b, off, z0, z1, Ap, capp, l, Ak, capk, ys, rfl, hblk, by simpa using e0, by simpa [Nat.add_assoc] using e1, by simpa [Nat.add_assoc] using e2, by simpa [Nat.add_assoc] using e3, b0.1, b0.2, b1.1, b1.2, hR2, hlc2, by omega, wr2, hR3, hlc3, by omega⟩

end Go.Proofs.YtbalbjhmboppoaaDoor
