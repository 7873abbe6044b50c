/-
  GENERAL, OF NO PROGRAM: a law that leaves all memory that was there as it was: its arguments read behind the call as they read before, whatever their types.
  No condition.
-/
import Derived.Below
import Derived.ChangeSame
import Derived.WideKeyArgs
import Derived.WalkKit
import Derived.ProofKit
import Derived.OpenShut
import Derived.Lib.LaidTab
set_option linter.unusedSimpArgs false
set_option linter.unusedVariables false
namespace Go.Proofs.YtbalbjhmboppoaaDoor
open Go.RowKit Go.WideShapes Go.ChangeShapes

section
variable {H : Type} {enc : TypeId × Value → H} {P : Program}
theorem trodAll_kept {W W' : World} {sp : Nat → Bool} (hl : laidOutB P = true) : ∀ {ts : List TypeId} {vs : List Value} {ds : List (DataW H)} {ps : List MemPlace}, (∀ t, t ∈ ts → P.readableRec t = true ∧ t < P.types.size) →
    DataW.TrodAll enc P W 0 (fun _ => true) true ts vs ds ps → (∀ p ∈ ps, W.sameAt W' p) → (∀ p ∈ ps, sp p.block = true) → DataW.TrodAll enc P W' 0 sp true ts vs ds ps
  | [], [], [], _, _, h, _, _ => h
  | t :: ts, v :: vs, d :: ds, _, hr, ⟨p, q, h1, h2, rfl⟩, hs, hsp =>
    ⟨p, q, WideElems.Trod_stays hl (hr t (by simp)).1 (hr t (by simp)).2 h1 (fun x hx => hs x (by simp [hx])) (fun x hx => hsp x (by simp [hx])),
      trodAll_kept hl (fun t ht => hr t (List.mem_cons_of_mem _ ht)) h2 (fun x hx => hs x (by simp [hx])) (fun x hx => hsp x (by simp [hx])), rfl⟩

/-- THE ROW's LAST STEP OF A LAW: it returned true, of what was there nothing has turned. -/
theorem law_post {f : Func} {s : ChangeSpec} {apart fresh handsOn again : Bool} {W W' : World} {args : Array Value} {v : Value} {ds gs : List (DataW H)} {before : List MemPlace}
    (hl : laidOutB P = true) (hr : ∀ t, t ∈ f.params.toList → P.readableRec t = true ∧ t < P.types.size) (hvs : s.vars = [])
    (hW : DataW.Whole enc P f.params.toList s.vars apart W args.toList ds gs before)
    (hres : ∀ (b : Nat) (sp : Nat → Bool) (hd : Bool), DataW.TrodAll enc P W' b sp hd f.resultTypes.toList (v.resultList f.resultTypes.size) (s.fn H (ds ++ gs)).results [])
    (hargs : (s.fn H (ds ++ gs)).args = ds) (hvars : (s.fn H (ds ++ gs)).vars = []) (hb : Below W.heap.size W W')
    (hok : ∀ (j : Nat) (t : TypeId) (r : Value), f.resultTypes[j]? = some t → (v.resultList f.resultTypes.size)[j]? = some r → Value.okWide P W' .any 0 t r) :
    s.post enc P f apart fresh handsOn again W args v W' := by
  have hlt : ∀ p ∈ before, p.block < W.heap.size := fun p hp => hW.lt p hp
  have hold : ∀ p ∈ before, (fun b => decide (b < W.heap.size)) p.block = true := fun p hp => by simpa using hlt p hp
  obtain ⟨pa, pv, hA, hV, hpp, hz2, hn⟩ := id hW
  rw [hvs] at hV
  obtain ⟨rfl, rfl⟩ := trodVars_none hV
  have hpa : before = pa := by rw [hpp]; simp
  have hargs' : ∀ sp : Nat → Bool, (∀ p ∈ before, sp p.block = true) → DataW.TrodAll enc P W' 0 sp true f.params.toList args.toList (s.fn H (ds ++ [])).args pa := by
    intro sp hsp
    rw [hargs]
    exact trodAll_kept hl hr hA (fun p hp => hb.same (hlt p (by rw [hpa]; exact hp))) (fun p hp => hsp p (by rw [hpa]; exact hp))
  have hvars' : ∀ sp : Nat → Bool, DataW.TrodVars enc P W' sp s.vars (s.fn H (ds ++ [])).vars [] := by
    intro sp
    rw [hvs, hvars]
    rfl
  refine ⟨ds, [], before, [], pa, [], hW, hres _ _ _, hargs' _ hold, hvars' _, World.keptBut_mono (fun p hp => ⟨hp, ?_⟩) (hb.frame (· ∈ before)), fun _ => ?_⟩
  · rw [hpa] at hp
    exact Or.inr (by simpa using hp)
  · refine ⟨hok, _, _, ([] ++ pa) ++ [], ⟨[] ++ pa, [], trodAll_append (hargs' _ (fun _ _ => rfl)) (hres _ _ _), hvars' _, rfl, ?_, ?_⟩, ?_⟩
    · intro b off hp
      have hin : MemPlace.cell b off ∈ before := by rw [hpa]; simpa using hp
      rw [hb.frozen (hlt _ hin)]
      exact hz2 b off hin
    · intro ha
      have := hn ha
      rw [hpa] at this
      simpa using this
    · intro p hp _
      rw [hpa]
      simpa using hp
end

/-- An array of ints that came in: its cells. -/
theorem open_int_array {H : Type} {enc : TypeId × Value → H} {P : Program} {W : World} {base b0 : Nat} {spare : Nat → Bool} {held : Bool} {r : Reach} {t e : TypeId} {n : Nat} {k : IntKind} {v : Value} {d : DataW H} {ps : List MemPlace}
    (ht : P.underlying t = some (.array n e)) (he : P.underlying e = some (.int k)) (hce : P.cellsOf e = 1) (hct : P.cellsOf t = n) (hval : Value.okWide P W r b0 t v) (hd : DataW.Trod enc P W base spare held t v d ps) :
    ∃ zs : List Int, zs.length = n ∧ v = .agg (zs.map (Value.int k)).toArray ∧ ∀ z ∈ zs, (Lit.int k z).wf = true := by
  unfold Value.okWide at hval
  rw [ht] at hval
  obtain ⟨cs, rfl, hsz, -⟩ := hval
  obtain ⟨fuel, hf⟩ := hd
  cases fuel with
  | zero => simp [DataW.trod] at hf
  | succ fuel =>
    simp only [DataW.trod, ht, hce, hct, Nat.mul_one, Value.cells] at hf
    split at hf
    · rename_i hl
      obtain ⟨xs, hm, hx⟩ := Option.map_eq_some_iff.1 hf
      have hone : ∀ i, i < n → ∃ z, cs.toList[i]? = some (.int k z) ∧ (Lit.int k z).wf = true := by
        intro i hi
        obtain ⟨b, hb, hf2⟩ := Lib.mapM_at hm i i (by simp [hi])
        obtain ⟨z, hc, _, hw⟩ := DataW.trod_int he hf2
        have h1 := congrArg (·[0]?) hc
        refine ⟨z, by simpa [List.getElem?_take, List.getElem?_drop] using h1, hw⟩
      obtain ⟨l, hlst⟩ : ∃ l, l = cs.toList := ⟨_, rfl⟩
      rw [← hlst] at hone hl
      have key : ∀ (l : List Value) (m : Nat), l.length = m → (∀ i, i < m → ∃ z, l[i]? = some (.int k z) ∧ (Lit.int k z).wf = true) → ∃ zs : List Int, zs.length = m ∧ l = zs.map (Value.int k) ∧ ∀ z ∈ zs, (Lit.int k z).wf = true := by
        intro l
        induction l with
        | nil => intro m hm _; exact ⟨[], by simpa using hm, rfl, by simp⟩
        | cons x l ih =>
          intro m hm ho
          obtain ⟨z, hz, hw⟩ := ho 0 (by simp at hm; omega)
          obtain ⟨zs, h1, h2, h3⟩ := ih (m - 1) (by simp at hm; omega) (fun i hi => by have := ho (i + 1) (by omega); simpa using this)
          refine ⟨z :: zs, by simp at hm ⊢; omega, ?_, ?_⟩
          · simp at hz; rw [h2, hz]; rfl
          · intro y hy
            rcases List.mem_cons.1 hy with rfl | hy
            · exact hw
            · exact h3 y hy
      obtain ⟨zs, h1, h2, h3⟩ := key l n hl hone
      refine ⟨zs, h1, ?_, h3⟩
      rw [← h2, hlst]
    · cases hf
/-- A slice of ints that came in. -/
theorem open_ints_reads {H : Type} {enc : TypeId × Value → H} {P : Program} {W : World} {t e : TypeId} {v : Value} {d : DataW H} {ps : List MemPlace} {b0 : Nat} {r : Reach}
    (ht : P.underlying t = some (.slice e)) (he : P.underlying e = some (.int .i64)) (hce : P.cellsOf e = 1) (hval : Value.okWide P W r b0 t v) (hd : DataW.Trod enc P W 0 (fun _ => true) true t v d ps) :
    ∃ (A : Option Addr) (len cap : Nat) (xs : List Int), v = .slice A len cap ∧ xs.length = len ∧ len ≤ cap ∧ cap ≤ maxLen ∧ (xs ≠ [] → ∃ b off, A = some ⟨b, off, none⟩ ∧ ∀ j, j < xs.length → W.cell? ⟨b, off + j, none⟩ = some (.int .i64 (xs.getD j 0))) ∧ ∀ x ∈ xs, (Lit.int .i64 x).wf = true := by
  obtain ⟨fuel, hf⟩ := hd
  have hv1 : v.cells = #[v] := by
    unfold Value.okWide Cell.okWide at hval
    rw [ht] at hval
    cases v <;> simp_all [Value.cells, Cell.ok]
  rw [hv1] at hf
  rcases open_ints ht he hce hf with ⟨h1, -⟩ | ⟨a, len, cap, zs, h1, h2, h3, h4, h5, -, h7, h8⟩
  · obtain rfl : v = .slice none 0 0 := by simpa using h1
    exact ⟨none, 0, 0, [], rfl, rfl, Nat.le_refl _, Nat.zero_le _, fun h => absurd rfl h, by simp⟩
  · obtain rfl : v = .slice (some a) len cap := by simpa using h1
    simp only [if_true] at h5
    have hlz : len ≤ zs.length := by omega
    refine ⟨some a, len, cap, zs.take len, rfl, by simp; omega, h3, h4, fun hne => ?_, fun x hx => h8 x (List.mem_of_mem_take hx)⟩
    have h0 : 0 < len := by
      rcases Nat.eq_zero_or_pos len with h | h
      · subst h; simp at hne
      · exact h
    have hc0 := h7 0 (by omega)
    have hsp : a.spot = none := by
      cases hsp : a.spot with
      | none => rfl
      | some s =>
        unfold Addr.add at hc0
        simp only [World.cell?] at hc0
        split at hc0
        · simp [hsp] at hc0
        · cases hc0
    obtain ⟨b, off, sp⟩ := a
    obtain rfl : sp = none := hsp
    refine ⟨b, off, rfl, fun j hj => ?_⟩
    have hj2 : j < len := by simp at hj; omega
    have hc := h7 j (by omega)
    have ea : (⟨b, off, none⟩ : Addr).add j = ⟨b, off + j, none⟩ := by unfold Addr.add; split <;> simp_all
    rw [ea] at hc
    rw [hc]
    simp [List.getD, hj2]

end Go.Proofs.YtbalbjhmboppoaaDoor
