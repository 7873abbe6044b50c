/-
  A slice of writes by plain numbers that came in: what lies there.
  No condition.
-/
import Derived.Test.YtbalbjhmboppoaaDoorK0
import Derived.Test.YtbalbjhmboppoaaDoorV6
import Derived.Deep.SlicePairs
set_option linter.unusedSimpArgs false
set_option linter.unusedVariables false
namespace Go.Proofs.YtbalbjhmboppoaaDoor
open Go.RowKit Go.WideShapes Go.ChangeShapes

theorem spot_none {W : World} {a : Addr} {v : Value} (h : W.cell? (a.add 0) = some v) : a.spot = none := by
  cases hsp : a.spot with
  | none => rfl
  | some s =>
    unfold Addr.add at h
    simp only [World.cell?] at h
    split at h
    · simp [hsp] at h
    · cases h
theorem add_none (b off j : Nat) : (⟨b, off, none⟩ : Addr).add j = ⟨b, off + j, none⟩ := by unfold Addr.add; split <;> simp_all
theorem reads_of_specs {W : World} {b off : Nat} {l : List (Int × UInt8)} (h : ∀ i (hi : i < l.length), W.cell? ⟨b, off + i * 2, none⟩ = some (.int .i64 l[i].1) ∧ W.cell? ⟨b, off + i * 2 + 1, none⟩ = some (bv l[i].2)) : Reads W (some ⟨b, off, none⟩) (specCells l) := by
  intro _
  have hl := specCells_length l
  refine ⟨b, off, rfl, fun j hj => ?_⟩
  have hi : j / 2 < l.length := by omega
  obtain ⟨g1, g2⟩ := specCells_get l (j / 2) hi
  obtain ⟨k1, k2⟩ := h (j / 2) hi
  have hg : (specCells l)[j]? = some (specCells l)[j] := List.getElem?_eq_getElem hj
  rcases Nat.mod_two_eq_zero_or_one j with h0 | h0
  · have e : j / 2 * 2 = j := by omega
    rw [e] at g1 k1
    rw [g1] at hg
    rw [k1, ← Option.some.inj hg]
  · have e : j / 2 * 2 + 1 = j := by omega
    rw [e] at g2
    rw [Nat.add_assoc, e] at k2
    rw [g2] at hg
    rw [k2, ← Option.some.inj hg]

theorem open_specs {H : Type} {enc : TypeId × Value → H} {P : Program} {W : World} {base : Nat} {held : Bool} {t e : TypeId} {f0 f1 : Field} {fuel : Nat} {cs : List Value} {x : DataW H × List MemPlace}
    (ht : P.underlying t = some (.slice e)) (he : P.underlying e = some (.struct #[f0, f1])) (ce : P.cellsOf e = 2) (o0 : f0.offset = 0) (o1 : f1.offset = 1) (c0 : P.cellsOf f0.type = 1) (c1 : P.cellsOf f1.type = 1)
    (t0 : P.underlying f0.type = some (.int .i64)) (t1 : P.underlying f1.type = some (.int .u8)) (h : DataW.trod enc P W base (fun _ => true) held fuel t cs = some x) :
    ∃ (A : Option Addr) (len cap : Nat) (l : List (Int × UInt8)), cs = [.slice A len cap] ∧ l.length = len ∧ len ≤ cap ∧ cap ≤ maxLen ∧ Reads W A (specCells l) ∧ ∀ y ∈ l, -9223372036854775808 ≤ y.1 ∧ y.1 ≤ 9223372036854775807 := by
  rcases Deep.open_slice_pairs ht he ce o0 o1 c0 c1 h with ⟨rfl, -⟩ | ⟨a, len, cap, m, n, V0, V1, D0, D1, P0, P1, rfl, hb, hl, hm, hmm, -, hc⟩
  · exact ⟨none, 0, 0, [], rfl, rfl, Nat.le_refl _, Nat.zero_le _, fun h => absurd rfl h, by simp⟩
  · simp only [if_true] at hmm
    have hval : ∀ i, i < len → ∃ (z : Int) (b : UInt8), V0 i = .int .i64 z ∧ V1 i = bv b ∧ -9223372036854775808 ≤ z ∧ z ≤ 9223372036854775807 := by
      intro i hi
      obtain ⟨-, -, g1, g2⟩ := hc i (by omega)
      obtain ⟨z, hz, -, wz⟩ := DataW.trod_int t0 g1
      obtain ⟨f, hf, -, wf⟩ := DataW.trod_int t1 g2
      have bz := bounds_i64 wz
      have bf := bounds_u8 wf
      refine ⟨z, UInt8.ofNat f.toNat, by simpa using hz, ?_, bz.1, bz.2⟩
      have : V1 i = .int .u8 f := by simpa using hf
      rw [this]
      unfold bv
      rw [u8_toNat]
      congr 1
      omega
    have hch : ∃ l : List (Int × UInt8), l.length = len ∧ ∀ i (hi : i < l.length), V0 i = .int .i64 l[i].1 ∧ V1 i = bv l[i].2 ∧ -9223372036854775808 ≤ l[i].1 ∧ l[i].1 ≤ 9223372036854775807 := by
      clear h hl hm hmm hc
      revert hval
      induction len with
      | zero => intro _; exact ⟨[], rfl, fun i hi => absurd hi (by simp)⟩
      | succ len ih =>
        intro hval
        obtain ⟨l, h1, h2⟩ := ih (fun i hi => hval i (by omega))
        obtain ⟨z, b, g1, g2, g3, g4⟩ := hval len (by omega)
        refine ⟨l ++ [(z, b)], by simp [h1], fun i hi => ?_⟩
        by_cases hil : i < l.length
        · rw [List.getElem_append_left hil]; exact h2 i hil
        · obtain rfl : i = len := by simp at hi; omega
          rw [List.getElem_append_right (by omega)]
          simp [h1]
          exact ⟨g1, g2, g3, g4⟩
    obtain ⟨l, hll, hlv⟩ := hch
    refine ⟨some a, len, cap, l, rfl, hll, hl, hm, fun hne => ?_, fun y hy => ?_⟩
    · have h0 : 0 < len := by
        rcases Nat.eq_zero_or_pos len with h | h
        · exfalso; apply hne; rw [List.eq_nil_of_length_eq_zero (hll.trans h)]; rfl
        · exact h
      have hsp := spot_none (hc 0 (by omega)).1
      obtain ⟨b, off, sp⟩ := a
      obtain rfl : sp = none := hsp
      refine reads_of_specs (fun i hi => ?_) hne
      obtain ⟨g1, g2, -, -⟩ := hc i (by omega)
      obtain ⟨v1, v2, -, -⟩ := hlv i hi
      rw [add_none] at g1 g2
      rw [v1] at g1
      rw [v2] at g2
      exact ⟨g1, by rw [Nat.add_assoc]; exact g2⟩
    · obtain ⟨i, hi, rfl⟩ := List.getElem_of_mem hy
      exact ⟨(hlv i hi).2.2.1, (hlv i hi).2.2.2⟩
/-- A slice's value lies in one cell. -/
theorem slice_cells {P : Program} {W : World} {r : Reach} {b0 : Nat} {t e : TypeId} {v : Value} (ht : P.underlying t = some (.slice e)) (hval : Value.okWide P W r b0 t v) : v.cells.toList = [v] := by
  obtain ⟨a, len, cap, rfl⟩ := okWide_slice ht hval
  rfl

end Go.Proofs.YtbalbjhmboppoaaDoor
