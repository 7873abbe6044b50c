/-
  PLAIN LEAN: a transaction's lines are read back.
  No condition.
-/
import Derived.Test.YtbalbjhmboppoaaDoorPB
set_option linter.unusedSimpArgs false
set_option linter.unusedVariables false
namespace Go.Proofs.YtbalbjhmboppoaaDoor
open Go.RowKit
/-! ### a transaction's lines are read back -/
def AtsOk (ats : List Int) : Prop := ∀ a ∈ ats, 0 ≤ a ∧ a ≤ 65535
theorem kpB_int {a : Int} {most : Nat} (h0 : 0 ≤ a) (h1 : a ≤ most) : kpB a most = putB a.toNat := by
  unfold kpB keepN
  rw [if_neg (by omega), if_pos h1]
theorem nums_ats (ats : List Int) (h : AtsOk ats) : ∀ n, n ≤ ats.length → numsS ⟨(ats.map fun n => kpB n 65535).flatten, false⟩ 65535 n = (⟨((ats.drop n).map fun n => kpB n 65535).flatten, false⟩, ats.take n)
  | 0, _ => by simp [numsS]
  | n + 1, hn => by
    have ih := nums_ats ats h n (by omega)
    have hlt : n < ats.length := by omega
    have ha := h ats[n] (List.getElem_mem hlt)
    unfold numsS
    rw [ih]
    have e : ats.drop n = ats[n] :: ats.drop (n + 1) := (List.getElem_cons_drop hlt).symm
    rw [e]
    simp only [List.map_cons, List.flatten_cons]
    rw [kpB_int ha.1 (by omega), numS_put (by omega) (by omega)]
    rw [List.take_succ_eq_append_getElem hlt]
    have e2 : ((ats[n].toNat : Nat) : Int) = ats[n] := by omega
    simp [e2]
theorem flat_len (ats : List Int) : (ats.map fun n => kpB n 65535).flatten.length ≤ 9 * ats.length := by
  induction ats with
  | nil => simp
  | cons a ats ih => have := kpB_le a 65535; simp only [List.map_cons, List.flatten_cons, List.length_append, List.length_cons]; omega
theorem firstS_len (seq : Int) (ats : List Int) : (firstS seq ats).length ≤ 21 + 9 * ats.length := by
  have h1 := kpB_le seq 1099511627776
  have h2 := kpB_le ats.length 60
  have h3 := flat_len ats
  unfold firstS
  simp only [List.length_append, List.length_cons, List.length_nil]; omega
theorem firstB_eq {seq : Int} {ats : List Int} (hl : ats.length ≤ 20) : firstB seq ats = lineB ([83, 67, 68] ++ (kpB seq 1099511627776 ++ (kpB ats.length 60 ++ (ats.map fun n => kpB n 65535).flatten))) := by
  unfold firstB
  rw [List.take_of_length_le (by omega)]
  unfold firstS
  simp
theorem fits_first {seq : Int} {ats : List Int} (hl : ats.length ≤ 20) : fits5 (sealB ([83, 67, 68] ++ (kpB seq 1099511627776 ++ (kpB ats.length 60 ++ (ats.map fun n => kpB n 65535).flatten)))) = true := by
  apply fits5_of
  rw [sealB_len]
  have h1 := kpB_le seq 1099511627776
  have h2 := kpB_le ats.length 60
  have h3 := flat_len ats
  simp only [List.length_append, List.length_cons, List.length_nil]; omega
theorem firstB_256 {seq : Int} {ats : List Int} (hl : ats.length ≤ 20) : (firstB seq ats).length = 256 := by
  rw [firstB_eq hl]
  apply lineB_len
  have h1 := kpB_le seq 1099511627776
  have h2 := kpB_le ats.length 60
  have h3 := flat_len ats
  simp only [List.length_append, List.length_cons, List.length_nil]; omega
theorem lastB_eq (seq n : Int) : lastB seq n = lineB ([83, 67, 67] ++ (kpB seq 1099511627776 ++ kpB n 1099511627776)) := by
  unfold lastB; simp
theorem headB_eq (a b : Int) : headB a b = lineB ([83, 67, 72] ++ (kpB a 65535 ++ kpB b 1099511627776)) := by
  unfold headB; simp
theorem lastB_256 (seq n : Int) : (lastB seq n).length = 256 := by
  have h1 := kpB_le seq 1099511627776
  have h2 := kpB_le n 1099511627776
  rw [lastB_eq]
  apply lineB_len
  simp only [List.length_append, List.length_cons, List.length_nil]; omega
theorem headB_256 (a b : Int) : (headB a b).length = 256 := by
  have h1 := kpB_le a 65535
  have h2 := kpB_le b 1099511627776
  rw [headB_eq]
  apply lineB_len
  simp only [List.length_append, List.length_cons, List.length_nil]; omega
theorem lastB_ne (seq n : Int) : lastB seq n ≠ zeros 256 := by
  rw [lastB_eq]
  apply zerosB_ne_line
  have h1 := kpB_le seq 1099511627776
  have h2 := kpB_le n 1099511627776
  apply fits5_of
  rw [sealB_len]
  simp only [List.length_append, List.length_cons, List.length_nil]; omega
theorem kpB_nat {n most : Nat} (h : n ≤ most) : kpB (n : Int) most = putB n := by
  rw [kpB_int (by omega) (by omega)]; rfl
/-- What the first line's head says. -/
theorem first_reads {seq : Int} {ats : List Int} (h1 : 1 ≤ seq) (h2 : seq ≤ 1099511627776) (hl : ats.length ≤ 20) :
    ∃ r, rtextS (firstB seq ats) [83, 67, 68] = some r ∧ numS ⟨r, false⟩ 1099511627776 = (⟨kpB ats.length 60 ++ (ats.map fun n => kpB n 65535).flatten, false⟩, seq.toNat) ∧
      numS ⟨kpB ats.length 60 ++ (ats.map fun n => kpB n 65535).flatten, false⟩ 60 = (⟨(ats.map fun n => kpB n 65535).flatten, false⟩, ats.length) := by
  refine ⟨_, by rw [firstB_eq hl]; exact rtext_line (fits_first hl), ?_, ?_⟩
  · rw [kpB_int (by omega) h2]
    exact numS_put (by omega) (by omega) _
  · rw [kpB_nat (by omega)]
    exact numS_put (by omega) (by omega) _
structure TxnAt (L : List Bs) (place seq : Int) (ps : List PutM) : Prop where
  first : atB L place = firstB seq (ps.map (·.1))
  rows : ∀ i (h : i < ps.length), atB L (place + 1 + i) = ps[i].2
  last : atB L (place + ps.length + 1) = lastB seq ps.length
theorem found_of_txn {L : List Bs} {place seq : Int} {ps : List PutM} (h : TxnAt L place seq ps) (h1 : 1 ≤ seq) (h2 : seq ≤ 1099511627776) (hl1 : 1 ≤ ps.length) (hl : ps.length ≤ 20) (hm : ps.length + 2 ≤ L.length)
    (ha : AtsOk (ps.map (·.1))) : foundS L place seq = ps := by
  have hll : (ps.map (·.1)).length = ps.length := by simp
  obtain ⟨r, hr1, hr2, hr3⟩ := first_reads (ats := ps.map (·.1)) h1 h2 (by simpa using hl)
  have hn := nums_ats _ ha (ps.map (·.1)).length (Nat.le_refl _)
  rw [List.drop_of_length_le (Nat.le_refl _), List.take_of_length_le (Nat.le_refl _)] at hn
  rw [hll] at hr3 hn
  unfold foundS
  rw [h.first, hr1]
  dsimp only
  rw [hr2]
  dsimp only
  rw [hll, hr3]
  dsimp only
  rw [hn, if_neg, if_neg]
  · apply List.ext_getElem
    · simp [putsOf_length]
    · intro i hi1 hi2
      simp only [putsOf, List.getElem_map, List.getElem_range]
      rw [h.rows i hi2]
      simp [List.getD, hi2]
  · rintro (h3 | h3 | h3)
    · simp [endS] at h3
    · exact h3 rfl
    · exact h3 h.last
  · rintro (h3 | h3 | h3 | h3)
    · cases h3
    · omega
    · omega
    · omega
theorem found_zeros {L : List Bs} {place seq : Int} (h : atB L place = zeros 256) : foundS L place seq = [] := by
  unfold foundS
  rw [h, rtext_zeros]
theorem found_torn {L : List Bs} {place seq : Int} {ats : List Int} (h1 : 1 ≤ seq) (h2 : seq ≤ 1099511627776) (hl : ats.length ≤ 20) (hf : atB L place = firstB seq ats) (hz : atB L (place + ats.length + 1) = zeros 256) : foundS L place seq = [] := by
  obtain ⟨r, hr1, hr2, hr3⟩ := first_reads (ats := ats) h1 h2 hl
  unfold foundS
  rw [hf, hr1]
  dsimp only
  rw [hr2]
  dsimp only
  rw [hr3]
  dsimp only
  split
  · rfl
  · rw [if_pos]
    right; right
    rw [hz]
    exact (lastB_ne _ _).symm
/-- What a found transaction reads: so far as those slots are the same, it is found. -/
theorem found_same {L L' : List Bs} {place seq : Int} {ps : List PutM} (h : foundS L place seq = ps) (hne : ps ≠ []) (hlen : L'.length = L.length) (h0 : atB L' place = atB L place)
    (hi : ∀ i : Nat, i < ps.length → atB L' (place + 1 + i) = atB L (place + 1 + i)) (hz : atB L' (place + ps.length + 1) = atB L (place + ps.length + 1)) : foundS L' place seq = ps := by
  unfold foundS at h ⊢
  rw [h0]
  split at h
  · exact absurd h.symm hne
  · rename_i r hr
    dsimp only at h ⊢
    rw [hlen]
    split at h
    · exact absurd h.symm hne
    · rename_i hg1
      rw [if_neg hg1]
      split at h
      · exact absurd h.symm hne
      · rename_i hg2
        have hpl : ps.length = (numS (numS ⟨r, false⟩ 1099511627776).1 60).2 := by rw [← h, putsOf_length, numsS_length]
        have hp : ∀ (l : List Int), l.length = ps.length → putsOf L' place l = putsOf L place l := by
          intro l hl
          unfold putsOf
          apply List.map_congr_left
          intro i him
          rw [hi i (by simp at him; omega)]
        rw [← hpl] at hg2 h ⊢
        rw [hz, if_neg hg2, hp _ (numsS_length _ _ _)]
        exact h
end Go.Proofs.YtbalbjhmboppoaaDoor
