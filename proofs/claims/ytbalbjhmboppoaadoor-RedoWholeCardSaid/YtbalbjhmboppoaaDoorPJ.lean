/-
  PLAIN LEAN: numbers stay in range.
  No condition.
-/
import Derived.Test.YtbalbjhmboppoaaDoorPI
set_option linter.unusedSimpArgs false
set_option linter.unusedVariables false
namespace Go.Proofs.YtbalbjhmboppoaaDoor
open Go.RowKit
/-! ### numbers stay in range -/
theorem formatS_ok {D : DiskS} (h : D.Ok) (b s : Int) (hr : D.cache.length ≤ 1000000000000) : (formatS D b s).1.Ok ∧ (formatS D b s).1.cache.length ≤ D.cache.length + 2 := by
  unfold formatS
  split
  · exact ⟨h.writeF true _ (by simp; omega), DiskS.writeF_cache D true _⟩
  · exact ⟨h, by dsimp only; omega⟩
theorem redoS_ok {D : DiskS} (h : D.Ok) (b : Int) (s : ScanR) (hs : s.all.flatten.length ≤ 65536) (hr : D.cache.length ≤ 900000000000) : (redoS D b s).1.Ok ∧ (redoS D b s).1.cache.length ≤ D.cache.length + 65537 := by
  have h2 := DiskS.writeF_cache D true s.all.flatten
  have h3 := h.writeF true s.all.flatten (by omega)
  unfold redoS
  split
  · exact ⟨h, by dsimp only; omega⟩
  · split
    · have h4 := DiskS.writeF_cache (D.writeF true s.all.flatten).1 false [(b, headB s.place s.seq)]
      simp only [List.length_singleton] at h4
      exact ⟨h3.writeF false _ (by simp only [List.length_singleton]; omega), by omega⟩
    · exact ⟨h3, by omega⟩
theorem openL_ok {D : DiskS} (h : D.Ok) (b : Int) (s : ScanR) (hs : s.all.flatten.length ≤ 65536) (hr : D.cache.length ≤ 900000000000) : (openL D b s).disk.Ok ∧ (openL D b s).disk.cache.length ≤ D.cache.length + 65538 := by
  obtain ⟨h1, h2⟩ := redoS_ok h b s hs hr
  have h4 := DiskS.writeF_cache (redoS D b s).1 true [(b + 1 + s.place, zeros 256)]
  simp only [List.length_singleton] at h4
  have h5 := h1.writeF true [(b + 1 + s.place, zeros 256)] (by simp only [List.length_singleton]; omega)
  unfold openL
  split
  · exact ⟨h1, by dsimp only; omega⟩
  · split
    · exact ⟨h5, by dsimp only; omega⟩
    · exact ⟨h5, by dsimp only; omega⟩
theorem openS_ok {D : DiskS} (h : D.Ok) (b z : Int) (hr : D.cache.length ≤ 900000000000) : (openS D b z).disk.Ok ∧ (openS D b z).disk.cache.length ≤ D.cache.length + 65538 := by
  unfold openS
  split
  · exact ⟨h, by dsimp only; omega⟩
  · rename_i hf
    rw [Bool.not_eq_false, fitsB_iff] at hf
    split
    · exact ⟨h, by dsimp only; omega⟩
    · split
      · exact ⟨h, by dsimp only; omega⟩
      · have hfa := scanS_facts (readR D b z.toNat) (readR_strs h b z.toNat)
        rw [readR_len] at hfa
        exact openL_ok h b _ (by omega) hr
theorem rows_cache (D : DiskS) (fl : Bool) (ps : List PutM) (k : Nat) (h : ps.length ≤ k) : (D.writeF fl ps).1.cache.length ≤ D.cache.length + k := by
  have := DiskS.writeF_cache D fl ps; omega
theorem commitL_ok {D : DiskS} (h : D.Ok) (L : LogS) (ps : List PutM) (hp : ps.length ≤ 1073741824) (hr : D.cache.length ≤ 900000000000) : (commitL L D ps).disk.Ok ∧ (commitL L D ps).disk.cache.length ≤ D.cache.length + 3 * ps.length + 10 := by
  have a1 := rows_cache D true (blanks L ps.length) 2 (by simp [blanks])
  have a2 := h.writeF true (blanks L ps.length) (by simp [blanks]; omega)
  unfold commitL
  split
  · obtain ⟨D1, hD1⟩ : ∃ D1, D1 = (D.writeF true (blanks L ps.length)).1 := ⟨_, rfl⟩
    rw [← hD1] at a1 a2 ⊢
    have b1 := rows_cache D1 true (txnRows L ps) (ps.length + 1) (by simp [txnRows, rowsOf_length])
    have b2 := a2.writeF true (txnRows L ps) (by simp [txnRows, rowsOf_length]; omega)
    unfold commit1
    split
    · obtain ⟨D2, hD2⟩ : ∃ D2, D2 = (D1.writeF true (txnRows L ps)).1 := ⟨_, rfl⟩
      rw [← hD2] at b1 b2 ⊢
      have c1 := rows_cache D2 true (lastRow L ps.length) 1 (by simp [lastRow])
      have c2 := b2.writeF true (lastRow L ps.length) (by simp [lastRow]; omega)
      unfold commit2
      split
      · obtain ⟨D3, hD3⟩ : ∃ D3, D3 = (D2.writeF true (lastRow L ps.length)).1 := ⟨_, rfl⟩
        rw [← hD3] at c1 c2 ⊢
        have d1 := rows_cache D3 false ps ps.length (Nat.le_refl _)
        have d2 := c2.writeF false ps (by omega)
        unfold commit3
        exact ⟨d2, by dsimp only; omega⟩
      · exact ⟨c2, by dsimp only; omega⟩
    · exact ⟨b2, by dsimp only; omega⟩
  · exact ⟨a2, by dsimp only; omega⟩
theorem commitS_ok {D : DiskS} (h : D.Ok) (L : LogS) (ps : List PutM) (hp : ps.length ≤ 1073741824) (hr : D.cache.length ≤ 800000000000) : (commitS L D ps).disk.Ok ∧ (commitS L D ps).disk.cache.length ≤ D.cache.length + 3 * ps.length + 11 := by
  unfold commitS
  split
  · exact ⟨h, by dsimp only; omega⟩
  · split
    · exact ⟨h, by dsimp only; omega⟩
    · split
      · exact ⟨h, by dsimp only; omega⟩
      · unfold commitC
        split
        · obtain ⟨h1, h2, h3⟩ := checkpointS_disk L h (by omega)
          split
          · obtain ⟨g1, g2⟩ := commitL_ok h1 (checkpointS L D).log ps hp (by omega)
            exact ⟨g1, by omega⟩
          · exact ⟨h1, by omega⟩
        · obtain ⟨g1, g2⟩ := commitL_ok h L ps hp (by omega)
          exact ⟨g1, by omega⟩
theorem stepped_ok {L : LogS} (h : L.Ok) (n : Nat) (hs : L.seq < 1099511627776) (hu : L.used + (n + 2) ≤ 65536) : (stepped L n).Ok := by
  have hz := h.z0; have hp := h.p0
  have h1 := Int.tmod_nonneg (a := L.place + ((n : Int) + 2)) (L.size - 1) (by omega)
  have h2 := Int.tmod_lt_of_pos (L.place + ((n : Int) + 2)) (b := L.size - 1) (by omega)
  have hu0 := h.u0; have hs0 := h.s0
  exact ⟨h.b0, h.b1, h.z0, h.z1, h1, by show Int.tmod _ _ < L.size; omega, by show 0 ≤ L.seq + 1; omega, by show L.seq + 1 ≤ _; omega, by show 0 ≤ L.used + _; omega, by show L.used + _ ≤ _; omega⟩
theorem commitL_log {L : LogS} (h : L.Ok) (D : DiskS) (ps : List PutM) (hs : L.seq < 1099511627776) (hu : L.used + (ps.length + 2) ≤ 65536) : (commitL L D ps).log.Ok ∧ (commitL L D ps).log.base = L.base ∧ (commitL L D ps).log.size = L.size ∧ (commitL L D ps).log.seq ≤ L.seq + 1 := by
  have hst := stepped_ok h ps.length hs hu
  unfold commitL
  split
  · unfold commit1
    split
    · unfold commit2
      split
      · unfold commit3
        exact ⟨triedS_ok hst _, rfl, rfl, Int.le_refl _⟩
      · exact ⟨triedS_ok h _, rfl, rfl, by show L.seq ≤ _; omega⟩
    · exact ⟨triedS_ok h _, rfl, rfl, by show L.seq ≤ _; omega⟩
  · exact ⟨triedS_ok h _, rfl, rfl, by show L.seq ≤ _; omega⟩
theorem checkpointS_seq (L : LogS) (D : DiskS) : (checkpointS L D).log.seq = L.seq := by
  unfold checkpointS
  split
  · rfl
  · split
    · rfl
    · dsimp only; unfold triedS; dsimp only; split <;> rfl
theorem checkpointS_used (L : LogS) (D : DiskS) (h : (checkpointS L D).err = 0) : (checkpointS L D).log.used = 0 := by
  unfold checkpointS at h ⊢
  split
  · rename_i hb; rw [if_pos hb] at h; exact absurd h (show ¬ ((13 : Int) = 0) by decide)
  · rename_i hb
    rw [if_neg hb] at h
    split
    · rename_i hu; exact hu
    · rename_i hu
      rw [if_neg hu] at h
      dsimp only at h ⊢
      rw [if_pos h]
      rfl
theorem commitS_log {L : LogS} (h : L.Ok) (D : DiskS) (ps : List PutM) (hs : L.seq < 1099511627776) : (commitS L D ps).log.Ok ∧ (commitS L D ps).log.base = L.base ∧ (commitS L D ps).log.size = L.size ∧ (commitS L D ps).log.seq ≤ L.seq + 1 := by
  have h0 : L.Ok ∧ L.base = L.base ∧ L.size = L.size ∧ L.seq ≤ L.seq + 1 := ⟨h, rfl, rfl, by omega⟩
  unfold commitS
  split
  · exact h0
  · rename_i hb
    split
    · exact h0
    · split
      · exact h0
      · rename_i hroom
        unfold roomS at hroom
        rw [if_neg hb] at hroom
        have hz := h.z1
        unfold commitC
        split
        · obtain ⟨g1, g2, g3⟩ := checkpointS_facts L D h
          have g4 := checkpointS_seq L D
          split
          · rename_i he
            have g5 := checkpointS_used L D he
            obtain ⟨k1, k2, k3, k4⟩ := commitL_log g1 (checkpointS L D).disk ps (by omega) (by omega)
            exact ⟨k1, k2.trans g2, k3.trans g3, by omega⟩
          · exact ⟨g1, g2, g3, by omega⟩
        · exact commitL_log h D ps hs (by omega)
end Go.Proofs.YtbalbjhmboppoaaDoor
