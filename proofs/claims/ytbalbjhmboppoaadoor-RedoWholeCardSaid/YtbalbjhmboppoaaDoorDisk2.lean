/-
  PLAIN LEAN: writes, one behind the other, and a flush; what holds of each disk is kept.
  No condition.
-/
import Derived.Test.YtbalbjhmboppoaaDoorDisk
namespace Go.Proofs.YtbalbjhmboppoaaDoor
open Go.RowKit
namespace DiskS

def writesS : DiskS → List PutM → DiskS × Int
  | D, [] => (D, 0)
  | D, p :: ps => if (D.writeS p.1 p.2).2 = 0 then writesS (D.writeS p.1 p.2).1 ps else D.writeS p.1 p.2
theorem writesS_append (xs ys : List PutM) : ∀ D, writesS D (xs ++ ys) = if (writesS D xs).2 = 0 then writesS (writesS D xs).1 ys else writesS D xs := by
  induction xs with
  | nil => intro D; simp [writesS]
  | cons x xs ih =>
    intro D
    simp only [List.cons_append, writesS]
    split
    · exact ih _
    · rfl
theorem writesS_snoc (xs : List PutM) (x : PutM) (D : DiskS) (h : (writesS D xs).2 = 0) : writesS D (xs ++ [x]) = (writesS D xs).1.writeS x.1 x.2 := by
  rw [writesS_append, if_pos h]
  simp only [writesS]
  split
  · rename_i h2; exact Prod.ext rfl h2.symm
  · rfl
/-- Writes; then, if there is to be one, a flush. -/
def writeF (D : DiskS) (flush : Bool) (ps : List PutM) : DiskS × Int :=
  if (D.writesS ps).2 = 0 then (if flush then (D.writesS ps).1.flushS else ((D.writesS ps).1, 0)) else D.writesS ps

theorem stepS_lies (D : DiskS) : D.stepS.1.lies = D.lies := by unfold stepS; (repeat' split) <;> rfl
theorem stepS_cache (D : DiskS) : D.stepS.1.cache = D.cache := by unfold stepS; (repeat' split) <;> rfl
theorem stepS_sectors (D : DiskS) : D.stepS.1.sectors = D.sectors := by unfold sectors; rw [stepS_lies]
theorem wrap64_range (x : Int) : -9223372036854775808 ≤ wrap64 x ∧ wrap64 x ≤ 9223372036854775807 := by unfold wrap64; omega
theorem Ok.step {D : DiskS} (h : D.Ok) : D.stepS.1.Ok := by
  have hw := wrap64_range (D.steps + 1)
  obtain ⟨h1, h2, h3, h4, h5, h6, h7, h8, h9⟩ := h
  unfold stepS
  split
  · exact ⟨h1, h2, h3, h4, h5, h6, h7, h8, h9⟩
  · split
    · exact ⟨h1, h2, h3, h4, h5, h6, h7, h8, h9⟩
    · rename_i hn
      refine ⟨h1, h2, ?_, ?_, hw.1, hw.2, h7, h8, h9⟩
      · dsimp only
        split
        · rename_i ha
          have : D.left ≠ 0 := fun e => hn ⟨ha, e⟩
          omega
        · exact h3
      · dsimp only
        split <;> omega
theorem writeS_sectors (D : DiskS) (a : Int) (s : Bs) : (D.writeS a s).1.sectors = D.sectors := by
  unfold writeS
  split
  · rfl
  · split
    · exact stepS_sectors D
    · exact stepS_sectors D
theorem writeS_lies (D : DiskS) (a : Int) (s : Bs) : (D.writeS a s).1.lies = D.lies := by
  unfold writeS
  split
  · rfl
  · split
    · exact stepS_lies D
    · exact stepS_lies D
theorem writeS_cache (D : DiskS) (a : Int) (s : Bs) : (D.writeS a s).1.cache.length ≤ D.cache.length + 1 := by
  unfold writeS
  split
  · simp
  · split
    · simp [stepS_cache]
    · simp [stepS_cache]
theorem Ok.write {D : DiskS} (h : D.Ok) (a : Int) (s : Bs) (hr : D.cache.length < 1099511627776) : (D.writeS a s).1.Ok := by
  unfold writeS
  split
  · exact h
  · rename_i hb
    have hs := h.step
    split
    · obtain ⟨h1, h2, h3, h4, h5, h6, h7, h8, h9⟩ := hs
      refine ⟨h1, h2, h3, h4, h5, h6, h7, ?_, ?_⟩
      · intro p hp
        rcases List.mem_append.1 hp with hp | hp
        · exact h8 p hp
        · simp only [List.mem_singleton] at hp
          subst hp
          dsimp only
          rw [stepS_lies]
          unfold sectors at hb
          have hb1 : ¬ a < 0 := fun e => hb (.inl e)
          have hb2 : ¬ (D.lies.length : Int) ≤ a := fun e => hb (.inr (.inl e))
          have hb3 : ¬ s.length ≠ 256 := fun e => hb (.inr (.inr e))
          refine ⟨by omega, by omega, by omega⟩
      · simp only [List.length_append, List.length_singleton, stepS_cache]; omega
    · exact hs
theorem writesS_cache (ps : List PutM) : ∀ D : DiskS, (D.writesS ps).1.cache.length ≤ D.cache.length + ps.length := by
  induction ps with
  | nil => intro D; simp [writesS]
  | cons p ps ih =>
    intro D
    have h := writeS_cache D p.1 p.2
    unfold writesS
    split
    · have := ih (D.writeS p.1 p.2).1; simp; omega
    · simp; omega
theorem Ok.writes (ps : List PutM) : ∀ {D : DiskS}, D.Ok → D.cache.length + ps.length ≤ 1099511627776 → (D.writesS ps).1.Ok := by
  induction ps with
  | nil => intro D h _; exact h
  | cons p ps ih =>
    intro D h hr
    simp at hr
    have h2 := writeS_cache D p.1 p.2
    have h3 := h.write p.1 p.2 (by omega)
    unfold writesS
    split
    · exact ih h3 (by omega)
    · exact h3
theorem layAll_size : ∀ (c : List PutM) (lies : List Bs) (stays : List Bool), (∀ s ∈ lies, s.length = 256) → (∀ p ∈ c, p.2.length = 256) → ∀ s ∈ layAll lies c stays, s.length = 256
  | [], lies, stays, hl, _ => hl
  | p :: c, lies, stays, hl, hc => by
    unfold layAll
    refine layAll_size c _ _ ?_ (fun q hq => hc q (List.mem_cons_of_mem _ hq))
    intro s hs
    split at hs
    · rcases List.mem_or_eq_of_mem_set hs with h | h
      · exact hl s h
      · rw [h]; exact hc p (by simp)
    · exact hl s hs
theorem Ok.settle {D : DiskS} (h : D.Ok) (stays : List Bool) : (D.settle stays).Ok := by
  obtain ⟨h1, h2, h3, h4, h5, h6, h7, h8, h9⟩ := h
  have hl := layAll_length D.cache D.lies stays
  exact ⟨by show 1 ≤ (layAll _ _ _).length; omega, by show (layAll _ _ _).length ≤ _; omega, h3, h4, h5, h6, layAll_size _ _ _ h7 (fun p hp => (h8 p hp).2.2), by simp [DiskS.settle], by simp [DiskS.settle]⟩
theorem Ok.flush {D : DiskS} (h : D.Ok) : D.flushS.1.Ok := by
  unfold flushS
  split
  · exact h
  · split
    · exact h.step.settle _
    · exact h.step
theorem Ok.crash {D : DiskS} (h : D.Ok) (picks : List Int) : (D.crashS picks).Ok := by
  unfold crashS
  split
  · exact h
  · obtain ⟨h1, h2, h3, h4, h5, h6, h7, h8, h9⟩ := h.settle (picks.map fun n : Int => decide (n.tmod 2 ≠ 0))
    exact ⟨h1, h2, h3, h4, h5, h6, h7, h8, h9⟩
theorem flushS_cache (D : DiskS) : D.flushS.1.cache.length ≤ D.cache.length := by
  unfold flushS
  split
  · exact Nat.le_refl _
  · split
    · simp [settle]
    · simp [stepS_cache]
theorem settle_sectors (D : DiskS) (st : List Bool) : (D.settle st).sectors = D.sectors := by simp [settle, sectors, layAll_length]
theorem flushS_sectors (D : DiskS) : D.flushS.1.sectors = D.sectors := by
  unfold flushS
  split
  · rfl
  · split
    · rw [settle_sectors, stepS_sectors]
    · exact stepS_sectors D
theorem crashS_sectors (D : DiskS) (picks : List Int) : (D.crashS picks).sectors = D.sectors := by
  unfold crashS
  split
  · rfl
  · exact settle_sectors D _
theorem writesS_sectors (ps : List PutM) : ∀ D : DiskS, (D.writesS ps).1.sectors = D.sectors := by
  induction ps with
  | nil => intro D; rfl
  | cons p ps ih =>
    intro D
    unfold writesS
    split
    · rw [ih, writeS_sectors]
    · exact writeS_sectors _ _ _
theorem Ok.writeF {D : DiskS} (h : D.Ok) (fl : Bool) (ps : List PutM) (hr : D.cache.length + ps.length ≤ 1099511627776) : (D.writeF fl ps).1.Ok := by
  have h1 := Ok.writes ps h hr
  unfold DiskS.writeF
  split
  · split
    · exact h1.flush
    · exact h1
  · exact h1
theorem writeF_cache (D : DiskS) (fl : Bool) (ps : List PutM) : (D.writeF fl ps).1.cache.length ≤ D.cache.length + ps.length := by
  have h1 := writesS_cache ps D
  unfold DiskS.writeF
  split
  · split
    · have := flushS_cache (D.writesS ps).1; omega
    · exact h1
  · exact h1
theorem writeF_sectors (D : DiskS) (fl : Bool) (ps : List PutM) : (D.writeF fl ps).1.sectors = D.sectors := by
  unfold DiskS.writeF
  split
  · split
    · rw [flushS_sectors, writesS_sectors]
    · exact writesS_sectors _ _
  · exact writesS_sectors _ _
theorem Ok.new (n : Nat) (h1 : 1 ≤ n) (h2 : n ≤ 65536) : (DiskS.new n).Ok := by
  refine ⟨by simp [DiskS.new, h1], by simp [DiskS.new, h2], by simp [DiskS.new], by simp [DiskS.new], by simp [DiskS.new], by simp [DiskS.new], ?_, by simp [DiskS.new], by simp [DiskS.new]⟩
  intro s hs
  simp [DiskS.new] at hs
  rw [hs.2]; exact List.length_replicate ..
theorem Ok.arm {D : DiskS} (h : D.Ok) (n : Int) (hn : n ≤ 9223372036854775807) : (D.armS n).Ok := by
  obtain ⟨h1, h2, h3, h4, h5, h6, h7, h8, h9⟩ := h
  exact ⟨h1, h2, by simp [armS]; omega, by simp [armS]; omega, h5, h6, h7, h8, h9⟩
end DiskS

end Go.Proofs.YtbalbjhmboppoaaDoor
