/-
  PLAIN LEAN: what Commit refuses and does on a live log; a journal begun.
  No condition.
-/
import Derived.Test.YtbalbjhmboppoaaDoorPK
set_option linter.unusedSimpArgs false
set_option linter.unusedVariables false
namespace Go.Proofs.YtbalbjhmboppoaaDoor
open Go.RowKit
attribute [local irreducible] headB firstB lastB lineB zeros fillB
section
variable {n : Nat} {D : DiskS} {L : LogS} {S : List Bs} {ps : List PutM}
theorem LiveE.logOk (h : LiveE n D L S) : L.Ok := by
  obtain ⟨hp, hs, all, p, h⟩ := h
  have hc := h.core
  have h1 := hc.n4; have h2 := hc.n40; have h3 := hc.pm; have h4 := hc.s1; have h5 := hc.most; have h6 := hc.used
  refine ⟨?_, ?_, ?_, ?_, ?_, ?_, ?_, ?_, ?_, ?_⟩
  · rw [h.base]; omega
  · rw [h.base]; omega
  · rw [h.size]; omega
  · rw [h.size]; omega
  · rw [h.place]; omega
  · rw [h.place, h.size]; omega
  · omega
  · omega
  · rw [h.used]; omega
  · rw [h.used]; omega
theorem LiveE.facts (h : LiveE n D L S) : L.broken = false ∧ L.base = 0 ∧ L.size = n ∧ D.on = true ∧ D.sectors = 40 ∧ S.length = 40 ∧ 4 ≤ n ∧ n ≤ 40 := by
  obtain ⟨hp, hs, all, p, h⟩ := h
  exact ⟨h.whole, h.base, h.size, h.on, by unfold DiskS.sectors; rw [h.core.len]; rfl, h.core.slen, h.core.n4, h.core.n40⟩
theorem LiveE.wrong (h : LiveE n D L S) (x : PutM) : wrongB L D x = decide (x.2.length ≠ 256 ∨ x.1 < n ∨ 40 ≤ x.1) := by
  obtain ⟨h1, h2, h3, h4, h5, h6, h7, h8⟩ := h.facts
  unfold wrongB
  rw [h2, h3, h5]
  apply decide_eq_decide.2
  constructor
  · rintro (h | h | h | h)
    · exact .inl h
    · exact .inr (.inl (by omega))
    · exact .inr (.inr h)
    · exact .inr (.inl (by omega))
  · rintro (h | h | h)
    · exact .inl h
    · rcases Int.lt_or_le x.1 0 with g | g
      · exact .inr (.inl g)
      · exact .inr (.inr (.inr ⟨g, by omega⟩))
    · exact .inr (.inr (.inl h))
theorem LiveE.room (h : LiveE n D L S) : roomS L = (n : Int) - 4 := by
  obtain ⟨h1, h2, h3, h4, h5, h6, h7, h8⟩ := h.facts
  unfold roomS
  rw [if_neg (by rw [h1]; decide), h3]
  omega
/-- A transaction that is not refused. -/
theorem commitS_goes (h : LiveE n D L S) (hps : PsOk n ps) (hroom : ps.length + 4 ≤ n) : commitS L D ps = commitC L D ps := by
  obtain ⟨h1, -⟩ := h.facts
  unfold commitS
  rw [if_neg (by rw [h1]; decide), if_neg, if_neg]
  · rw [h.room]; omega
  · rintro (e | e)
    · have := hps.pos; rw [e] at this; simp at this
    · rw [List.any_eq_true] at e
      obtain ⟨x, hx, hw⟩ := e
      rw [h.wrong] at hw
      have h2 := hps.ats x hx
      have h3 := hps.sizes x hx
      simp only [decide_eq_true_eq] at hw
      omega
theorem commitS_arg (h : LiveE n D L S) (hb : ps = [] ∨ ∃ x ∈ ps, x.2.length ≠ 256 ∨ x.1 < n ∨ 40 ≤ x.1) : commitS L D ps = ⟨L, D, 1⟩ := by
  obtain ⟨h1, -⟩ := h.facts
  unfold commitS
  rw [if_neg (by rw [h1]; decide), if_pos]
  rcases hb with hb | ⟨x, hx, hw⟩
  · exact .inl hb
  · refine .inr (List.any_eq_true.2 ⟨x, hx, ?_⟩)
    rw [h.wrong]
    exact decide_eq_true hw
theorem commitS_size (h : LiveE n D L S) (hb : ps ≠ []) (hw : ∀ x ∈ ps, x.2.length = 256 ∧ (n : Int) ≤ x.1 ∧ x.1 < 40) (hz : n < ps.length + 4) : commitS L D ps = ⟨L, D, 11⟩ := by
  obtain ⟨h1, -⟩ := h.facts
  unfold commitS
  rw [if_neg (by rw [h1]; decide), if_neg, if_pos]
  · rw [h.room]; omega
  · rintro (e | e)
    · exact hb e
    · rw [List.any_eq_true] at e
      obtain ⟨x, hx, hw2⟩ := e
      rw [h.wrong] at hw2
      have h3 := hw x hx
      simp only [decide_eq_true_eq] at hw2
      omega
theorem commit_live (h : LiveE n D L S) (hps : PsOk n ps) (hroom : ps.length + 4 ≤ n) (hseq : L.seq + 1 ≤ 1000000) (ha : D.armed = false) :
    (commitS L D ps).err = 0 ∧ LiveE n (commitS L D ps).disk (commitS L D ps).log (lay S ps) ∧ (commitS L D ps).log.seq = L.seq + 1 ∧ (commitS L D ps).log.used = usedC n L.used ps.length ∧ (commitS L D ps).disk.armed = false := by
  rw [commitS_goes h hps hroom]
  rcases commitC_spec h hps hroom hseq with ⟨h1, h2, h3, h4, h5⟩ | ⟨h1, h2, h3, h4⟩
  · exact ⟨h1, h2, h3, h4, h5.trans ha⟩
  · rw [ha] at h3; cases h3
theorem checkpoint_live (h : LiveE n D L S) (ha : D.armed = false) :
    (checkpointS L D).err = 0 ∧ LiveE n (checkpointS L D).disk (checkpointS L D).log S ∧ (checkpointS L D).log.used = 0 ∧ (checkpointS L D).disk.armed = false := by
  rcases checkpoint_specE h with ⟨h1, h2, h3, h4, h5⟩ | ⟨h1, h2, h3, h4⟩
  · exact ⟨h1, h2, h3, h5.trans ha⟩
  · rw [ha] at h3; cases h3
theorem psOk_one {a : Int} {s : Bs} (h0 : (n : Int) ≤ a) (h1 : a < 40) (hs : s.length = 256) : PsOk n [(a, s)] :=
  ⟨by simp, by simp, fun x hx => by obtain rfl := List.mem_singleton.1 hx; exact ⟨h0, h1⟩, fun x hx => by obtain rfl := List.mem_singleton.1 hx; exact hs⟩
/-- A new journal, opened. -/
structure Started (n : Nat) (D1 D2 : DiskS) (p2 : Nat) : Prop where
  fmt : formatS (DiskS.new 40) 0 n = (D1, 0)
  opn : openS D1 0 n = ⟨D2, 0, p2, 1⟩
  ok1 : D1.Ok
  ok2 : D2.Ok
  c1 : D1.cache.length ≤ 0
  c2 : D2.cache.length ≤ 65538
  live : LiveE n D2 ⟨0, n, p2, 1, 0, false⟩ (blankS 40)
  armed : D2.armed = false
theorem openRes_eq : ∀ r : OpenRes, r.err = 0 → r.seq = 1 → r = ⟨r.disk, 0, r.place, 1⟩ := by
  rintro ⟨a, b, c, d⟩ h1 h2
  simp only at h1 h2
  subst h1 h2
  rfl
theorem started (h4 : 4 ≤ n) (h40 : n ≤ 40) : ∃ D1 D2 p2, Started n D1 D2 p2 := by
  obtain ⟨f1, f2, f3, f4, f5⟩ := format_spec h4 h40
  have hok := formatS_ok (DiskS.Ok.new 40 (by omega) (by omega)) 0 n (Nat.zero_le _)
  obtain ⟨D1, hD1⟩ : ∃ D1, D1 = (formatS (DiskS.new 40) 0 n).1 := ⟨_, rfl⟩
  rw [← hD1] at f2 f3 f4 f5 hok
  have hc : D1.cache.length ≤ 0 := by rw [f4]; simp
  have hok2 := openS_ok hok.1 0 n (by omega)
  rcases open_spec f2 f4 f5 with ⟨h1, h2, h3, h5⟩ | ⟨h1, h2, h3⟩
  · refine ⟨D1, (openS D1 0 n).disk, (openS D1 0 n).place, ?_, ?_, hok.1, hok2.1, hc, by omega, ?_, h5.trans f3⟩
    · exact Prod.ext hD1.symm f1
    · exact openRes_eq _ h1 h3
    · rw [h3] at h2; exact h2
  · rw [f3] at h2; cases h2
end
end Go.Proofs.YtbalbjhmboppoaaDoor
