/-
  PLAIN LEAN: a log is opened anew behind a crash.
  No condition.
-/
import Derived.Test.YtbalbjhmboppoaaDoorPL
set_option linter.unusedSimpArgs false
set_option linter.unusedVariables false
namespace Go.Proofs.YtbalbjhmboppoaaDoor
open Go.RowKit
attribute [local irreducible] headB firstB lastB lineB zeros fillB
section
variable {n : Nat} {D : DiskS} {L : LogS} {S : List Bs}
theorem reopen (h : LiveE n D L S) (picks : List Int) : (openS (D.crashS picks) 0 n).err = 0 ∧ LiveE n (openS (D.crashS picks) 0 n).disk ⟨0, n, (openS (D.crashS picks) 0 n).place, (openS (D.crashS picks) 0 n).seq, 0, false⟩ S ∧ (openS (D.crashS picks) 0 n).seq = L.seq ∧ (openS (D.crashS picks) 0 n).disk.armed = false := by
  obtain ⟨hp, hs, all, p, h⟩ := h
  have hlen := h.core.len
  obtain ⟨c1, c2, c3, c4⟩ := crash_spec h.pend (by omega) picks
  rcases open_spec c3 c2 c1.toRec with ⟨h1, h2, h3, h4⟩ | ⟨h1, h2, h3⟩
  · exact ⟨h1, h2, h3, h4.trans c4⟩
  · rw [c4] at h2; cases h2
theorem LiveE.read (h : LiveE n D L S) (ok : D.Ok) {i : Nat} (hi : n ≤ i) (hi2 : i < 40) : D.readS i = (S.getD i [], 0) := by
  obtain ⟨hp, hs, all, p, h⟩ := h
  exact h.reads (fun x hx => (ok.cache x hx).1) hi hi2
/-- What is known of the sectors behind the journal is all that counts. -/
theorem Core.congr {lies : List Bs} {hp : Nat} {hs : Int} {all : List (List PutM)} {p : Nat} {s : Int} {S' : List Bs} (h : Core n lies hp hs all p s S) (hl : S'.length = 40) (he : ∀ i, n ≤ i → S'[i]? = S[i]?) : Core n lies hp hs all p s S' :=
  ⟨h.n4, h.n40, h.len, h.head, h.hpm, h.hs1, h.chain, h.used, h.most, h.ats, h.sizes, hl, fun i hi => by rw [he i hi]; exact h.data i hi⟩
theorem LiveE.congr (h : LiveE n D L S) {S' : List Bs} (hl : S'.length = 40) (he : ∀ i, n ≤ i → S'[i]? = S[i]?) : LiveE n D L S' := by
  obtain ⟨hp, hs, all, p, h⟩ := h
  refine ⟨hp, hs, all, p, h.on, h.whole, h.base, h.size, h.place, h.used, ⟨⟨h.pend.1.1.congr hl he, h.pend.1.2⟩, fun x hx l hlq => ?_⟩, fun i hi => by rw [he i hi]; exact h.view i hi⟩
  have hslen := h.core.slen
  have h1 : Idle n l hp hs all p L.seq S := ⟨hlq.1.congr hslen (fun i hi => (he i hi).symm), hlq.2⟩
  have h2 := h.pend.2 x hx l h1
  exact ⟨h2.1.congr hl he, h2.2⟩
theorem usedOf_zero (h : LiveE n D L S) : 0 ≤ L.used := h.logOk.u0
/-- What a log that was closed by power leaves can be opened, as one of two. -/
theorem Dark.open {A B : List Bs} {k : Int} (h : Dark n D A B k) (picks : List Int) (hl : D.lies.length = 40) :
    ∃ C, (C = A ∨ C = B) ∧ ∃ hp hs all p s, Rec n (D.crashS picks).lies hp hs all p s C ∧ s ≤ k ∧ (D.crashS picks).cache = [] ∧ (D.crashS picks).on = true ∧ (D.crashS picks).armed = false := by
  obtain ⟨Q, q1, q2⟩ := h
  obtain ⟨c1, c2, c3, c4⟩ := crash_spec q1 (by omega) picks
  rcases q2 _ c1 with ⟨hp, hs, all, p, s, r1, r2⟩ | ⟨hp, hs, all, p, s, r1, r2⟩
  · exact ⟨A, .inl rfl, hp, hs, all, p, s, r1, r2, c2, c3, c4⟩
  · exact ⟨B, .inr rfl, hp, hs, all, p, s, r1, r2, c2, c3, c4⟩
end
end Go.Proofs.YtbalbjhmboppoaaDoor
