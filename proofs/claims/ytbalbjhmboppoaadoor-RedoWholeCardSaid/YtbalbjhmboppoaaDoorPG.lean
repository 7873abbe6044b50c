/-
  PLAIN LEAN: Checkpoint on a journal.
  No condition.
-/
import Derived.Test.YtbalbjhmboppoaaDoorPF
set_option linter.unusedSimpArgs false
set_option linter.unusedVariables false
namespace Go.Proofs.YtbalbjhmboppoaaDoor
open Go.RowKit
attribute [local irreducible] headB firstB lastB lineB zeros fillB
theorem Valid.of {D : DiskS} {a : Int} {s : Bs} (h0 : 0 ≤ a) (h1 : a < D.lies.length) (h2 : s.length = 256) : Valid D (a, s) := ⟨h0, h1, h2⟩
/-! ### the log's calls on a journal -/
/-- An open log, its disk: what holds between two calls. -/
structure Live (n : Nat) (D : DiskS) (L : LogS) (S : List Bs) (hp : Nat) (hs : Int) (all : List (List PutM)) (p : Nat) : Prop where
  on : D.on = true
  whole : L.broken = false
  base : L.base = 0
  size : L.size = n
  place : L.place = p
  used : L.used = usedOf all
  pend : Pend (fun l => Idle n l hp hs all p L.seq S) D
  view : ∀ i, n ≤ i → (lay D.lies D.cache)[i]? = S[i]?
/-- Whatever is left of the cache can be opened, as one of two. -/
def Dark (n : Nat) (D : DiskS) (A B : List Bs) (k : Int) : Prop := ∃ Q, Pend Q D ∧ ∀ l, Q l → Recov n l A k ∨ Recov n l B k
theorem Dark.of {n : Nat} {D : DiskS} {Q : List Bs → Prop} {A : List Bs} {k : Int} (B : List Bs) (h : Pend Q D) (hq : ∀ l, Q l → Recov n l A k) : Dark n D A B k := ⟨Q, h, fun l hl => .inl (hq l hl)⟩
theorem Recov.mono {n : Nat} {l A : List Bs} {k k' : Int} (h : Recov n l A k) (hk : k ≤ k') : Recov n l A k' := by
  obtain ⟨hp, hs, all, p, s, h1, h2⟩ := h
  exact ⟨hp, hs, all, p, s, h1, Int.le_trans h2 hk⟩
theorem Live.dark {n : Nat} {D : DiskS} {L : LogS} {S : List Bs} {hp : Nat} {hs : Int} {all : List (List PutM)} {p : Nat} (h : Live n D L S hp hs all p) (B : List Bs) : Dark n D S B L.seq :=
  Dark.of B h.pend (fun l hl => ⟨hp, hs, all, p, L.seq, hl.toRec, Int.le_refl _⟩)
theorem Live.reads {n : Nat} {D : DiskS} {L : LogS} {S : List Bs} {hp : Nat} {hs : Int} {all : List (List PutM)} {p : Nat} (h : Live n D L S hp hs all p) (hc : ∀ x ∈ D.cache, 0 ≤ x.1) {i : Nat} (hi : n ≤ i) (hi2 : i < 40) :
    D.readS i = (S.getD i [], 0) := by
  have hlen := h.pend.1.1.len
  have hsl := h.pend.1.1.slen
  refine readS_lay (by omega) h.on hc ?_
  rw [h.view i hi]
  simp [List.getD, show i < S.length by omega]

section
variable {n : Nat} {D : DiskS} {L : LogS} {S : List Bs} {hp : Nat} {hs : Int} {all : List (List PutM)} {p : Nat}
theorem Live.core (h : Live n D L S hp hs all p) : Core n D.lies hp hs all p L.seq S := h.pend.1.1
theorem slot_nat (h : Live n D L S hp hs all p) (i : Nat) (x : Int) (hx : x = i) : slotAt L x = ((1 + (p + i) % (n - 1) : Nat) : Int) ∧ (slotAt L x).toNat = 1 + (p + i) % (n - 1) := by
  have hn := h.core.n4
  have e : slotAt L x = ((1 + (p + i) % (n - 1) : Nat) : Int) := by
    unfold slotAt
    rw [h.base, h.place, h.size, hx]
    have e1 : ((p : Int) + (i : Int)).tmod ((n : Int) - 1) = (((p + i) % (n - 1) : Nat) : Int) := by
      rw [show ((p : Int) + (i : Int)) = ((p + i : Nat) : Int) by omega, show ((n : Int) - 1) = ((n - 1 : Nat) : Int) by omega]
      rfl
    rw [e1]
    omega
  exact ⟨e, by omega⟩
theorem slot_valid (h : Live n D L S hp hs all p) (i : Nat) (x : Int) (hx : x = i) : 0 ≤ slotAt L x ∧ slotAt L x < 40 := by
  have hn := h.core.n4
  have h40 := h.core.n40
  have := (slot_nat h i x hx).1
  have := Nat.mod_lt (p + i) (show 0 < n - 1 by omega)
  omega

/-- A new head, all being done. -/
def HeadQ (n : Nat) (hp : Nat) (hs : Int) (all : List (List PutM)) (p : Nat) (s : Int) (S : List Bs) (l : List Bs) : Prop :=
  (Idle n l hp hs all p s S ∨ Idle n l p s [] p s S) ∧ Settled n l S
theorem Idle.head {lies : List Bs} {s : Int} (h : Idle n lies hp hs all p s S) (hS : Settled n lies S) : Idle n (lies.set 0 (headB p s)) p s [] p s S := by
  have hn := h.1.n4; have hlen := h.1.len
  refine ⟨⟨h.1.n4, h.1.n40, by simp [hlen], ?_, h.1.pm, h.1.s1, ⟨rfl, rfl⟩, by simp; omega, h.1.most, by simp, by simp, h.1.slen, fun i hi => ?_⟩, ?_⟩
  · rw [List.getElem?_set_self (by omega)]
  · simp only [List.flatten_nil, lay_nil]
    rw [List.getElem?_set_ne (by omega)]
    exact hS i hi
  · rw [sl_far (by omega) (.inl rfl)]; exact h.2
theorem Settled.head {lies : List Bs} (h : Settled n lies S) (hn : 1 ≤ n) (v : Bs) : Settled n (lies.set 0 v) S := fun i hi => by
  rw [List.getElem?_set_ne (by omega)]; exact h i hi
theorem HeadQ.close {l : List Bs} {s : Int} (h : HeadQ n hp hs all p s S l) : HeadQ n hp hs all p s S (l.set 0 (headB p s)) := by
  obtain ⟨h1, h2⟩ := h
  have hn : 1 ≤ n := by rcases h1 with h1 | h1 <;> (have := h1.1.n4; omega)
  refine ⟨.inr ?_, h2.head hn _⟩
  rcases h1 with h1 | h1
  · exact h1.head h2
  · exact h1.head h2
theorem HeadQ.recov {l : List Bs} {s : Int} (h : HeadQ n hp hs all p s S l) : Recov n l S s := by
  rcases h.1 with h1 | h1
  · exact ⟨_, _, _, _, _, h1.toRec, Int.le_refl _⟩
  · exact ⟨_, _, _, _, _, h1.toRec, Int.le_refl _⟩

theorem checkpoint_spec (h : Live n D L S hp hs all p) :
    ((checkpointS L D).err = 0 ∧ Live n (checkpointS L D).disk (checkpointS L D).log S (if all = [] then hp else p) (if all = [] then hs else L.seq) [] p ∧ (checkpointS L D).log.seq = L.seq ∧ (checkpointS L D).disk.armed = D.armed) ∨
    ((checkpointS L D).err = 14 ∧ (checkpointS L D).log.broken = true ∧ D.armed = true ∧ (checkpointS L D).disk.on = false ∧ ∀ B, Dark n (checkpointS L D).disk S B L.seq) := by
  have hn := h.core.n4
  unfold checkpointS
  rw [if_neg (by rw [h.whole]; decide)]
  by_cases hu : L.used = 0
  · rw [if_pos hu]
    left
    have hall : all = [] := by
      have h1 := chain_len h.core.chain
      have h2 := h.used
      cases all with
      | nil => rfl
      | cons a b => simp only [List.length_cons] at h1; omega
    subst hall
    exact ⟨rfl, by simpa using h, rfl, rfl⟩
  · rw [if_neg hu]
    have hall : all ≠ [] := fun e => by subst e; exact hu (by simpa using h.used)
    dsimp only
    unfold headW
    have hlen := h.core.len
    rcases writeT_spec (ps := []) (by omega) (by simp) h.on h.pend (by simp) with ⟨h1, h2, h3, h4, h5, h6⟩ | ⟨h1, h2, h3, h4⟩
    · rw [if_pos h1]
      obtain ⟨D1, hD1⟩ : ∃ D1, D1 = (D.writeF true []).1 := ⟨_, rfl⟩
      rw [← hD1] at h2 h3 h4 h5 h6 ⊢
      have hset : Settled n D1.lies S := fun i hi => by rw [h2]; exact h.view i hi
      have hq : Pend (HeadQ n hp hs all p L.seq S) D1 := ⟨⟨.inl h6, hset⟩, by rw [h3]; simp⟩
      have hv : ∀ x ∈ [(L.base, headB L.place L.seq)], Valid D1 x := by
        intro x hx
        obtain rfl := List.mem_singleton.1 hx
        have := h6.1.len
        exact Valid.of (by rw [h.base]; omega) (by rw [h.base]; omega) (headB_256 L.place L.seq)
      have hcl : ∀ x ∈ [(L.base, headB L.place L.seq)], ∀ l, HeadQ n hp hs all p L.seq S l → HeadQ n hp hs all p L.seq S (l.set x.1.toNat x.2) := by
        intro x hx l hl
        obtain rfl := List.mem_singleton.1 hx
        show HeadQ n hp hs all p L.seq S (l.set L.base.toNat (headB L.place L.seq))
        rw [h.base, h.place]
        exact hl.close
      rcases writeT_spec (by have := h6.1.len; omega) hv h4 hq hcl with ⟨g1, g2, g3, g4, g5, g6⟩ | ⟨g1, g2, g3, g4⟩
      · left
        rw [g1, if_pos rfl, if_neg hall, if_neg hall]
        obtain ⟨D2, hD2⟩ : ∃ D2, D2 = (D1.writeF true [(L.base, headB L.place L.seq)]).1 := ⟨_, rfl⟩
        rw [← hD2] at g2 g3 g4 g5 g6 ⊢
        have e2 : D2.lies = D1.lies.set 0 (headB p L.seq) := by
          rw [g2, h3]
          simp only [lay_nil, lay_cons]
          rw [h.base, h.place]; rfl
        have hI : Idle n D2.lies p L.seq [] p L.seq S := by rw [e2]; exact h6.head hset
        refine ⟨rfl, ⟨g4, ?_, h.base, h.size, h.place, rfl, ⟨hI, by rw [g3]; simp⟩, fun i hi => ?_⟩, rfl, g5.trans h5⟩
        · show (L.broken || decide _) = false
          rw [h.whole]; rfl
        · rw [g3, lay_nil]; exact g6.2 i hi
      · right
        rw [g1, if_neg (by decide)]
        exact ⟨rfl, by simp [triedS], h5 ▸ g3, g2, fun B => Dark.of B g4 (fun l hl => hl.recov)⟩
    · right
      rw [if_neg (by rw [h1]; decide), h1, if_neg (by decide)]
      exact ⟨rfl, by simp [triedS], h3, h2, fun B => Dark.of B h4 (fun l hl => ⟨_, _, _, _, _, hl.toRec, Int.le_refl _⟩)⟩
end
end Go.Proofs.YtbalbjhmboppoaaDoor
