/-
  PLAIN LEAN: Commit, Checkpoint, a crash, Open: what each leaves, power or none.
  No condition.
-/
import Derived.Test.YtbalbjhmboppoaaDoorPH
set_option linter.unusedSimpArgs false
set_option linter.unusedVariables false
namespace Go.Proofs.YtbalbjhmboppoaaDoor
open Go.RowKit
attribute [local irreducible] headB firstB lastB lineB zeros fillB
section
variable {n : Nat} {D : DiskS} {L : LogS} {S : List Bs} {hp : Nat} {hs : Int} {all : List (List PutM)} {p : Nat} {ps : List PutM}
/-- An open log: what holds between two calls. -/
def LiveE (n : Nat) (D : DiskS) (L : LogS) (S : List Bs) : Prop := ∃ hp hs all p, Live n D L S hp hs all p
def usedC (n : Nat) (u : Int) (k : Nat) : Int := (if (n : Int) - 1 < u + ((k : Int) + 2) + 1 then 0 else u) + ((k : Int) + 2)
theorem commitC_spec (h : LiveE n D L S) (hps : PsOk n ps) (hroom : ps.length + 4 ≤ n) (hseq : L.seq + 1 ≤ 1000000) :
    ((commitC L D ps).err = 0 ∧ LiveE n (commitC L D ps).disk (commitC L D ps).log (lay S ps) ∧ (commitC L D ps).log.seq = L.seq + 1 ∧ (commitC L D ps).log.used = usedC n L.used ps.length ∧ (commitC L D ps).disk.armed = D.armed) ∨
    ((commitC L D ps).err = 14 ∧ (commitC L D ps).log.broken = true ∧ D.armed = true ∧ (commitC L D ps).disk.on = false ∧ Dark n (commitC L D ps).disk S (lay S ps) (L.seq + 1)) := by
  obtain ⟨hp, hs, all, p, h⟩ := h
  have hn := h.core.n4
  unfold commitC usedC
  rw [h.size]
  by_cases hu : (n : Int) - 1 < L.used + ((ps.length : Int) + 2) + 1
  · rw [if_pos hu, if_pos hu]
    rcases checkpoint_spec h with ⟨h1, h2, h3, h4⟩ | ⟨h1, h2, h3, h4, h5⟩
    · rw [if_pos h1]
      have h6 := h2.used
      rw [usedOf_nil] at h6
      obtain ⟨L1, hL1⟩ : ∃ L1, L1 = (checkpointS L D).log := ⟨_, rfl⟩
      obtain ⟨D1, hD1⟩ : ∃ D1, D1 = (checkpointS L D).disk := ⟨_, rfl⟩
      rw [← hL1, ← hD1] at h2
      rw [← hL1] at h3 h6
      rw [← hD1] at h4
      rw [← hL1, ← hD1]
      rcases commitL_spec h2 hps (by simp; omega) (by omega) with ⟨g1, g2, g3, g4⟩ | ⟨g1, g2, g3, g4, g5⟩
      · left
        refine ⟨g1, ⟨_, _, _, _, g2⟩, by rw [g3, h3], ?_, g4.trans h4⟩
        rw [g2.used, usedOf_append]; simp
      · right
        exact ⟨g1, g2, h4 ▸ g3, g4, h3 ▸ g5⟩
    · right
      rw [if_neg (by rw [h1]; decide)]
      obtain ⟨Q, q1, q2⟩ := h5 (lay S ps)
      exact ⟨h1, h2, h3, h4, Q, q1, fun l hl => (q2 l hl).imp (fun h => h.mono (by omega)) (fun h => h.mono (by omega))⟩
  · rw [if_neg hu, if_neg hu]
    have h6 := h.used
    rcases commitL_spec h hps (by omega) hseq with ⟨g1, g2, g3, g4⟩ | g
    · left
      refine ⟨g1, ⟨_, _, _, _, g2⟩, g3, ?_, g4⟩
      rw [g2.used, usedOf_append, h6]; simp
    · exact .inr g
theorem checkpoint_specE (h : LiveE n D L S) :
    ((checkpointS L D).err = 0 ∧ LiveE n (checkpointS L D).disk (checkpointS L D).log S ∧ (checkpointS L D).log.used = 0 ∧ (checkpointS L D).log.seq = L.seq ∧ (checkpointS L D).disk.armed = D.armed) ∨
    ((checkpointS L D).err = 14 ∧ (checkpointS L D).log.broken = true ∧ D.armed = true ∧ (checkpointS L D).disk.on = false ∧ ∀ B, Dark n (checkpointS L D).disk S B L.seq) := by
  obtain ⟨hp, hs, all, p, h⟩ := h
  rcases checkpoint_spec h with ⟨h1, h2, h3, h4⟩ | h1
  · exact .inl ⟨h1, ⟨_, _, _, _, h2⟩, by rw [h2.used]; simp, h3, h4⟩
  · exact .inr h1
/-- Power goes and comes. -/
theorem crash_spec {Q : List Bs → Prop} (h : Pend Q D) (hl : 0 < D.lies.length) (picks : List Int) : Q (D.crashS picks).lies ∧ (D.crashS picks).cache = [] ∧ (D.crashS picks).on = true ∧ (D.crashS picks).armed = false := by
  unfold DiskS.crashS
  rw [if_neg (by unfold DiskS.sectors; omega)]
  exact ⟨h.surf _, rfl, rfl, rfl⟩

/-- What was found is written anew: any part of it. -/
structure RedoQ (n : Nat) (l : List Bs) (hp : Nat) (hs : Int) (all : List (List PutM)) (p : Nat) (s : Int) (S : List Bs) : Prop where
  r : Rec n l hp hs all p s S
theorem Rec.setData {lies : List Bs} {s : Int} (h : Rec n lies hp hs all p s S) {x : PutM} (hx : ∃ y ∈ all.flatten, y.1 = x.1) : Rec n (lies.set x.1.toNat x.2) hp hs all p s S := by
  refine ⟨h.1.setData hx, ?_⟩
  obtain ⟨y, hy, hyx⟩ := hx
  have ha := h.1.ats y hy
  have hn4 := h.1.n4
  have hlen := h.1.len
  have hn40 := h.1.n40
  have e : slotsOf (lies.set x.1.toNat x.2) n = slotsOf lies n := by
    unfold slotsOf
    rw [List.take_set_of_le (by omega)]
  unfold fnd
  rw [e]
  exact h.2
/-- Behind what was found: the head, the blank, either or none. -/
def OpenQ (n : Nat) (hp : Nat) (hs : Int) (all : List (List PutM)) (p : Nat) (s : Int) (S : List Bs) (l : List Bs) : Prop :=
  (Rec n l hp hs all p s S ∨ Rec n l p s [] p s S) ∧ Settled n l S
theorem Rec.head {lies : List Bs} {s : Int} (h : Rec n lies hp hs all p s S) (hS : Settled n lies S) : Rec n (lies.set 0 (headB p s)) p s [] p s S := by
  have hn := h.1.n4; have hlen := h.1.len; have h40 := h.1.n40
  refine ⟨⟨h.1.n4, h.1.n40, by simp [hlen], ?_, h.1.pm, h.1.s1, ⟨rfl, rfl⟩, by simp; omega, h.1.most, by simp, by simp, h.1.slen, fun i hi => ?_⟩, ?_⟩
  · rw [List.getElem?_set_self (by omega)]
  · simp only [List.flatten_nil, lay_nil]
    rw [List.getElem?_set_ne (by omega)]
    exact hS i hi
  · have e : slotsOf (lies.set 0 (headB p s)) n = slotsOf lies n := by
      unfold slotsOf
      cases lies with
      | nil => simp at hlen
      | cons a t => cases n with
        | zero => rfl
        | succ m => simp
    unfold fnd
    rw [e]
    exact h.2
theorem Rec.blank {lies : List Bs} {s : Int} (h : Rec n lies hp hs all p s S) : Idle n (lies.set (1 + p) (zeros 256)) hp hs all p s S := by
  have hn := h.1.n4; have hpm := h.1.pm; have hu := h.1.used
  have e : 1 + p = 1 + (p + 0) % (n - 1) := by rw [Nat.mod_eq_of_lt (by omega)]; rfl
  rw [e]
  refine ⟨h.1.setSlot 0 (by omega) _, ?_⟩
  rw [sl_set' h.1, if_pos (by rw [Nat.add_zero])]
theorem open_spec (hon : D.on = true) (hca : D.cache = []) {s : Int} (h : Rec n D.lies hp hs all p s S) :
    ((openS D 0 n).err = 0 ∧ LiveE n (openS D 0 n).disk ⟨0, n, (openS D 0 n).place, (openS D 0 n).seq, 0, false⟩ S ∧ (openS D 0 n).seq = s ∧ (openS D 0 n).disk.armed = D.armed) ∨
    ((openS D 0 n).err = 14 ∧ D.armed = true ∧ (openS D 0 n).disk.on = false ∧ ∀ B, Dark n (openS D 0 n).disk S B s) := by
  have hn := h.1.n4; have hlen := h.1.len; have h40 := h.1.n40; have hpm := h.1.pm
  have hread : readR D 0 n = D.lies.take n := by
    apply List.ext_getElem
    · simp [readR]; omega
    · intro i h1 h2
      simp only [readR, List.getElem_map, List.getElem_range, List.getElem_take]
      have hi : i < n := by simpa [readR] using h1
      have := readS_lay (D := D) (i := i) (s := D.lies[i]'(by omega)) (by omega) hon (by rw [hca]; simp) (by rw [hca, lay_nil]; simp)
      rw [show (0 : Int) + (i : Int) = (i : Int) by omega, this]
  have hO : openS D 0 n = openL D 0 ⟨p, s, all, true⟩ := by
    unfold openS
    rw [if_neg, if_neg (by rw [hon]; decide), show ((n : Int)).toNat = n by omega, hread, h.scan, if_neg (by simp)]
    rw [Bool.not_eq_false, fitsB_iff]
    unfold DiskS.sectors
    omega
  rw [hO]
  -- what was found
  have redo : ((redoS D 0 ⟨p, s, all, true⟩).2 = 0 ∧ Pend (OpenQ n hp hs all p s S) (redoS D 0 ⟨p, s, all, true⟩).1 ∧ (redoS D 0 ⟨p, s, all, true⟩).1.on = true ∧ (redoS D 0 ⟨p, s, all, true⟩).1.armed = D.armed ∧
        ((all = [] ∧ hp = p ∧ hs = s ∧ (redoS D 0 ⟨p, s, all, true⟩).1 = D) ∨ ((redoS D 0 ⟨p, s, all, true⟩).1.cache = [(0, headB p s)]))) ∨
      ((redoS D 0 ⟨p, s, all, true⟩).2 = 14 ∧ D.armed = true ∧ (redoS D 0 ⟨p, s, all, true⟩).1.on = false ∧ ∀ B, Dark n (redoS D 0 ⟨p, s, all, true⟩).1 S B s) := by
    unfold redoS
    by_cases hae : all = []
    · rw [if_pos hae]
      left
      subst hae
      obtain ⟨rfl, rfl⟩ := h.1.chain
      have hS : Settled n D.lies S := fun i hi => by have := h.1.data i hi; simpa using this
      exact ⟨rfl, ⟨⟨.inl h, hS⟩, by rw [hca]; simp⟩, hon, rfl, .inl ⟨rfl, rfl, rfl, rfl⟩⟩
    · rw [if_neg hae]
      dsimp only
      have hv : ∀ x ∈ all.flatten, Valid D x := fun x hx => by
        have := h.1.ats x hx
        exact Valid.of (by omega) (by omega) (h.1.sizes x hx)
      rcases writeT_spec (Q := fun l => Rec n l hp hs all p s S) (by omega) hv hon ⟨h, by rw [hca]; simp⟩ (fun x hx l hl => hl.setData ⟨x, hx, rfl⟩) with ⟨h1, h2, h3, h4, h5, h6⟩ | ⟨h1, h2, h3, h4⟩
      · rw [if_pos h1]
        obtain ⟨D1, hD1⟩ : ∃ D1, D1 = (D.writeF true all.flatten).1 := ⟨_, rfl⟩
        rw [← hD1] at h2 h3 h4 h5 h6 ⊢
        have hS : Settled n D1.lies S := fun i hi => by rw [h2, hca, lay_nil]; exact h.1.data i hi
        have hv2 : ∀ x ∈ [((0 : Int), headB p s)], Valid D1 x := by
          intro x hx
          obtain rfl := List.mem_singleton.1 hx
          have := h6.1.len
          exact Valid.of (by omega) (by omega) (headB_256 p s)
        have hc2 : ∀ x ∈ [((0 : Int), headB p s)], ∀ l, OpenQ n hp hs all p s S l → OpenQ n hp hs all p s S (l.set x.1.toNat x.2) := by
          intro x hx l hl
          obtain rfl := List.mem_singleton.1 hx
          show OpenQ n hp hs all p s S (l.set 0 (headB p s))
          refine ⟨.inr ?_, hl.2.head (by omega) _⟩
          rcases hl.1 with h7 | h7
          · exact h7.head hl.2
          · exact h7.head hl.2
        rcases writeN_spec hv2 h4 (Q := OpenQ n hp hs all p s S) ⟨⟨.inl h6, hS⟩, by rw [h3]; simp⟩ hc2 with ⟨g1, g2, g3, g4, g5, g6⟩ | ⟨g1, g2, g3, g4⟩
        · left
          exact ⟨g1, g6, g4, g5.trans h5, .inr (by rw [g3, h3]; rfl)⟩
        · right
          refine ⟨g1, h5 ▸ g3, g2, fun B => Dark.of B g4 (fun l hl => ?_)⟩
          rcases hl.1 with h7 | h7
          · exact ⟨_, _, _, _, _, h7, Int.le_refl _⟩
          · exact ⟨_, _, _, _, _, h7, Int.le_refl _⟩
      · right
        rw [if_neg (by rw [h1]; decide)]
        exact ⟨h1, h3, h2, fun B => Dark.of B h4 (fun l hl => ⟨_, _, _, _, _, hl, Int.le_refl _⟩)⟩
  obtain ⟨r, hr⟩ : ∃ r, r = redoS D 0 ⟨p, s, all, true⟩ := ⟨_, rfl⟩
  unfold openL
  rw [← hr] at redo ⊢
  rcases redo with ⟨r1, r2, r3, r4, r5⟩ | ⟨r1, r2, r3, r4⟩
  · rw [if_neg (by rw [r1]; decide)]
    dsimp only
    have hv : ∀ x ∈ [(0 + 1 + (p : Int), zeros 256)], Valid r.1 x := by
      intro x hx
      obtain rfl := List.mem_singleton.1 hx
      have : r.1.lies.length = 40 := by rcases r2.1.1 with h7 | h7 <;> exact h7.1.len
      exact Valid.of (by omega) (by omega) (zeros_length 256)
    have hc : ∀ x ∈ [(0 + 1 + (p : Int), zeros 256)], ∀ l, OpenQ n hp hs all p s S l → OpenQ n hp hs all p s S (l.set x.1.toNat x.2) := by
      intro x hx l hl
      obtain rfl := List.mem_singleton.1 hx
      show OpenQ n hp hs all p s S (l.set (0 + 1 + (p : Int)).toNat (zeros 256))
      rw [show (0 + 1 + (p : Int)).toNat = 1 + p by omega]
      refine ⟨?_, fun i hi => by rw [List.getElem?_set_ne (by omega)]; exact hl.2 i hi⟩
      rcases hl.1 with h7 | h7
      · exact .inl h7.blank.toRec
      · exact .inr h7.blank.toRec
    have hlr : r.1.lies.length = 40 := by rcases r2.1.1 with h7 | h7 <;> exact h7.1.len
    rcases writeT_spec (by omega) hv r3 r2 hc with ⟨g1, g2, g3, g4, g5, g6⟩ | ⟨g1, g2, g3, g4⟩
    · left
      rw [if_neg (by rw [g1]; decide)]
      dsimp only
      obtain ⟨D2, hD2⟩ : ∃ D2, D2 = (r.1.writeF true [(0 + 1 + (p : Int), zeros 256)]).1 := ⟨_, rfl⟩
      rw [← hD2] at g2 g3 g4 g5 g6 ⊢
      have hI : Idle n D2.lies p s [] p s S := by
        rw [g2]
        simp only [lay_cons, lay_nil]
        rw [show (0 + 1 + (p : Int)).toNat = 1 + p by omega]
        rcases r5 with ⟨ha, hb, hc5, hd⟩ | hd
        · rw [hd, hca, lay_nil]
          subst ha hb hc5
          exact h.blank
        · rw [hd]
          simp only [lay_cons, lay_nil]
          have hq := r2.1
          have h8 : Rec n (r.1.lies.set 0 (headB p s)) p s [] p s S := by
            rcases hq.1 with h7 | h7
            · exact h7.head hq.2
            · exact h7.head hq.2
          exact h8.blank
      refine ⟨rfl, ⟨p, s, [], p, ⟨g4, rfl, rfl, rfl, rfl, rfl, ⟨hI, by rw [g3]; simp⟩, fun i hi => ?_⟩⟩, rfl, g5.trans r4⟩
      rw [g3, lay_nil]; exact g6.2 i hi
    · right
      rw [if_pos (by rw [g1]; decide)]
      dsimp only
      refine ⟨g1, r4 ▸ g3, g2, fun B => Dark.of B g4 (fun l hl => ?_)⟩
      rcases hl.1 with h7 | h7
      · exact ⟨_, _, _, _, _, h7, Int.le_refl _⟩
      · exact ⟨_, _, _, _, _, h7, Int.le_refl _⟩
  · right
    rw [if_pos (by rw [r1]; decide)]
    exact ⟨r1, r2, r3, r4⟩
end
end Go.Proofs.YtbalbjhmboppoaaDoor
