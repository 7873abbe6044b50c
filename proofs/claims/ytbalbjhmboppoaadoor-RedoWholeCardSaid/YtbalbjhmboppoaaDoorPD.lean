/-
  PLAIN LEAN: writes laid one behind the other; whatever is left of a cache.
  No condition.
-/
import Derived.Test.YtbalbjhmboppoaaDoorPC
set_option linter.unusedSimpArgs false
set_option linter.unusedVariables false
namespace Go.Proofs.YtbalbjhmboppoaaDoor
open Go.RowKit
/-! ### writes laid, one behind the other -/
def lay (l : List Bs) (c : List PutM) : List Bs := c.foldl (fun l x => l.set x.1.toNat x.2) l
@[simp] theorem lay_nil (l : List Bs) : lay l [] = l := rfl
@[simp] theorem lay_cons (l : List Bs) (x : PutM) (c : List PutM) : lay l (x :: c) = lay (l.set x.1.toNat x.2) c := rfl
theorem lay_append (l : List Bs) (c d : List PutM) : lay l (c ++ d) = lay (lay l c) d := by simp [lay]
@[simp] theorem lay_length (l : List Bs) (c : List PutM) : (lay l c).length = l.length := by
  induction c generalizing l with
  | nil => rfl
  | cons x c ih => rw [lay_cons, ih]; simp
theorem layAll_true (c : List PutM) : ∀ l, DiskS.layAll l c (c.map fun _ => true) = lay l c := by
  induction c with
  | nil => intro l; rfl
  | cons x c ih => intro l; simp [DiskS.layAll, ih]
theorem lay_congr {l l' : List Bs} {i : Nat} (hl : l.length = l'.length) (c : List PutM) (h : l[i]? = l'[i]?) : (lay l c)[i]? = (lay l' c)[i]? := by
  induction c generalizing l l' with
  | nil => exact h
  | cons x c ih =>
    rw [lay_cons, lay_cons]
    apply ih
    · simp [hl]
    · rw [List.getElem?_set, List.getElem?_set, hl, h]
theorem lay_far {l : List Bs} {i : Nat} (c : List PutM) (h : ∀ x ∈ c, x.1.toNat ≠ i) : (lay l c)[i]? = l[i]? := by
  induction c generalizing l with
  | nil => rfl
  | cons x c ih =>
    rw [lay_cons, ih (fun y hy => h y (List.mem_cons_of_mem _ hy)), List.getElem?_set_ne (h x (by simp))]
theorem lay_absorb {c : List PutM} {a : Nat} (h : ∃ y ∈ c, y.1.toNat = a) : ∀ (l : List Bs) (v : Bs), lay (l.set a v) c = lay l c := by
  induction c with
  | nil => obtain ⟨y, hy, _⟩ := h; cases hy
  | cons x c ih =>
    intro l v
    rw [lay_cons, lay_cons]
    by_cases hx : x.1.toNat = a
    · rw [hx, List.set_set]
    · obtain ⟨y, hy, hya⟩ := h
      rcases List.mem_cons.1 hy with rfl | hy
      · exact absurd hya hx
      · rw [List.set_comm _ _ (Ne.symm hx), ih ⟨y, hy, hya⟩]
theorem lay_absorbs {c d : List PutM} (h : ∀ x ∈ d, ∃ y ∈ c, y.1.toNat = x.1.toNat) (l : List Bs) : lay (lay l d) c = lay l c := by
  induction d generalizing l with
  | nil => rfl
  | cons x d ih =>
    rw [lay_cons, ih (fun z hz => h z (List.mem_cons_of_mem _ hz)), lay_absorb (h x (by simp))]

/-! ### whatever is left of a cache -/
def Pend (Q : List Bs → Prop) (D : DiskS) : Prop := Q D.lies ∧ ∀ x ∈ D.cache, ∀ l, Q l → Q (l.set x.1.toNat x.2)
theorem Pend.surf {Q : List Bs → Prop} {D : DiskS} (h : Pend Q D) (stays : List Bool) : Q (DiskS.layAll D.lies D.cache stays) := by
  obtain ⟨h1, h2⟩ := h
  generalize D.lies = l at h1
  generalize D.cache = c at h2
  induction c generalizing l stays with
  | nil => exact h1
  | cons x c ih =>
    unfold DiskS.layAll
    apply ih
    · split
      · exact h2 x (by simp) l h1
      · exact h1
    · exact fun y hy => h2 y (List.mem_cons_of_mem _ hy)
theorem Pend.lay {Q : List Bs → Prop} {D : DiskS} (h : Pend Q D) : Q (lay D.lies D.cache) := by
  have := h.surf (D.cache.map fun _ => true)
  rwa [layAll_true] at this
theorem Pend.mono {Q Q' : List Bs → Prop} {D : DiskS} (h1 : Q' D.lies) (h2 : ∀ x ∈ D.cache, ∀ l, Q' l → Q' (l.set x.1.toNat x.2)) : Pend Q' D := ⟨h1, h2⟩

def Valid (D : DiskS) (x : PutM) : Prop := 0 ≤ x.1 ∧ x.1 < D.lies.length ∧ x.2.length = 256
theorem stepS_spec {D : DiskS} (hon : D.on = true) :
    (D.stepS.2 = 0 ∧ D.stepS.1.lies = D.lies ∧ D.stepS.1.cache = D.cache ∧ D.stepS.1.on = true ∧ D.stepS.1.armed = D.armed) ∨
    (D.stepS.2 = 14 ∧ D.stepS.1.lies = D.lies ∧ D.stepS.1.cache = D.cache ∧ D.stepS.1.on = false ∧ D.armed = true) := by
  unfold DiskS.stepS
  rw [if_neg (by rw [hon]; decide)]
  split
  · rename_i ha
    exact .inr ⟨rfl, rfl, rfl, rfl, ha.1⟩
  · exact .inl ⟨rfl, rfl, rfl, hon, rfl⟩
theorem writeS_spec {D : DiskS} {x : PutM} (hv : Valid D x) (hon : D.on = true) :
    ((D.writeS x.1 x.2).2 = 0 ∧ (D.writeS x.1 x.2).1.lies = D.lies ∧ (D.writeS x.1 x.2).1.cache = D.cache ++ [x] ∧ (D.writeS x.1 x.2).1.on = true ∧ (D.writeS x.1 x.2).1.armed = D.armed) ∨
    ((D.writeS x.1 x.2).2 = 14 ∧ (D.writeS x.1 x.2).1.lies = D.lies ∧ (D.writeS x.1 x.2).1.cache = D.cache ∧ (D.writeS x.1 x.2).1.on = false ∧ D.armed = true) := by
  obtain ⟨h1, h2, h3⟩ := hv
  unfold DiskS.writeS
  rw [if_neg (by unfold DiskS.sectors; rintro (h | h | h) <;> omega)]
  rcases stepS_spec hon with ⟨g1, g2, g3, g4, g5⟩ | ⟨g1, g2, g3, g4, g5⟩
  · rw [if_pos g1]
    exact .inl ⟨rfl, g2, by rw [← g3], g4, g5⟩
  · rw [if_neg (by rw [g1]; decide)]
    exact .inr ⟨g1, g2, g3, g4, g5⟩
theorem writesS_spec (ps : List PutM) : ∀ {D : DiskS}, (∀ x ∈ ps, Valid D x) → D.on = true →
    ((D.writesS ps).2 = 0 ∧ (D.writesS ps).1.lies = D.lies ∧ (D.writesS ps).1.cache = D.cache ++ ps ∧ (D.writesS ps).1.on = true ∧ (D.writesS ps).1.armed = D.armed) ∨
    ((D.writesS ps).2 = 14 ∧ (D.writesS ps).1.lies = D.lies ∧ (∀ x ∈ (D.writesS ps).1.cache, x ∈ D.cache ∨ x ∈ ps) ∧ (D.writesS ps).1.on = false ∧ D.armed = true) := by
  induction ps with
  | nil => intro D _ hon; left; exact ⟨rfl, rfl, by simp [DiskS.writesS], hon, rfl⟩
  | cons p ps ih =>
    intro D hv hon
    unfold DiskS.writesS
    rcases writeS_spec (hv p (by simp)) hon with ⟨h1, h2, h3, h4, h5⟩ | ⟨h1, h2, h3, h4, h5⟩
    · rw [if_pos h1]
      have hv2 : ∀ x ∈ ps, Valid (D.writeS p.1 p.2).1 x := fun x hx => by
        have := hv x (List.mem_cons_of_mem _ hx)
        unfold Valid at this ⊢
        rw [h2]; exact this
      rcases ih hv2 h4 with ⟨g1, g2, g3, g4, g5⟩ | ⟨g1, g2, g3, g4, g5⟩
      · left
        exact ⟨g1, g2.trans h2, by rw [g3, h3]; simp, g4, g5.trans h5⟩
      · right
        refine ⟨g1, g2.trans h2, fun x hx => ?_, g4, h5 ▸ g5⟩
        rcases g3 x hx with h | h
        · rw [h3] at h
          simp at h
          rcases h with h | h
          · exact .inl h
          · exact .inr (by simp [h])
        · exact .inr (List.mem_cons_of_mem _ h)
    · rw [if_neg (by rw [h1]; decide)]
      right
      exact ⟨h1, h2, fun x hx => .inl (h3 ▸ hx), h4, h5⟩
theorem flushS_spec {D : DiskS} (hl : 0 < D.lies.length) (hon : D.on = true) :
    (D.flushS.2 = 0 ∧ D.flushS.1.lies = lay D.lies D.cache ∧ D.flushS.1.cache = [] ∧ D.flushS.1.on = true ∧ D.flushS.1.armed = D.armed) ∨
    (D.flushS.2 = 14 ∧ D.flushS.1.lies = D.lies ∧ D.flushS.1.cache = D.cache ∧ D.flushS.1.on = false ∧ D.armed = true) := by
  unfold DiskS.flushS
  rw [if_neg (by unfold DiskS.sectors; omega)]
  rcases stepS_spec hon with ⟨g1, g2, g3, g4, g5⟩ | ⟨g1, g2, g3, g4, g5⟩
  · rw [if_pos g1]
    refine .inl ⟨rfl, ?_, rfl, g4, g5⟩
    show DiskS.layAll _ _ _ = _
    rw [layAll_true, g2, g3]
  · rw [if_neg (by rw [g1]; decide)]
    exact .inr ⟨g1, g2, g3, g4, g5⟩
/-- A row of writes and a flush: done whole, or power went, and whatever is left of the cache Q holds. -/
theorem writeT_spec {Q : List Bs → Prop} {D : DiskS} {ps : List PutM} (hl : 0 < D.lies.length) (hv : ∀ x ∈ ps, Valid D x) (hon : D.on = true) (hq : Pend Q D) (hp : ∀ x ∈ ps, ∀ l, Q l → Q (l.set x.1.toNat x.2)) :
    ((D.writeF true ps).2 = 0 ∧ (D.writeF true ps).1.lies = lay (lay D.lies D.cache) ps ∧ (D.writeF true ps).1.cache = [] ∧ (D.writeF true ps).1.on = true ∧ (D.writeF true ps).1.armed = D.armed ∧ Q (D.writeF true ps).1.lies) ∨
    ((D.writeF true ps).2 = 14 ∧ (D.writeF true ps).1.on = false ∧ D.armed = true ∧ Pend Q (D.writeF true ps).1) := by
  unfold DiskS.writeF
  rcases writesS_spec ps hv hon with ⟨h1, h2, h3, h4, h5⟩ | ⟨h1, h2, h3, h4, h5⟩
  · rw [if_pos h1, if_pos rfl]
    have hq2 : Pend Q (D.writesS ps).1 := by
      refine ⟨by rw [h2]; exact hq.1, fun x hx => ?_⟩
      rw [h3] at hx
      rcases List.mem_append.1 hx with h | h
      · exact hq.2 x h
      · exact hp x h
    rcases flushS_spec (D := (D.writesS ps).1) (by rw [h2]; exact hl) h4 with ⟨g1, g2, g3, g4, g5⟩ | ⟨g1, g2, g3, g4, g5⟩
    · left
      refine ⟨g1, by rw [g2, h2, h3, lay_append], g3, g4, g5.trans h5, ?_⟩
      rw [g2]
      exact hq2.lay
    · right
      refine ⟨g1, g4, h5 ▸ g5, ?_⟩
      exact ⟨by rw [g2]; exact hq2.1, by rw [g3]; exact hq2.2⟩
  · rw [if_neg (by rw [h1]; decide)]
    right
    refine ⟨h1, h4, h5, by rw [h2]; exact hq.1, fun x hx => ?_⟩
    rcases h3 x hx with h | h
    · exact hq.2 x h
    · exact hp x h
/-- The same without a flush. -/
theorem writeN_spec {Q : List Bs → Prop} {D : DiskS} {ps : List PutM} (hv : ∀ x ∈ ps, Valid D x) (hon : D.on = true) (hq : Pend Q D) (hp : ∀ x ∈ ps, ∀ l, Q l → Q (l.set x.1.toNat x.2)) :
    ((D.writeF false ps).2 = 0 ∧ (D.writeF false ps).1.lies = D.lies ∧ (D.writeF false ps).1.cache = D.cache ++ ps ∧ (D.writeF false ps).1.on = true ∧ (D.writeF false ps).1.armed = D.armed ∧ Pend Q (D.writeF false ps).1) ∨
    ((D.writeF false ps).2 = 14 ∧ (D.writeF false ps).1.on = false ∧ D.armed = true ∧ Pend Q (D.writeF false ps).1) := by
  unfold DiskS.writeF
  rcases writesS_spec ps hv hon with ⟨h1, h2, h3, h4, h5⟩ | ⟨h1, h2, h3, h4, h5⟩
  · rw [if_pos h1, if_neg (by decide)]
    left
    refine ⟨rfl, h2, h3, h4, h5, by rw [h2]; exact hq.1, fun x hx => ?_⟩
    rw [h3] at hx
    rcases List.mem_append.1 hx with h | h
    · exact hq.2 x h
    · exact hp x h
  · rw [if_neg (by rw [h1]; decide)]
    right
    refine ⟨h1, h4, h5, by rw [h2]; exact hq.1, fun x hx => ?_⟩
    rcases h3 x hx with h | h
    · exact hq.2 x h
    · exact hp x h

/-! ### what a disk reads -/
theorem lookup_append (c : List PutM) (x : PutM) (a : Int) : DiskS.lookup (c ++ [x]) a = if x.1 = a then some x.2 else DiskS.lookup c a := by
  unfold DiskS.lookup
  rw [List.reverse_append]
  simp only [List.reverse_cons, List.reverse_nil, List.nil_append, List.singleton_append, List.find?_cons]
  by_cases h : x.1 = a
  · simp [h]
  · have : (x.1 == a) = false := by simpa using h
    simp [h, this]
theorem lay_lookup (l : List Bs) (i : Nat) (hi : i < l.length) (c : List PutM) (hc : ∀ x ∈ c, 0 ≤ x.1) : (lay l c)[i]? = some (match DiskS.lookup c i with | some s => s | none => l.getD i []) := by
  obtain ⟨d, hd⟩ : ∃ d, d = c.reverse := ⟨_, rfl⟩
  have hcd : c = d.reverse := by rw [hd]; simp
  clear hd
  subst hcd
  induction d with
  | nil => simp [DiskS.lookup, List.getD, hi]
  | cons x d ih =>
    have hc' : ∀ y ∈ d.reverse, 0 ≤ y.1 := fun y hy => hc y (by simp at hy ⊢; exact .inl hy)
    have hx0 : 0 ≤ x.1 := hc x (by simp)
    rw [List.reverse_cons, lay_append, lookup_append]
    simp only [lay_cons, lay_nil]
    by_cases h : x.1 = i
    · rw [if_pos h, List.getElem?_set]
      have : x.1.toNat = i := by omega
      rw [if_pos this, if_pos (by rw [lay_length]; omega)]
    · rw [if_neg h, List.getElem?_set_ne (by omega)]
      exact ih hc'
theorem readS_lay {D : DiskS} {i : Nat} (hi : i < D.lies.length) (hon : D.on = true) (hc : ∀ x ∈ D.cache, 0 ≤ x.1) {s : Bs} (h : (lay D.lies D.cache)[i]? = some s) : D.readS i = (s, 0) := by
  rw [lay_lookup _ _ hi _ hc] at h
  unfold DiskS.readS
  rw [if_neg (by unfold DiskS.sectors; omega), if_neg (by rw [hon]; decide)]
  injection h with h
  rw [← h]
  rfl
end Go.Proofs.YtbalbjhmboppoaaDoor
