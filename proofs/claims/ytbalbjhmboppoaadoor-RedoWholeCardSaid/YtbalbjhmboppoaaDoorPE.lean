/-
  PLAIN LEAN: the slots of a journal, a chain of transactions, what a scan finds.
  No condition.
-/
import Derived.Test.YtbalbjhmboppoaaDoorPD
set_option linter.unusedSimpArgs false
set_option linter.unusedVariables false
namespace Go.Proofs.YtbalbjhmboppoaaDoor
open Go.RowKit
/-! ### the slots, which go round -/
def slotsOf (lies : List Bs) (n : Nat) : List Bs := (lies.take n).tail
theorem slotsOf_length {lies : List Bs} {n : Nat} (h : n ≤ lies.length) : (slotsOf lies n).length = n - 1 := by simp [slotsOf]; omega
theorem slotsOf_get {lies : List Bs} {n i : Nat} (hi : i < n - 1) : (slotsOf lies n)[i]? = lies[i + 1]? := by
  simp [slotsOf, List.getElem?_take]; omega
theorem slotsOf_getD {lies : List Bs} {n i : Nat} (hi : i < n - 1) : (slotsOf lies n).getD i [] = lies.getD (i + 1) [] := by
  simp only [List.getD, slotsOf_get hi]
/-- The slot so far from the first one, as it lies. -/
def sl (lies : List Bs) (n : Nat) (j : Nat) : Bs := lies.getD (1 + j % (n - 1)) []
theorem atB_sl {lies : List Bs} {n : Nat} (h : n ≤ lies.length) (hn : 2 ≤ n) (x : Int) : atB (slotsOf lies n) x = sl lies n x.toNat := by
  unfold atB sl
  rw [slotsOf_length h, slotsOf_getD (Nat.mod_lt _ (by omega)), Nat.add_comm]
theorem sl_set {lies : List Bs} {n : Nat} (h : n ≤ lies.length) (hn : 2 ≤ n) (k j : Nat) (v : Bs) : sl (lies.set (1 + k % (n - 1)) v) n j = if j % (n - 1) = k % (n - 1) then v else sl lies n j := by
  unfold sl
  have hk := Nat.mod_lt k (show 0 < n - 1 by omega)
  simp only [List.getD, List.getElem?_set]
  by_cases hj : j % (n - 1) = k % (n - 1)
  · rw [if_pos (by rw [hj]), if_pos (by omega), if_pos hj]; rfl
  · rw [if_neg (by omega), if_neg hj]
theorem sl_far {lies : List Bs} {n a : Nat} (hn : 2 ≤ n) (ha : a = 0 ∨ n ≤ a) (j : Nat) (v : Bs) : sl (lies.set a v) n j = sl lies n j := by
  unfold sl
  have hj := Nat.mod_lt j (show 0 < n - 1 by omega)
  simp only [List.getD]
  rw [List.getElem?_set_ne (by omega)]
theorem sl_mod (lies : List Bs) (n j : Nat) : sl lies n (j % (n - 1)) = sl lies n j := by unfold sl; rw [Nat.mod_mod]
theorem mod_inj {a b m : Nat} (h : a % m = b % m) (h1 : a ≤ b) (h2 : b < a + m) : a = b := by
  have h3 : (b - a) % m = 0 := Nat.sub_mod_eq_zero_of_mod_eq h.symm
  have h4 : b - a < m := by omega
  rw [Nat.mod_eq_of_lt h4] at h3
  omega
theorem mod_ne {p i j m : Nat} (h1 : i < j) (h2 : j < i + m) : (p + i) % m ≠ (p + j) % m := fun h => by
  have := mod_inj h (by omega) (by omega)
  omega

/-! ### a chain of transactions -/
/-- The transaction that is found at a slot, as the disk lies. -/
def fnd (lies : List Bs) (n : Nat) (p : Nat) (s : Int) : List PutM := foundS (slotsOf lies n) p s
def Chain (lies : List Bs) (n : Nat) : Nat → Int → List (List PutM) → Nat → Int → Prop
  | p, s, [], p', s' => p = p' ∧ s = s'
  | p, s, ps :: all, p', s' => fnd lies n p s = ps ∧ ps ≠ [] ∧ Chain lies n ((p + ps.length + 2) % (n - 1)) (s + 1) all p' s'
def usedOf (all : List (List PutM)) : Nat := (all.map fun ps => ps.length + 2).sum
@[simp] theorem usedOf_nil : usedOf [] = 0 := rfl
@[simp] theorem usedOf_cons (ps : List PutM) (all : List (List PutM)) : usedOf (ps :: all) = ps.length + 2 + usedOf all := by simp [usedOf]
theorem usedOf_append (a b : List (List PutM)) : usedOf (a ++ b) = usedOf a + usedOf b := by simp [usedOf]
theorem chain_place {lies : List Bs} {n : Nat} : ∀ {all : List (List PutM)} {p : Nat} {s : Int} {p' : Nat} {s' : Int}, Chain lies n p s all p' s' → p < n - 1 → p' = (p + usedOf all) % (n - 1) ∧ s' = s + all.length
  | [], p, s, p', s', h, hp => by
    obtain ⟨rfl, rfl⟩ := h
    simp [Nat.mod_eq_of_lt hp]
  | ps :: all, p, s, p', s', h, hp => by
    obtain ⟨h1, h2, h3⟩ := h
    obtain ⟨e1, e2⟩ := chain_place h3 (Nat.mod_lt _ (by omega))
    constructor
    · rw [e1, usedOf_cons, Nat.mod_add_mod]; congr 1; omega
    · rw [e2]; simp; omega
theorem chain_snoc {lies : List Bs} {n : Nat} {ps : List PutM} : ∀ {all : List (List PutM)} {p : Nat} {s : Int} {p' : Nat} {s' : Int}, Chain lies n p s all p' s' → fnd lies n p' s' = ps → ps ≠ [] →
    Chain lies n p s (all ++ [ps]) ((p' + ps.length + 2) % (n - 1)) (s' + 1)
  | [], p, s, p', s', h, hf, hne => by
    obtain ⟨rfl, rfl⟩ := h
    exact ⟨hf, hne, rfl, rfl⟩
  | qs :: all, p, s, p', s', h, hf, hne => by
    obtain ⟨h1, h2, h3⟩ := h
    exact ⟨h1, h2, chain_snoc h3 hf hne⟩
theorem chain_len {lies : List Bs} {n : Nat} : ∀ {all : List (List PutM)} {p : Nat} {s : Int} {p' : Nat} {s' : Int}, Chain lies n p s all p' s' → 3 * all.length ≤ usedOf all
  | [], _, _, _, _, _ => by simp
  | ps :: all, p, s, p', s', h => by
    obtain ⟨h1, h2, h3⟩ := h
    have := chain_len h3
    have : 0 < ps.length := List.length_pos_iff.2 h2
    simp; omega
theorem fnd_same {lies lies' : List Bs} {n p : Nat} {s : Int} {ps : List PutM} (hn : 2 ≤ n) (hl : n ≤ lies.length) (hl' : lies'.length = lies.length) (h : fnd lies n p s = ps) (hne : ps ≠ [])
    (hs : ∀ j, j < ps.length + 2 → sl lies' n (p + j) = sl lies n (p + j)) : fnd lies' n p s = ps := by
  have hb : n ≤ lies'.length := by omega
  have key : ∀ (x : Int) (j : Nat), x = p + j → j < ps.length + 2 → atB (slotsOf lies' n) x = atB (slotsOf lies n) x := by
    intro x j hx hj
    rw [atB_sl hb hn, atB_sl hl hn, show x.toNat = p + j by omega, hs j hj]
  refine found_same h hne (by rw [slotsOf_length hb, slotsOf_length hl]) (key _ 0 (by omega) (by omega)) (fun i hi => key _ (1 + i) (by omega) (by omega)) (key _ (ps.length + 1) (by omega) (by omega))
theorem chain_same {lies lies' : List Bs} {n : Nat} (hn : 2 ≤ n) (hl : n ≤ lies.length) (hl' : lies'.length = lies.length) : ∀ {all : List (List PutM)} {p : Nat} {s : Int} {p' : Nat} {s' : Int}, Chain lies n p s all p' s' →
    (∀ j, j < usedOf all → sl lies' n (p + j) = sl lies n (p + j)) → Chain lies' n p s all p' s'
  | [], p, s, p', s', h, _ => h
  | ps :: all, p, s, p', s', h, hs => by
    obtain ⟨h1, h2, h3⟩ := h
    refine ⟨fnd_same hn hl hl' h1 h2 (fun j hj => hs j (by simp; omega)), h2, chain_same hn hl hl' h3 (fun j hj => ?_)⟩
    have e : ∀ l : List Bs, sl l n ((p + ps.length + 2) % (n - 1) + j) = sl l n (p + (ps.length + 2 + j)) := fun l => by
      rw [← sl_mod, Nat.mod_add_mod, sl_mod]; congr 1; omega
    rw [e, e]
    exact hs _ (by simp; omega)
theorem scanGo_chain {lies : List Bs} {n : Nat} (hl : n ≤ lies.length) : ∀ {all : List (List PutM)} {p : Nat} {s : Int} {p' : Nat} {s' : Int} {f used : Nat}, Chain lies n p s all p' s' → fnd lies n p' s' = [] → used + usedOf all ≤ n - 1 → all.length < f →
    scanGo (slotsOf lies n) f p s used = (p', s', all)
  | [], p, s, p', s', f + 1, used, h, hf, hu, hfu => by
    obtain ⟨rfl, rfl⟩ := h
    unfold fnd at hf
    unfold scanGo
    rw [hf, if_pos (.inl rfl)]
  | ps :: all, p, s, p', s', f + 1, used, h, hf, hu, hfu => by
    obtain ⟨h1, h2, h3⟩ := h
    have hp : 0 < ps.length := List.length_pos_iff.2 h2
    simp at hu hfu
    unfold fnd at h1
    have ih := scanGo_chain hl (f := f) (used := used + (ps.length + 2)) h3 hf (by omega) hfu
    unfold scanGo
    rw [h1, slotsOf_length hl, if_neg (by omega), ih]
  | [], _, _, _, _, 0, _, _, _, _, h => absurd h (by simp)
  | _ :: _, _, _, _, _, 0, _, _, _, _, h => absurd h (by simp)

/-! ### a journal as it lies -/
structure Core (n : Nat) (lies : List Bs) (hp : Nat) (hs : Int) (all : List (List PutM)) (p : Nat) (s : Int) (S : List Bs) : Prop where
  n4 : 4 ≤ n
  n40 : n ≤ 40
  len : lies.length = 40
  head : lies[0]? = some (headB hp hs)
  hpm : hp < n - 1
  hs1 : 1 ≤ hs
  chain : Chain lies n hp hs all p s
  used : usedOf all + 1 ≤ n - 1
  most : s ≤ 1000000
  ats : ∀ x ∈ all.flatten, (n : Int) ≤ x.1 ∧ x.1 < 40
  sizes : ∀ x ∈ all.flatten, x.2.length = 256
  slen : S.length = 40
  data : ∀ i, n ≤ i → (lay lies all.flatten)[i]? = S[i]?
def Rec (n : Nat) (lies : List Bs) (hp : Nat) (hs : Int) (all : List (List PutM)) (p : Nat) (s : Int) (S : List Bs) : Prop := Core n lies hp hs all p s S ∧ fnd lies n p s = []
theorem Rec.scan {n : Nat} {lies : List Bs} {hp : Nat} {hs : Int} {all : List (List PutM)} {p : Nat} {s : Int} {S : List Bs} (hr : Rec n lies hp hs all p s S) : scanS (lies.take n) = ⟨p, s, all, true⟩ := by
  obtain ⟨h, hstop⟩ := hr
  have hlen := h.len; have hn4 := h.n4; have hn40 := h.n40; have hpm := h.hpm; have hs1 := h.hs1; have hmost := h.most
  have hlt : (lies.take n).length = n := by simp; omega
  have htl : (lies.take n).tail.length = n - 1 := by simp; omega
  have hhd : (lies.take n).headD [] = headB hp hs := by
    rw [List.headD_eq_head?_getD, List.head?_eq_getElem?, List.getElem?_take, if_pos (by omega), h.head, Option.getD_some]
  obtain ⟨-, hss⟩ := chain_place h.chain h.hpm
  have hr : rtextS (headB hp hs) [83, 67, 72] = some (kpB hp 65535 ++ kpB hs 1099511627776) := by
    rw [headB_eq]
    apply rtext_line
    have h1 := kpB_le hp 65535
    have h2 := kpB_le hs 1099511627776
    apply fits5_of
    rw [sealB_len]
    simp only [List.length_append, List.length_cons, List.length_nil]; omega
  have h1 : numS ⟨kpB hp 65535 ++ kpB hs 1099511627776, false⟩ 65535 = (⟨kpB hs 1099511627776, false⟩, hp) := by
    rw [kpB_nat (by omega)]
    exact numS_put (by omega) (by omega) _
  have h2 : numS ⟨kpB hs 1099511627776, false⟩ 549755813888 = (⟨[], false⟩, hs.toNat) := by
    rw [kpB_int (by omega) (by omega)]
    have := numS_put (n := hs.toNat) (most := 549755813888) (by omega) (by omega) []
    rwa [List.append_nil] at this
  have hcl := chain_len h.chain
  have hu := h.used
  have hgo := scanGo_chain (by omega) (f := n - 1 + 1) (used := 0) h.chain hstop (by omega) (by omega)
  unfold scanS
  rw [if_neg (by omega), hhd, hr]
  dsimp only
  rw [h1]
  dsimp only
  rw [h2]
  dsimp only
  rw [htl, show ((hs.toNat : Nat) : Int) = hs by omega]
  rw [if_neg (by simp [endS]; omega)]
  unfold slotsOf at hgo
  rw [hgo]
end Go.Proofs.YtbalbjhmboppoaaDoor
