/-
  PLAIN LEAN: a journal that is written, slot by slot.
  No condition.
-/
import Derived.Test.YtbalbjhmboppoaaDoorPE
set_option linter.unusedSimpArgs false
set_option linter.unusedVariables false
namespace Go.Proofs.YtbalbjhmboppoaaDoor
open Go.RowKit
/-! ### a journal that is written -/
section
variable {n : Nat} {lies : List Bs} {hp : Nat} {hs : Int} {all : List (List PutM)} {p : Nat} {s : Int} {S : List Bs}
theorem Core.s1 (h : Core n lies hp hs all p s S) : 1 ≤ s := by
  have := (chain_place h.chain h.hpm).2; have := h.hs1; omega
theorem Core.pm (h : Core n lies hp hs all p s S) : p < n - 1 := by
  rw [(chain_place h.chain h.hpm).1]; exact Nat.mod_lt _ (by have := h.n4; omega)
theorem Core.setData (h : Core n lies hp hs all p s S) {x : PutM} (hx : ∃ y ∈ all.flatten, y.1 = x.1) : Core n (lies.set x.1.toNat x.2) hp hs all p s S := by
  obtain ⟨y, hy, hyx⟩ := hx
  have ha := h.ats y hy
  have hn4 := h.n4
  have hlen := h.len
  have hn40 := h.n40
  have hf : ∀ j, sl (lies.set x.1.toNat x.2) n j = sl lies n j := fun j => sl_far (by omega) (.inr (by omega)) j _
  refine ⟨h.n4, h.n40, by simp [h.len], ?_, h.hpm, h.hs1, chain_same (by omega) (by omega) (by simp) h.chain (fun j _ => hf _), h.used, h.most, h.ats, h.sizes, h.slen, fun i hi => ?_⟩
  · rw [List.getElem?_set_ne (by omega)]; exact h.head
  · rw [lay_absorb ⟨y, hy, by rw [hyx]⟩]; exact h.data i hi
theorem Core.setSlot (h : Core n lies hp hs all p s S) (k : Nat) (hk : usedOf all + k < n - 1) (v : Bs) : Core n (lies.set (1 + (p + k) % (n - 1)) v) hp hs all p s S := by
  have hn4 := h.n4; have hlen := h.len; have hn40 := h.n40; have hpm := h.hpm
  have hpl := (chain_place h.chain h.hpm).1
  have hml := Nat.mod_lt (p + k) (show 0 < n - 1 by omega)
  refine ⟨h.n4, h.n40, by simp [h.len], ?_, h.hpm, h.hs1, chain_same (by omega) (by omega) (by simp) h.chain (fun j hj => ?_), h.used, h.most, h.ats, h.sizes, h.slen, fun i hi => ?_⟩
  · rw [List.getElem?_set_ne (by omega)]; exact h.head
  · rw [sl_set (by omega) (by omega), if_neg]
    rw [hpl, Nat.mod_add_mod, Nat.add_assoc]
    exact mod_ne (by omega) (by omega)
  · rw [lay_congr (l' := lies) (by simp) _ (by rw [List.getElem?_set_ne (by omega)])]
    exact h.data i hi
theorem fnd_zeros (hn : 2 ≤ n) (hl : n ≤ lies.length) (h : sl lies n p = zeros 256) : fnd lies n p s = [] := found_zeros (by rw [atB_sl hl hn]; exact h)
theorem fnd_torn (hn : 2 ≤ n) (hl : n ≤ lies.length) {ats : List Int} (h1 : 1 ≤ s) (h2 : s ≤ 1099511627776) (hal : ats.length ≤ 20) (hf : sl lies n p = firstB s ats) (hz : sl lies n (p + ats.length + 1) = zeros 256) : fnd lies n p s = [] :=
  found_torn h1 h2 hal (by rw [atB_sl hl hn]; exact hf) (by rw [atB_sl hl hn, show ((p : Int) + (ats.length : Int) + 1).toNat = p + ats.length + 1 by omega]; exact hz)

/-- The slot behind the chain is blank. -/
def Idle (n : Nat) (lies : List Bs) (hp : Nat) (hs : Int) (all : List (List PutM)) (p : Nat) (s : Int) (S : List Bs) : Prop := Core n lies hp hs all p s S ∧ sl lies n p = zeros 256
theorem Idle.toRec (h : Idle n lies hp hs all p s S) : Rec n lies hp hs all p s S :=
  ⟨h.1, fnd_zeros (by have := h.1.n4; omega) (by have := h.1.len; have := h.1.n40; omega) h.2⟩
theorem Idle.setData (h : Idle n lies hp hs all p s S) {x : PutM} (hx : ∃ y ∈ all.flatten, y.1 = x.1) : Idle n (lies.set x.1.toNat x.2) hp hs all p s S := by
  refine ⟨h.1.setData hx, ?_⟩
  obtain ⟨y, hy, hyx⟩ := hx
  have ha := h.1.ats y hy
  have := h.1.n4
  rw [sl_far (by omega) (.inr (by omega))]
  exact h.2
theorem sl_set' (h : Core n lies hp hs all p s S) (k j : Nat) (v : Bs) : sl (lies.set (1 + k % (n - 1)) v) n j = if j % (n - 1) = k % (n - 1) then v else sl lies n j :=
  sl_set (by have := h.len; have := h.n40; omega) (by have := h.n4; omega) k j v
theorem Idle.blank (h : Idle n lies hp hs all p s S) (k : Nat) (hk : usedOf all + k < n - 1) : Idle n (lies.set (1 + (p + k) % (n - 1)) (zeros 256)) hp hs all p s S := by
  refine ⟨h.1.setSlot k hk _, ?_⟩
  rw [sl_set' h.1]
  split
  · rfl
  · exact h.2
def Settled (n : Nat) (lies S : List Bs) : Prop := ∀ i, n ≤ i → lies[i]? = S[i]?
theorem Settled.setSlot (h : Settled n lies S) (hn : 2 ≤ n) (k : Nat) (v : Bs) : Settled n (lies.set (1 + k % (n - 1)) v) S := fun i hi => by
  have := Nat.mod_lt k (show 0 < n - 1 by omega)
  rw [List.getElem?_set_ne (by omega)]; exact h i hi

/-- A transaction's slots behind the chain, its last line not there. -/
structure Torn (n : Nat) (lies : List Bs) (hp : Nat) (hs : Int) (all : List (List PutM)) (p : Nat) (s : Int) (S : List Bs) (ats : List Int) : Prop where
  core : Core n lies hp hs all p s S
  al : ats.length ≤ 20
  fit : usedOf all + ats.length + 3 ≤ n - 1
  first : sl lies n p = zeros 256 ∨ sl lies n p = firstB s ats
  last : sl lies n (p + ats.length + 1) = zeros 256
  next : sl lies n (p + ats.length + 2) = zeros 256
  settled : Settled n lies S
variable {ats : List Int}
theorem Torn.toRec (h : Torn n lies hp hs all p s S ats) : Rec n lies hp hs all p s S := by
  have h1 := h.core.n4; have h2 := h.core.len; have h3 := h.core.n40; have h4 := h.core.s1; have h5 := h.core.most
  refine ⟨h.core, ?_⟩
  rcases h.first with hf | hf
  · exact fnd_zeros (by omega) (by omega) hf
  · exact fnd_torn (by omega) (by omega) h4 (by omega) h.al hf h.last
theorem Torn.setFirst (h : Torn n lies hp hs all p s S ats) : Torn n (lies.set (1 + (p + 0) % (n - 1)) (firstB s ats)) hp hs all p s S ats := by
  have hn := h.core.n4; have hfit := h.fit
  refine ⟨h.core.setSlot 0 (by omega) _, h.al, h.fit, .inr ?_, ?_, ?_, h.settled.setSlot (by omega) _ _⟩
  · rw [sl_set' h.core, if_pos (by simp)]
  · rw [sl_set' h.core, if_neg]
    · exact h.last
    · rw [Nat.add_assoc]; exact (mod_ne (by omega) (by omega)).symm
  · rw [sl_set' h.core, if_neg]
    · exact h.next
    · rw [Nat.add_assoc]; exact (mod_ne (by omega) (by omega)).symm
theorem Torn.setRow (h : Torn n lies hp hs all p s S ats) (i : Nat) (hi : i < ats.length) (v : Bs) : Torn n (lies.set (1 + (p + (1 + i)) % (n - 1)) v) hp hs all p s S ats := by
  have hn := h.core.n4; have hfit := h.fit
  refine ⟨h.core.setSlot (1 + i) (by omega) _, h.al, h.fit, ?_, ?_, ?_, h.settled.setSlot (by omega) _ _⟩
  · rw [sl_set' h.core, if_neg]
    · exact h.first
    · have := mod_ne (p := p) (i := 0) (j := 1 + i) (m := n - 1) (by omega) (by omega)
      simpa using this
  · rw [sl_set' h.core, if_neg]
    · exact h.last
    · rw [Nat.add_assoc]; exact (mod_ne (by omega) (by omega)).symm
  · rw [sl_set' h.core, if_neg]
    · exact h.next
    · rw [Nat.add_assoc]; exact (mod_ne (by omega) (by omega)).symm

/-- What is asked of a transaction. -/
structure PsOk (n : Nat) (ps : List PutM) : Prop where
  pos : 1 ≤ ps.length
  most : ps.length ≤ 20
  ats : ∀ x ∈ ps, (n : Int) ≤ x.1 ∧ x.1 < 40
  sizes : ∀ x ∈ ps, x.2.length = 256
/-- A transaction's slots behind the chain: all but the last line, which may be there. -/
structure Near (n : Nat) (lies : List Bs) (hp : Nat) (hs : Int) (all : List (List PutM)) (p : Nat) (s : Int) (S : List Bs) (ps : List PutM) : Prop where
  core : Core n lies hp hs all p s S
  ok : PsOk n ps
  fit : usedOf all + ps.length + 3 ≤ n - 1
  first : sl lies n p = firstB s (ps.map (·.1))
  rows : ∀ i (h : i < ps.length), sl lies n (p + 1 + i) = ps[i].2
  last : sl lies n (p + ps.length + 1) = zeros 256 ∨ sl lies n (p + ps.length + 1) = lastB s ps.length
  next : sl lies n (p + ps.length + 2) = zeros 256
  settled : Settled n lies S
  seq : s + 1 ≤ 1000000
variable {ps : List PutM}
theorem Near.setLast (h : Near n lies hp hs all p s S ps) : Near n (lies.set (1 + (p + (ps.length + 1)) % (n - 1)) (lastB s ps.length)) hp hs all p s S ps := by
  have hn := h.core.n4; have hfit := h.fit
  refine ⟨h.core.setSlot _ (by omega) _, h.ok, h.fit, ?_, fun i hi => ?_, .inr ?_, ?_, h.settled.setSlot (by omega) _ _, h.seq⟩
  · rw [sl_set' h.core, if_neg]
    · exact h.first
    · have := mod_ne (p := p) (i := 0) (j := ps.length + 1) (m := n - 1) (by omega) (by omega)
      simpa using this
  · rw [sl_set' h.core, if_neg]
    · exact h.rows i hi
    · rw [Nat.add_assoc]; exact mod_ne (by omega) (by omega)
  · rw [sl_set' h.core, if_pos (by rw [Nat.add_assoc])]
  · rw [sl_set' h.core, if_neg]
    · exact h.next
    · rw [Nat.add_assoc]; exact (mod_ne (by omega) (by omega)).symm
theorem Near.done (h : Near n lies hp hs all p s S ps) (hl : sl lies n (p + ps.length + 1) = lastB s ps.length) : Idle n lies hp hs (all ++ [ps]) ((p + ps.length + 2) % (n - 1)) (s + 1) (lay S ps) := by
  have hn := h.core.n4; have hfit := h.fit; have hlen := h.core.len; have h40 := h.core.n40; have hs1 := h.core.s1; have hmost := h.core.most
  have hat : ∀ (x : Int) (j : Nat), x = j → atB (slotsOf lies n) x = sl lies n j := fun x j hx => by rw [atB_sl (by omega) (by omega)]; congr 1; omega
  have hfd : fnd lies n p s = ps := by
    refine found_of_txn ⟨?_, ?_, ?_⟩ hs1 (by omega) h.ok.pos h.ok.most (by rw [slotsOf_length (by omega)]; omega) ?_
    · rw [hat _ p rfl]; exact h.first
    · intro i hi; rw [hat _ (p + 1 + i) (by omega)]; exact h.rows i hi
    · rw [hat _ (p + ps.length + 1) (by omega)]; exact hl
    · intro a ha
      simp only [List.mem_map] at ha
      obtain ⟨x, hx, rfl⟩ := ha
      have := h.ok.ats x hx
      omega
  have hne : ps ≠ [] := by have := h.ok.pos; intro e; rw [e] at this; simp at this
  refine ⟨⟨h.core.n4, h.core.n40, h.core.len, h.core.head, h.core.hpm, h.core.hs1, chain_snoc h.core.chain hfd hne, ?_, h.seq, ?_, ?_, by simp [h.core.slen], fun i hi => ?_⟩, ?_⟩
  · rw [usedOf_append]; simp; omega
  · intro x hx
    simp only [List.flatten_append, List.flatten_cons, List.flatten_nil, List.append_nil, List.mem_append] at hx
    rcases hx with hx | hx
    · exact h.core.ats x hx
    · exact h.ok.ats x hx
  · intro x hx
    simp only [List.flatten_append, List.flatten_cons, List.flatten_nil, List.append_nil, List.mem_append] at hx
    rcases hx with hx | hx
    · exact h.core.sizes x hx
    · exact h.ok.sizes x hx
  · simp only [List.flatten_append, List.flatten_cons, List.flatten_nil, List.append_nil]
    rw [lay_append]
    exact lay_congr (by simp [h.core.slen, hlen]) _ (h.core.data i hi)
  · rw [sl_mod]; exact h.next
theorem Near.toRec (h : Near n lies hp hs all p s S ps) (hl : sl lies n (p + ps.length + 1) = zeros 256) : Rec n lies hp hs all p s S := by
  have h1 := h.core.n4
  have h2 := h.core.len
  have h3 := h.core.n40
  have h4 := h.core.s1
  have h5 := h.core.most
  have h6 : (ps.map (·.1)).length = ps.length := List.length_map ..
  have hf := h.first
  have hm := h.ok.most
  have hc := h.core
  clear h
  obtain ⟨ats, hats⟩ : ∃ ats, ats = ps.map (·.1) := ⟨_, rfl⟩
  rw [← hats] at h6 hf
  rw [← h6] at hl hm
  exact ⟨hc, fnd_torn (by omega) (by omega) h4 (by omega) hm hf hl⟩
end
/-- What can be had of a journal, with how great a number at most. -/
def Recov (n : Nat) (lies S : List Bs) (k : Int) : Prop := ∃ hp hs all p s, Rec n lies hp hs all p s S ∧ s ≤ k
end Go.Proofs.YtbalbjhmboppoaaDoor
