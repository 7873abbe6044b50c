/-
  PLAIN LEAN: Commit on a journal.
  No condition.
-/
import Derived.Test.YtbalbjhmboppoaaDoorPG
set_option linter.unusedSimpArgs false
set_option linter.unusedVariables false
namespace Go.Proofs.YtbalbjhmboppoaaDoor
open Go.RowKit
attribute [local irreducible] headB firstB lastB lineB zeros fillB
section
variable {n : Nat} {D : DiskS} {L : LogS} {S : List Bs} {hp : Nat} {hs : Int} {all : List (List PutM)} {p : Nat} {ps : List PutM}
theorem valid_slot (h : Live n D L S hp hs all p) {D' : DiskS} (hl : D'.lies.length = 40) (i : Nat) (x : Int) (hx : x = i) {s : Bs} (hs2 : s.length = 256) : Valid D' (slotAt L x, s) := by
  have := slot_valid h i x hx
  exact Valid.of this.1 (by omega) hs2
theorem mem_rowsOf {x : PutM} (h : x ∈ rowsOf L ps) : ∃ i, ∃ hi : i < ps.length, x = (slotAt L (1 + (i : Int)), ps[i].2) := by
  unfold rowsOf at h
  rw [List.mem_mapIdx] at h
  obtain ⟨i, hi, rfl⟩ := h
  exact ⟨i, hi, rfl⟩
theorem rows_laid (h : Live n D L S hp hs all p) {ats : List Int} (hN : ats.length = ps.length) (l : List Bs) (hT : Torn n l hp hs all p L.seq S ats) : ∀ k, k ≤ ps.length →
    Torn n (lay l (rowsOf L (ps.take k))) hp hs all p L.seq S ats ∧ sl (lay l (rowsOf L (ps.take k))) n p = sl l n p ∧ ∀ i (hi : i < ps.length), i < k → sl (lay l (rowsOf L (ps.take k))) n (p + 1 + i) = ps[i].2
  | 0, _ => by
    have e : rowsOf L (ps.take 0) = [] := by simp [rowsOf]
    rw [e]
    exact ⟨hT, rfl, fun i _ hi => absurd hi (by omega)⟩
  | k + 1, hk => by
    obtain ⟨h1, h2, h3⟩ := rows_laid h hN l hT k (by omega)
    have hlt : k < ps.length := by omega
    have hfit := hT.fit
    have e : rowsOf L (ps.take (k + 1)) = rowsOf L (ps.take k) ++ [(slotAt L (1 + (k : Int)), ps[k].2)] := by
      rw [List.take_succ_eq_append_getElem hlt, rowsOf_snoc]
      simp only [List.length_take]
      rw [show min k ps.length = k by omega]
    obtain ⟨l', hl'⟩ : ∃ l', l' = lay l (rowsOf L (ps.take k)) := ⟨_, rfl⟩
    rw [← hl'] at h1 h2 h3
    have e2 : lay l (rowsOf L (ps.take (k + 1))) = l'.set (1 + (p + (1 + k)) % (n - 1)) ps[k].2 := by
      rw [e, lay_append, ← hl']
      simp only [lay_cons, lay_nil]
      rw [(slot_nat h (1 + k) (1 + (k : Int)) (by omega)).2]
    rw [e2]
    refine ⟨h1.setRow k (by omega) _, ?_, fun i hi hik => ?_⟩
    · rw [sl_set' h1.core, if_neg]
      · exact h2
      · have := mod_ne (p := p) (i := 0) (j := 1 + k) (m := n - 1) (by omega) (by omega)
        simpa using this
    · rw [sl_set' h1.core]
      by_cases hik2 : i = k
      · subst hik2
        rw [if_pos (by rw [Nat.add_assoc])]
      · rw [if_neg]
        · exact h3 i hi (by omega)
        · rw [Nat.add_assoc]; exact mod_ne (by omega) (by omega)

theorem commitL_spec (h : Live n D L S hp hs all p) (hps : PsOk n ps) (hfit : usedOf all + ps.length + 3 ≤ n - 1) (hseq : L.seq + 1 ≤ 1000000) :
    ((commitL L D ps).err = 0 ∧ Live n (commitL L D ps).disk (commitL L D ps).log (lay S ps) hp hs (all ++ [ps]) ((p + ps.length + 2) % (n - 1)) ∧ (commitL L D ps).log.seq = L.seq + 1 ∧ (commitL L D ps).disk.armed = D.armed) ∨
    ((commitL L D ps).err = 14 ∧ (commitL L D ps).log.broken = true ∧ D.armed = true ∧ (commitL L D ps).disk.on = false ∧ Dark n (commitL L D ps).disk S (lay S ps) (L.seq + 1)) := by
  have hn := h.core.n4
  have hlen := h.core.len
  have hpos := hps.pos
  have hmost := hps.most
  obtain ⟨ats, hats⟩ : ∃ ats, ats = ps.map (·.1) := ⟨_, rfl⟩
  have hal : ats.length = ps.length := by rw [hats]; simp
  -- blanks
  have s1 := slot_nat h (ps.length + 1) ((ps.length : Int) + 1) (by omega)
  have s2 := slot_nat h (ps.length + 2) ((ps.length : Int) + 2) (by omega)
  have hv1 : ∀ x ∈ blanks L ps.length, Valid D x := by
    intro x hx
    unfold blanks at hx
    rcases List.mem_cons.1 hx with rfl | hx
    · exact valid_slot h hlen _ _ rfl (zeros_length 256)
    · obtain rfl := List.mem_singleton.1 hx
      exact valid_slot h hlen _ _ rfl (zeros_length 256)
  have hc1 : ∀ x ∈ blanks L ps.length, ∀ l, Idle n l hp hs all p L.seq S → Idle n (l.set x.1.toNat x.2) hp hs all p L.seq S := by
    intro x hx l hl
    unfold blanks at hx
    rcases List.mem_cons.1 hx with rfl | hx
    · show Idle n (l.set (slotAt L ((ps.length : Int) + 1)).toNat (zeros 256)) _ _ _ _ _ _
      rw [s1.2]
      exact hl.blank _ (by omega)
    · obtain rfl := List.mem_singleton.1 hx
      show Idle n (l.set (slotAt L ((ps.length : Int) + 2)).toNat (zeros 256)) _ _ _ _ _ _
      rw [s2.2]
      exact hl.blank _ (by omega)
  unfold commitL
  rcases writeT_spec (by omega) hv1 h.on h.pend hc1 with ⟨a1, a2, a3, a4, a5, a6⟩ | ⟨a1, a2, a3, a4⟩
  case inr =>
    right
    rw [if_neg (by rw [a1]; decide)]
    dsimp only
    rw [a1]
    exact ⟨rfl, by simp [triedS], a3, a2, Dark.of _ a4 (fun l hl => ⟨_, _, _, _, _, hl.toRec, by omega⟩)⟩
  rw [if_pos a1]
  obtain ⟨D1, hD1⟩ : ∃ D1, D1 = (D.writeF true (blanks L ps.length)).1 := ⟨_, rfl⟩
  rw [← hD1] at a2 a3 a4 a5 a6 ⊢
  clear hv1 hc1 hD1
  obtain ⟨l0, hl0⟩ : ∃ l0, l0 = lay D.lies D.cache := ⟨_, rfl⟩
  have hI0 : Idle n l0 hp hs all p L.seq S := by rw [hl0]; exact h.pend.lay
  have hS0 : Settled n l0 S := fun i hi => by rw [hl0]; exact h.view i hi
  have e1 : D1.lies = (l0.set (1 + (p + (ps.length + 1)) % (n - 1)) (zeros 256)).set (1 + (p + (ps.length + 2)) % (n - 1)) (zeros 256) := by
    rw [a2, ← hl0]
    unfold blanks
    simp only [lay_cons, lay_nil]
    rw [s1.2, s2.2]
  have hT1 : Torn n D1.lies hp hs all p L.seq S ats := by
    have hI1 := hI0.blank (ps.length + 1) (by omega)
    have hI2 := hI1.blank (ps.length + 2) (by omega)
    rw [← e1] at hI2
    refine ⟨hI2.1, by omega, by omega, .inl hI2.2, ?_, ?_, ?_⟩
    · rw [e1, sl_set' hI1.1, if_neg, sl_set' hI0.1, if_pos]
      · rw [hal, Nat.add_assoc]
      · rw [hal, Nat.add_assoc]; exact mod_ne (by omega) (by omega)
    · rw [e1, sl_set' hI1.1, if_pos]
      rw [hal, Nat.add_assoc]
    · rw [e1]; exact (hS0.setSlot (by omega) _ _).setSlot (by omega) _ _
  clear e1 hI0 hS0 hl0 a2 a6
  -- the transaction's first line, its rows
  have s0 := slot_nat h 0 0 (by omega)
  have hv2 : ∀ x ∈ txnRows L ps, Valid D1 x := by
    intro x hx
    unfold txnRows at hx
    rcases List.mem_cons.1 hx with rfl | hx
    · refine valid_slot h hT1.core.len 0 _ rfl (firstB_256 ?_)
      rw [List.length_map]; exact hmost
    · obtain ⟨i, hi, rfl⟩ := mem_rowsOf hx
      exact valid_slot h hT1.core.len (1 + i) _ (by omega) (hps.sizes _ (List.getElem_mem hi))
  have hc2 : ∀ x ∈ txnRows L ps, ∀ l, Torn n l hp hs all p L.seq S ats → Torn n (l.set x.1.toNat x.2) hp hs all p L.seq S ats := by
    intro x hx l hl
    unfold txnRows at hx
    rcases List.mem_cons.1 hx with rfl | hx
    · show Torn n (l.set (slotAt L 0).toNat (firstB L.seq (ps.map (·.1)))) _ _ _ _ _ _ _
      rw [s0.2, ← hats]
      exact hl.setFirst
    · obtain ⟨i, hi, rfl⟩ := mem_rowsOf hx
      show Torn n (l.set (slotAt L (1 + (i : Int))).toNat ps[i].2) _ _ _ _ _ _ _
      rw [(slot_nat h (1 + i) (1 + (i : Int)) (by omega)).2]
      exact hl.setRow i (by omega) _
  unfold commit1
  rcases writeT_spec (Q := fun l => Torn n l hp hs all p L.seq S ats) (by have := hT1.core.len; omega) hv2 a4 ⟨hT1, by rw [a3]; simp⟩ hc2 with ⟨b1, b2, b3, b4, b5, b6⟩ | ⟨b1, b2, b3, b4⟩
  case inr =>
    right
    rw [if_neg (by rw [b1]; decide)]
    dsimp only
    rw [b1]
    exact ⟨rfl, by simp [triedS], a5 ▸ b3, b2, Dark.of _ b4 (fun l hl => ⟨_, _, _, _, _, hl.toRec, by omega⟩)⟩
  rw [if_pos b1]
  obtain ⟨D2, hD2⟩ : ∃ D2, D2 = (D1.writeF true (txnRows L ps)).1 := ⟨_, rfl⟩
  rw [← hD2] at b2 b3 b4 b5 b6 ⊢
  clear hv2 hc2 hD2
  have hN2 : Near n D2.lies hp hs all p L.seq S ps := by
    have hTf := hT1.setFirst
    obtain ⟨r1, r2, r3⟩ := rows_laid (ps := ps) h hal _ hTf ps.length (Nat.le_refl _)
    rw [List.take_of_length_le (Nat.le_refl _)] at r1 r2 r3
    have e2 : D2.lies = lay (D1.lies.set (1 + (p + 0) % (n - 1)) (firstB L.seq ats)) (rowsOf L ps) := by
      rw [b2, a3, lay_nil]
      unfold txnRows
      rw [lay_cons]
      dsimp only
      rw [s0.2, hats]
    rw [← e2] at r1 r2 r3
    refine ⟨r1.core, hps, hfit, ?_, fun i hi => r3 i hi hi, .inl ?_, ?_, r1.settled, hseq⟩
    · rw [r2, sl_set' hT1.core, if_pos (by simp), hats]
    · have := r1.last; rwa [hal] at this
    · have := r1.next; rwa [hal] at this
  clear b2 b6 hT1 s0
  -- its last line
  have hv3 : ∀ x ∈ lastRow L ps.length, Valid D2 x := by
    intro x hx
    unfold lastRow at hx
    obtain rfl := List.mem_singleton.1 hx
    exact valid_slot h hN2.core.len _ _ rfl (lastB_256 _ _)
  have hc3 : ∀ x ∈ lastRow L ps.length, ∀ l, Near n l hp hs all p L.seq S ps → Near n (l.set x.1.toNat x.2) hp hs all p L.seq S ps := by
    intro x hx l hl
    unfold lastRow at hx
    obtain rfl := List.mem_singleton.1 hx
    show Near n (l.set (slotAt L ((ps.length : Int) + 1)).toNat (lastB L.seq ps.length)) _ _ _ _ _ _ _
    rw [s1.2]
    exact hl.setLast
  unfold commit2
  rcases writeT_spec (Q := fun l => Near n l hp hs all p L.seq S ps) (by have := hN2.core.len; omega) hv3 b4 ⟨hN2, by rw [b3]; simp⟩ hc3 with ⟨c1, c2, c3, c4, c5, c6⟩ | ⟨c1, c2, c3, c4⟩
  case inr =>
    right
    rw [if_neg (by rw [c1]; decide)]
    dsimp only
    rw [c1]
    refine ⟨rfl, by simp [triedS], a5 ▸ b5 ▸ c3, c2, _, c4, fun l hl => ?_⟩
    rcases hl.last with hz | hz
    · exact .inl ⟨_, _, _, _, _, hl.toRec hz, by omega⟩
    · exact .inr ⟨_, _, _, _, _, (hl.done hz).toRec, by omega⟩
  rw [if_pos c1]
  obtain ⟨D3, hD3⟩ : ∃ D3, D3 = (D2.writeF true (lastRow L ps.length)).1 := ⟨_, rfl⟩
  rw [← hD3] at c2 c3 c4 c5 c6 ⊢
  clear hv3 hc3 hD3
  have hI3 : Idle n D3.lies hp hs (all ++ [ps]) ((p + ps.length + 2) % (n - 1)) (L.seq + 1) (lay S ps) := by
    refine c6.done ?_
    rw [c2, b3, lay_nil]
    unfold lastRow
    simp only [lay_cons, lay_nil]
    rw [s1.2, sl_set' hN2.core, if_pos (by rw [Nat.add_assoc])]
  have hset := c6.settled
  clear hN2 c2 c6
  -- its writes
  have hv4 : ∀ x ∈ ps, Valid D3 x := fun x hx => by
    have h1 := hps.ats x hx
    have h2 := hI3.1.len
    exact Valid.of (by omega) (by omega) (hps.sizes x hx)
  have hc4 : ∀ x ∈ ps, ∀ l, Idle n l hp hs (all ++ [ps]) ((p + ps.length + 2) % (n - 1)) (L.seq + 1) (lay S ps) → Idle n (l.set x.1.toNat x.2) hp hs (all ++ [ps]) ((p + ps.length + 2) % (n - 1)) (L.seq + 1) (lay S ps) :=
    fun x hx l hl => hl.setData ⟨x, by simp [hx], rfl⟩
  unfold commit3
  rcases writeN_spec (Q := fun l => Idle n l hp hs (all ++ [ps]) ((p + ps.length + 2) % (n - 1)) (L.seq + 1) (lay S ps)) hv4 c4 ⟨hI3, by rw [c3]; simp⟩ hc4 with ⟨d1, d2, d3, d4, d5, d6⟩ | ⟨d1, d2, d3, d4⟩
  case inr =>
    right
    dsimp only
    rw [d1]
    exact ⟨rfl, by simp [triedS], a5 ▸ b5 ▸ c5 ▸ d3, d2, ⟨_, d4, fun l hl => .inr ⟨_, _, _, _, _, hl.toRec, by omega⟩⟩⟩
  left
  dsimp only
  rw [d1]
  refine ⟨rfl, ⟨d4, ?_, h.base, h.size, ?_, ?_, d6, fun i hi => ?_⟩, rfl, by rw [d5, c5, b5, a5]⟩
  · show (L.broken || decide _) = false
    rw [h.whole]; rfl
  · show (L.place + ((ps.length : Int) + 2)).tmod (L.size - 1) = _
    rw [h.place, h.size, show ((p : Int) + ((ps.length : Int) + 2)) = ((p + ps.length + 2 : Nat) : Int) by omega, show ((n : Int) - 1) = ((n - 1 : Nat) : Int) by omega]
    rfl
  · show L.used + ((ps.length : Int) + 2) = _
    rw [h.used, usedOf_append]; simp
  · rw [d2, d3, c3, List.nil_append]
    exact lay_congr (by rw [hI3.1.len, h.core.slen]) _ (hset i hi)
end
end Go.Proofs.YtbalbjhmboppoaaDoor
