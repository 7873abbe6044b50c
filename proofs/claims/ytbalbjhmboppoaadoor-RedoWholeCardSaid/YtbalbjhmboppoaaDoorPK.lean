/-
  PLAIN LEAN: a new journal.
  No condition.
-/
import Derived.Test.YtbalbjhmboppoaaDoorPJ
set_option linter.unusedSimpArgs false
set_option linter.unusedVariables false
namespace Go.Proofs.YtbalbjhmboppoaaDoor
open Go.RowKit
attribute [local irreducible] headB firstB lastB lineB zeros fillB
/-- All bytes 0. -/
def blankS (n : Nat) : List Bs := List.replicate n (zeros 256)
theorem new_eq (n : Nat) : DiskS.new n = ⟨blankS n, [], true, false, 0, 0⟩ := rfl
theorem blankS_get {n i : Nat} (h : i < n) : (blankS n)[i]? = some (zeros 256) := by
  unfold blankS; rw [List.getElem?_replicate, if_pos h]
theorem blankS_getD {n i : Nat} (h : i < n) : (blankS n).getD i [] = zeros 256 := by rw [List.getD, blankS_get h, Option.getD_some]
/-- A head, nothing behind it. -/
theorem rec_blank {n : Nat} {lies : List Bs} (h4 : 4 ≤ n) (h40 : n ≤ 40) (hl : lies.length = 40) (h0 : lies[0]? = some (headB 0 1)) (hz : ∀ i, 1 ≤ i → i < 40 → lies[i]? = some (zeros 256)) : Rec n lies 0 1 [] 0 1 (blankS 40) := by
  have hsl : sl lies n 0 = zeros 256 := by
    unfold sl
    rw [Nat.zero_mod, List.getD, hz (1 + 0) (by omega) (by omega), Option.getD_some]
  refine Idle.toRec ⟨⟨h4, h40, hl, h0, by omega, Int.le_refl _, ⟨rfl, rfl⟩, by rw [usedOf_nil]; omega, by decide, by simp, by simp, by simp [blankS], fun i hi => ?_⟩, hsl⟩
  simp only [List.flatten_nil, lay_nil]
  by_cases h : i < 40
  · rw [hz i (by omega) h, blankS_get h]
  · rw [List.getElem?_eq_none (by omega), List.getElem?_eq_none (by simp [blankS]; omega)]
theorem format_writes {m : Nat} {b : Nat} (h : b + 1 < m) :
    ((DiskS.new m).writeF true [((b : Int), headB 0 1), ((b : Int) + 1, zeros 256)]).2 = 0 ∧ ((DiskS.new m).writeF true [((b : Int), headB 0 1), ((b : Int) + 1, zeros 256)]).1.lies = ((blankS m).set b (headB 0 1)).set (b + 1) (zeros 256) ∧
    ((DiskS.new m).writeF true [((b : Int), headB 0 1), ((b : Int) + 1, zeros 256)]).1.cache = [] ∧ ((DiskS.new m).writeF true [((b : Int), headB 0 1), ((b : Int) + 1, zeros 256)]).1.on = true ∧ ((DiskS.new m).writeF true [((b : Int), headB 0 1), ((b : Int) + 1, zeros 256)]).1.armed = false := by
  have hl : (DiskS.new m).lies.length = m := by rw [new_eq]; simp [blankS]
  have hv : ∀ x ∈ [((b : Int), headB 0 1), ((b : Int) + 1, zeros 256)], Valid (DiskS.new m) x := by
    intro x hx
    rcases List.mem_cons.1 hx with rfl | hx
    · exact Valid.of (by omega) (by omega) (headB_256 0 1)
    · obtain rfl := List.mem_singleton.1 hx
      exact Valid.of (by omega) (by omega) (zeros_length 256)
  rcases writeT_spec (Q := fun _ => True) (D := DiskS.new m) (by omega) hv rfl ⟨trivial, fun _ _ _ _ => trivial⟩ (fun _ _ _ _ => trivial) with ⟨h1, h2, h3, h4, h5, h6⟩ | ⟨h1, h2, h3, h4⟩
  · refine ⟨h1, ?_, h3, h4, h5⟩
    rw [h2]
    rw [new_eq]
    simp only [lay_nil, lay_cons]
    rw [show ((b : Int)).toNat = b by omega, show ((b : Int) + 1).toNat = b + 1 by omega]
  · exact absurd h3 (show ¬ (false = true) by decide)
theorem format_spec {n : Nat} (h4 : 4 ≤ n) (h40 : n ≤ 40) :
    (formatS (DiskS.new 40) 0 n).2 = 0 ∧ (formatS (DiskS.new 40) 0 n).1.on = true ∧ (formatS (DiskS.new 40) 0 n).1.armed = false ∧ (formatS (DiskS.new 40) 0 n).1.cache = [] ∧ Rec n (formatS (DiskS.new 40) 0 n).1.lies 0 1 [] 0 1 (blankS 40) := by
  have hf : fitsB (DiskS.new 40) 0 n = true := by
    rw [fitsB_iff]
    have : (DiskS.new 40).sectors = 40 := by unfold DiskS.sectors; rw [new_eq]; simp [blankS]
    omega
  obtain ⟨h1, h2, h3, h5, h6⟩ := format_writes (m := 40) (b := 0) (by omega)
  unfold formatS
  rw [if_pos hf]
  refine ⟨h1, h5, h6, h3, rec_blank h4 h40 ?_ ?_ ?_⟩
  · exact (congrArg List.length h2).trans (by simp [blankS])
  · refine (congrArg (·[0]?) h2).trans ?_
    rw [List.getElem?_set_ne (by omega), List.getElem?_set_self (by simp [blankS])]
  · intro i h1 hi
    refine (congrArg (·[i]?) h2).trans ?_
    by_cases h : i = 0 + 1
    · subst h
      rw [List.getElem?_set_self (by simp [blankS])]
    · rw [List.getElem?_set_ne (by omega), List.getElem?_set_ne (by omega), blankS_get hi]
/-! ### a journal anywhere on a disk -/
theorem fitsB_new {m : Nat} {b z : Int} : fitsB (DiskS.new m) b z = true ↔ 0 ≤ b ∧ 4 ≤ z ∧ z ≤ 65536 ∧ b ≤ (m : Int) - z := by
  rw [fitsB_iff]
  have : (DiskS.new m).sectors = m := by unfold DiskS.sectors; rw [new_eq]; simp [blankS]
  rw [this]
theorem scan_zeros {R : List Bs} (h : R[0]? = some (zeros 256)) (k : ScanR) (hk : scanS R = k) : k.is = false := by
  have hh : R.headD [] = zeros 256 := by rw [List.headD_eq_head?_getD, List.head?_eq_getElem?, h, Option.getD_some]
  unfold scanS at hk
  rw [hh, rtext_zeros] at hk
  split at hk <;> (rw [← hk])
theorem open_new {m : Nat} {b z : Int} (h : fitsB (DiskS.new m) b z = true) : openS (DiskS.new m) b z = ⟨DiskS.new m, 10, 0, 0⟩ := by
  have hf := fitsB_new.1 h
  have hr : (readR (DiskS.new m) b z.toNat)[0]? = some (zeros 256) := by
    unfold readR
    rw [List.getElem?_map, List.getElem?_range (by omega)]
    show some _ = _
    have e : (DiskS.new m).readS (b + ((0 : Nat) : Int)) = (zeros 256, 0) := by
      rw [show b + ((0 : Nat) : Int) = ((b.toNat : Nat) : Int) by omega]
      refine readS_lay (D := DiskS.new m) (by rw [new_eq]; simp [blankS]; omega) rfl (by rw [new_eq]; simp) ?_
      rw [new_eq, lay_nil]
      exact blankS_get (by omega)
    dsimp only
    rw [e]
  unfold openS
  rw [if_neg (by rw [h]; decide), if_neg (show ¬ ((DiskS.new m).on = false) from fun e => Bool.noConfusion e), if_pos (scan_zeros hr _ rfl)]
theorem open_format {m : Nat} {b z : Int} (h : fitsB (DiskS.new m) b z = true) (h40 : z ≤ 40) : (formatS (DiskS.new m) b z).2 = 0 ∧ (openS (formatS (DiskS.new m) b z).1 b z).err = 0 ∧ (openS (formatS (DiskS.new m) b z).1 b z).place = 0 ∧ (openS (formatS (DiskS.new m) b z).1 b z).seq = 1 := by
  have hf := fitsB_new.1 h
  obtain ⟨c, rfl⟩ : ∃ c : Nat, b = c := ⟨b.toNat, by omega⟩
  obtain ⟨n, rfl⟩ : ∃ n : Nat, z = n := ⟨z.toNat, by omega⟩
  obtain ⟨h1, h2, h3, h5, h6⟩ := format_writes (m := m) (b := c) (by omega)
  have hF : formatS (DiskS.new m) c n = (DiskS.new m).writeF true [((c : Int), headB 0 1), ((c : Int) + 1, zeros 256)] := by unfold formatS; rw [if_pos h]
  rw [hF]
  obtain ⟨D, hD⟩ : ∃ D, D = ((DiskS.new m).writeF true [((c : Int), headB 0 1), ((c : Int) + 1, zeros 256)]).1 := ⟨_, rfl⟩
  rw [← hD] at h2 h3 h5 h6 ⊢
  refine ⟨h1, ?_⟩
  have hlen : D.lies.length = m := by rw [h2]; simp [blankS]
  obtain ⟨l, hl⟩ : ∃ l, l = (blankS 40).set 0 (headB 0 1) := ⟨_, rfl⟩
  have hrec : Rec n l 0 1 [] 0 1 (blankS 40) := by
    rw [hl]
    refine rec_blank (by omega) (by omega) (by simp [blankS]) (by rw [List.getElem?_set_self (by simp [blankS])]) (fun i hi hi2 => by rw [List.getElem?_set_ne (by omega), blankS_get hi2])
  have hread : readR D c n = l.take n := by
    apply List.ext_getElem
    · rw [hl]; simp [readR, blankS]; omega
    · intro i g1 g2
      have hi : i < n := by simpa [readR] using g1
      simp only [readR, List.getElem_map, List.getElem_range, List.getElem_take]
      have hll : i < l.length := by rw [hl]; simp [blankS]; omega
      have e : D.readS (((c + i : Nat)) : Int) = (l[i], 0) := by
        refine readS_lay (by omega) h5 (by rw [h3]; simp) ?_
        rw [h3, lay_nil, h2, ← List.getElem?_eq_getElem hll, hl]
        by_cases h0 : i = 0
        · subst h0
          rw [List.getElem?_set_ne (by omega), Nat.add_zero, List.getElem?_set_self (by simp [blankS]; omega), List.getElem?_set_self (by simp [blankS])]
        · rw [List.getElem?_set_ne (a := headB 0 1) (by omega), blankS_get (by omega)]
          by_cases h7 : c + i = c + 1
          · rw [h7, List.getElem?_set_self (by simp [blankS]; omega)]
          · rw [List.getElem?_set_ne (by omega), List.getElem?_set_ne (by omega), blankS_get (by omega)]
      rw [show ((c : Int) + (i : Int)) = ((c + i : Nat) : Int) by omega, e]
  have hfit2 : fitsB D c n = true := by
    rw [fitsB_iff]
    unfold DiskS.sectors
    rw [hlen]; exact hf
  have hO : openS D c n = openL D c ⟨0, 1, [], true⟩ := by
    unfold openS
    rw [if_neg (by rw [hfit2]; decide), if_neg (by rw [h5]; decide), show ((n : Int)).toNat = n by omega, hread, hrec.scan, if_neg (by simp)]
  have hv : ∀ x ∈ [((c : Int) + 1 + ((0 : Nat) : Int), zeros 256)], Valid D x := by
    intro x hx
    obtain rfl := List.mem_singleton.1 hx
    exact Valid.of (by omega) (by omega) (zeros_length 256)
  rw [hO]
  unfold openL redoS
  rw [if_pos rfl]
  dsimp only
  rw [if_neg (by decide)]
  rcases writeT_spec (Q := fun _ => True) (D := D) (by omega) hv h5 ⟨trivial, fun _ _ _ _ => trivial⟩ (fun _ _ _ _ => trivial) with ⟨g1, g2⟩ | ⟨g1, g2, g3, g4⟩
  · rw [if_neg (by rw [g1]; decide)]
    exact ⟨rfl, rfl, rfl⟩
  · rw [h6] at g3; cases g3
end Go.Proofs.YtbalbjhmboppoaaDoor
