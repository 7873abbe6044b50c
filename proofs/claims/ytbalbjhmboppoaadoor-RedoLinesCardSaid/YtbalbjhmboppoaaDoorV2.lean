/-
  RedoLines, walked: true.
  The table of check lies where it lies; the slice that came in is any.
-/
import Derived.Test.YtbalbjhmboppoaaDoorV1
set_option linter.unusedSimpArgs false
set_option linter.unusedVariables false
namespace Go.Proofs.YtbalbjhmboppoaaDoor
open Go.RowKit

theorem Reads.take {w : World} {A : Option Addr} {cs : List Value} (h : Reads w A cs) (k : Nat) : Reads w A (cs.take k) := by
  intro hne
  obtain ⟨b, off, hA, hc⟩ := h (by intro e; subst e; simp at hne)
  refine ⟨b, off, hA, fun j hj => ?_⟩
  rw [hc j (by simp at hj; omega)]
  simp
set_option maxRecDepth 100000 in
set_option maxHeartbeats 1000000 in
theorem RedoLines_any (q0 q1 : Int) (A : Option Addr) (c : Nat) (xs : List Int) (w : World) (hT : Tab w) (hR : Reads w A (xs.map (Value.int .i64))) (hc : xs.length ≤ c) (hx : xs.length ≤ 9223372036854775807) :
    Calls Tryd.prog 3 #[.agg #[.int .i64 q0, .int .i64 q1], .slice A xs.length c] w fun e w' => e = .returned (.bool true) ∧ Below w.heap.size w w' := by
  obtain ⟨m, hm⟩ : ∃ m : Nat, m = min xs.length 70 := ⟨_, rfl⟩
  have hF : Hid (∀ W, Below w.heap.size w W → Calls Tryd.prog 12 #[.int .i64 q0, .slice A m c] W fun e w' => e = .returned (.string ⟨(firstB q0 (xs.take m)).toArray⟩) ∧ Below W.heap.size W w') := by
    intro W hW
    have h := First_any q0 A c (xs.take m) W (hT.below hW) (by rw [List.map_take]; exact (hR.below hW).take m) (by simp; omega) (by simp; omega)
    rwa [show (xs.take m).length = m by simp; omega] at h
  have hG : Hid (∀ W, Below w.heap.size w W → Calls Tryd.prog 13 #[.int .i64 q0, .slice A m c] W fun e w' => e = .returned (.string ⟨(firstB q0 (xs.take m)).toArray⟩) ∧ Below W.heap.size W w') := by
    intro W hW
    have h := rFirst_any q0 A c (xs.take m) W (by rw [List.map_take]; exact (hR.below hW).take m) (by simp; omega) (by simp; omega)
    rwa [show (xs.take m).length = m by simp; omega] at h
  obtain ⟨f1, hf1⟩ : ∃ f1 : Bs, f1 = firstB q0 (xs.take m) := ⟨_, rfl⟩
  rw [← hf1] at hF hG
  obtain ⟨w0, hw0⟩ : ∃ w0, w0 = w.alloc (.cells #[.int .i64 q0, .int .i64 q1] 22) := ⟨_, rfl⟩
  have hA0 : Below w.heap.size w w0 := by rw [hw0]; exact (Below.refl _ _).alloc (Nat.le_refl _) _
  have hB0 : w0.heap[w.heap.size]? = some (.cells #[.int .i64 q0, .int .i64 q1] 22 (0, 0)) := by rw [hw0]; exact blk_new _ _
  have hT0 := hT.below hA0
  have HW := Go.Lib.hid hw0
  have HT := Go.Lib.hid hT
  clear hw0 hT hR hf1
  have h70 : (70 < xs.length ∧ m = 70) ∨ (xs.length ≤ 70 ∧ xs.length = m) := by omega
  clear hm
  rcases h70 with ⟨h70, rfl⟩ | ⟨h70, rfl⟩
  all_goals
    go_enter Tryd.func3, Tryd.ntmps3
    go_wp2_with fail
    rw [← HW.out]
    refine (awake_any _ hT0).mono ?_
    rintro e w1 ⟨rfl, hb1⟩
    have hA1 := hA0.trans (hb1.mono hA0.size)
    have hB1 := (hb1.block _ (blk_lt hB0)).trans hB0
    have hN1 : Below w1.heap.size w1 w1.drew := below_drewN0 w1 1
    have hz1 := hA1.size
    have hlt1 := blk_lt hB1
    have hb2 := box2 hB1
    have HT1 : Hid (∀ W, Below w1.heap.size w1 W → Tab W) := fun W hW => (HT.out.below hA1).below hW
    have HF1 : Hid (∀ W, Below w1.heap.size w1 W → Below w.heap.size w W) := fun W hW => hA1.trans (hW.mono hz1)
    have HB1 : Hid (∀ W, Below w1.heap.size w1 W → W.cell? ⟨w.heap.size, 0, none⟩ = some (.int .i64 q0) ∧ W.cell? ⟨w.heap.size, 1, none⟩ = some (.int .i64 q1)) := fun W hW => box2 ((hW.block _ hlt1).trans hB1)
    clear hA0 hB0 hT0 hb1 hA1 hB1 hb2 hz1 hlt1
    go_wp2_with fail
    go_region_held3 (fun w' => w'.cell? ⟨w.heap.size, 0, none⟩ = some (.int .i64 q0) ∧ w'.cell? ⟨w.heap.size, 1, none⟩ = some (.int .i64 q1)) (exact HB1.out _ ‹Below w1.heap.size w1 _›) (first | (go_at_call 10; refine (Head_any _ _ _ (HT1.out _ ‹Below w1.heap.size w1 _›)).mono ?_; rintro e w' ⟨rfl, hb⟩; have hbb := Below.next ‹Below w1.heap.size w1 _› hb) | (go_at_call 11; refine (rHead_any _ _ _).mono ?_; rintro e w' ⟨rfl, hb⟩; have hbb := Below.next ‹Below w1.heap.size w1 _› hb) | (go_at_call 12; refine (hF.out _ (HF1.out _ ‹Below w1.heap.size w1 _›)).mono ?_; rintro e w' ⟨rfl, hb⟩; have hbb := Below.next ‹Below w1.heap.size w1 _› hb) | (go_at_call 13; refine (hG.out _ (HF1.out _ ‹Below w1.heap.size w1 _›)).mono ?_; rintro e w' ⟨rfl, hb⟩; have hbb := Below.next ‹Below w1.heap.size w1 _› hb) | (go_at_call 14; refine (Last_any _ _ _ (HT1.out _ ‹Below w1.heap.size w1 _›)).mono ?_; rintro e w' ⟨rfl, hb⟩; have hbb := Below.next ‹Below w1.heap.size w1 _› hb) | (go_at_call 15; refine (rLast_any _ _ _).mono ?_; rintro e w' ⟨rfl, hb⟩; have hbb := Below.next ‹Below w1.heap.size w1 _› hb))
    go_wp2_with fail
    go_ret
    exact ⟨rfl, HF1.out _ ‹Below w1.heap.size w1 _›⟩

end Go.Proofs.YtbalbjhmboppoaaDoor
