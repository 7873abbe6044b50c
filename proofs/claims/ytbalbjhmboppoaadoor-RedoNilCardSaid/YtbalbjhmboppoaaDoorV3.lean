/-
  RedoNil, walked: true.
  The table of check lies where it lies.
-/
import Derived.Test.YtbalbjhmboppoaaDoorV1
set_option linter.unusedSimpArgs false
set_option linter.unusedVariables false
namespace Go.Proofs.YtbalbjhmboppoaaDoor
open Go.RowKit

def logZ : LogS := ⟨0, 0, 0, 0, 0, false⟩
set_option maxRecDepth 100000 in
theorem Commit_nil (v : Value) (w : World) : Calls Tryd.prog 20 #[.pointer none, v] w fun e w' => e = .returned (.int .i64 1) ∧ Below w.heap.size w w' := by
  go_enter Tryd.func20, Tryd.ntmps20
  go_wp2_with fail
  refine (ready_nil _).mono ?_
  rintro e w1 ⟨rfl, rfl⟩
  go_wp2_with fail
  go_ret
  exact ⟨rfl, (Below.refl _ _).alloc (Nat.le_refl _) _⟩
set_option maxRecDepth 100000 in
theorem Commit_zero (q : Nat) (v : Value) (w : World) (h : w.heap[q]? = some (.cells (lcellsO none logZ) 48 (0, 0))) : Calls Tryd.prog 20 #[.pointer (some ⟨q, 0, none⟩), v] w fun e w' => e = .returned (.int .i64 13) ∧ Below w.heap.size w w' := by
  have h1 := fun o => blk_alloc h o
  have H1 := Go.Lib.hid h1
  clear h h1
  go_enter Tryd.func20, Tryd.ntmps20
  go_wp2_with fail
  refine (ready_zero q logZ _ (H1.out _)).mono ?_
  rintro e w1 ⟨rfl, rfl⟩
  go_wp2_with fail
  go_ret
  exact ⟨rfl, (Below.refl _ _).alloc (Nat.le_refl _) _⟩
theorem Checkpoint_nil (w : World) : Calls Tryd.prog 24 #[.pointer none] w fun e w' => e = .returned (.int .i64 1) ∧ w = w' := by
  go_enter Tryd.func24, Tryd.ntmps24
  go_wp2_with fail
  refine (ready_nil _).mono ?_
  rintro e w1 ⟨rfl, rfl⟩
  go_wp2_with fail
  go_ret
  exact ⟨rfl, rfl⟩
theorem Checkpoint_zero (q : Nat) (w : World) (h : w.heap[q]? = some (.cells (lcellsO none logZ) 48 (0, 0))) : Calls Tryd.prog 24 #[.pointer (some ⟨q, 0, none⟩)] w fun e w' => e = .returned (.int .i64 13) ∧ w = w' := by
  have H1 := Go.Lib.hid h
  clear h
  go_enter Tryd.func24, Tryd.ntmps24
  go_wp2_with fail
  refine (ready_zero q logZ _ H1.out).mono ?_
  rintro e w1 ⟨rfl, rfl⟩
  go_wp2_with fail
  go_ret
  exact ⟨rfl, rfl⟩

set_option maxRecDepth 100000 in
set_option maxHeartbeats 1000000 in
theorem RedoNil_any (at_ : Int) (w : World) (hT : Tab w) :
    Calls Tryd.prog 6 #[.int .i64 at_] w fun e w' => e = .returned (.bool true) ∧ Below w.heap.size w w' := by
  obtain ⟨w0, hw0⟩ : ∃ w0, w0 = w.alloc (.cells (lcellsO none logZ) 48) := ⟨_, rfl⟩
  have hA0 : Below w.heap.size w w0 := by rw [hw0]; exact (Below.refl _ _).alloc (Nat.le_refl _) _
  have hZ0 : w0.heap[w.heap.size]? = some (.cells (lcellsO none logZ) 48 (0, 0)) := by rw [hw0]; exact blk_new _ _
  have HW := Go.Lib.hid hw0
  have HT := Go.Lib.hid hT
  clear hw0 hT
  go_enter Tryd.func6, Tryd.ntmps6
  go_wp2_with fail
  have hw1 := HW.out
  unfold lcellsO logZ at hw1
  rw [← hw1]
  clear hw1
  refine (with_any 120 _ (by omega) (by omega)).mono ?_
  rintro e w1 ⟨rfl, hb1⟩
  obtain ⟨s, hs⟩ : ∃ s, s = withB (UInt8.ofNat (120 : Int).toNat) := ⟨_, rfl⟩
  rw [← hs]
  clear hs
  obtain ⟨w2, hw2⟩ : ∃ w2, w2 = w1.alloc (.cells #[.int .i64 1, .string ⟨s.toArray⟩] 40) := ⟨_, rfl⟩
  have hA2 : Below w.heap.size w w2 := by rw [hw2]; exact (hA0.trans (hb1.mono hA0.size)).alloc (hA0.trans (hb1.mono hA0.size)).size _
  have hZ2 : w2.heap[w.heap.size]? = some (.cells (lcellsO none logZ) 48 (0, 0)) := by rw [hw2]; exact blk_alloc ((hb1.block _ (blk_lt hZ0)).trans hZ0) _
  have hP2 : w2.heap[w1.heap.size]? = some (.cells #[.int .i64 1, .string ⟨s.toArray⟩] 40 (0, 0)) := by rw [hw2]; exact blk_new _ _
  have HW2 := Go.Lib.hid hw2
  clear hw2 hA0 hZ0 hb1
  go_wp2_with fail
  rw [← HW2.out]
  refine (lRead_nil _ _).mono ?_
  rintro e w3 ⟨rfl, rfl⟩
  go_wp2_with fail
  refine (lRead_zero _ logZ _ _ hZ2).mono ?_
  rintro e w3 ⟨rfl, rfl⟩
  go_wp2_with fail
  refine (awake_any _ (HT.out.below hA2)).mono ?_
  rintro e w3 ⟨rfl, hb3⟩
  have hA3 := hA2.trans (hb3.mono hA2.size)
  have hZ3 := (hb3.block _ (blk_lt hZ2)).trans hZ2
  have hP3 := (hb3.block _ (blk_lt hP2)).trans hP2
  have p3 := box2 hP3
  obtain ⟨p30, p31⟩ := p3
  have hlt := blk_lt hP3
  clear hb3 hZ2 hP2 hA2
  go_wp2_with fail
  refine (Commit_nil _ _).mono ?_
  rintro e w4 ⟨rfl, hb4⟩
  have hb4' : Below w3.heap.size w3 w4 := ((Below.refl _ _).alloc (Nat.le_refl _) _).trans (hb4.mono (by simp))
  have hA4 := hA3.trans (hb4'.mono hA3.size)
  have hZ4 := (hb4'.block _ (blk_lt hZ3)).trans hZ3
  have hP4 := (hb4'.block _ (blk_lt hP3)).trans hP3
  obtain ⟨p40, p41⟩ := box2 hP4
  clear hb4 hb4' hZ3 hP3 hA3 p30 p31 hlt
  have hZ5 := fun o => blk_alloc hZ4 o
  have HZ5 := Go.Lib.hid hZ5
  clear hZ5
  go_wp2_with fail
  refine (Commit_zero _ _ _ (HZ5.out _)).mono ?_
  rintro e w5 ⟨rfl, hb5⟩
  have hb5' : Below w4.heap.size w4 w5 := ((Below.refl _ _).alloc (Nat.le_refl _) _).trans (hb5.mono (by simp))
  have hA5 := hA4.trans (hb5'.mono hA4.size)
  have hZ6 := (hb5'.block _ (blk_lt hZ4)).trans hZ4
  clear hb5 hb5' hZ4 hP4 hA4 p40 p41 HZ5
  go_wp2_with fail
  refine (Checkpoint_nil _).mono ?_
  rintro e w6 ⟨rfl, rfl⟩
  go_wp2_with fail
  refine (Checkpoint_zero _ _ hZ6).mono ?_
  rintro e w6 ⟨rfl, rfl⟩
  go_wp2_with fail
  refine (Room_nil _).mono ?_
  rintro e w6 ⟨rfl, rfl⟩
  go_wp2_with fail
  refine (Used_nil _).mono ?_
  rintro e w6 ⟨rfl, rfl⟩
  go_wp2_with fail
  refine (Seq_nil _).mono ?_
  rintro e w6 ⟨rfl, rfl⟩
  go_wp2_with fail
  refine (Room_zero _ logZ _ hZ6).mono ?_
  rintro e w6 ⟨rfl, rfl⟩
  have hus := Used_any _ none logZ _ hZ6
  rw [show logZ.used = 0 from rfl] at hus
  go_wp2_with fail
  refine hus.mono ?_
  rintro e w6 ⟨rfl, rfl⟩
  go_wp2_with fail
  go_ret
  exact ⟨rfl, hA5⟩

end Go.Proofs.YtbalbjhmboppoaaDoor
