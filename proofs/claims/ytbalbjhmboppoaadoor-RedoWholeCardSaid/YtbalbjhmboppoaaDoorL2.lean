/-
  The log's wrong; slices.ContainsFunc with it; the closure of Commit.
  No condition.
-/
import Derived.Test.YtbalbjhmboppoaaDoorL1
set_option linter.unusedSimpArgs false
set_option linter.unusedVariables false
namespace Go.Proofs.YtbalbjhmboppoaaDoor
open Go.RowKit

def wrongB (L : LogS) (D : DiskS) (x : PutM) : Bool := decide (x.2.length ≠ 256 ∨ x.1 < 0 ∨ D.sectors ≤ x.1 ∨ (L.base ≤ x.1 ∧ x.1 < L.base + L.size))
def putV (x : PutM) : Value := .agg #[.int .i64 x.1, .string ⟨x.2.toArray⟩]
theorem below_drewN1 (w : World) (a : Obj) (n : Nat) : Below w.heap.size w ((w.alloc a).drewN n) := by
  have h : Below w.heap.size w (w.alloc a) := (Below.refl _ _).alloc (Nat.le_refl _) _
  exact ⟨h.os, h.tape, h.output, h.size, h.block⟩
set_option maxRecDepth 100000 in
set_option maxHeartbeats 2000000 in
theorem wrong_any {S : List Nat} {q p : Nat} {L : LogS} {D : DiskS} (w : World) (x : PutM) (h : LogAt w q p L) (hD : DiskAt w S p D) (ok : D.Ok) (hb0 : 0 ≤ L.base) (hb1 : L.base ≤ 65536) (hz0 : 0 ≤ L.size) (hz1 : L.size ≤ 65536) (hl : x.2.length ≤ 1099511627776) :
    Calls Tryd.prog 48 #[.pointer (some ⟨q, 0, none⟩), putV x] w fun e w' => e = .returned (.bool (wrongB L D x)) ∧ Below w.heap.size w w' := by
  obtain ⟨a, s⟩ := x
  have c0 : w.cell? ⟨q, 0, none⟩ = some (.pointer (some ⟨p, 0, none⟩)) := blk_cell h 0
  have c1 : w.cell? ⟨q, 1, none⟩ = some (.int .i64 L.base) := blk_cell h 1
  have c2 : w.cell? ⟨q, 2, none⟩ = some (.int .i64 L.size) := blk_cell h 2
  have hqz := blk_lt h
  have hS := fun W (hB : Below w.heap.size w W) => Sectors_any W (hD.below hB) ok.most
  have hn0 : 0 ≤ D.sectors := by simp [DiskS.sectors]
  have hn1 : D.sectors ≤ 65536 := by have := ok.most; simp [DiskS.sectors]; omega
  have HV : Hid (wrongB L D (a, s) = decide (s.length ≠ 256 ∨ a < 0 ∨ D.sectors ≤ a ∨ (L.base ≤ a ∧ a < L.base + L.size))) := rfl
  obtain ⟨n, hn⟩ : ∃ n : Int, n = D.sectors := ⟨_, rfl⟩
  obtain ⟨B, hB⟩ : ∃ B : Int, B = L.base := ⟨_, rfl⟩
  obtain ⟨Z, hZ⟩ : ∃ Z : Int, Z = L.size := ⟨_, rfl⟩
  obtain ⟨v, hv⟩ : ∃ v, v = wrongB L D (a, s) := ⟨_, rfl⟩
  rw [← hv, ← hn, ← hB, ← hZ] at HV
  rw [← hv]
  simp only [← hn] at hS hn0 hn1
  rw [← hB] at c1 hb0 hb1
  rw [← hZ] at c2 hz0 hz1
  have HS := Go.Lib.hid hS
  simp only at hl
  have hbs : (⟨s.toArray⟩ : ByteArray).size = s.length := rfl
  clear hn hB hZ hv hS h hD ok
  unfold putV
  by_cases b0 : s.length = 256
  · have k0 : ((s.length : Int) != 256) = false := by simp [b0]
    by_cases b1 : a < 0
    · have d1 : decide (a < 0) = true := by simp [b1]
      go_enter Tryd.func48, Tryd.ntmps48
      go_wp2_with fail
      go_quiet (fail)
      go_wp2_with fail
      go_ret
      refine ⟨ret_bool ?_, below_drewN1 _ _ _⟩
      rw [HV.out]
      exact (decide_eq_true (by omega)).symm
    · have d1 : decide (a < 0) = false := by simp; omega
      by_cases b2 : n ≤ a
      · have d2 : decide (n ≤ a) = true := by simp [b2]
        go_enter Tryd.func48, Tryd.ntmps48
        go_wp2_with fail
        go_quiet ((go_at_call 53; exact Calls.quiet_of_same ((HS.out _ (below_drewN1 _ _ _)).mono fun e w' h => ⟨h.1, h.2.symm⟩)))
        go_wp2_with fail
        go_ret
        refine ⟨ret_bool ?_, below_drewN1 _ _ _⟩
        rw [HV.out]
        exact (decide_eq_true (by omega)).symm
      · have d2 : decide (n ≤ a) = false := by simp; omega
        by_cases b3 : B ≤ a
        · have d3 : decide (B ≤ a) = true := by simp [b3]
          by_cases b4 : a < B + Z
          · have d4 : decide (a < B + Z) = true := by simp [b4]
            go_enter Tryd.func48, Tryd.ntmps48
            go_wp2_with fail
            go_quiet ((go_at_call 53; exact Calls.quiet_of_same ((HS.out _ (below_drewN1 _ _ _)).mono fun e w' h => ⟨h.1, h.2.symm⟩)))
            go_wp2_with fail
            go_ret
            refine ⟨ret_bool ?_, below_drewN1 _ _ _⟩
            rw [HV.out]
            exact (decide_eq_true (by omega)).symm
          · have d4 : decide (a < B + Z) = false := by simp; omega
            go_enter Tryd.func48, Tryd.ntmps48
            go_wp2_with fail
            go_quiet ((go_at_call 53; exact Calls.quiet_of_same ((HS.out _ (below_drewN1 _ _ _)).mono fun e w' h => ⟨h.1, h.2.symm⟩)))
            go_wp2_with fail
            go_ret
            refine ⟨ret_bool ?_, below_drewN1 _ _ _⟩
            rw [HV.out]
            exact (decide_eq_false (by omega)).symm
        · have d3 : decide (B ≤ a) = false := by simp; omega
          go_enter Tryd.func48, Tryd.ntmps48
          go_wp2_with fail
          go_quiet ((go_at_call 53; exact Calls.quiet_of_same ((HS.out _ (below_drewN1 _ _ _)).mono fun e w' h => ⟨h.1, h.2.symm⟩)))
          go_wp2_with fail
          go_ret
          refine ⟨ret_bool ?_, below_drewN1 _ _ _⟩
          rw [HV.out]
          exact (decide_eq_false (by omega)).symm
  · have k0 : ((s.length : Int) != 256) = true := by simp; omega
    go_enter Tryd.func48, Tryd.ntmps48
    go_wp2_with fail
    go_quiet (fail)
    go_wp2_with fail
    go_ret
    refine ⟨ret_bool ?_, below_drewN1 _ _ _⟩
    rw [HV.out]
    exact (decide_eq_true (by omega)).symm

end Go.Proofs.YtbalbjhmboppoaaDoor
