/-
  THE LAYER sector, walked, first part: a new disk.
  No condition.
-/
import Derived.Test.YtbalbjhmboppoaaDoorO3
import Derived.Laws.CopyOwn
import Derived.BigQuiet
import Derived.Deep.QuietTactic
set_option linter.unusedSimpArgs false
set_option linter.unusedVariables false
namespace Go.Proofs.YtbalbjhmboppoaaDoor
open Go.RowKit

theorem info_string : (Tryd.prog.info? 9).map (fun i => (i.zero, i.size, i.bytes)) = some (some (.string ⟨#[]⟩), 1, 16) := by kernel_rfl
def repCells (m n : Nat) (s : ByteArray) : List Value := List.replicate m (.string s) ++ List.replicate (n - m) (.string ⟨#[]⟩)

theorem madeCells_one (v : Value) (n : Nat) : madeCells #[v] n = Array.replicate n v := by
  apply Array.ext_getElem?
  intro i
  by_cases h : i < n
  · simp [madeCells, h, Nat.mod_one]
  · simp [madeCells, h]

theorem make_strs (n : Nat) (hn : n ≤ 65536) (u : World) : (Instr.makeSlice 70 (.int .i64 (n : Int)) (.int .i64 (n : Int))).run Tryd.prog u =
      .ok (.slice (some ⟨u.heap.size, 0, none⟩) n n) (u.alloc (.cells (Array.replicate n (Value.string ⟨#[]⟩)) 9)) := by
  obtain ⟨i0, hi, hz0, hz1, hz2⟩ := info_parts info_string
  have h := run_make (P := Tryd.prog) u 70 9 i0 (.string ⟨#[]⟩) Tryd.underlying70 hi hz0 .i64 .i64 n n (by omega) (Int.le_refl _) (by rw [hz2]; omega) (by omega)
  have e : (n : Int).toNat * i0.size = n := by rw [hz1]; simp
  rw [e, show (Value.string ⟨#[]⟩).cells = #[.string ⟨#[]⟩] from rfl, madeCells_one] at h
  exact h

set_option maxRecDepth 100000 in
theorem sRepeat_any (xb n : Nat) (s : ByteArray) (w : World) (h1 : 1 ≤ n) (hn : n ≤ 65536) (hx : w.cell? ⟨xb, 0, none⟩ = some (.string s)) :
    Calls Tryd.prog 38 #[.slice (some ⟨xb, 0, none⟩) 1 1, .int .i64 (n : Int)] w fun e w' => ∃ g, e = .returned (.slice (some ⟨g, 0, none⟩) n n) ∧ w.heap.size ≤ g ∧
      w'.heap[g]? = some (.cells (List.replicate n (Value.string s)).toArray 9 (0, 0)) ∧ Below w.heap.size w w' := by
  have hm := make_strs n hn
  have hxb : xb < w.heap.size := World.block_lt_of_cell? w _ hx
  have hmul : Calls Tryd.prog 60 #[.int .u64 1, .int .u64 (n : Int)] w fun e w' => e = .returned (.tuple #[.int .u64 0, .int .u64 (n : Int)]) ∧ w = w' := by
    refine (Tryd.bits_Mul 1 n (by omega) (by omega) w).mono ?_
    rintro e w1 ⟨rfl, h⟩
    have e1 : 1 * n / 18446744073709551616 = 0 := by omega
    have e2 : 1 * n % 18446744073709551616 = n := by omega
    rw [e1, e2]
    exact ⟨rfl, h.symm⟩
  have hc1 : (Builtin.copy_ #[70, 70] 3 #[.slice (some ⟨w.heap.size, 0, none⟩) n n, .slice (some ⟨xb, 0, none⟩) 1 1]).run Tryd.prog (w.alloc (.cells (Array.replicate n (Value.string ⟨#[]⟩)) 9)) =
      .ok (.int .i64 1) ((w.alloc (.cells (Array.replicate n (Value.string ⟨#[]⟩)) 9)).setRow w.heap.size (repCells 1 n s).toArray) := by
    have := run_copy_row (P := Tryd.prog) (w.alloc (.cells (Array.replicate n (Value.string ⟨#[]⟩)) 9)) 70 70 3 9 w.heap.size 0 n n ⟨xb, 0, none⟩ 1 1 _ 9 [.string s] Tryd.underlying70 (by kernel_rfl) (blk_new _ _)
      (Nat.min_eq_left h1).symm (fun j v hj => by
        have : j = 0 := by
          rcases j with _ | j
          · rfl
          · simp at hj
        subst this
        simp at hj
        subst hj
        exact (World.cell?_alloc_past _ xb 0 hxb).trans hx) (by simpa using h1) (by simp [Value.oneCell'])
    rw [this]
    simp [repCells, goInt]
  go_enter Tryd.func38, Tryd.ntmps38
  go_wp2_with fail
  refine hmul.mono ?_
  rintro e w1 ⟨rfl, rfl⟩
  go_wp2_with fail
  have hB0 : Below w.heap.size w ((w.alloc (.cells (Array.replicate n (Value.string ⟨#[]⟩)) 9)).setRow w.heap.size (repCells 1 n s).toArray) := below_setRow ((Below.refl _ _).alloc (Nat.le_refl _) _) (Nat.le_refl _) _
  have hr0 := setRow_heap (w.alloc (.cells (Array.replicate n (Value.string ⟨#[]⟩)) 9)) w.heap.size _ (repCells 1 n s).toArray 9 (0, 0) (blk_new _ _)
  clear hm hc1 hmul
  go_loopw [8] (fun a wr => ∃ m : Nat, 1 ≤ m ∧ m ≤ n ∧ a = .int .i64 m ∧ wr.heap[w.heap.size]? = some (.cells (repCells m n s).toArray 9 (0, 0)) ∧ Below w.heap.size w wr) (fun a _ => n - (intOf a).toNat)
  case atStart => exact ⟨1, by omega, h1, rfl, hr0, hB0⟩
  case round =>
    obtain ⟨m, hm1, hmn, rfl, hb, hB⟩ := hrel
    by_cases hlt : m < n
    · obtain ⟨c, hc⟩ : ∃ c, c = min m (n - m) := ⟨_, rfl⟩
      have hrun : (Builtin.copy_ #[70, 70] 3 #[.slice (some ⟨w.heap.size, m, none⟩) (n - m) (n - m), .slice (some ⟨w.heap.size, 0, none⟩) m n]).run Tryd.prog wr.drew =
          .ok (.int .i64 (c : Int)) (wr.drew.setRow w.heap.size (repCells (m + c) n s).toArray) := by
        have := run_copy_row (P := Tryd.prog) wr.drew 70 70 3 9 w.heap.size m (n - m) (n - m) ⟨w.heap.size, 0, none⟩ m n _ 9 (List.replicate c (.string s)) Tryd.underlying70 (by kernel_rfl) hb
          (by simp [hc]) (fun j v hj => by
            have hj2 : j < c := by
              rcases Nat.lt_or_ge j c with h | h
              · exact h
              · rw [List.getElem?_eq_none (by simpa using h)] at hj; cases hj
            rw [List.getElem?_replicate, if_pos hj2] at hj
            simp at hj
            subst hj
            show wr.cell? _ = _
            have ea : (⟨w.heap.size, 0, none⟩ : Addr).add j = ⟨w.heap.size, j, none⟩ := by unfold Addr.add; split <;> simp_all
            rw [ea, blk_cell hb]
            have : j < m := by omega
            simp [repCells, List.getElem?_append, this]) (by simp [repCells]; omega) (by simp [Value.oneCell'])
        rw [this]
        have e : (repCells m n s).toArray.toList.take m ++ List.replicate c (Value.string s) ++ (repCells m n s).toArray.toList.drop (m + (List.replicate c (Value.string s)).length) = repCells (m + c) n s := by
          simp only [repCells, List.length_replicate]
          rw [← List.replicate_append_replicate, List.take_append_of_le_length (by simp), List.drop_append, List.take_of_length_le (by simp)]
          simp
          omega
        rw [e]
        simp [goInt]
      have hc2 : m + c ≤ n := by omega
      have hc3 : 1 ≤ c := by omega
      have HB : Hid (wr.heap[w.heap.size]? = some (.cells (repCells m n s).toArray 9 (0, 0))) := hb
      have HC := Go.Lib.hid hc
      clear hc hb
      go_wp2_with fail
      go_region
      go_wp2_with fail
      go_roundw
      case rel => exact ⟨m + c, by omega, hc2, by go_num, setRow_heap _ _ _ _ _ _ HB.out, below_setRow hB.drew (Nat.le_refl _) _⟩
      case measure => simp [intOf]; omega
    · obtain rfl : m = n := by omega
      go_wp2_with fail
      go_ret
      exact ⟨w.heap.size, rfl, Nat.le_refl _, hb.trans (by simp [repCells]), hB⟩

end Go.Proofs.YtbalbjhmboppoaaDoor
