/-
  THE LAYER octet, walked: need, Put and Text compute the bytes of a number and of a text, whatever the world.
  A text is shorter than 2^40 bytes.
-/
import Derived.Test.YtbalbjhmboppoaaDoorShelf
import Derived.Test.YtbalbjhmboppoaaDoorBase
import Derived.Test.YtbalbjhmboppoaaDoorMath
import Derived.Laws.CopyOwn
set_option linter.unusedSimpArgs false
set_option linter.unusedVariables false
namespace Go.Proofs.YtbalbjhmboppoaaDoor
open Go.RowKit

theorem need_any (x : Int) (w : World) (h0 : 0 ≤ x) (h1 : x ≤ 18446744073709551615) :
    Calls Tryd.prog 78 #[.int .u64 x] w fun e w' => e = .returned (.int .i64 (needN x.toNat : Int)) ∧ w = w' := by
  have hb : (Go.Lib.bitLen x.toNat : Int) ≤ 64 := by have := bitLen_lt (k := 64) (x := x.toNat) (by omega) (by omega); omega
  have hn := need_eq x.toNat (by omega)
  have Hn := Go.Lib.hid hn
  clear hn
  go_enter Tryd.func78, Tryd.ntmps78
  go_wp2_with (go_at_call 96; refine (Tryd.bits_Len64 _ _ h0 h1).mono ?_; rintro e w' ⟨rfl, rfl⟩)
  go_ret
  exact ⟨ret_int (by rw [← Hn.out]; show (_ : Int) = _; omega), rfl⟩

theorem info_bytes : (Tryd.prog.info? 5).map (fun i => (i.zero, i.size, i.bytes)) = some (some (.int .u8 0), 1, 1) := by kernel_rfl

theorem madeCells_bytes (n : Nat) : madeCells #[.int .u8 0] n = (bvs (List.replicate n 0)).toArray := by
  apply Array.ext_getElem?
  intro i
  by_cases h : i < n
  · simp [madeCells, bvs, bv, h, Nat.mod_one]
  · simp [madeCells, bvs, bv, h]

set_option maxHeartbeats 1000000 in
set_option maxRecDepth 100000 in
theorem Put_any (x : Int) (w : World) (h0 : 0 ≤ x) (h1 : x ≤ 18446744073709551615) :
    Calls Tryd.prog 58 #[.int .u64 x] w fun e w' => e = .returned (.string ⟨(putB x.toNat).toArray⟩) ∧ Below w.heap.size w w' := by
  obtain ⟨k, hk⟩ : ∃ k, k = needN x.toNat := ⟨_, rfl⟩
  have hk8 : k ≤ 8 := by rw [hk]; exact needN_le _
  have Hk := Go.Lib.hid hk
  clear hk
  obtain ⟨i0, hi, hz0, hz1, hz2⟩ := info_parts info_bytes
  have hmk : ∀ u : World, (Instr.makeSlice 54 (.int .i64 (1 + (k : Int))) (.int .i64 (1 + (k : Int)))).run Tryd.prog u =
      .ok (.slice (some ⟨u.heap.size, 0, none⟩) (1 + k) (1 + k)) (u.alloc (.cells (Value.int .u8 0 :: bvs (List.replicate k 0)).toArray 5)) := fun u => by
    have h := run_make (P := Tryd.prog) u 54 5 i0 (.int .u8 0) Tryd.underlying54 hi hz0 .i64 .i64 (1 + (k : Int)) (1 + (k : Int)) (by omega) (Int.le_refl _) (by rw [hz2]; omega) (by omega)
    have e : (1 + (k : Int)).toNat = 1 + k := by omega
    have e2 : bvs (List.replicate (1 + k) 0) = Value.int .u8 0 :: bvs (List.replicate k 0) := by rw [Nat.add_comm, List.replicate_succ]; rfl
    rw [e] at h
    simpa [hz1, Value.cells, madeCells_bytes, e2] using h
  clear hi hz0 hz1 hz2
  go_enter Tryd.func58, Tryd.ntmps58
  go_wp2_with (go_at_call 78; refine (need_any _ _ h0 h1).mono ?_; rintro e w' ⟨rfl, rfl⟩; rw [← Hk.out])
  clear hmk
  go_loopw [16] (fun s wr => ∃ i : Nat, i ≤ k ∧ s = .int .i64 i ∧ wr.heap[w.heap.size]? = some (.cells (bvs (putCells k i x.toNat)).toArray 5 (0, 0)) ∧ Below w.heap.size w wr)
    (fun s _ => k - (intOf s).toNat)
  case atStart => exact ⟨0, Nat.zero_le _, rfl, (blk_new _ _).trans (by rw [putCells_zero]; simp [bvs, bv]; omega), (Below.refl _ _).alloc (Nat.le_refl _) _⟩
  case round =>
    obtain ⟨i, hik, rfl, hb, hnx⟩ := hrel
    by_cases hlt : i < k
    · have hcell : wr.cell? ⟨w.heap.size, k - i, none⟩ = some ((bvs (putCells k i x.toNat))[k - i]'(by simp [hik]; omega)) := by rw [blk_cell hb]; simp
      have hfree := blk_free hb (k - i)
      have HB := Go.Lib.hid hb
      clear hb
      go_wp2
      go_roundw
      case rel =>
        refine ⟨i + 1, by omega, by go_num, ?_, hnx.setCell (p := ⟨w.heap.size, k - i, none⟩) (Nat.le_refl _) _⟩
        rw [blk_set HB.out, ← putCells_set x.toNat hlt]
        have e : (Value.int .u8 (x / 2 ^ (8 * i) % 256)) = bv (UInt8.ofNat (x.toNat / 256 ^ i)) := by
          have e2 : (256 : Nat) ^ i = 2 ^ (8 * i) := by rw [Nat.pow_mul]
          unfold bv
          rw [u8_toNat, e2]
          obtain ⟨n, rfl⟩ : ∃ n : Nat, x = n := ⟨x.toNat, by omega⟩
          simp
        rw [e]
        simp [bvs, List.map_set]
      case measure => simp [intOf]; omega
    · obtain rfl : i = k := by omega
      rw [putCells_last] at hb
      have hcv := fun (W : World) (h : W.heap[w.heap.size]? = wr.heap[w.heap.size]?) => run_bytes_blk (P := Tryd.prog) W 54 9 5 Tryd.underlying54 Tryd.underlying5 Tryd.underlying9 (len := 1 + i) (cap := 1 + i) (l := UInt8.ofNat i :: be i x.toNat) (by simp; omega) (h.trans hb)
      have hcv := hcv wr rfl
      clear hb
      go_wp2
      go_ret
      exact ⟨ret_str (by unfold putB; rw [← Hk.out]), hnx⟩

theorem Text_any (s : ByteArray) (w : World) (hs : s.size ≤ 1099511627776) :
    Calls Tryd.prog 76 #[.string s] w fun e w' => e = .returned (.string ⟨(textB s.data.toList).toArray⟩) ∧ Below w.heap.size w w' := by
  have hp := putB_le s.size
  go_enter Tryd.func76, Tryd.ntmps76
  go_wp2_with (go_at_call 58; refine (Put_any _ _ (by omega) (by omega)).mono ?_; rintro e w' ⟨rfl, hb⟩)
  go_ret
  exact ⟨ret_str (ba_app _ _), hb⟩

/-- strings.Repeat of the byte 0. -/
theorem Repeat0_any (n : Int) (w : World) (h0 : 0 ≤ n) (h1 : n ≤ 1099511627776) :
    Calls Tryd.prog 39 #[.string ⟨#[0]⟩, .int .i64 n] w fun e w' => e = .returned (.string ⟨(zeros n.toNat).toArray⟩) ∧ Below w.heap.size w w' := by
  obtain ⟨k, rfl⟩ : ∃ k : Nat, n = k := ⟨n.toNat, by omega⟩
  refine (Tryd.strings_Repeat ⟨#[0]⟩ k w (by omega) (by simp [ByteArray.size]; omega)).mono ?_
  rintro e w' ⟨rfl, hb⟩
  refine ⟨ret_str ?_, hb⟩
  have : ∀ j, Go.Lib.repeatL [0] j = List.replicate j (0 : UInt8) := by
    intro j
    induction j with
    | zero => rfl
    | succ j ih => simp [Go.Lib.repeatL, ih, List.replicate_succ]
  simp [this, zeros]

set_option maxRecDepth 100000 in
theorem Fill_any (s : ByteArray) (w : World) (hs : s.size ≤ 1099511627776) :
    Calls Tryd.prog 56 #[.string s] w fun e w' => e = .returned (.tuple #[.string ⟨(fillB s.data.toList).toArray⟩, .int .i64 (fillE s.data.toList)]) ∧ Below w.heap.size w w' := by
  obtain ⟨t, ht⟩ : ∃ t, t = textB s.data.toList := ⟨_, rfl⟩
  have hT := Text_any s w hs
  rw [← ht] at hT
  have hlen : t.length ≤ 1099511627785 := by rw [ht]; have := putB_le s.size; simp [textB, ba_size]; omega
  have HT := Go.Lib.hid ht
  clear ht
  by_cases hf : t.length ≤ 256
  · go_enter Tryd.func56, Tryd.ntmps56
    go_wp2_with fail
    refine hT.mono ?_
    rintro e w1 ⟨rfl, hb⟩
    go_wp2_with (go_at_call 39; refine (Repeat0_any _ _ (by omega) (by omega)).mono ?_; rintro e w2 ⟨rfl, hb2⟩)
    go_ret2
    refine ⟨?_, hb.trans (hb2.mono hb.size)⟩
    have h5 : fits5 s.data.toList = true := by simp [fits5, ← HT.out, hf]
    have e : ((256 : Int) - (t.length : Int)).toNat = 256 - t.length := by omega
    simp [fillB, fillE, h5, ← HT.out, ba_app, e]
  · go_enter Tryd.func56, Tryd.ntmps56
    go_wp2_with fail
    refine hT.mono ?_
    rintro e w1 ⟨rfl, hb⟩
    go_wp2_with fail
    go_ret2
    refine ⟨?_, hb⟩
    have h5 : fits5 s.data.toList = false := by simp [fits5, ← HT.out]; omega
    simp [fillB, fillE, h5]

end Go.Proofs.YtbalbjhmboppoaaDoor
