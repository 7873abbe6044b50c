/-
  THE LAYER check, walked: Add, Of, Seal, Open, Whole.
  The table lies in memory as the program's text lays it; a text is shorter than 2^40 bytes.
-/
import Derived.Test.YtbalbjhmboppoaaDoorO1
set_option linter.unusedSimpArgs false
set_option linter.unusedVariables false
namespace Go.Proofs.YtbalbjhmboppoaaDoor
open Go.RowKit

/-- The table lies in memory. -/
def Tab (w : World) : Prop := ∀ j, j < 16 → w.cell? ⟨0, j, none⟩ = some (.int .u32 (tabN j : Int))

theorem Tab.kept {w w' : World} (h : Tab w) (hb : w'.heap[(0 : Nat)]? = w.heap[(0 : Nat)]?) : Tab w' := fun j hj => (World.cell?_of_block (a := ⟨0, j, none⟩) hb).trans (h j hj)
theorem Tab.lt {w : World} (h : Tab w) : (0 : Nat) < w.heap.size := World.block_lt_of_cell? w ⟨0, 0, none⟩ (h 0 (by omega))
theorem Tab.below {w w' : World} (h : Tab w) (hb : Below w.heap.size w w') : Tab w' := h.kept (hb.block _ h.lt)

theorem bits_not (n : Nat) (h : n < 4294967296) : bits .xor .u32 IntKind.u32.max (n : Int) = (not32 n : Int) := by
  have := u32_xor_nat 4294967295 n (by omega) h
  exact this

theorem crcRun_take (x : Nat) (s : ByteArray) (k : Nat) (h : k < s.size) : crcRun x (s.data.toList.take (k + 1)) = crcByte (crcRun x (s.data.toList.take k)) s[k] := by
  rw [List.take_succ_eq_append_getElem (by simpa using h)]
  simp [crcRun]; rfl

/-- Half a byte: what the walk meets, in its own spelling. -/
theorem half_facts (w : World) (y : Nat) (hy : y < 4294967296) (hT : Tab w) : ∃ t : Nat, t < 4294967296 ∧ w.cell? ⟨0, y % 16, none⟩ = some (.int .u32 (t : Int)) ∧
    bits .and .u32 (y : Int) 15 = ((y % 16 : Nat) : Int) ∧ bits .xor .u32 ((y : Int) / 16) (t : Int) = (crcHalf y : Int) ∧ crcHalf y < 4294967296 := by
  refine ⟨tabN (y % 16), tabN_lt _, hT _ (Nat.mod_lt _ (by omega)), ?_, ?_, crcHalf_lt hy⟩
  · have := u32_and_nat y 15 hy (by omega)
    rw [show y % 16 = y &&& 15 from (Nat.and_two_pow_sub_one_eq_mod y 4).symm]
    exact this
  · have := u32_xor_nat (y / 16) (tabN (y % 16)) (by omega) (tabN_lt _)
    exact this

set_option maxRecDepth 100000 in
theorem cAdd_any (c : Int) (s : ByteArray) (w : World) (h0 : 0 ≤ c) (h1 : c ≤ 4294967295) (hs : s.size ≤ 1099511627776) (hT : Tab w) :
    Calls Tryd.prog 95 #[.int .u32 c, .string s] w fun e w' => e = .returned (.int .u32 (crcAdd c.toNat s.data.toList : Int)) ∧ w = w' := by
  obtain ⟨n, rfl⟩ : ∃ n : Nat, c = n := ⟨c.toNat, by omega⟩
  have hn : n < 4294967296 := by omega
  have e0 := bits_not n hn
  have hm := not32_lt hn
  obtain ⟨m, hmm⟩ : ∃ m, m = not32 n := ⟨_, rfl⟩
  rw [← hmm] at e0 hm
  have HM := Go.Lib.hid hmm
  clear hmm
  have HT := Go.Lib.hid hT
  clear hT
  go_enter Tryd.func95, Tryd.ntmps95
  go_wp2_with fail
  clear e0
  go_loop [0, 10] (fun c i => ∃ k : Nat, ∃ x : Nat, k ≤ s.size ∧ i = .int .i64 k ∧ c = .int .u32 x ∧ x < 4294967296 ∧ Hid (x = crcRun m (s.data.toList.take k))) (fun _ i => s.size - (intOf i).toNat)
  case atStart => exact ⟨0, m, Nat.zero_le _, rfl, rfl, hm, rfl⟩
  case round =>
    obtain ⟨k, x, hk, rfl, rfl, hx, HX⟩ := hrel
    by_cases hlt : k < s.size
    · have hb := u8_lt32 s[k]
      have e1 := u32_xor_nat x s[k].toNat hx hb
      have hy := xor_lt32 hx hb
      obtain ⟨y, hyy⟩ : ∃ y, y = x ^^^ s[k].toNat := ⟨_, rfl⟩
      rw [← hyy] at e1 hy
      obtain ⟨t1, ht1, hc1, e2, e3, hz⟩ := half_facts w y hy HT.out
      obtain ⟨z, hzz⟩ : ∃ z, z = crcHalf y := ⟨_, rfl⟩
      rw [← hzz] at e3 hz
      obtain ⟨t2, ht2, hc2, e4, e5, hz2⟩ := half_facts w z hz HT.out
      obtain ⟨z2, hzz2⟩ : ∃ z2, z2 = crcHalf z := ⟨_, rfl⟩
      rw [← hzz2] at e5 hz2
      have HE : Hid (z2 = crcByte x s[k]) := by show z2 = _; rw [hzz2, hzz, hyy]; rfl
      clear hyy hzz hzz2
      go_wp2_with fail
      go_round
      case rel => exact ⟨k + 1, z2, by omega, by go_num, rfl, hz2, by show _ = _; rw [crcRun_take m s k hlt, HE.out, HX.out]⟩
      case measure => simp [intOf]; omega
    · obtain rfl : k = s.size := by omega
      have e9 := bits_not x hx
      have HE : Hid (not32 x = crcAdd n s.data.toList) := by
        show _ = _
        rw [HX.out, HM.out]
        unfold crcAdd
        rw [List.take_of_length_le (by simp)]
      go_wp2_with fail
      go_ret
      exact ⟨ret_int (by rw [HE.out]), rfl⟩

set_option maxRecDepth 100000 in
theorem cOf_one (b c : Nat) (s : ByteArray) (w : World) (hs : s.size ≤ 1099511627776) (hT : Tab w) (hc : w.cell? ⟨b, 0, none⟩ = some (.string s)) :
    Calls Tryd.prog 77 #[.slice (some ⟨b, 0, none⟩) 1 c] w fun e w' => e = .returned (.int .u32 (crcOf s.data.toList : Int)) ∧ w = w' := by
  have HT := Go.Lib.hid hT
  clear hT
  go_enter Tryd.func77, Tryd.ntmps77
  go_wp2_with fail
  go_loop [3, 8] (fun c i => (i = .int .i64 0 ∧ c = .int .u32 0) ∨ (i = .int .i64 1 ∧ c = .int .u32 (crcOf s.data.toList : Int))) (fun _ i => 1 - (intOf i).toNat)
  case atStart => exact .inl ⟨rfl, rfl⟩
  case round =>
    rcases hrel with ⟨rfl, rfl⟩ | ⟨rfl, rfl⟩
    · go_wp2_with (go_at_call 95; refine (cAdd_any _ _ _ (by omega) (by omega) hs HT.out).mono ?_; rintro e w' ⟨rfl, rfl⟩)
      go_round
      case rel => exact .inr ⟨rfl, rfl⟩
      case measure => simp [intOf]
    · go_wp2_with fail
      go_ret
      exact ⟨rfl, rfl⟩

set_option maxRecDepth 100000 in
theorem cWhole_any (s : ByteArray) (w : World) (hs : s.size ≤ 1099511627776) (hT : Tab w) :
    Calls Tryd.prog 101 #[.string s] w fun e w' => e = .returned (.bool (wholeB s.data.toList)) ∧ Below w.heap.size w w' := by
  have hT2 : Tab (w.alloc (.cells #[.string s] 9)) := hT.below ((Below.refl _ _).alloc (Nat.le_refl _) _)
  have HT := Go.Lib.hid hT2
  clear hT hT2
  have hc := crcOf_lt s.data.toList
  go_enter Tryd.func101, Tryd.ntmps101
  go_wp2_with (go_at_call 77; refine (cOf_one _ _ s _ hs HT.out (by simp)).mono ?_; rintro e w' ⟨rfl, rfl⟩)
  go_ret
  refine ⟨ret_bool ?_, (Below.refl _ _).alloc (Nat.le_refl _) _⟩
  simp only [wholeB]
  rw [Bool.eq_iff_iff]
  simp
  omega

set_option maxRecDepth 100000 in
theorem cOpen_any (s : ByteArray) (w : World) (hs : s.size ≤ 1099511627776) (hT : Tab w) :
    Calls Tryd.prog 89 #[.string s] w fun e w' => e = .returned (.tuple #[.string ⟨(cOpenB s.data.toList).toArray⟩, .bool (cOpens s.data.toList)]) ∧ Below w.heap.size w w' := by
  have HT := Go.Lib.hid hT
  clear hT
  obtain ⟨o, ho⟩ : ∃ o, o = wholeB s.data.toList := ⟨_, rfl⟩
  have hW := cWhole_any s w hs HT.out
  rw [← ho] at hW
  have Ho := Go.Lib.hid ho
  clear ho
  by_cases hl : s.size < 4
  · go_enter Tryd.func89, Tryd.ntmps89
    go_wp2_with fail
    go_ret2
    have h : cOpens s.data.toList = false := by simp [cOpens, ba_size]; omega
    exact ⟨by simp [cOpenB, h], Below.refl _ _⟩
  · cases o
    · go_enter Tryd.func89, Tryd.ntmps89
      go_wp2_with (go_at_call 101; refine hW.mono ?_; rintro e w' ⟨rfl, hb⟩)
      go_ret2
      have h : cOpens s.data.toList = false := by simp [cOpens, ← Ho.out]
      exact ⟨by simp [cOpenB, h], hb⟩
    · go_enter Tryd.func89, Tryd.ntmps89
      go_wp2_with (go_at_call 101; refine hW.mono ?_; rintro e w' ⟨rfl, hb⟩)
      go_ret2
      have h : cOpens s.data.toList = true := by simp [cOpens, ← Ho.out, ba_size]; omega
      exact ⟨by simp [cOpenB, h, ba_extract], hb⟩

set_option maxRecDepth 100000 in
theorem cSeal_any (s : ByteArray) (w : World) (hs : s.size ≤ 1099511627776) (hT : Tab w) :
    Calls Tryd.prog 57 #[.string s] w fun e w' => e = .returned (.string ⟨(sealB s.data.toList).toArray⟩) ∧ Below w.heap.size w w' := by
  have hT2 : Tab (w.alloc (.cells #[.string s] 9)) := hT.below ((Below.refl _ _).alloc (Nat.le_refl _) _)
  have HT := Go.Lib.hid hT2
  clear hT hT2
  have hc := crcOf_lt s.data.toList
  obtain ⟨n, hn⟩ : ∃ n, n = crcOf s.data.toList := ⟨_, rfl⟩
  have hO := cOf_one w.heap.size 1 s _ hs HT.out (by simp)
  rw [← hn] at hc hO
  have Hn := Go.Lib.hid hn
  clear hn
  go_enter Tryd.func57, Tryd.ntmps57
  go_wp2_with (go_at_call 77; refine hO.mono ?_; rintro e w' ⟨rfl, rfl⟩)
  go_loopw [9] (fun s wr => ∃ i : Nat, i ≤ 4 ∧ s = .int .i64 i ∧ (∃ t, wr.heap[w.heap.size + 1]? = some (.cells (bvs (leCells i n)).toArray t (0, 0))) ∧ Below w.heap.size w wr)
    (fun s _ => 4 - (intOf s).toNat)
  case atStart => exact ⟨0, Nat.zero_le _, rfl, ⟨_, (by rw [show leCells 0 n = [0, 0, 0, 0] from rfl]; have := blk_new (w.alloc (.cells #[.string s] 9)) (.cells #[.int .u8 0, .int .u8 0, .int .u8 0, .int .u8 0] 112); rw [World.size_alloc] at this; exact this)⟩, ((Below.refl _ _).alloc (Nat.le_refl _) _).alloc (by simp) _⟩
  case round =>
    obtain ⟨i, hi4, rfl, ⟨t, hb⟩, hnx⟩ := hrel
    by_cases hlt : i < 4
    · have hcell : wr.cell? ⟨w.heap.size + 1, i, none⟩ = some ((bvs (leCells i n))[i]'(by simp [leCells_length n hi4, hlt])) := by rw [blk_cell hb]; simp
      have hfree := blk_free hb i
      have HB := Go.Lib.hid hb
      clear hb
      go_wp2_with fail
      go_roundw
      case rel =>
        refine ⟨i + 1, by omega, by go_num, ⟨t, ?_⟩, hnx.setCell (p := ⟨w.heap.size + 1, i, none⟩) (by simp) _⟩
        rw [blk_set HB.out, ← leCells_set n hlt]
        have e : (Value.int .u8 ((n : Int) / 2 ^ (8 * i) % 256)) = bv (UInt8.ofNat (n / 256 ^ i)) := by
          have e2 : (256 : Nat) ^ i = 2 ^ (8 * i) := by rw [Nat.pow_mul]
          unfold bv
          rw [u8_toNat, e2]
          simp
        rw [e]
        simp [bvs, List.map_set]
      case measure => simp [intOf]; omega
    · obtain rfl : i = 4 := by omega
      rw [leCells_last] at hb
      have hcv := run_bytes_blk (P := Tryd.prog) wr 54 9 5 Tryd.underlying54 Tryd.underlying5 Tryd.underlying9 (len := 4) (cap := 4) (le4_length n) hb
      clear hb
      have hl4 : (le4 n).length ≤ 4 := Nat.le_refl 4
      go_wp2_with fail
      go_ret
      exact ⟨ret_str (by rw [ba_app', ← ba_eq s]; simp [sealB, Hn.out]), hnx⟩

end Go.Proofs.YtbalbjhmboppoaaDoor
