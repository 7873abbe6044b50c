/-
  THE DOCUMENT's OWN LINES (the references of 01, 04, 05, 07), walked: they compute the same bytes as the program's.
  No condition but on lengths.
-/
import Derived.Test.YtbalbjhmboppoaaDoorO3
set_option linter.unusedSimpArgs false
set_option linter.unusedVariables false
namespace Go.Proofs.YtbalbjhmboppoaaDoor
open Go.RowKit

/-- string([]byte{c}) in a new block. -/
theorem run_byte_str (w : World) (x : Int) (b : UInt8) (h : x = (b.toNat : Int)) :
    (convert 54 9 (.slice (some ⟨w.heap.size, 0, none⟩) 1 1)).run Tryd.prog (w.alloc (.cells #[.int .u8 x] 5)) = .ok (.string ⟨[b].toArray⟩) (w.alloc (.cells #[.int .u8 x] 5)) := by
  subst h
  exact run_bytes_blk (P := Tryd.prog) _ 54 9 5 Tryd.underlying54 Tryd.underlying5 Tryd.underlying9 (l := [b]) rfl (blk_new _ _)

set_option maxRecDepth 100000 in
theorem rPut_any (x : Int) (w : World) (h0 : 0 ≤ x) (h1 : x ≤ 18446744073709551615) :
    Calls Tryd.prog 36 #[.int .u64 x] w fun e w' => e = .returned (.string ⟨(putB x.toNat).toArray⟩) ∧ Below w.heap.size w w' := by
  obtain ⟨n, rfl⟩ : ∃ n : Nat, x = n := ⟨x.toNat, by omega⟩
  have hn : n < 18446744073709551616 := by omega
  go_enter Tryd.func36, Tryd.ntmps36
  go_wp2_with fail
  go_loopw [0, 3] (fun a s wr => ∃ j m : Nat, j ≤ 8 ∧ a = .int .u64 m ∧ s = .string ⟨(be j n).toArray⟩ ∧ m ≤ n ∧ Hid (m = n / 256 ^ j) ∧ (j = 0 ∨ n / 256 ^ (j - 1) ≠ 0) ∧ Below w.heap.size w wr) (fun a _ _ => (intOf a).toNat)
  case atStart => exact ⟨0, n, by omega, rfl, rfl, Nat.le_refl _, by show _ = _; simp, .inl rfl, Below.refl _ _⟩
  case round =>
    obtain ⟨j, m, hj, rfl, rfl, hm, HM, hz, hB⟩ := hrel
    by_cases hlt : 0 < m
    · have hcv := run_byte_str wr ((m : Int) % 256) (UInt8.ofNat m) (by rw [u8_toNat]; simp)
      have hl : (be j n).length ≤ 8 := by simpa using hj
      have HL : Hid (j < 8) := by
        show _ < _
        rcases Nat.lt_or_ge j 8 with h | h
        · exact h
        · obtain rfl : j = 8 := by omega
          have := HM.out
          rw [Nat.div_eq_of_lt (by simpa using hn)] at this
          omega
      clear hz
      go_wp2_with fail
      go_roundw
      case rel =>
        have := HL.out
        refine ⟨j + 1, m / 256, by omega, by go_num, by rw [ba_app]; simp [be, HM.out], by omega, ?_, .inr (by rw [Nat.add_sub_cancel, ← HM.out]; omega), hB.alloc hB.size _⟩
        show _ = _
        rw [HM.out, Nat.pow_succ, Nat.div_div_eq_div_mul]
      case measure => simp [intOf]; omega
    · obtain rfl : m = 0 := by omega
      have HN : Hid (needN n = j) := needN_of hn hj hz HM.out.symm
      have hcv := run_byte_str wr (j : Int) (UInt8.ofNat j) (by rw [u8_toNat]; omega)
      have hl : (be j n).length ≤ 8 := by simpa using hj
      have hl2 : (be j n).length = j := by simp
      clear hz hl2
      go_wp2_with fail
      go_ret
      exact ⟨ret_str (by rw [show (⟨#[UInt8.ofNat j]⟩ : ByteArray) = ⟨[UInt8.ofNat j].toArray⟩ from rfl, ba_app]; simp [putB, HN.out]), hB.alloc hB.size _⟩

theorem rText_any (s : ByteArray) (w : World) (hs : s.size ≤ 1099511627776) :
    Calls Tryd.prog 75 #[.string s] w fun e w' => e = .returned (.string ⟨(textB s.data.toList).toArray⟩) ∧ Below w.heap.size w w' := by
  have hp := putB_le s.size
  go_enter Tryd.func75, Tryd.ntmps75
  go_wp2_with (go_at_call 36; refine (rPut_any _ _ (by omega) (by omega)).mono ?_; rintro e w' ⟨rfl, hb⟩)
  go_ret
  exact ⟨ret_str (ba_app _ _), hb⟩

theorem crcBits_lt {x : Nat} (h : x < 4294967296) (j : Nat) : crcBits j x < 4294967296 := by
  induction j generalizing x with
  | zero => exact h
  | succ j ih => exact ih (crcBit_lt h)

set_option maxRecDepth 100000 in
theorem rAdd_any (c : Int) (s : ByteArray) (w : World) (h0 : 0 ≤ c) (h1 : c ≤ 4294967295) (hs : s.size ≤ 1099511627776) :
    Calls Tryd.prog 97 #[.int .u32 c, .string s] w fun e w' => e = .returned (.int .u32 (crcAdd c.toNat s.data.toList : Int)) ∧ w = w' := by
  obtain ⟨n, rfl⟩ : ∃ n : Nat, c = n := ⟨c.toNat, by omega⟩
  have hn : n < 4294967296 := by omega
  have e0 := bits_not n hn
  have hm := not32_lt hn
  obtain ⟨m, hmm⟩ : ∃ m, m = not32 n := ⟨_, rfl⟩
  rw [← hmm] at e0 hm
  have HM := Go.Lib.hid hmm
  clear hmm
  go_enter Tryd.func97, Tryd.ntmps97
  go_wp2_with fail
  clear e0
  go_loop [0, 5] (fun c i => ∃ k : Nat, ∃ x : Nat, k ≤ s.size ∧ i = .int .i64 k ∧ c = .int .u32 x ∧ x < 4294967296 ∧ Hid (x = crcRun m (s.data.toList.take k))) (fun _ i => s.size - (intOf i).toNat)
  case atStart => exact ⟨0, m, Nat.zero_le _, rfl, rfl, hm, rfl⟩
  case round =>
    obtain ⟨k, x, hk, rfl, rfl, hx, HX⟩ := hrel
    by_cases hlt : k < s.size
    · have hb := u8_lt32 s[k]
      have e1 := u32_xor_nat x s[k].toNat hx hb
      have hy := xor_lt32 hx hb
      obtain ⟨y, hyy⟩ : ∃ y, y = x ^^^ s[k].toNat := ⟨_, rfl⟩
      rw [← hyy] at e1 hy
      have HE : Hid (crcBits 8 y = crcByte x s[k]) := by show _ = _; rw [hyy]; exact crcBits_byte x s[k]
      clear hyy
      go_wp2_with fail
      clear e1
      go_loop [0, 6] (fun c i => ∃ j : Nat, ∃ z : Nat, j ≤ 8 ∧ i = .int .i64 j ∧ c = .int .u32 z ∧ z < 4294967296 ∧ Hid (crcBits (8 - j) z = crcBits 8 y)) (fun _ i => 8 - (intOf i).toNat)
      case atStart => exact ⟨0, y, by omega, rfl, rfl, hy, rfl⟩
      case round =>
        obtain ⟨j, z, hj, rfl, rfl, hz, HZ⟩ := hrel
        by_cases hj8 : j < 8
        · have HB : Hid (crcBits (8 - (j + 1)) (crcBit z) = crcBits 8 y) := by
            show _ = _
            rw [← HZ.out, show 8 - j = (8 - (j + 1)) + 1 by omega]
            rfl
          by_cases hodd : z % 2 = 1
          · have hd : ((z : Int) % 2 == 1) = true := by simp; omega
            have e2 : bits .xor .u32 ((z : Int) / 2) 3988292384 = (((z / 2) ^^^ 3988292384 : Nat) : Int) := u32_xor_nat (z / 2) 3988292384 (by omega) (by omega)
            have hz2 := crcBit_lt hz
            have HV : Hid (crcBit z = (z / 2) ^^^ 3988292384) := by show _ = _; unfold crcBit; rw [if_pos hodd]
            rw [← HV.out] at e2
            go_wp2_with fail
            go_round
            case rel => exact ⟨j + 1, crcBit z, by omega, by go_num, rfl, hz2, HB⟩
            case measure => simp [intOf]; omega
          · have hd : ((z : Int) % 2 == 1) = false := by simp; omega
            have hz2 := crcBit_lt hz
            have HV : Hid (crcBit z = z / 2) := by show _ = _; unfold crcBit; rw [if_neg hodd]
            go_wp2_with fail
            go_round
            case rel => exact ⟨j + 1, crcBit z, by omega, by go_num, by rw [HV.out]; go_num, hz2, HB⟩
            case measure => simp [intOf]; omega
        · obtain rfl : j = 8 := by omega
          have HF : Hid (z = crcByte x s[k]) := by show _ = _; rw [← HE.out, ← HZ.out]; rfl
          go_wp2_with fail
          go_round
          case rel => exact ⟨k + 1, z, by omega, by go_num, rfl, hz, by show _ = _; rw [crcRun_take m s k hlt, HF.out, HX.out]⟩
          case measure => simp [intOf]; omega
    · obtain rfl : k = s.size := by omega
      have e9 := bits_not x hx
      have HE : Hid (not32 x = crcAdd n s.data.toList) := by
        show _ = _
        rw [HX.out, HM.out]
        unfold crcAdd
        rw [List.take_of_length_le (by simp)]
      go_wp2_with fail
      go_ret
      exact ⟨ret_int (by rw [HE.out]), rfl⟩

theorem rOf_any (s : ByteArray) (w : World) (hs : s.size ≤ 1099511627776) :
    Calls Tryd.prog 79 #[.string s] w fun e w' => e = .returned (.int .u32 (crcOf s.data.toList : Int)) ∧ w = w' := by
  go_enter Tryd.func79, Tryd.ntmps79
  go_wp2_with fail
  refine (rAdd_any _ _ _ (by omega) (by omega) hs).mono ?_
  rintro e w1 ⟨rfl, rfl⟩
  go_wp2_with fail
  go_ret
  exact ⟨rfl, rfl⟩

set_option maxRecDepth 100000 in
theorem rSeal_any (s : ByteArray) (w : World) (hs : s.size ≤ 1099511627000) :
    Calls Tryd.prog 59 #[.string s] w fun e w' => e = .returned (.string ⟨(sealB s.data.toList).toArray⟩) ∧ Below w.heap.size w w' := by
  have hc := crcOf_lt s.data.toList
  obtain ⟨n, hn⟩ : ∃ n, n = crcOf s.data.toList := ⟨_, rfl⟩
  have hO := rOf_any s w (by omega)
  rw [← hn] at hc hO
  have Hn := Go.Lib.hid hn
  clear hn
  have hb : bvs (le4 n) = [.int .u8 ((n : Int) % 256), .int .u8 ((n : Int) / 256 % 256), .int .u8 ((n : Int) / 65536 % 256), .int .u8 ((n : Int) / 16777216)] := by
    simp [bvs, bv, le4]; omega
  have hcv := run_bytes_blk (P := Tryd.prog) (w.alloc (.cells (bvs (le4 n)).toArray 5)) 54 9 5 Tryd.underlying54 Tryd.underlying5 Tryd.underlying9 (b := w.heap.size) (cap := 4) (le4_length n) (blk_new _ _)
  have hl4 : (le4 n).length ≤ 4 := Nat.le_refl 4
  rw [hb] at hcv
  clear hb
  go_enter Tryd.func59, Tryd.ntmps59
  go_wp2_with fail
  refine hO.mono ?_
  rintro e w' ⟨rfl, rfl⟩
  go_wp2_with fail
  go_ret
  exact ⟨ret_str (by rw [ba_app', ← ba_eq s]; simp [sealB, Hn.out]), (Below.refl _ _).alloc (Nat.le_refl _) _⟩

/-- string(make([]byte, n)). -/
theorem make_bytes (n : Int) (k : Nat) (h : n = k) (hk : k ≤ 1099511627776) (u : World) : (Instr.makeSlice 54 (.int .i64 n) (.int .i64 n)).run Tryd.prog u =
      .ok (.slice (some ⟨u.heap.size, 0, none⟩) k k) (u.alloc (.cells (bvs (zeros k)).toArray 5)) := by
  obtain ⟨i0, hi, hz0, hz1, hz2⟩ := info_parts info_bytes
  subst h
  have h := run_make (P := Tryd.prog) u 54 5 i0 (.int .u8 0) Tryd.underlying54 hi hz0 .i64 .i64 k k (by omega) (Int.le_refl _) (by rw [hz2]; omega) (by omega)
  have e : (k : Int).toNat * i0.size = k := by rw [hz1]; simp
  rw [e, show (Value.int .u8 0).cells = #[.int .u8 0] from rfl, madeCells_bytes] at h
  exact h
theorem conv_zeros (w : World) (k : Nat) : (convert 54 9 (.slice (some ⟨w.heap.size, 0, none⟩) k k)).run Tryd.prog (w.alloc (.cells (bvs (zeros k)).toArray 5)) = .ok (.string ⟨(zeros k).toArray⟩) (w.alloc (.cells (bvs (zeros k)).toArray 5)) :=
  run_bytes_blk (P := Tryd.prog) _ 54 9 5 Tryd.underlying54 Tryd.underlying5 Tryd.underlying9 (by simp) (blk_new _ _)

set_option maxRecDepth 100000 in
theorem rFill_any (s : ByteArray) (w : World) (hs : s.size ≤ 1099511627776) :
    Calls Tryd.prog 52 #[.string s] w fun e w' => e = .returned (.tuple #[.string ⟨(fillB s.data.toList).toArray⟩, .int .i64 (fillE s.data.toList)]) ∧ Below w.heap.size w w' := by
  obtain ⟨t, ht⟩ : ∃ t, t = textB s.data.toList := ⟨_, rfl⟩
  have hT := rText_any s w hs
  rw [← ht] at hT
  have hlen : t.length ≤ 1099511627785 := by rw [ht]; have := putB_le s.size; simp [textB]; omega
  have HT := Go.Lib.hid ht
  clear ht
  by_cases hf : t.length ≤ 256
  · obtain ⟨k, hk⟩ : ∃ k : Nat, k + t.length = 256 := ⟨256 - t.length, by omega⟩
    have hmk := make_bytes (256 - (t.length : Int)) k (by omega) (by omega)
    have hk2 : k ≤ 256 := by omega
    have HK := Go.Lib.hid hk
    clear hk
    go_enter Tryd.func52, Tryd.ntmps52
    go_wp2_with fail
    refine hT.mono ?_
    rintro e w1 ⟨rfl, hb⟩
    have hcv := conv_zeros w1 k
    go_wp2_with fail
    go_ret2
    refine ⟨?_, hb.alloc hb.size _⟩
    have h5 : fits5 s.data.toList = true := by simp [fits5, ← HT.out, hf]
    have e : 256 - t.length = k := by have := HK.out; omega
    simp [fillB, fillE, h5, ← HT.out, ba_app, e]
  · go_enter Tryd.func52, Tryd.ntmps52
    go_wp2_with fail
    refine hT.mono ?_
    rintro e w1 ⟨rfl, hb⟩
    go_wp2_with fail
    go_ret2
    refine ⟨?_, hb⟩
    have h5 : fits5 s.data.toList = false := by simp [fits5, ← HT.out]; omega
    simp [fillB, fillE, h5]

set_option maxRecDepth 100000 in
theorem rline_any (s : ByteArray) (w : World) (hs : s.size ≤ 1099511627000) :
    Calls Tryd.prog 35 #[.string s] w fun e w' => e = .returned (.string ⟨(lineB s.data.toList).toArray⟩) ∧ Below w.heap.size w w' := by
  go_enter Tryd.func35, Tryd.ntmps35
  go_wp2_with fail
  refine (rSeal_any _ _ hs).mono ?_
  rintro e w1 ⟨rfl, hb⟩
  go_wp2_with fail
  refine (rFill_any _ _ (sealB_size s hs)).mono ?_
  rintro e w2 ⟨rfl, hb2⟩
  go_wp2_with fail
  go_ret
  exact ⟨ret_str rfl, hb.trans (hb2.mono hb.size)⟩

theorem rkeep_any (n most : Int) (w : World) (h0 : 0 ≤ most) (h1 : most ≤ 4611686018427387904) :
    Calls Tryd.prog 37 #[.int .i64 n, .int .i64 most] w fun e w' => e = .returned (.int .u64 (keepN n most.toNat : Int)) ∧ w = w' := by
  by_cases hn : n < 0
  · have e0 : Hid (keepN n most.toNat = 0) := by show _ = _; simp [keepN, hn]
    go_enter Tryd.func37, Tryd.ntmps37
    go_wp2_with fail
    go_ret
    exact ⟨ret_int (by rw [e0.out]; rfl), rfl⟩
  · by_cases hm : most < n
    · have e0 : Hid ((keepN n most.toNat : Int) = most) := by show _ = _; unfold keepN; rw [if_neg hn, if_neg (by omega)]; omega
      go_enter Tryd.func37, Tryd.ntmps37
      go_wp2_with fail
      go_ret
      exact ⟨ret_int (by rw [e0.out]), rfl⟩
    · have e0 : Hid ((keepN n most.toNat : Int) = n) := by show _ = _; unfold keepN; rw [if_neg hn, if_pos (by omega)]; omega
      go_enter Tryd.func37, Tryd.ntmps37
      go_wp2_with fail
      go_ret
      exact ⟨ret_int (by rw [e0.out]), rfl⟩

set_option maxRecDepth 100000 in
theorem rHead_any (p q : Int) (w : World) :
    Calls Tryd.prog 11 #[.int .i64 p, .int .i64 q] w fun e w' => e = .returned (.string ⟨(headB p q).toArray⟩) ∧ Below w.heap.size w w' := by
  have l1 := putB_le (keepN p 65535)
  have l2 := putB_le (keepN q 1099511627776)
  have k1 := keepN_le p 65535
  have k2 := keepN_le q 1099511627776
  go_enter Tryd.func11, Tryd.ntmps11
  go_wp2_with fail
  refine (rkeep_any _ _ _ (by omega) (by omega)).mono ?_
  rintro e w1 ⟨rfl, rfl⟩
  go_wp2_with fail
  refine (rPut_any _ _ (by omega) (by omega)).mono ?_
  rintro e w1 ⟨rfl, hb⟩
  go_wp2_with fail
  refine (rkeep_any _ _ _ (by omega) (by omega)).mono ?_
  rintro e w2 ⟨rfl, rfl⟩
  go_wp2_with fail
  refine (rPut_any _ _ (by omega) (by omega)).mono ?_
  rintro e w2 ⟨rfl, hb2⟩
  go_wp2_with fail
  refine (rline_any _ _ (by simp [ByteArray.size]; omega)).mono ?_
  rintro e w3 ⟨rfl, hb3⟩
  go_wp2_with fail
  go_ret
  have hB := hb.trans (hb2.mono hb.size)
  exact ⟨ret_str (by unfold headB kpB; simp [ba_app, ba_app']), hB.trans (hb3.mono hB.size)⟩

set_option maxRecDepth 100000 in
theorem rLast_any (p q : Int) (w : World) :
    Calls Tryd.prog 15 #[.int .i64 p, .int .i64 q] w fun e w' => e = .returned (.string ⟨(lastB p q).toArray⟩) ∧ Below w.heap.size w w' := by
  have l1 := putB_le (keepN p 1099511627776)
  have l2 := putB_le (keepN q 1099511627776)
  have k1 := keepN_le p 1099511627776
  have k2 := keepN_le q 1099511627776
  go_enter Tryd.func15, Tryd.ntmps15
  go_wp2_with fail
  refine (rkeep_any _ _ _ (by omega) (by omega)).mono ?_
  rintro e w1 ⟨rfl, rfl⟩
  go_wp2_with fail
  refine (rPut_any _ _ (by omega) (by omega)).mono ?_
  rintro e w1 ⟨rfl, hb⟩
  go_wp2_with fail
  refine (rkeep_any _ _ _ (by omega) (by omega)).mono ?_
  rintro e w2 ⟨rfl, rfl⟩
  go_wp2_with fail
  refine (rPut_any _ _ (by omega) (by omega)).mono ?_
  rintro e w2 ⟨rfl, hb2⟩
  go_wp2_with fail
  refine (rline_any _ _ (by simp [ByteArray.size]; omega)).mono ?_
  rintro e w3 ⟨rfl, hb3⟩
  go_wp2_with fail
  go_ret
  have hB := hb.trans (hb2.mono hb.size)
  exact ⟨ret_str (by unfold lastB kpB; simp [ba_app, ba_app']), hB.trans (hb3.mono hB.size)⟩

/-- The first m of a slice of ints that is read. -/
theorem Reads.ints {w : World} {A : Option Addr} {xs : List Int} (hR : Reads w A (xs.map (Value.int .i64))) {m : Nat} (hm : m ≤ xs.length) :
    ∀ k, k < m → ∃ b off, A = some ⟨b, off, none⟩ ∧ b < w.heap.size ∧ w.cell? ⟨b, off + k, none⟩ = some (.int .i64 ((xs.take m).getD k 0)) := by
  intro k hk
  obtain ⟨b, off, h1, h2⟩ := hR (by intro h; have := congrArg List.length h; simp at this; subst this; simp at hm; omega)
  have h3 := h2 k (by simp; omega)
  refine ⟨b, off, h1, World.block_lt_of_cell? w _ h3, h3.trans ?_⟩
  have : k < xs.length := by omega
  simp [List.getD, this, hk]

theorem take_min (xs : List Int) : xs.take (min xs.length 60) = xs.take 60 := by
  rcases Nat.le_total xs.length 60 with h | h
  · rw [Nat.min_eq_left h, List.take_of_length_le (Nat.le_refl _), List.take_of_length_le h]
  · rw [Nat.min_eq_right h]

set_option maxRecDepth 100000 in
set_option maxHeartbeats 1000000 in
theorem rFirst_any (q : Int) (A : Option Addr) (c : Nat) (xs : List Int) (w : World) (hR : Reads w A (xs.map (Value.int .i64))) (hc : xs.length ≤ c) (hx : xs.length ≤ 1099511627776) :
    Calls Tryd.prog 13 #[.int .i64 q, .slice A xs.length c] w fun e w' => e = .returned (.string ⟨(firstB q xs).toArray⟩) ∧ Below w.heap.size w w' := by
  have l1 := putB_le (keepN q 1099511627776)
  have k1 := keepN_le q 1099511627776
  obtain ⟨m, hm⟩ : ∃ m : Nat, m = min xs.length 60 := ⟨_, rfl⟩
  have hm1 : m ≤ xs.length := by omega
  have hm2 : m ≤ 60 := by omega
  have hmc : m ≤ c := by omega
  have HC := Go.Lib.hid (hR.ints hm1)
  have HX : Hid (xs.take m = xs.take 60) := by show _ = _; rw [hm, take_min]
  obtain ⟨ys, hys⟩ : ∃ ys, ys = xs.take m := ⟨_, rfl⟩
  have hyl : ys.length = m := by rw [hys]; simp; omega
  rw [← hys] at HC HX
  have l2 := putB_le m
  have hK : Hid (keepN (m : Int) 60 = m) := by show _ = _; unfold keepN; rw [if_neg (by omega), if_pos (by omega)]; rfl
  obtain ⟨p, hp⟩ : ∃ p : Bs, p = ([83, 67, 68] ++ kpB q 1099511627776) ++ kpB m 60 := ⟨_, rfl⟩
  have hpl : p.length ≤ 21 := by rw [hp]; simp [kpB, hK.out]; omega
  have HP : Hid (p = ([83, 67, 68] ++ putB (keepN q 1099511627776)) ++ putB m) := by show _ = _; rw [hp]; simp [kpB, hK.out]
  have HP0 := Go.Lib.hid hp
  clear hp
  have HL := Go.Lib.hid hyl
  have h60 : (60 < xs.length ∧ m = 60) ∨ (xs.length ≤ 60 ∧ xs.length = m) := by omega
  clear hys hR hyl hm
  rcases h60 with ⟨h60, rfl⟩ | ⟨h60, rfl⟩
  · go_enter Tryd.func13, Tryd.ntmps13
    go_wp2_with fail
    refine (rkeep_any _ _ _ (by omega) (by omega)).mono ?_
    rintro e w1 ⟨rfl, rfl⟩
    go_wp2_with fail
    refine (rPut_any _ _ (by omega) (by omega)).mono ?_
    rintro e w1 ⟨rfl, hb⟩
    go_wp2_with fail
    refine (rPut_any _ _ (by omega) (by omega)).mono ?_
    rintro e w2 ⟨rfl, hb2⟩
    have hB := hb.trans (hb2.mono hb.size)
    clear hb hb2
    go_wp2_with fail
    go_loopw [6, 7] (fun s i wr => ∃ k : Nat, ∃ t : Bs, k ≤ 60 ∧ i = .int .i64 k ∧ s = .string ⟨t.toArray⟩ ∧ t.length ≤ 21 + 9 * k ∧ Hid (t = p ++ ((ys.take k).map fun n => kpB n 65535).flatten) ∧ Below w.heap.size w wr)
      (fun _ i _ => 60 - (intOf i).toNat)
    case atStart => exact ⟨0, p, Nat.zero_le _, rfl, by rw [HP.out]; simp [ba_app, ba_app'], by omega, by show _ = _; simp, hB⟩
    case round =>
      obtain ⟨k, t, hk, rfl, rfl, htl, HTT, hB2⟩ := hrel
      by_cases hlt : k < 60
      · obtain ⟨b, off, rfl, hbl, hcl⟩ := HC.out k hlt
        have hcl2 := (hB2.cell (p := ⟨b, off + k, none⟩) hbl).trans hcl
        clear hcl
        obtain ⟨y, hy⟩ : ∃ y, y = ys.getD k 0 := ⟨_, rfl⟩
        rw [← hy] at hcl2
        have HYK := Go.Lib.hid hy
        clear hy
        have l3 := putB_le (keepN y 65535)
        have k3 := keepN_le y 65535
        go_wp2_with fail
        refine (rkeep_any _ _ _ (by omega) (by omega)).mono ?_
        rintro e w3 ⟨rfl, rfl⟩
        go_wp2_with fail
        refine (rPut_any _ _ (by omega) (by omega)).mono ?_
        rintro e w3 ⟨rfl, hb3⟩
        go_wp2_with fail
        go_roundw
        case rel =>
          refine ⟨k + 1, t ++ kpB y 65535, by omega, by go_num, by rw [ba_app]; rfl, by simp [kpB]; omega, ?_, hB2.trans (hb3.mono hB2.size)⟩
          show _ = _
          have e2 : ys.take (k + 1) = ys.take k ++ [y] := by
            have h3 : k < ys.length := by rw [HL.out]; omega
            rw [List.take_succ_eq_append_getElem h3, HYK.out]
            simp [List.getD, h3]
          rw [e2, HTT.out]
          simp
        case measure => simp [intOf]; omega
      · obtain rfl : k = 60 := by omega
        go_wp2_with fail
        refine (rline_any _ _ (by simp [ByteArray.size]; omega)).mono ?_
        rintro e w3 ⟨rfl, hb3⟩
        go_wp2_with fail
        go_ret
        refine ⟨ret_str ?_, hB2.trans (hb3.mono hB2.size)⟩
        have e3 : t = firstS q (xs.take 60) := by
          rw [HTT.out, HP0.out, firstS, ← HX.out, HL.out, List.take_of_length_le (by rw [HL.out]; omega)]
        show (⟨(lineB t).toArray⟩ : ByteArray) = _
        rw [e3]; rfl
  · go_enter Tryd.func13, Tryd.ntmps13
    go_wp2_with fail
    refine (rkeep_any _ _ _ (by omega) (by omega)).mono ?_
    rintro e w1 ⟨rfl, rfl⟩
    go_wp2_with fail
    refine (rPut_any _ _ (by omega) (by omega)).mono ?_
    rintro e w1 ⟨rfl, hb⟩
    go_wp2_with fail
    refine (rPut_any _ _ (by omega) (by omega)).mono ?_
    rintro e w2 ⟨rfl, hb2⟩
    have hB := hb.trans (hb2.mono hb.size)
    clear hb hb2
    go_wp2_with fail
    go_loopw [6, 7] (fun s i wr => ∃ k : Nat, ∃ t : Bs, k ≤ xs.length ∧ i = .int .i64 k ∧ s = .string ⟨t.toArray⟩ ∧ t.length ≤ 21 + 9 * k ∧ Hid (t = p ++ ((ys.take k).map fun n => kpB n 65535).flatten) ∧ Below w.heap.size w wr)
      (fun _ i _ => xs.length - (intOf i).toNat)
    case atStart => exact ⟨0, p, Nat.zero_le _, rfl, by rw [HP.out]; simp [ba_app, ba_app'], by omega, by show _ = _; simp, hB⟩
    case round =>
      obtain ⟨k, t, hk, rfl, rfl, htl, HTT, hB2⟩ := hrel
      by_cases hlt : k < xs.length
      · obtain ⟨b, off, rfl, hbl, hcl⟩ := HC.out k hlt
        have hcl2 := (hB2.cell (p := ⟨b, off + k, none⟩) hbl).trans hcl
        clear hcl
        obtain ⟨y, hy⟩ : ∃ y, y = ys.getD k 0 := ⟨_, rfl⟩
        rw [← hy] at hcl2
        have HYK := Go.Lib.hid hy
        clear hy
        have l3 := putB_le (keepN y 65535)
        have k3 := keepN_le y 65535
        go_wp2_with fail
        refine (rkeep_any _ _ _ (by omega) (by omega)).mono ?_
        rintro e w3 ⟨rfl, rfl⟩
        go_wp2_with fail
        refine (rPut_any _ _ (by omega) (by omega)).mono ?_
        rintro e w3 ⟨rfl, hb3⟩
        go_wp2_with fail
        go_roundw
        case rel =>
          refine ⟨k + 1, t ++ kpB y 65535, by omega, by go_num, by rw [ba_app]; rfl, by simp [kpB]; omega, ?_, hB2.trans (hb3.mono hB2.size)⟩
          show _ = _
          have e2 : ys.take (k + 1) = ys.take k ++ [y] := by
            have h3 : k < ys.length := by rw [HL.out]; omega
            rw [List.take_succ_eq_append_getElem h3, HYK.out]
            simp [List.getD, h3]
          rw [e2, HTT.out]
          simp
        case measure => simp [intOf]; omega
      · obtain rfl : k = xs.length := by omega
        go_wp2_with fail
        refine (rline_any _ _ (by simp [ByteArray.size]; omega)).mono ?_
        rintro e w3 ⟨rfl, hb3⟩
        go_wp2_with fail
        go_ret
        refine ⟨ret_str ?_, hB2.trans (hb3.mono hB2.size)⟩
        have e3 : t = firstS q (xs.take 60) := by
          rw [HTT.out, HP0.out, firstS, ← HX.out, HL.out, List.take_of_length_le (by rw [HL.out]; omega)]
        show (⟨(lineB t).toArray⟩ : ByteArray) = _
        rw [e3]; rfl

/-- P7's 'with': bytes of a sector that begin with a byte. -/
def withB (c : UInt8) : Bs := fillB [c]
set_option maxRecDepth 100000 in
theorem with_any (c : Int) (w : World) (h0 : 0 ≤ c) (h1 : c ≤ 255) :
    Calls Tryd.prog 21 #[.int .u8 c] w fun e w' => e = .returned (.string ⟨(withB (UInt8.ofNat c.toNat)).toArray⟩) ∧ Below w.heap.size w w' := by
  have hcv := run_byte_str w c (UInt8.ofNat c.toNat) (by rw [u8_toNat]; omega)
  go_enter Tryd.func21, Tryd.ntmps21
  go_wp2_with fail
  refine (rFill_any _ _ (by simp [ByteArray.size])).mono ?_
  rintro e w1 ⟨rfl, hb⟩
  go_wp2_with fail
  go_ret
  exact ⟨ret_str rfl, ((Below.refl _ _).alloc (Nat.le_refl _) _).trans (hb.mono (by simp))⟩

end Go.Proofs.YtbalbjhmboppoaaDoor
