/-
  PLAIN LEAN, no program: numbers and texts as bytes (document 01): what the layer octet computes.
  No condition.
-/
import Derived.Lib.BitFns
set_option linter.unusedSimpArgs false
set_option linter.unusedVariables false
namespace Go.Proofs.YtbalbjhmboppoaaDoor

abbrev Bs := List UInt8

/-- How many bytes a number below 2^64 needs. -/
def needN (n : Nat) : Nat :=
  if n < 1 then 0 else if n < 256 then 1 else if n < 65536 then 2 else if n < 16777216 then 3 else if n < 4294967296 then 4
  else if n < 1099511627776 then 5 else if n < 281474976710656 then 6 else if n < 72057594037927936 then 7 else 8
theorem needN_le (n : Nat) : needN n ≤ 8 := by unfold needN; (repeat' split) <;> omega
theorem bitLenAux_pow (k : Nat) : ∀ (f x : Nat), k + 1 ≤ f → 2 ^ k ≤ x → x < 2 ^ (k + 1) → Go.Lib.bitLenAux f x = k + 1 := by
  induction k with
  | zero =>
    intro f x hf h1 h2
    obtain ⟨f, rfl⟩ : ∃ g, f = g + 1 := ⟨f - 1, by omega⟩
    obtain rfl : x = 1 := by omega
    cases f <;> simp [Go.Lib.bitLenAux]
  | succ k ih =>
    intro f x hf h1 h2
    obtain ⟨f, rfl⟩ : ∃ g, f = g + 1 := ⟨f - 1, by omega⟩
    have p1 : 2 ^ (k + 1) = 2 * 2 ^ k := by rw [Nat.pow_succ]; omega
    have p2 : 2 ^ (k + 1 + 1) = 2 * 2 ^ (k + 1) := by rw [Nat.pow_succ]; omega
    have h0 : x ≠ 0 := by have := Nat.two_pow_pos k; omega
    rw [Go.Lib.bitLenAux, if_neg h0, ih f (x / 2) (by omega) (by omega) (by omega)]
    omega
theorem bitLen_pow {k x : Nat} (hk : k < 64) (h1 : 2 ^ k ≤ x) (h2 : x < 2 ^ (k + 1)) : Go.Lib.bitLen x = k + 1 := bitLenAux_pow k 64 x (by omega) h1 h2
theorem bitLen_log {x : Nat} (h0 : x ≠ 0) (h : x < 2 ^ 64) : Go.Lib.bitLen x = Nat.log2 x + 1 :=
  bitLen_pow ((Nat.log2_lt h0).2 h) (Nat.log2_self_le h0) Nat.lt_log2_self
theorem bitLen_zero : Go.Lib.bitLen 0 = 0 := rfl
theorem bitLen_lt {k x : Nat} (hk : k ≤ 64) (h : x < 2 ^ k) : Go.Lib.bitLen x ≤ k := by
  by_cases h0 : x = 0
  · subst h0; rw [bitLen_zero]; omega
  · rw [bitLen_log h0 (Nat.lt_of_lt_of_le h (Nat.pow_le_pow_right (by omega) hk))]
    have := (Nat.log2_lt h0).2 h
    omega
theorem le_bitLen {k x : Nat} (h64 : x < 2 ^ 64) (h : 2 ^ k ≤ x) : k + 1 ≤ Go.Lib.bitLen x := by
  have h0 : x ≠ 0 := by have := Nat.two_pow_pos k; omega
  rw [bitLen_log h0 h64]
  have := (Nat.le_log2 h0).2 h
  omega
theorem need_eq (x : Nat) (h : x < 2 ^ 64) : (Go.Lib.bitLen x + 7) / 8 = needN x := by
  have a : ∀ k, k ≤ 64 → x < 2 ^ k → Go.Lib.bitLen x ≤ k := fun k hk h => bitLen_lt hk h
  have b : ∀ k, 2 ^ k ≤ x → k + 1 ≤ Go.Lib.bitLen x := fun k h' => le_bitLen h h'
  unfold needN
  split
  · have := a 0 (by omega) (by omega); omega
  split
  · have := a 8 (by omega) (by omega); have := b 0 (by omega); omega
  split
  · have := a 16 (by omega) (by omega); have := b 8 (by omega); omega
  split
  · have := a 24 (by omega) (by omega); have := b 16 (by omega); omega
  split
  · have := a 32 (by omega) (by omega); have := b 24 (by omega); omega
  split
  · have := a 40 (by omega) (by omega); have := b 32 (by omega); omega
  split
  · have := a 48 (by omega) (by omega); have := b 40 (by omega); omega
  split
  · have := a 56 (by omega) (by omega); have := b 48 (by omega); omega
  · have := a 64 (by omega) (by omega); have := b 56 (by omega); omega

/-- The last k bytes of a number, the highest first. -/
def be : Nat → Nat → Bs
  | 0, _ => []
  | k + 1, n => UInt8.ofNat (n / 256 ^ k) :: be k n
@[simp] theorem be_length (k n : Nat) : (be k n).length = k := by induction k with
  | zero => rfl
  | succ k ih => simp [be, ih]
/-- P1.1: a number. -/
def putB (n : Nat) : Bs := UInt8.ofNat (needN n) :: be (needN n) n
theorem putB_length (n : Nat) : (putB n).length = 1 + needN n := by simp [putB]; omega
theorem putB_le (n : Nat) : (putB n).length ≤ 9 := by have := needN_le n; rw [putB_length]; omega
/-- P1.1: a text. -/
def textB (s : Bs) : Bs := putB s.length ++ s
/-- Where a number is written, byte by byte from the last on: what lies there after i bytes. -/
def putCells (k i n : Nat) : Bs := UInt8.ofNat k :: (List.replicate (k - i) 0 ++ be i n)
@[simp] theorem putCells_length {k i : Nat} (n : Nat) (h : i ≤ k) : (putCells k i n).length = k + 1 := by simp [putCells]; omega
theorem putCells_zero (k n : Nat) : putCells k 0 n = UInt8.ofNat k :: List.replicate k 0 := by simp [putCells, be]
theorem putCells_last (k n : Nat) : putCells k k n = UInt8.ofNat k :: be k n := by simp [putCells]
theorem putCells_set {k i : Nat} (n : Nat) (h : i < k) : (putCells k i n).set (k - i) (UInt8.ofNat (n / 256 ^ i)) = putCells k (i + 1) n := by
  obtain ⟨m, rfl⟩ : ∃ m, k = i + 1 + m := ⟨k - i - 1, by omega⟩
  have e1 : i + 1 + m - i = m + 1 := by omega
  have e2 : i + 1 + m - (i + 1) = m := by omega
  simp only [putCells, e1, e2, List.set_cons_succ, be]
  congr 1
  rw [List.replicate_succ', List.append_assoc, List.set_append, if_neg (by simp)]
  simp

/-- P5.1: a sector of a text. -/
def fits5 (s : Bs) : Bool := decide ((textB s).length ≤ 256)
/-- Bytes 0. -/
def zeros (n : Nat) : Bs := List.replicate n 0
@[simp] theorem zeros_length (n : Nat) : (zeros n).length = n := by simp [zeros]
def fillB (s : Bs) : Bs := if fits5 s then textB s ++ zeros (256 - (textB s).length) else []
def fillE (s : Bs) : Int := if fits5 s then 0 else 11
/-! ### P4.1 -/
def tabL : List Nat := [0, 498536548, 997073096, 651767980, 1994146192, 1802195444, 1303535960, 1342533948, 3988292384, 4027552580, 3604390888, 3412177804, 2607071920, 2262029012, 2685067896, 3183342108]
def tabN (j : Nat) : Nat := tabL.getD j 0
theorem tabN_lt (j : Nat) : tabN j < 4294967296 := by
  unfold tabN
  rcases Nat.lt_or_ge j 16 with h | h
  · have : ∀ j : Fin 16, tabL.getD j.val 0 < 4294967296 := by decide
    exact this ⟨j, h⟩
  · have : tabL[j]? = none := List.getElem?_eq_none (by simpa [tabL] using h)
    rw [List.getD, this]; simp
theorem xor_lt32 {a b : Nat} (ha : a < 4294967296) (hb : b < 4294967296) : a ^^^ b < 4294967296 := Nat.xor_lt_two_pow (n := 32) ha hb
/-- Half a byte goes in. -/
def crcHalf (x : Nat) : Nat := (x / 16) ^^^ tabN (x % 16)
theorem crcHalf_lt {x : Nat} (h : x < 4294967296) : crcHalf x < 4294967296 := xor_lt32 (by omega) (tabN_lt _)
def crcByte (x : Nat) (b : UInt8) : Nat := crcHalf (crcHalf (x ^^^ b.toNat))
theorem u8_lt32 (b : UInt8) : b.toNat < 4294967296 := by have := b.toNat_lt; omega
theorem crcByte_lt {x : Nat} (h : x < 4294967296) (b : UInt8) : crcByte x b < 4294967296 := crcHalf_lt (crcHalf_lt (xor_lt32 h (u8_lt32 b)))
/-- The sum's inner state behind a text. -/
def crcRun (x : Nat) (s : Bs) : Nat := s.foldl crcByte x
theorem crcRun_lt {x : Nat} (h : x < 4294967296) (s : Bs) : crcRun x s < 4294967296 := by
  induction s generalizing x with
  | nil => exact h
  | cons b s ih => exact ih (crcByte_lt h b)
def not32 (x : Nat) : Nat := 4294967295 ^^^ x
theorem not32_lt {x : Nat} (h : x < 4294967296) : not32 x < 4294967296 := xor_lt32 (by omega) h
def crcAdd (c : Nat) (s : Bs) : Nat := not32 (crcRun (not32 c) s)
theorem crcAdd_lt {c : Nat} (h : c < 4294967296) (s : Bs) : crcAdd c s < 4294967296 := not32_lt (crcRun_lt (not32_lt h) s)
/-- P4.1: a text's sum. -/
def crcOf (s : Bs) : Nat := crcAdd 0 s
theorem crcOf_lt (s : Bs) : crcOf s < 4294967296 := crcAdd_lt (by omega) s
/-- P4.2. -/
def le4 (n : Nat) : Bs := [UInt8.ofNat n, UInt8.ofNat (n / 256), UInt8.ofNat (n / 65536), UInt8.ofNat (n / 16777216)]
/-- Byte i of four, the lowest first: what lies there when i of them are written. -/
def leCells (i n : Nat) : Bs := (le4 n).take i ++ zeros (4 - i)
theorem leCells_length {i : Nat} (n : Nat) (h : i ≤ 4) : (leCells i n).length = 4 := by simp [leCells, le4]; omega
theorem leCells_set {i : Nat} (n : Nat) (h : i < 4) : (leCells i n).set i (UInt8.ofNat (n / 256 ^ i)) = leCells (i + 1) n := by
  have h4 : i = 0 ∨ i = 1 ∨ i = 2 ∨ i = 3 := by omega
  rcases h4 with rfl | rfl | rfl | rfl <;> simp [leCells, le4, zeros, List.replicate_succ]
theorem leCells_last (n : Nat) : leCells 4 n = le4 n := by simp [leCells, le4, zeros]
theorem le4_length (n : Nat) : (le4 n).length = 4 := rfl
def sealB (s : Bs) : Bs := s ++ le4 (crcOf s)
def wholeB (s : Bs) : Bool := decide (crcOf s = 558161692)
def cOpens (s : Bs) : Bool := decide (4 ≤ s.length) && wholeB s
def cOpenB (s : Bs) : Bs := if cOpens s then s.take (s.length - 4) else []
/-! ### P7.1 -/
/-- A number, kept from 0 to most. -/
def keepN (n : Int) (most : Nat) : Nat := if n < 0 then 0 else if n ≤ most then n.toNat else most
theorem keepN_le (n : Int) (most : Nat) : keepN n most ≤ most := by unfold keepN; (repeat' split) <;> omega
def lineB (s : Bs) : Bs := fillB (sealB s)
def kpB (n : Int) (most : Nat) : Bs := putB (keepN n most)
def headB (place seq : Int) : Bs := lineB (([83, 67, 72] ++ kpB place 65535) ++ kpB seq 1099511627776)
def firstS (seq : Int) (at_ : List Int) : Bs := (([83, 67, 68] ++ kpB seq 1099511627776) ++ kpB at_.length 60) ++ (at_.map fun n => kpB n 65535).flatten
def firstB (seq : Int) (at_ : List Int) : Bs := lineB (firstS seq (at_.take 60))
def lastB (seq n : Int) : Bs := lineB (([83, 67, 67] ++ kpB seq 1099511627776) ++ kpB n 1099511627776)
theorem kpB_le (n : Int) (most : Nat) : (kpB n most).length ≤ 9 := putB_le _
/-! ### the document's own sum, bit by bit, is the same -/
def crcBit (x : Nat) : Nat := if x % 2 = 1 then (x / 2) ^^^ 3988292384 else x / 2
theorem crcBit_lt {x : Nat} (h : x < 4294967296) : crcBit x < 4294967296 := by
  unfold crcBit
  split
  · exact xor_lt32 (by omega) (by omega)
  · omega
def crcBits : Nat → Nat → Nat
  | 0, x => x
  | j + 1, x => crcBits j (crcBit x)
def bitsT : Nat → Nat → Nat → Nat
  | 0, _, c => c
  | j + 1, r, c => bitsT j (r / 2) (c / 2 ^^^ (if (r + c) % 2 = 1 then 3988292384 else 0))
theorem crcBit_xor (a c : Nat) : crcBit (a ^^^ c) = (a / 2) ^^^ (c / 2 ^^^ (if (a + c) % 2 = 1 then 3988292384 else 0)) := by
  unfold crcBit
  have hm : (a ^^^ c) % 2 = (a + c) % 2 := by have := @Nat.xor_mod_two_eq_one a c; omega
  rw [hm, Nat.xor_div_two]
  split
  · rw [Nat.xor_assoc]
  · simp
theorem crcBits_low (j : Nat) : ∀ q r c, r < 2 ^ j → crcBits j ((2 ^ j * q + r) ^^^ c) = q ^^^ bitsT j r c := by
  induction j with
  | zero =>
    intro q r c h
    have h0 : r = 0 := by simp at h; exact h
    subst h0
    simp [crcBits, bitsT]
  | succ j ih =>
    intro q r c h
    have p1 : 2 ^ (j + 1) = 2 * 2 ^ j := by rw [Nat.pow_succ]; omega
    have e1 : (2 ^ (j + 1) * q + r) / 2 = 2 ^ j * q + r / 2 := by rw [p1, Nat.mul_assoc]; omega
    have e2 : (2 ^ (j + 1) * q + r + c) % 2 = (r + c) % 2 := by rw [p1, Nat.mul_assoc]; omega
    rw [crcBits, crcBit_xor, e1, e2, ih q (r / 2) _ (by omega)]
    rfl
theorem crcBits_half (x : Nat) : crcBits 4 x = crcHalf x := by
  have h := crcBits_low 4 (x / 16) (x % 16) 0 (by omega)
  rw [show 2 ^ 4 * (x / 16) + x % 16 = x by omega, Nat.xor_zero] at h
  rw [h]
  have t : ∀ r : Fin 16, bitsT 4 r.val 0 = tabN r.val := by decide
  have := t ⟨x % 16, by omega⟩
  unfold crcHalf
  rw [← this]
theorem crcBits_byte (x : Nat) (b : UInt8) : crcBits 8 (x ^^^ b.toNat) = crcByte x b := by
  unfold crcByte
  rw [← crcBits_half, ← crcBits_half]
  rfl

theorem needN_le_iff {n i : Nat} (hi : i ≤ 8) (hn : n < 18446744073709551616) : needN n ≤ i ↔ n < 256 ^ i := by
  have h : i = 0 ∨ i = 1 ∨ i = 2 ∨ i = 3 ∨ i = 4 ∨ i = 5 ∨ i = 6 ∨ i = 7 ∨ i = 8 := by omega
  unfold needN
  rcases h with rfl | rfl | rfl | rfl | rfl | rfl | rfl | rfl | rfl <;> simp only [Nat.reducePow] <;> (repeat' split) <;> omega
theorem needN_of {n j : Nat} (hn : n < 18446744073709551616) (hj : j ≤ 8) (h1 : j = 0 ∨ n / 256 ^ (j - 1) ≠ 0) (h2 : n / 256 ^ j = 0) : needN n = j := by
  have a : needN n ≤ j := (needN_le_iff hj hn).2 (by have := Nat.div_eq_zero_iff.1 h2; have := Nat.pow_pos (n := j) (show 0 < 256 by omega); omega)
  rcases h1 with rfl | h1
  · omega
  · have b : ¬ needN n ≤ j - 1 := fun h => h1 (Nat.div_eq_of_lt ((needN_le_iff (by omega) hn).1 h))
    omega

theorem u8_of_mod (n : Nat) : UInt8.ofNat (n % 256) = UInt8.ofNat n := by
  apply UInt8.toNat_inj.1
  simp
theorem u8_toNat (n : Nat) : (UInt8.ofNat n).toNat = n % 256 := by simp

end Go.Proofs.YtbalbjhmboppoaaDoor
