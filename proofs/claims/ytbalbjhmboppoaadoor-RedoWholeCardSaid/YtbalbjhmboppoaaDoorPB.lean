/-
  PLAIN LEAN: numbers, texts, sums are read back.
  No condition.
-/
import Derived.Test.YtbalbjhmboppoaaDoorL5
set_option linter.unusedSimpArgs false
set_option linter.unusedVariables false
namespace Go.Proofs.YtbalbjhmboppoaaDoor
open Go.RowKit
/-! ### numbers and texts are read back -/
theorem u8_small {k : Nat} (h : k ≤ 8) : (UInt8.ofNat k).toNat = k := by rw [u8_toNat]; omega
theorem val_be (k : Nat) : ∀ n, n < 256 ^ k → val (be k n) = n := by
  have key : ∀ k n acc, n < 256 ^ k → (be k n).foldl (fun n b => n * 256 + b.toNat) acc = acc * 256 ^ k + n := by
    intro k
    induction k with
    | zero => intro n acc h; simp [be] at h ⊢; omega
    | succ k ih =>
      intro n acc h
      have hp : 0 < 256 ^ k := Nat.pow_pos (by omega)
      have hd : n / 256 ^ k < 256 := by rw [Nat.div_lt_iff_lt_mul hp]; rw [Nat.pow_succ] at h; rw [Nat.mul_comm]; exact h
      have hm : n % 256 ^ k < 256 ^ k := Nat.mod_lt _ hp
      have e : be k n = be k (n % 256 ^ k) := by
        clear ih h hd hm
        have : ∀ j, j ≤ k → be j n = be j (n % 256 ^ k) := by
          intro j
          induction j with
          | zero => intro _; rfl
          | succ j ih =>
            intro hj
            simp only [be]
            rw [ih (by omega)]
            congr 1
            apply UInt8.toNat_inj.1
            rw [u8_toNat, u8_toNat]
            have : 256 ^ k = 256 ^ (j + 1) * 256 ^ (k - (j + 1)) := by rw [← Nat.pow_add]; congr 1; omega
            rw [this, ← Nat.mod_mul_right_div_self, ← Nat.mod_mul_right_div_self, ← Nat.pow_succ, Nat.mod_mul_right_mod]
        exact this k (Nat.le_refl _)
      simp only [be, List.foldl_cons]
      rw [e, ih _ _ hm, u8_toNat, Nat.mod_eq_of_lt hd, Nat.pow_succ]
      have := Nat.div_add_mod n (256 ^ k)
      rw [Nat.add_mul, Nat.mul_comm (256 ^ k) 256, ← Nat.mul_assoc]
      rw [Nat.mul_comm (n / 256 ^ k)]
      omega
  intro n h
  unfold val
  rw [key k n 0 h]; omega
theorem needN_pow {n : Nat} (h : n < 18446744073709551616) : n < 256 ^ needN n := (needN_le_iff (needN_le n) h).1 (Nat.le_refl _)
theorem be_head {n : Nat} (h : n < 18446744073709551616) (h0 : 0 < needN n) : (be (needN n) n).headD 0 ≠ 0 := by
  obtain ⟨k, hk⟩ : ∃ k, needN n = k + 1 := ⟨needN n - 1, by omega⟩
  have h8 := needN_le n
  have h1 := needN_pow h
  have h2 : ¬ n < 256 ^ k := fun hl => by
    have := (needN_le_iff (by omega) h).2 hl
    omega
  rw [hk] at h1 ⊢
  simp only [be, List.headD_cons]
  have hp : 0 < 256 ^ k := Nat.pow_pos (by omega)
  have hd : n / 256 ^ k < 256 := by rw [Nat.div_lt_iff_lt_mul hp]; rw [Nat.pow_succ] at h1; rw [Nat.mul_comm]; exact h1
  have hd1 : 1 ≤ n / 256 ^ k := by rw [Nat.le_div_iff_mul_le hp]; omega
  intro he
  have := congrArg UInt8.toNat he
  rw [u8_toNat, Nat.mod_eq_of_lt hd] at this
  simp at this
  omega
theorem longS_put {n : Nat} (h : n < 18446744073709551616) (t : Bs) : longS ⟨putB n ++ t, false⟩ = (⟨t, false⟩, n) := by
  have h8 := needN_le n
  have hu := u8_small h8
  unfold longS putB
  simp only [List.cons_append, hu]
  rw [if_neg (by decide), if_neg (by simp; omega), if_neg ?_]
  · simp [val_be _ _ (needN_pow h)]
  · rintro ⟨h1, h2⟩
    have := be_head h h1
    apply this
    rw [← h2]
    obtain ⟨k, hk⟩ : ∃ k, needN n = k + 1 := ⟨needN n - 1, by omega⟩
    rw [hk]; simp [be]
theorem numS_put {n most : Nat} (h : n ≤ most) (hm : n < 18446744073709551616) (t : Bs) : numS ⟨putB n ++ t, false⟩ most = (⟨t, false⟩, n) := by
  unfold numS
  rw [longS_put hm]
  rw [if_neg (by dsimp only; omega)]
theorem textS_text {s : Bs} {most : Nat} (h : s.length ≤ most) (hm : s.length < 18446744073709551616) (t : Bs) : textS ⟨textB s ++ t, false⟩ most = (⟨t, false⟩, s) := by
  unfold textS textB
  rw [List.append_assoc, numS_put h hm]
  simp [takeS]
  rw [if_neg (by omega)]
  exact ⟨rfl, rfl⟩
theorem opens_fill {s : Bs} (h : fits5 s = true) : opens (fillB s) = true ∧ openB (fillB s) = s := by
  have hl : s.length ≤ 256 := by simp [fits5, textB] at h; omega
  have e : fillB s = textB s ++ zeros (256 - (textB s).length) := by unfold fillB; rw [if_pos h]
  have ht := textS_text (most := 256) hl (by omega) (zeros (256 - (textB s).length))
  rw [← e] at ht
  have ho : opens (fillB s) = true := by
    unfold opens
    rw [ht]
    simp [h]
  refine ⟨ho, ?_⟩
  unfold openB
  rw [if_pos ho, ht]

/-! ### P4: a sealed text is whole -/
theorem crcBits_add (i j x : Nat) : crcBits (i + j) x = crcBits j (crcBits i x) := by
  induction i generalizing x with
  | zero => simp [crcBits]
  | succ i ih => rw [Nat.succ_add]; simp only [crcBits]; exact ih _
theorem crcBits_high (j q c : Nat) : crcBits j (c ^^^ (2 ^ j * q)) = crcBits j c ^^^ q := by
  have h1 := crcBits_low j q 0 c (Nat.two_pow_pos j)
  have h2 := crcBits_low j 0 0 c (Nat.two_pow_pos j)
  simp at h1 h2
  rw [Nat.xor_comm, h1, ← h2, Nat.xor_comm]
theorem xor_low (b q : Nat) (h : b < 256) : b ^^^ (256 * q) = b + 256 * q := by
  have h2 : (2 ^ 8 * q) ||| b = 2 ^ 8 * q + b := by
    rw [Nat.two_pow_add_eq_or_of_lt (by simpa using h)]
  have h1 : b ^^^ (2 ^ 8 * q) = b ||| (2 ^ 8 * q) := by
    apply Nat.eq_of_testBit_eq
    intro i
    rw [Nat.testBit_xor, Nat.testBit_or, Nat.testBit_two_pow_mul]
    by_cases hi : 8 ≤ i
    · have : b.testBit i = false := Nat.testBit_lt_two_pow (Nat.lt_of_lt_of_le h (by rw [show 256 = 2 ^ 8 from rfl]; exact Nat.pow_le_pow_right (by omega) hi))
      simp [this]
    · simp [hi]
  rw [show 256 * q = 2 ^ 8 * q from rfl, h1, Nat.or_comm, h2]; omega
theorem crcByte_low (x n : Nat) : crcByte x (UInt8.ofNat n) ^^^ (n / 256) = crcBits 8 (x ^^^ n) := by
  rw [← crcBits_byte, u8_toNat, ← crcBits_high, Nat.xor_assoc]
  rw [show 2 ^ 8 * (n / 256) = 256 * (n / 256) from rfl, xor_low _ _ (Nat.mod_lt _ (by omega)), Nat.mod_add_div]
theorem crcRun_le4 (x n : Nat) (h : n < 4294967296) : crcRun x (le4 n) = crcBits 32 (x ^^^ n) := by
  have e1 := crcByte_low x n
  have e2 := crcByte_low (crcByte x (UInt8.ofNat n)) (n / 256)
  have e3 := crcByte_low (crcByte (crcByte x (UInt8.ofNat n)) (UInt8.ofNat (n / 256))) (n / 65536)
  have e4 := crcByte_low (crcByte (crcByte (crcByte x (UInt8.ofNat n)) (UInt8.ofNat (n / 256))) (UInt8.ofNat (n / 65536))) (n / 16777216)
  rw [show n / 256 / 256 = n / 65536 by omega] at e2
  rw [show n / 65536 / 256 = n / 16777216 by omega] at e3
  rw [show n / 16777216 / 256 = 0 by omega, Nat.xor_zero] at e4
  show crcByte _ _ = _
  rw [show 32 = 8 + (8 + (8 + 8)) from rfl, crcBits_add, crcBits_add, crcBits_add, ← e1, ← e2, ← e3]
  exact e4
theorem not32_xor (x : Nat) : x ^^^ not32 x = 4294967295 := by
  unfold not32
  rw [Nat.xor_comm 4294967295, ← Nat.xor_assoc, Nat.xor_self, Nat.zero_xor]
theorem crc_end : not32 (crcBits 32 4294967295) = 558161692 := by decide +kernel
theorem crcRun_append (x : Nat) (s t : Bs) : crcRun x (s ++ t) = crcRun (crcRun x s) t := by simp [crcRun]
theorem whole_seal (s : Bs) : wholeB (sealB s) = true := by
  unfold wholeB sealB crcOf crcAdd
  rw [crcRun_append]
  have hx := crcRun_lt (not32_lt (show 0 < 4294967296 by omega)) s
  rw [crcRun_le4 _ _ (not32_lt hx), not32_xor, crc_end]
  rfl
theorem cOpens_seal (s : Bs) : cOpens (sealB s) = true ∧ cOpenB (sealB s) = s := by
  have h : cOpens (sealB s) = true := by
    unfold cOpens
    rw [whole_seal]
    simp [sealB, le4_length]
  refine ⟨h, ?_⟩
  unfold cOpenB
  rw [if_pos h]
  simp [sealB, le4_length]
theorem rtext_line {kind rest : Bs} (h : fits5 (sealB (kind ++ rest)) = true) : rtextS (lineB (kind ++ rest)) kind = some rest := by
  unfold rtextS lineB
  rw [(opens_fill h).2, (cOpens_seal _).1, (cOpens_seal _).2]
  simp
theorem rtext_other {kind kind2 rest : Bs} (h : fits5 (sealB (kind ++ rest)) = true) (hl : kind.length = kind2.length) (hne : kind ≠ kind2) : rtextS (lineB (kind ++ rest)) kind2 = none := by
  unfold rtextS lineB
  rw [(opens_fill h).2, (cOpens_seal _).1, (cOpens_seal _).2, if_neg]
  rintro ⟨_, h2⟩
  rw [← hl, List.take_left'  rfl] at h2
  exact hne h2
set_option maxRecDepth 100000 in
theorem rtext_zeros (kind : Bs) : rtextS (zeros 256) kind = none := by
  have h : openB (zeros 256) = [] := by decide +kernel
  unfold rtextS
  rw [h, if_neg]
  rintro ⟨h1, _⟩
  exact absurd h1 (by decide)
theorem fits5_of {s : Bs} (h : s.length ≤ 247) : fits5 s = true := by
  have := putB_le s.length
  simp [fits5, textB]; omega
theorem sealB_len (s : Bs) : (sealB s).length = s.length + 4 := by simp [sealB, le4_length]
theorem lineB_len {s : Bs} (h : s.length ≤ 240) : (lineB s).length = 256 := by
  have hf : fits5 (sealB s) = true := fits5_of (by rw [sealB_len]; omega)
  unfold lineB fillB
  rw [if_pos hf]
  simp [fits5] at hf
  simp; omega
theorem kp_eq {n : Nat} {most : Nat} (h : n ≤ most) : kpB (n : Int) most = putB n := by
  unfold kpB keepN
  rw [if_neg (by omega), if_pos (by omega)]; rfl
theorem zerosB_ne_line {kind rest : Bs} (h : fits5 (sealB (kind ++ rest)) = true) : lineB (kind ++ rest) ≠ zeros 256 := fun e => by
  have h1 := rtext_line h
  rw [e, rtext_zeros] at h1
  cases h1
end Go.Proofs.YtbalbjhmboppoaaDoor
