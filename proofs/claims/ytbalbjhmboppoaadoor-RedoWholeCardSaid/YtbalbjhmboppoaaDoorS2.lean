/-
  THE LAYER octet, read: Long, Num and Text; sector.Open.
  A text is shorter than 2^40 bytes.
-/
import Derived.Test.YtbalbjhmboppoaaDoorS1
import Derived.Laws.Bits64b
set_option linter.unusedSimpArgs false
set_option linter.unusedVariables false
namespace Go.Proofs.YtbalbjhmboppoaaDoor
open Go.RowKit

theorem Long_nil (w : World) : Calls Tryd.prog 91 #[.pointer none] w fun e w' => e = .returned (.int .u64 0) ∧ w = w' := by
  go_enter Tryd.func91, Tryd.ntmps91
  go_wp2_with fail
  refine (take_nil _ _).mono ?_
  rintro e w1 ⟨rfl, rfl⟩
  go_wp2_with fail
  go_ret
  exact ⟨rfl, rfl⟩

theorem ba_get (l : Bs) (i : Nat) (h : i < (⟨l.toArray⟩ : ByteArray).size) : (⟨l.toArray⟩ : ByteArray)[i] = l[i]'h := rfl
theorem val_lt (l : Bs) : val l < 256 ^ l.length := by
  have h : ∀ (l : Bs) (n k : Nat), n < 256 ^ k → l.foldl (fun n b => n * 256 + b.toNat) n < 256 ^ (k + l.length) := by
    intro l
    induction l with
    | nil => intro n k h; simpa using h
    | cons b t ih =>
      intro n k h
      have hb := b.toNat_lt
      have e : k + (b :: t).length = k + 1 + t.length := by simp; omega
      rw [e]
      refine ih _ (k + 1) ?_
      show n * 256 + b.toNat < _
      rw [Nat.pow_succ]; omega
  have := h l 0 0 (by simp)
  simpa [val] using this
theorem val_take (l : Bs) (k : Nat) (h : k < l.length) : val (l.take (k + 1)) = val (l.take k) * 256 + l[k].toNat := by
  rw [List.take_succ_eq_append_getElem h]; unfold val; rw [List.foldl_append]; rfl
theorem or256 (n b : Nat) (hb : b < 256) : n * 256 ||| b = n * 256 + b := by
  have := Nat.two_pow_add_eq_or_of_lt (i := 8) (b := b) (by omega) n
  rw [Nat.mul_comm n 256]
  exact this.symm

set_option maxRecDepth 100000 in
theorem Long_any (p : Nat) (s : Sc) (w : World) (h : ScAt w p s) (hl : s.left.length ≤ 1099511627776) :
    Calls Tryd.prog 91 #[.pointer (some ⟨p, 0, none⟩)] w fun e w' => e = .returned (.int .u64 ((longS s).2 : Int)) ∧ ScAt w' p (longS s).1 ∧ Upd [p] w w' := by
  obtain ⟨r, hr⟩ : ∃ r, r = longS s := ⟨_, rfl⟩
  rw [← hr]
  have HR := Go.Lib.hid hr
  clear hr
  obtain ⟨left, spoil⟩ := s
  have H := Go.Lib.hid h
  clear h
  cases spoil
  · cases left with
    | nil =>
      go_enter Tryd.func91, Tryd.ntmps91
      go_wp2_with fail
      refine (take_any _ _ _ _ H.out hl).mono ?_
      rintro e w1 ⟨rfl, hS, hU⟩
      simp only [takeS] at hS
      go_wp2_with fail
      go_ret
      rw [HR.out]
      exact ⟨rfl, hS, hU⟩
    | cons b t =>
      have ht : t.length ≤ 1099511627776 := by simp at hl; omega
      have e1 : takeS ⟨b :: t, false⟩ 1 = (⟨t, false⟩, [b], true) := by simp [takeS]; omega
      obtain ⟨s1, hs1⟩ : ∃ s1 : ByteArray, s1 = ⟨#[b]⟩ := ⟨_, rfl⟩
      obtain ⟨k, hk⟩ : ∃ k, k = b.toNat := ⟨_, rfl⟩
      have hz1 : s1.size = 1 := by rw [hs1]; rfl
      have hg1 : s1[0].toNat = k := by subst hs1; exact hk.symm
      have hkl : k ≤ 255 := by have := b.toNat_lt; omega
      have HK := Go.Lib.hid hk
      have HS1 := Go.Lib.hid hs1
      go_enter Tryd.func91, Tryd.ntmps91
      go_wp2_with fail
      refine (take_any _ _ _ _ H.out hl).mono ?_
      rintro e w1 ⟨rfl, hS, hU⟩
      simp only [e1] at hS ⊢
      rw [← hs1]
      clear hs1 hk e1
      by_cases h8 : 8 < k
      · have e2 : takeS ⟨t, false⟩ (-1) = (⟨t, true⟩, [], false) := by simp [takeS]
        go_wp2_with fail
        refine (take_any _ _ _ _ hS ht).mono ?_
        rintro e w2 ⟨rfl, hS2, hU2⟩
        simp only [e2] at hS2 ⊢
        go_wp2_with fail
        go_loop [7, 41] (fun c i => c = .int .u64 0 ∧ i = .int .i64 0) (fun _ _ => 0)
        case atStart => exact ⟨rfl, rfl⟩
        case round =>
          obtain ⟨rfl, rfl⟩ := hrel
          go_wp2_with fail
          go_ret
          have : longS ⟨b :: t, false⟩ = (⟨t, true⟩, 0) := by simp only [longS]; rw [if_neg (by decide), if_pos (.inl (by rw [← HK.out]; exact h8))]
          rw [HR.out, this]
          exact ⟨rfl, hS2, hU.trans hU2 (fun k hk => .inl hk)⟩
      · by_cases htk : t.length < k
        · have e2 : takeS ⟨t, false⟩ k = (⟨t, true⟩, [], false) := by simp [takeS]; omega
          go_wp2_with fail
          refine (take_any _ _ _ _ hS ht).mono ?_
          rintro e w2 ⟨rfl, hS2, hU2⟩
          simp only [e2] at hS2 ⊢
          go_wp2_with fail
          go_loop [7, 41] (fun c i => c = .int .u64 0 ∧ i = .int .i64 0) (fun _ _ => 0)
          case atStart => exact ⟨rfl, rfl⟩
          case round =>
            obtain ⟨rfl, rfl⟩ := hrel
            go_wp2_with fail
            go_ret
            have : longS ⟨b :: t, false⟩ = (⟨t, true⟩, 0) := by simp only [longS]; rw [if_neg (by decide), if_pos (.inr (by rw [← HK.out]; exact htk))]
            rw [HR.out, this]
            exact ⟨rfl, hS2, hU.trans hU2 (fun k hk => .inl hk)⟩
        · have e2 : takeS ⟨t, false⟩ k = (⟨t.drop k, false⟩, t.take k, true) := by simp [takeS]; omega
          obtain ⟨u, hu⟩ : ∃ u : ByteArray, u = ⟨(t.take k).toArray⟩ := ⟨_, rfl⟩
          have hus : u.size = k := by rw [hu]; simp [ByteArray.size]; omega
          have HU := Go.Lib.hid hu
          go_wp2_with fail
          refine (take_any _ _ _ _ hS ht).mono ?_
          rintro e w2 ⟨rfl, hS2, hU2⟩
          simp only [e2] at hS2 ⊢
          rw [← hu]
          have hne : longS ⟨b :: t, false⟩ = if 0 < k ∧ t.headD 0 = 0 then (⟨t.drop k, true⟩, 0) else (⟨t.drop k, false⟩, val (t.take k)) := by
            simp only [longS]
            rw [if_neg (by decide), ← HK.out, if_neg (by omega)]
          have HN := Go.Lib.hid hne
          clear hne hu e2
          by_cases hz : 0 < k ∧ t.headD 0 = 0
          · have hk0 : 0 < k := hz.1
            have h0t : 0 < t.length := by omega
            have hh : t.headD 0 = t[0] := by cases t with | nil => simp at h0t | cons x t' => rfl
            have hx : u[0].toNat = 0 := by
              have h2 := hz.2
              have h3 := HU.out
              subst h3
              rw [ba_get, List.getElem_take, ← hh, h2]
              rfl
            have e3 : takeS ⟨t.drop k, false⟩ (-1) = (⟨t.drop k, true⟩, [], false) := by simp [takeS]
            have HZ := Go.Lib.hid hz
            clear hh
            go_wp2_with fail
            refine (take_any _ _ _ _ hS2 (by simp; omega)).mono ?_
            rintro e w3 ⟨rfl, hS3, hU3⟩
            simp only [e3] at hS3 ⊢
            go_wp2_with fail
            go_ret
            rw [HR.out, HN.out, if_pos HZ.out]
            exact ⟨rfl, hS3, (hU.trans hU2 (fun k hk => .inl hk)).trans hU3 (fun k hk => .inl hk)⟩
          · have hx : ∀ h : 0 < k, ((u[0].toNat : Int) == 0) = false := by
              intro h
              have h0t : 0 < t.length := by omega
              have hh : t.headD 0 = t[0] := by cases t with | nil => simp at h0t | cons x t' => rfl
              have h2 : t[0] ≠ 0 := fun e => hz ⟨h, by rw [hh, e]⟩
              have h3 := HU.out
              subst h3
              rw [ba_get, List.getElem_take]
              simp
              intro e
              exact h2 (by apply UInt8.toNat_inj.1; simpa using e)
            have HX := Go.Lib.hid hx
            have HZ := Go.Lib.hid hz
            clear hx hz
            by_cases hk0 : 0 < k
            · have hx := HX.out hk0
              go_wp2_with fail
              go_loop [7, 41] (fun c i => ∃ j n : Nat, j ≤ k ∧ i = .int .i64 j ∧ c = .int .u64 n ∧ n < 256 ^ j ∧ Hid (n = val ((t.take k).take j))) (fun _ i => k - (intOf i).toNat)
              case atStart => exact ⟨0, 0, by omega, rfl, rfl, by simp, rfl⟩
              case round =>
                obtain ⟨j, n, hj, rfl, rfl, hn, HV⟩ := hrel
                by_cases hlt : j < k
                · have hb := u[j].toNat_lt
                  have hp7 : 256 ^ j ≤ 256 ^ 7 := Nat.pow_le_pow_right (by omega) (by omega)
                  have e5 : bits .or .u64 ((n : Int) * 256) (u[j].toNat : Int) = ((n * 256 + u[j].toNat : Nat) : Int) := by
                    have := u64_or_nat (n * 256) u[j].toNat (by omega) (by omega)
                    rw [or256 n _ hb] at this
                    rw [← this]; rfl
                  have hn2 : n * 256 + u[j].toNat < 256 ^ (j + 1) := by rw [Nat.pow_succ]; omega
                  have HV2 : Hid (n * 256 + u[j].toNat = val ((t.take k).take (j + 1))) := by
                    show _ = _
                    rw [val_take _ _ (by simp; omega), ← HV.out]
                    have h3 := HU.out
                    subst h3
                    rw [ba_get]
                  have hn7 : (n : Int) * 256 < 18446744073709551616 := by omega
                  generalize n * 256 + u[j].toNat = n2 at e5 hn2 HV2
                  clear hn
                  go_wp2_with fail
                  go_round
                  case rel => exact ⟨j + 1, n2, by omega, by go_num, rfl, hn2, HV2⟩
                  case measure => simp [intOf]; omega
                · obtain rfl : j = k := by omega
                  go_wp2_with fail
                  go_ret
                  rw [HR.out, HN.out, if_neg HZ.out]
                  refine ⟨ret_int ?_, hS2, hU.trans hU2 (fun k hk => .inl hk)⟩
                  rw [HV.out, List.take_of_length_le (by simp; omega)]
            · go_wp2_with fail
              go_loop [7, 41] (fun c i => ∃ j n : Nat, j ≤ k ∧ i = .int .i64 j ∧ c = .int .u64 n ∧ n < 256 ^ j ∧ Hid (n = val ((t.take k).take j))) (fun _ i => k - (intOf i).toNat)
              case atStart => exact ⟨0, 0, by omega, rfl, rfl, by simp, rfl⟩
              case round =>
                obtain ⟨j, n, hj, rfl, rfl, hn, HV⟩ := hrel
                by_cases hlt : j < k
                · have hb := u[j].toNat_lt
                  have hp7 : 256 ^ j ≤ 256 ^ 7 := Nat.pow_le_pow_right (by omega) (by omega)
                  have e5 : bits .or .u64 ((n : Int) * 256) (u[j].toNat : Int) = ((n * 256 + u[j].toNat : Nat) : Int) := by
                    have := u64_or_nat (n * 256) u[j].toNat (by omega) (by omega)
                    rw [or256 n _ hb] at this
                    rw [← this]; rfl
                  have hn2 : n * 256 + u[j].toNat < 256 ^ (j + 1) := by rw [Nat.pow_succ]; omega
                  have HV2 : Hid (n * 256 + u[j].toNat = val ((t.take k).take (j + 1))) := by
                    show _ = _
                    rw [val_take _ _ (by simp; omega), ← HV.out]
                    have h3 := HU.out
                    subst h3
                    rw [ba_get]
                  have hn7 : (n : Int) * 256 < 18446744073709551616 := by omega
                  generalize n * 256 + u[j].toNat = n2 at e5 hn2 HV2
                  clear hn
                  go_wp2_with fail
                  go_round
                  case rel => exact ⟨j + 1, n2, by omega, by go_num, rfl, hn2, HV2⟩
                  case measure => simp [intOf]; omega
                · obtain rfl : j = k := by omega
                  go_wp2_with fail
                  go_ret
                  rw [HR.out, HN.out, if_neg HZ.out]
                  refine ⟨ret_int ?_, hS2, hU.trans hU2 (fun k hk => .inl hk)⟩
                  rw [HV.out, List.take_of_length_le (by simp; omega)]
  · have : longS ⟨left, true⟩ = (⟨left, true⟩, 0) := by simp [longS]
    have e1 : takeS ⟨left, true⟩ 1 = (⟨left, true⟩, [], false) := by simp [takeS]
    have HL := Go.Lib.hid this
    clear this
    go_enter Tryd.func91, Tryd.ntmps91
    go_wp2_with fail
    refine (take_any _ _ _ _ H.out hl).mono ?_
    rintro e w1 ⟨rfl, hS, hU⟩
    simp only [e1] at hS ⊢
    go_wp2_with fail
    go_ret
    rw [HR.out, HL.out]
    exact ⟨rfl, hS, hU⟩

theorem Num_nil (most : Int) (h : 0 ≤ most) (h1 : most ≤ 4611686018427387904) (w : World) : Calls Tryd.prog 70 #[.pointer none, .int .i64 most] w fun e w' => e = .returned (.int .i64 0) ∧ w = w' := by
  go_enter Tryd.func70, Tryd.ntmps70
  go_wp2_with fail
  refine (Long_nil _).mono ?_
  rintro e w1 ⟨rfl, rfl⟩
  go_wp2_with fail
  go_ret
  exact ⟨rfl, rfl⟩

theorem longS_lt (s : Sc) : (longS s).2 < 18446744073709551616 := by
  unfold longS
  split
  · simp
  · split
    · simp
    · rename_i b t h
      split
      · simp
      · rename_i h8
        split
        · simp
        · have := val_lt (t.take b.toNat)
          have h3 : 256 ^ (t.take b.toNat).length ≤ 256 ^ 8 := Nat.pow_le_pow_right (by omega) (by simp; omega)
          simp only
          omega
theorem Num_any (p : Nat) (s : Sc) (most : Nat) (w : World) (h : ScAt w p s) (hl : s.left.length ≤ 1099511627776) (hm : most ≤ 4611686018427387904) :
    Calls Tryd.prog 70 #[.pointer (some ⟨p, 0, none⟩), .int .i64 most] w fun e w' => e = .returned (.int .i64 ((numS s most).2 : Int)) ∧ ScAt w' p (numS s most).1 ∧ Upd [p] w w' := by
  have hll := longS_len s
  have hlt := longS_lt s
  obtain ⟨r, hr⟩ : ∃ r, r = longS s := ⟨_, rfl⟩
  obtain ⟨q, hq⟩ : ∃ q, q = numS s most := ⟨_, rfl⟩
  have hL := Long_any p s w h hl
  rw [← hq]
  rw [← hr] at hL hlt hll
  obtain ⟨rs, n⟩ := r
  simp only at hL hlt hll
  have HQ : Hid (q = if most < n then (⟨rs.left, true⟩, 0) else (rs, n)) := by show _ = _; rw [hq]; unfold numS; rw [← hr]
  clear hq hr h
  have HL := Go.Lib.hid hL
  clear hL
  go_enter Tryd.func70, Tryd.ntmps70
  go_wp2_with fail
  refine (HL.out).mono ?_
  rintro e w1 ⟨rfl, hS, hU⟩
  by_cases hn : most < n
  · have et : (takeS rs (-1)).1 = ⟨rs.left, true⟩ := by obtain ⟨left, spoil⟩ := rs; cases spoil <;> simp [takeS]
    go_wp2_with fail
    refine (take_any _ _ _ _ hS (by omega)).mono ?_
    rintro e w2 ⟨rfl, hS2, hU2⟩
    go_wp2_with fail
    go_ret
    rw [HQ.out, if_pos hn]
    rw [et] at hS2
    exact ⟨rfl, hS2, hU.trans hU2 (fun k hk => .inl hk)⟩
  · go_wp2_with fail
    go_ret
    rw [HQ.out, if_neg hn]
    exact ⟨rfl, hS, hU⟩

theorem numS_lt (s : Sc) (most : Nat) : (numS s most).2 ≤ most := by
  unfold numS
  by_cases h : most < (longS s).2
  · rw [if_pos h]; exact Nat.zero_le _
  · rw [if_neg h]; omega
theorem sText_any (p : Nat) (s : Sc) (most : Nat) (w : World) (h : ScAt w p s) (hl : s.left.length ≤ 1099511627776) (hm : most ≤ 4611686018427387904) :
    Calls Tryd.prog 100 #[.pointer (some ⟨p, 0, none⟩), .int .i64 most] w fun e w' => e = .returned (.string ⟨(textS s most).2.toArray⟩) ∧ ScAt w' p (textS s most).1 ∧ Upd [p] w w' := by
  have hN := Num_any p s most w h hl hm
  have hnl := numS_len s most
  have hlt := numS_lt s most
  obtain ⟨r, hr⟩ : ∃ r, r = textS s most := ⟨_, rfl⟩
  obtain ⟨q, hq⟩ : ∃ q, q = numS s most := ⟨_, rfl⟩
  rw [← hr]
  have HR : Hid (r = if q.1.spoil then (q.1, []) else ((takeS q.1 q.2).1, (takeS q.1 q.2).2.1)) := by show _ = _; rw [hr, hq]; rfl
  rw [← hq] at hN hnl hlt
  clear hr hq
  obtain ⟨qs, n⟩ := q
  simp only at hN hnl hlt HR
  have HN := Go.Lib.hid hN
  clear hN h
  obtain ⟨left, spoil⟩ := qs
  cases spoil
  · go_enter Tryd.func100, Tryd.ntmps100
    go_wp2_with fail
    refine (HN.out).mono ?_
    rintro e w1 ⟨rfl, hS, hU⟩
    go_wp2_with fail
    refine (Sound_any _ _ _ hS).mono ?_
    rintro e w2 ⟨rfl, rfl⟩
    go_wp2_with fail
    refine (take_any _ _ _ _ hS (Nat.le_trans hnl hl)).mono ?_
    rintro e w2 ⟨rfl, hS2, hU2⟩
    go_wp2_with fail
    go_ret
    rw [HR.out]
    exact ⟨rfl, hS2, hU.trans hU2 (fun k hk => .inl hk)⟩
  · go_enter Tryd.func100, Tryd.ntmps100
    go_wp2_with fail
    refine (HN.out).mono ?_
    rintro e w1 ⟨rfl, hS, hU⟩
    go_wp2_with fail
    refine (Sound_any _ _ _ hS).mono ?_
    rintro e w2 ⟨rfl, rfl⟩
    go_wp2_with fail
    go_ret
    rw [HR.out]
    exact ⟨rfl, hS, hU⟩

/-- What a sector was made of. -/
def opens (x : Bs) : Bool := !(textS ⟨x, false⟩ 256).1.spoil && fits5 (textS ⟨x, false⟩ 256).2 && decide (fillB (textS ⟨x, false⟩ 256).2 = x)
def openB (x : Bs) : Bs := if opens x then (textS ⟨x, false⟩ 256).2 else []
theorem textS_len (s : Sc) (most : Nat) : (textS s most).2.length ≤ most := by
  unfold textS
  split
  · simp
  · have := numS_lt s most
    unfold takeS
    (repeat' split) <;> simp <;> omega

theorem fits5_E (s : Bs) : fillE s = 0 ↔ fits5 s = true := by unfold fillE; split <;> simp_all
set_option maxRecDepth 100000 in
theorem sOpen_any (s : ByteArray) (w : World) (hs : s.size ≤ 1099511627776) :
    Calls Tryd.prog 88 #[.string s] w fun e w' => e = .returned (.tuple #[.string ⟨(openB s.data.toList).toArray⟩, .bool (opens s.data.toList)]) ∧ Below w.heap.size w w' := by
  obtain ⟨l, hl⟩ : ∃ l, l = s.data.toList := ⟨_, rfl⟩
  have hll : l.length ≤ 1099511627776 := by rw [hl]; exact hs
  have hlen := textS_len ⟨l, false⟩ 256
  obtain ⟨q, hq⟩ : ∃ q, q = textS ⟨l, false⟩ 256 := ⟨_, rfl⟩
  rw [← hq] at hlen
  have HO : Hid (opens l = (!q.1.spoil && fits5 q.2 && decide (fillB q.2 = l))) := by show _ = _; rw [hq]; rfl
  have HP : Hid (openB l = if opens l then q.2 else []) := by show _ = _; rw [hq]; rfl
  rw [← hl]
  have HL := Go.Lib.hid hl
  have HQ := Go.Lib.hid hq
  clear hl hq
  go_enter Tryd.func88, Tryd.ntmps88
  go_wp2_with fail
  refine (oRead_any _ _).mono ?_
  rintro e w1 ⟨rfl, hw1⟩
  have hS : ScAt w1 w.heap.size ⟨l, false⟩ := by rw [← hw1, HL.out]; exact ScAt.oRead s w
  have hB1 : Below w.heap.size w w1 := by rw [← hw1]; exact (Below.refl _ _).alloc (Nat.le_refl _) _
  clear hw1
  go_wp2_with fail
  refine (sText_any _ _ 256 _ hS hll (by omega)).mono ?_
  rintro e w2 ⟨rfl, hS2, hU2⟩
  have hB2 : Below w.heap.size w w2 := hB1.trans (hU2.below hB1.size (by simp))
  rw [← HQ.out] at hS2 ⊢
  obtain ⟨⟨left, spoil⟩, t⟩ := q
  simp only at hS2 hlen HO HP ⊢
  obtain ⟨v, hv⟩ : ∃ v, v = fillE t := ⟨_, rfl⟩
  have hF := Fill_any ⟨t.toArray⟩
  simp only [← hv] at hF
  have HF := Go.Lib.hid hF
  have HV := Go.Lib.hid hv
  clear hv hF
  obtain ⟨u, hu⟩ : ∃ u : ByteArray, u = ⟨(fillB t).toArray⟩ := ⟨_, rfl⟩
  have HU := Go.Lib.hid hu
  go_wp2_with fail
  refine (HF.out _ (by simp [ByteArray.size]; omega)).mono ?_
  rintro e w3 ⟨rfl, hb3⟩
  have hB3 : Below w.heap.size w w3 := hB2.trans (hb3.mono hB2.size)
  have hS3 : ScAt w3 w.heap.size ⟨left, spoil⟩ := (hb3.block _ (blk_lt hS2)).trans hS2
  rw [← hu]
  clear hu hS2
  go_wp2_with fail
  refine (Sound_any _ _ _ hS3).mono ?_
  rintro e w4 ⟨rfl, rfl⟩
  have hps := blk_lt hS3
  have HSS := Go.Lib.hid hS3
  clear hS3
  cases spoil
  · by_cases hv : v = 0
    · subst hv
      have hf := (fits5_E t).1 HV.out.symm
      by_cases huv : u = s
      · subst huv
        go_wp2_with fail
        go_ret2
        have h2 : fillB t = l := by rw [HL.out, HU.out]
        have ho : opens l = true := by rw [HO.out, hf, h2]; simp
        rw [HP.out, ho]
        exact ⟨rfl, hB3⟩
      · have hus : (u.toList == s.toList) = false := by
          rw [ByteArray.toList_eq, ByteArray.toList_eq]
          simp only [beq_eq_false_iff_ne]
          intro e
          exact huv (by cases u; cases s; simpa using e)
        go_wp2_with fail
        go_ret2
        have h2 : fillB t ≠ l := fun e => huv (by rw [HU.out, e, HL.out])
        have ho : opens l = false := by rw [HO.out]; simp [h2]
        rw [HP.out, ho]
        exact ⟨rfl, hB3⟩
    · have hf : fits5 t = false := by
        cases h : fits5 t
        · rfl
        · exact absurd (HV.out.trans ((fits5_E t).2 h)) hv
      go_wp2_with fail
      go_ret2
      have ho : opens l = false := by rw [HO.out, hf]; simp
      rw [HP.out, ho]
      exact ⟨rfl, hB3⟩
  · go_wp2_with fail
    go_ret2
    have ho : opens l = false := by rw [HO.out]; rfl
    rw [HP.out, ho]
    exact ⟨rfl, hB3⟩

end Go.Proofs.YtbalbjhmboppoaaDoor
