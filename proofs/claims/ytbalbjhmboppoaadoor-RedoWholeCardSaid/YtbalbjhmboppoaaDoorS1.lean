/-
  THE LAYER octet, read: take, Long, Num, Text, Sound, End and Read follow a state of what is left; each walked once.
  A text is shorter than 2^40 bytes.
-/
import Derived.Test.YtbalbjhmboppoaaDoorO1
set_option linter.unusedSimpArgs false
set_option linter.unusedVariables false
namespace Go.Proofs.YtbalbjhmboppoaaDoor
open Go.RowKit

/-- What is left to be read; is it spoilt? -/
structure Sc where
  left : Bs
  spoil : Bool
def takeS (s : Sc) (n : Int) : Sc × Bs × Bool :=
  if s.spoil then (s, [], false)
  else if n < 0 ∨ (s.left.length : Int) < n then (⟨s.left, true⟩, [], false)
  else (⟨s.left.drop n.toNat, false⟩, s.left.take n.toNat, true)
def val (l : Bs) : Nat := l.foldl (fun n b => n * 256 + b.toNat) 0
def longS (s : Sc) : Sc × Nat :=
  if s.spoil then (s, 0)
  else match s.left with
  | [] => (⟨[], true⟩, 0)
  | b :: t =>
    if 8 < b.toNat ∨ t.length < b.toNat then (⟨t, true⟩, 0)
    else if 0 < b.toNat ∧ t.headD 0 = 0 then (⟨t.drop b.toNat, true⟩, 0)
    else (⟨t.drop b.toNat, false⟩, val (t.take b.toNat))
def numS (s : Sc) (most : Nat) : Sc × Nat :=
  if most < (longS s).2 then (⟨(longS s).1.left, true⟩, 0) else longS s
def textS (s : Sc) (most : Nat) : Sc × Bs :=
  if (numS s most).1.spoil then ((numS s most).1, [])
  else ((takeS (numS s most).1 (numS s most).2).1, (takeS (numS s most).1 (numS s most).2).2.1)
def endS (s : Sc) : Int := if s.spoil then 10 else match s.left with | [] => 0 | _ :: _ => 10
/-- Where it lies. -/
def ScAt (w : World) (p : Nat) (s : Sc) : Prop := w.heap[p]? = some (.cells #[.string ⟨s.left.toArray⟩, .bool s.spoil] 127 (0, 0))

theorem takeS_len (s : Sc) (n : Int) : (takeS s n).1.left.length ≤ s.left.length := by
  unfold takeS; (repeat' split) <;> simp
theorem longS_len (s : Sc) : (longS s).1.left.length ≤ s.left.length := by
  unfold longS
  split
  · simp
  · split
    · rename_i h; simp [h]
    · rename_i b t h
      rw [h]
      (repeat' split) <;> simp <;> omega
theorem numS_len (s : Sc) (most : Nat) : (numS s most).1.left.length ≤ s.left.length := by
  have := longS_len s
  unfold numS; split <;> simpa

theorem take_nil (n : Int) (w : World) : Calls Tryd.prog 92 #[.pointer none, .int .i64 n] w fun e w' => e = .returned (.tuple #[.string ⟨#[]⟩, .bool false]) ∧ w = w' := by
  go_enter Tryd.func92, Tryd.ntmps92
  go_wp2_with fail
  go_ret2
  exact ⟨rfl, rfl⟩

set_option maxRecDepth 100000 in
theorem take_any (p : Nat) (s : Sc) (n : Int) (w : World) (h : ScAt w p s) (hl : s.left.length ≤ 1099511627776) :
    Calls Tryd.prog 92 #[.pointer (some ⟨p, 0, none⟩), .int .i64 n] w fun e w' => e = .returned (.tuple #[.string ⟨(takeS s n).2.1.toArray⟩, .bool (takeS s n).2.2]) ∧ ScAt w' p (takeS s n).1 ∧ Upd [p] w w' := by
  obtain ⟨left, spoil⟩ := s
  have h0 : w.cell? ⟨p, 0, none⟩ = some (.string ⟨left.toArray⟩) := blk_cell h 0
  have h1 : w.cell? ⟨p, 1, none⟩ = some (.bool spoil) := blk_cell h 1
  have f0 := blk_free h 0
  have f1 := blk_free h 1
  have hps := blk_lt h
  have H := Go.Lib.hid h
  clear h
  have hsz : (⟨left.toArray⟩ : ByteArray).size = left.length := rfl
  cases spoil
  · by_cases hn : n < 0
    · have HV : Hid (takeS ⟨left, false⟩ n = (⟨left, true⟩, [], false)) := by show _ = _; simp [takeS, hn]
      go_enter Tryd.func92, Tryd.ntmps92
      go_wp2_with fail
      go_ret2
      rw [HV.out]
      exact ⟨rfl, blk_set H.out 1 (.bool true), (Upd.refl _ _).set (.inl (by simp)) _ _⟩
    · by_cases hm : (left.length : Int) < n
      · have HV : Hid (takeS ⟨left, false⟩ n = (⟨left, true⟩, [], false)) := by show _ = _; simp [takeS, hm]
        go_enter Tryd.func92, Tryd.ntmps92
        go_wp2_with fail
        go_ret2
        rw [HV.out]
        exact ⟨rfl, blk_set H.out 1 (.bool true), (Upd.refl _ _).set (.inl (by simp)) _ _⟩
      · obtain ⟨m, rfl⟩ : ∃ m : Nat, n = m := ⟨n.toNat, by omega⟩
        have HV : Hid (takeS ⟨left, false⟩ m = (⟨left.drop m, false⟩, left.take m, true)) := by show _ = _; simp [takeS]; omega
        have hml : m ≤ left.length := by omega
        go_enter Tryd.func92, Tryd.ntmps92
        go_wp2_with fail
        go_ret2
        rw [HV.out]
        refine ⟨?_, ?_, (Upd.refl _ _).set (.inl (by simp)) _ _⟩
        · simp [ba_extract]
        · have := blk_set H.out 0 (.string ⟨(left.drop m).toArray⟩)
          simpa [ba_extract, ScAt] using this
  · have HV : Hid (takeS ⟨left, true⟩ n = (⟨left, true⟩, [], false)) := by show _ = _; simp [takeS]
    go_enter Tryd.func92, Tryd.ntmps92
    go_wp2_with fail
    go_ret2
    rw [HV.out]
    exact ⟨rfl, H.out, Upd.refl _ _⟩

theorem Sound_nil (w : World) : Calls Tryd.prog 93 #[.pointer none] w fun e w' => e = .returned (.bool false) ∧ w = w' := by
  go_enter Tryd.func93, Tryd.ntmps93
  go_wp2_with fail
  go_ret
  exact ⟨rfl, rfl⟩
theorem Sound_any (p : Nat) (s : Sc) (w : World) (h : ScAt w p s) :
    Calls Tryd.prog 93 #[.pointer (some ⟨p, 0, none⟩)] w fun e w' => e = .returned (.bool (!s.spoil)) ∧ w = w' := by
  have h1 : w.cell? ⟨p, 1, none⟩ = some (.bool s.spoil) := blk_cell h 1
  have hps := blk_lt h
  clear h
  go_enter Tryd.func93, Tryd.ntmps93
  go_wp2_with fail
  go_ret
  exact ⟨rfl, rfl⟩
theorem End_nil (w : World) : Calls Tryd.prog 71 #[.pointer none] w fun e w' => e = .returned (.int .i64 10) ∧ w = w' := by
  go_enter Tryd.func71, Tryd.ntmps71
  go_wp2_with fail
  refine (Sound_nil _).mono ?_
  rintro e w1 ⟨rfl, rfl⟩
  go_wp2_with fail
  go_ret
  exact ⟨rfl, rfl⟩
theorem End_any (p : Nat) (s : Sc) (w : World) (h : ScAt w p s) :
    Calls Tryd.prog 71 #[.pointer (some ⟨p, 0, none⟩)] w fun e w' => e = .returned (.int .i64 (endS s)) ∧ w = w' := by
  have h0 : w.cell? ⟨p, 0, none⟩ = some (.string ⟨s.left.toArray⟩) := blk_cell h 0
  have hps := blk_lt h
  have H := Go.Lib.hid h
  clear h
  obtain ⟨left, spoil⟩ := s
  obtain ⟨v, hv⟩ : ∃ v, v = endS ⟨left, spoil⟩ := ⟨_, rfl⟩
  have HV := Go.Lib.hid hv
  rw [← hv]
  clear hv
  cases spoil
  · cases left with
    | nil =>
      go_enter Tryd.func71, Tryd.ntmps71
      go_wp2_with fail
      refine (Sound_any _ _ _ H.out).mono ?_
      rintro e w1 ⟨rfl, rfl⟩
      go_wp2_with fail
      go_ret
      exact ⟨ret_int HV.out.symm, rfl⟩
    | cons b t =>
      go_enter Tryd.func71, Tryd.ntmps71
      go_wp2_with fail
      refine (Sound_any _ _ _ H.out).mono ?_
      rintro e w1 ⟨rfl, rfl⟩
      go_wp2_with fail
      go_ret
      exact ⟨ret_int HV.out.symm, rfl⟩
  · go_enter Tryd.func71, Tryd.ntmps71
    go_wp2_with fail
    refine (Sound_any _ _ _ H.out).mono ?_
    rintro e w1 ⟨rfl, rfl⟩
    go_wp2_with fail
    go_ret
    exact ⟨ret_int HV.out.symm, rfl⟩
theorem oRead_any (s : ByteArray) (w : World) :
    Calls Tryd.prog 90 #[.string s] w fun e w' => e = .returned (.pointer (some ⟨w.heap.size, 0, none⟩)) ∧ w.alloc (.cells #[.string s, .bool false] 127) = w' := by
  go_enter Tryd.func90, Tryd.ntmps90
  go_wp2_with fail
  go_ret
  exact ⟨rfl, rfl⟩
theorem ScAt.oRead (s : ByteArray) (w : World) : ScAt (w.alloc (.cells #[.string s, .bool false] 127)) w.heap.size ⟨s.data.toList, false⟩ := blk_new _ _

end Go.Proofs.YtbalbjhmboppoaaDoor
