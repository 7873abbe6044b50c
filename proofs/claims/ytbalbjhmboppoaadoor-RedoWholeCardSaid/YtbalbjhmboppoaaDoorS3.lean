/-
  redo.text: what lies behind a line's kind. (redo.slots).at: the slot at a place.
  A text is shorter than 2^40 bytes; the table of check lies where it lies.
-/
import Derived.Test.YtbalbjhmboppoaaDoorS2
import Derived.Test.YtbalbjhmboppoaaDoorO3
import Derived.Test.YtbalbjhmboppoaaDoorD3
set_option linter.unusedSimpArgs false
set_option linter.unusedVariables false
namespace Go.Proofs.YtbalbjhmboppoaaDoor
open Go.RowKit

def rtextS (line kind : Bs) : Option Bs :=
  if cOpens (openB line) = true ∧ (cOpenB (openB line)).take kind.length = kind then some ((cOpenB (openB line)).drop kind.length) else none
/-- A scan of that text, or nil. -/
def ScRet (w : World) (o : Option Bs) (e : Ending) (w' : World) : Prop :=
  Below w.heap.size w w' ∧ ((o = none ∧ e = .returned (.pointer none)) ∨ ∃ r p, o = some r ∧ e = .returned (.pointer (some ⟨p, 0, none⟩)) ∧ w.heap.size ≤ p ∧ ScAt w' p ⟨r, false⟩)
theorem openB_len (x : Bs) : (openB x).length ≤ 256 := by
  unfold openB; split
  · exact textS_len _ _
  · simp

set_option maxRecDepth 100000 in
theorem rtext_any (line kind : ByteArray) (w : World) (hs : line.size ≤ 1099511627776) (hk : kind.size ≤ 1099511627776) (hT : Tab w) :
    Calls Tryd.prog 69 #[.string line, .string kind] w fun e w' => ScRet w (rtextS line.data.toList kind.data.toList) e w' := by
  have hlen := openB_len line.data.toList
  obtain ⟨s, hs'⟩ : ∃ s, s = openB line.data.toList := ⟨_, rfl⟩
  obtain ⟨b0, hb0⟩ : ∃ b0, b0 = opens line.data.toList := ⟨_, rfl⟩
  have hO := sOpen_any line w hs
  rw [← hs', ← hb0] at hO
  rw [← hs'] at hlen
  obtain ⟨t, ht⟩ : ∃ t, t = cOpenB s := ⟨_, rfl⟩
  obtain ⟨is, his⟩ : ∃ is, is = cOpens s := ⟨_, rfl⟩
  have htl : t.length ≤ 256 := by rw [ht]; unfold cOpenB; split <;> simp <;> omega
  have hC := fun w1 => cOpen_any ⟨s.toArray⟩ w1 (by simp [ByteArray.size]; omega)
  simp only [← ht, ← his] at hC
  obtain ⟨k, hkk⟩ : ∃ k, k = kind.data.toList := ⟨_, rfl⟩
  have hkl : k.length = kind.size := by rw [hkk]; rfl
  have HR : Hid (rtextS line.data.toList kind.data.toList = if is = true ∧ t.take k.length = k then some (t.drop k.length) else none) := by
    show _ = _; unfold rtextS; rw [← hs', ← ht, ← his, ← hkk]
  have HT := Go.Lib.hid hT
  have HC := Go.Lib.hid hC
  have HK := Go.Lib.hid hkk
  clear hT hC hs' hb0 ht his hkk
  go_enter Tryd.func69, Tryd.ntmps69
  go_wp2_with fail
  refine hO.mono ?_
  rintro e w1 ⟨rfl, hb1⟩
  go_wp2_with fail
  refine (HC.out _ (HT.out.below hb1)).mono ?_
  rintro e w2 ⟨rfl, hb2⟩
  have hB := hb1.trans (hb2.mono hb1.size)
  obtain ⟨tb, htb⟩ : ∃ tb : ByteArray, tb = ⟨t.toArray⟩ := ⟨_, rfl⟩
  have htz : tb.size = t.length := by rw [htb]; rfl
  have HTB := Go.Lib.hid htb
  rw [← htb]
  clear htb hO
  cases is
  · go_wp2_with fail
    go_ret
    refine ⟨hB, .inl ⟨?_, rfl⟩⟩
    rw [HR.out]; simp
  · by_cases hl : t.length < k.length
    · go_wp2_with fail
      go_ret
      refine ⟨hB, .inl ⟨?_, rfl⟩⟩
      rw [HR.out, if_neg]
      intro h
      have := congrArg List.length h.2
      simp at this
      omega
    · by_cases he : t.take k.length = k
      · have hx : ((tb.extract 0 kind.size).toList == kind.toList) = true := by
          rw [ByteArray.toList_eq, ByteArray.toList_eq, HTB.out, ba_extract]
          simp only [beq_iff_eq, ← HK.out, List.drop_zero, ← hkl]
          exact he
        have hz2 : (tb.extract kind.size t.length).data.toList = t.drop k.length := by
          rw [HTB.out, ba_extract]
          show (t.take t.length).drop kind.size = _
          rw [List.take_of_length_le (Nat.le_refl _), hkl]
        go_wp2_with fail
        refine (oRead_any _ _).mono ?_
        rintro e w3 ⟨rfl, hw3⟩
        go_wp2_with fail
        go_ret
        have hS3 := ScAt.oRead (tb.extract kind.size t.length) w2
        rw [hz2, hw3] at hS3
        refine ⟨?_, .inr ⟨t.drop k.length, w2.heap.size, ?_, rfl, hB.size, hS3⟩⟩
        · rw [← hw3]; exact hB.alloc hB.size _
        · rw [HR.out, if_pos ⟨trivial, he⟩]
      · have hx : ((tb.extract 0 kind.size).toList == kind.toList) = false := by
          rw [ByteArray.toList_eq, ByteArray.toList_eq, HTB.out, ba_extract]
          simp only [beq_eq_false_iff_ne, ← HK.out, List.drop_zero, ← hkl]
          exact he
        go_wp2_with fail
        go_ret
        refine ⟨hB, .inl ⟨?_, rfl⟩⟩
        rw [HR.out, if_neg]
        exact fun h => he h.2

def atB (L : List Bs) (place : Int) : Bs := L.getD (place.toNat % L.length) []
set_option maxRecDepth 100000 in
theorem sat_any (L : List Bs) (A : Option Addr) (c : Nat) (place : Int) (w : World) (hR : Reads w A (L.map sv)) (h0 : 0 ≤ place) (h1 : place ≤ 1099511627776) (hL : 0 < L.length) (hL2 : L.length ≤ 1099511627776) :
    Calls Tryd.prog 94 #[.slice A L.length c, .int .i64 place] w fun e w' => e = .returned (.string ⟨(atB L place).toArray⟩) ∧ w = w' := by
  obtain ⟨k, rfl⟩ : ∃ k : Nat, place = k := ⟨place.toNat, by omega⟩
  obtain ⟨b, off, rfl, hc⟩ := hR (by intro h; have := congrArg List.length h; simp at this; subst this; simp at hL)
  have hlt : k % L.length < L.length := Nat.mod_lt _ hL
  obtain ⟨m, hm⟩ : ∃ m, m = k % L.length := ⟨_, rfl⟩
  have hcell : w.cell? ⟨b, off + m, none⟩ = some (.string ⟨(atB L k).toArray⟩) := by
    rw [hc m (by simp; omega)]
    simp [atB, sv, ← hm, List.getD, show m < L.length by omega]
  have hmod : (k : Int).tmod (L.length : Int) = m := by rw [hm]; exact (Int.ofNat_tmod k L.length).symm
  rw [← hm] at hlt
  have hml : m < L.length := hlt
  clear hc hm
  go_enter Tryd.func94, Tryd.ntmps94
  go_wp2_with fail
  go_ret
  exact ⟨rfl, rfl⟩

end Go.Proofs.YtbalbjhmboppoaaDoor
