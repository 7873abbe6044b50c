/-
  RedoMakes, walked: true.
  The table of check lies where it lies.
-/
import Derived.Test.YtbalbjhmboppoaaDoorV1
set_option linter.unusedSimpArgs false
set_option linter.unusedVariables false
namespace Go.Proofs.YtbalbjhmboppoaaDoor
open Go.RowKit

theorem openS_unfit {D : DiskS} {b z : Int} (h : fitsB D b z = false) : openS D b z = ⟨D, 1, 0, 0⟩ := by unfold openS; rw [if_pos h]
theorem formatS_unfit {D : DiskS} {b z : Int} (h : fitsB D b z = false) : formatS D b z = (D, 1) := by unfold formatS; rw [if_neg (by rw [h]; decide)]
theorem new_cache (n : Nat) : (DiskS.new n).cache.length = 0 := rfl
/-- Open of what is refused, or holds no journal: no log, an error, the disk as it was. -/
def OpenNo (W0 : World) (p : Nat) (D : DiskS) (er : Int) (e : Ending) (w' : World) : Prop := ∃ S', e = .returned (.tuple #[.pointer none, .int .i64 er]) ∧ DW W0 w' S' p D
theorem open_no {W0 w : World} {S : List Nat} {p : Nat} {D : DiskS} (h : DW W0 w S p D) (ok : D.Ok) (hc : D.cache.length ≤ 100) {b z er : Int} (ho : openS D b z = ⟨D, er, 0, 0⟩) (hne : er ≠ 0) :
    Calls Tryd.prog 18 #[.pointer (some ⟨p, 0, none⟩), .int .i64 b, .int .i64 z] w fun e w' => OpenNo W0 p D er e w' := by
  refine (Open_any w b z h.d ok (by omega) h.t h.zS).mono ?_
  rintro e w' ⟨S', h1, h2, h3, h4⟩
  rw [ho] at h1 h4
  rcases h4 with ⟨-, rfl⟩ | ⟨h5, -⟩
  · exact ⟨S', rfl, h.ret h1 h2 h3 h.s⟩
  · exact absurd h5 hne
def FormatE (W0 : World) (p : Nat) (D : DiskS) (er : Int) (e : Ending) (w' : World) : Prop := ∃ S', e = .returned (.int .i64 er) ∧ DW W0 w' S' p D
theorem format_e {W0 w : World} {S : List Nat} {p : Nat} {D : DiskS} (h : DW W0 w S p D) (ok : D.Ok) (hc : D.cache.length ≤ 100) (b z : Int) {D' : DiskS} {er : Int} (ho : (formatS D b z).1 = D') (ho2 : (formatS D b z).2 = er) :
    Calls Tryd.prog 17 #[.pointer (some ⟨p, 0, none⟩), .int .i64 b, .int .i64 z] w fun e w' => FormatE W0 p D' er e w' := by
  refine (Format_any w b z h.d ok (by omega) h.t h.zS).mono ?_
  rintro e w' ⟨S', rfl, h1, h2, h3⟩
  rw [ho] at h1
  rw [ho2]
  exact ⟨S', rfl, h.ret h1 h2 h3 h.s⟩

set_option maxRecDepth 100000 in
set_option maxHeartbeats 1000000 in
theorem RedoMakes_no (b z : Int) (w : World) (hT : Tab w) (hb : b ≤ 9223372036854775807) (hb0 : -9223372036854775808 ≤ b) (hf : ¬ (0 ≤ b ∧ 4 ≤ z ∧ z ≤ 65536 ∧ b ≤ 20 - z)) :
    Calls Tryd.prog 5 #[.int .i64 b, .int .i64 z] w fun e w' => e = .returned (.bool true) ∧ Below w.heap.size w w' := by
  have hff : fitsB (DiskS.new 20) b z = false := by
    rw [← Bool.not_eq_true, fitsB_new]; exact hf
  have hO := openS_unfit hff
  have hF := formatS_unfit hff
  have HT := Go.Lib.hid hT
  have HO := Go.Lib.hid hO
  have HF := Go.Lib.hid hF
  clear hT hO hF hff
  have h4 : (b < 0) ∨ (0 ≤ b ∧ 16 < b) ∨ (0 ≤ b ∧ b ≤ 16 ∧ z < 4) ∨ (0 ≤ b ∧ b ≤ 16 ∧ 4 ≤ z ∧ 20 - b < z) := by omega
  have h4 : (b < 0) ∨ (0 ≤ b ∧ 16 < b) ∨ (0 ≤ b ∧ b ≤ 16 ∧ z < 4) ∨ (0 ≤ b ∧ b ≤ 16 ∧ 4 ≤ z ∧ decide (z ≤ 20 - b) = false) := by
    rcases h4 with h | h | h | h
    · exact .inl h
    · exact .inr (.inl h)
    · exact .inr (.inr (.inl h))
    · exact .inr (.inr (.inr ⟨h.1, h.2.1, h.2.2.1, decide_eq_false (by omega)⟩))
  clear hf
  rcases h4 with h4 | ⟨h4, h5⟩ | ⟨h4, h5, h6⟩ | ⟨h4, h5, h6, h7⟩
  all_goals
    go_enter Tryd.func5, Tryd.ntmps5
    go_wp2_with fail
    refine (awake_any _ HT.out).mono ?_
    rintro e w0 ⟨rfl, hb0⟩
    have hT0 := HT.out.below hb0
    go_wp2_with fail
    refine (sectorNew_any 20 _ (by omega) (by omega)).mono ?_
    rintro e w1 ⟨p, S, rfl, hD, hb, hs⟩
    have h1 : DW w w1 S p (DiskS.new 20) := ⟨hD, hT0.below hb, hb0.trans (hb.mono hb0.size), fun k hk => Nat.le_trans hb0.size (hs k hk), HT.out.lt⟩
    clear hD hb hs hb0 hT0
    go_wp2_with fail
    refine (open_no h1 (DiskS.Ok.new 20 (by omega) (by omega)) (by rw [new_cache]; omega) HO.out (by omega)).mono ?_
    rintro e w2 ⟨S2, rfl, h2⟩
    go_wp2_with fail
    refine (format_e h2 (DiskS.Ok.new 20 (by omega) (by omega)) (by rw [new_cache]; omega) b z (by rw [HF.out]) (by rw [HF.out])).mono ?_
    rintro e w3 ⟨S3, rfl, h3⟩
    go_wp2_with fail
    refine (open_no h3 (DiskS.Ok.new 20 (by omega) (by omega)) (by rw [new_cache]; omega) HO.out (by omega)).mono ?_
    rintro e w4 ⟨S4, rfl, h4⟩
    go_wp2_with fail
    go_ret
    exact ⟨rfl, h4.b⟩

set_option maxRecDepth 100000 in
set_option maxHeartbeats 1000000 in
theorem RedoMakes_yes (b z : Int) (w : World) (hT : Tab w) (hf : 0 ≤ b ∧ 4 ≤ z ∧ z ≤ 65536 ∧ b ≤ 20 - z) :
    Calls Tryd.prog 5 #[.int .i64 b, .int .i64 z] w fun e w' => e = .returned (.bool true) ∧ Below w.heap.size w w' := by
  have hff : fitsB (DiskS.new 20) b z = true := fitsB_new.2 hf
  have hO := open_new hff
  obtain ⟨hF1, hF2, hF3, hF4⟩ := open_format hff (by omega)
  obtain ⟨D1, hD1⟩ : ∃ D1, D1 = (formatS (DiskS.new 20) b z).1 := ⟨_, rfl⟩
  have hok1 := formatS_ok (DiskS.Ok.new 20 (by omega) (by omega)) b z (by rw [new_cache]; omega)
  rw [new_cache, ← hD1] at hok1
  rw [← hD1] at hF2 hF3 hF4
  have HT := Go.Lib.hid hT
  have HO := Go.Lib.hid hO
  have HF1 := Go.Lib.hid hF1
  have HF2 := Go.Lib.hid hF2
  have HF3 := Go.Lib.hid hF3
  have HF4 := Go.Lib.hid hF4
  have HD1 := Go.Lib.hid hD1
  clear hT hO hF1 hF2 hF3 hF4 hff hD1
  obtain ⟨g1, g2, g3, g4⟩ := hf
  have g5 : b ≤ 16 := by omega
  have g6 : z ≤ 20 - b := by omega
  go_enter Tryd.func5, Tryd.ntmps5
  go_wp2_with fail
  refine (awake_any _ HT.out).mono ?_
  rintro e w0 ⟨rfl, hb0⟩
  have hT0 := HT.out.below hb0
  go_wp2_with fail
  refine (sectorNew_any 20 _ (by omega) (by omega)).mono ?_
  rintro e w1 ⟨p, S, rfl, hD, hb, hs⟩
  have h1 : DW w w1 S p (DiskS.new 20) := ⟨hD, hT0.below hb, hb0.trans (hb.mono hb0.size), fun k hk => Nat.le_trans hb0.size (hs k hk), HT.out.lt⟩
  clear hD hb hs hb0 hT0
  go_wp2_with fail
  refine (open_no h1 (DiskS.Ok.new 20 (by omega) (by omega)) (by rw [new_cache]; omega) HO.out (by omega)).mono ?_
  rintro e w2 ⟨S2, rfl, h2⟩
  go_wp2_with fail
  refine (format_e h2 (DiskS.Ok.new 20 (by omega) (by omega)) (by rw [new_cache]; omega) b z HD1.out.symm HF1.out).mono ?_
  rintro e w3 ⟨S3, rfl, h3⟩
  have hOO := Open_any w3 b z h3.d hok1.1 (by omega) h3.t h3.zS
  go_wp2_with fail
  refine hOO.mono ?_
  rintro e w4 ⟨S4, hD4, hU4, hS4, hor⟩
  rcases hor with ⟨hne, -⟩ | ⟨-, q, rfl, hL, hqz, hqS⟩
  · exact absurd HF2.out hne
  have h4 := (h3.ret hD4 hU4 hS4 h3.s).b
  have hsq := Seq_any q (some ⟨p, 0, none⟩) _ w4 hL
  have hus := Used_any q (some ⟨p, 0, none⟩) _ w4 hL
  rw [show ({ base := b, size := z, place := ((openS D1 b z).place : Int), seq := (openS D1 b z).seq, used := 0, broken := false } : LogS).seq = 1 from HF4.out] at hsq
  clear hOO hD4 hU4 hS4 hL hqz hqS h1 h2 h3
  go_wp2_with fail
  refine hsq.mono ?_
  rintro e w5 ⟨rfl, rfl⟩
  go_wp2_with fail
  refine hus.mono ?_
  rintro e w5 ⟨rfl, rfl⟩
  go_wp2_with fail
  go_ret
  exact ⟨rfl, h4⟩

end Go.Proofs.YtbalbjhmboppoaaDoor
