/-
  The log's small calls: ready, slots, Room, tried, Used, Seq, Read.
  No condition.
-/
import Derived.Test.YtbalbjhmboppoaaDoorW4
import Derived.Deep.RegionHeld3
set_option linter.unusedSimpArgs false
set_option linter.unusedVariables false
namespace Go.Proofs.YtbalbjhmboppoaaDoor
open Go.RowKit

theorem ready_nil (w : World) : Calls Tryd.prog 46 #[.pointer none] w fun e w' => e = .returned (.int .i64 1) ∧ w = w' := by
  go_enter Tryd.func46, Tryd.ntmps46
  go_wp2_with fail
  go_ret
  exact ⟨rfl, rfl⟩
/-- A log of whatever disk: the pointer may be nil. -/
def lcellsO (d : Option Addr) (L : LogS) : Array Value := #[.pointer d, .int .i64 L.base, .int .i64 L.size, .int .i64 L.place, .int .i64 L.seq, .int .i64 L.used, .bool L.broken]
theorem ready_zero (q : Nat) (L : LogS) (w : World) (h : w.heap[q]? = some (.cells (lcellsO none L) 48 (0, 0))) :
    Calls Tryd.prog 46 #[.pointer (some ⟨q, 0, none⟩)] w fun e w' => e = .returned (.int .i64 13) ∧ w = w' := by
  have c0 : w.cell? ⟨q, 0, none⟩ = some (.pointer none) := blk_cell h 0
  have c6 : w.cell? ⟨q, 6, none⟩ = some (.bool L.broken) := blk_cell h 6
  clear h
  cases hb : L.broken
  · rw [hb] at c6
    clear hb
    go_enter Tryd.func46, Tryd.ntmps46
    go_wp2_with fail
    go_ret
    exact ⟨rfl, rfl⟩
  · rw [hb] at c6
    clear hb
    go_enter Tryd.func46, Tryd.ntmps46
    go_wp2_with fail
    go_ret
    exact ⟨rfl, rfl⟩
def readyE (L : LogS) : Int := if L.broken then 13 else 0
theorem ready_any {q p : Nat} {L : LogS} (w : World) (h : LogAt w q p L) :
    Calls Tryd.prog 46 #[.pointer (some ⟨q, 0, none⟩)] w fun e w' => e = .returned (.int .i64 (readyE L)) ∧ w = w' := by
  have c0 : w.cell? ⟨q, 0, none⟩ = some (.pointer (some ⟨p, 0, none⟩)) := blk_cell h 0
  have c6 : w.cell? ⟨q, 6, none⟩ = some (.bool L.broken) := blk_cell h 6
  clear h
  unfold readyE
  cases hb : L.broken
  · rw [hb] at c6
    clear hb
    go_enter Tryd.func46, Tryd.ntmps46
    go_wp2_with fail
    go_ret
    exact ⟨rfl, rfl⟩
  · rw [hb] at c6
    clear hb
    go_enter Tryd.func46, Tryd.ntmps46
    go_wp2_with fail
    go_ret
    exact ⟨rfl, rfl⟩
theorem slots_any {q p : Nat} {L : LogS} (w : World) (h : LogAt w q p L) (h0 : 0 ≤ L.size) (h1 : L.size ≤ 65536) :
    Calls Tryd.prog 47 #[.pointer (some ⟨q, 0, none⟩)] w fun e w' => e = .returned (.int .i64 (L.size - 1)) ∧ w = w' := by
  have c2 : w.cell? ⟨q, 2, none⟩ = some (.int .i64 L.size) := blk_cell h 2
  clear h
  go_enter Tryd.func47, Tryd.ntmps47
  go_wp2_with fail
  go_ret
  exact ⟨rfl, rfl⟩
def roomS (L : LogS) : Int := if L.broken then 0 else min 60 (L.size - 4)
theorem Room_any {q p : Nat} {L : LogS} (w : World) (h : LogAt w q p L) (h0 : 0 ≤ L.size) (h1 : L.size ≤ 65536) :
    Calls Tryd.prog 19 #[.pointer (some ⟨q, 0, none⟩)] w fun e w' => e = .returned (.int .i64 (roomS L)) ∧ w = w' := by
  have H := Go.Lib.hid h
  have hR := ready_any w h
  unfold readyE at hR
  unfold roomS
  cases hb : L.broken
  · rw [hb] at hR
    clear hb h
    go_enter Tryd.func19, Tryd.ntmps19
    go_wp2_with fail
    refine hR.mono ?_
    rintro e w1 ⟨rfl, rfl⟩
    go_wp2_with fail
    refine (slots_any _ H.out h0 h1).mono ?_
    rintro e w1 ⟨rfl, rfl⟩
    go_wp2_with fail
    go_ret
    exact ⟨ret_int (by show _ = min (60 : Int) (L.size - 4); omega), rfl⟩
  · rw [hb] at hR
    clear hb h
    go_enter Tryd.func19, Tryd.ntmps19
    go_wp2_with fail
    refine hR.mono ?_
    rintro e w1 ⟨rfl, rfl⟩
    go_wp2_with fail
    go_ret
    exact ⟨rfl, rfl⟩
theorem Room_nil (w : World) : Calls Tryd.prog 19 #[.pointer none] w fun e w' => e = .returned (.int .i64 0) ∧ w = w' := by
  go_enter Tryd.func19, Tryd.ntmps19
  go_wp2_with fail
  refine (ready_nil _).mono ?_
  rintro e w1 ⟨rfl, rfl⟩
  go_wp2_with fail
  go_ret
  exact ⟨rfl, rfl⟩
theorem Room_zero (q : Nat) (L : LogS) (w : World) (h : w.heap[q]? = some (.cells (lcellsO none L) 48 (0, 0))) :
    Calls Tryd.prog 19 #[.pointer (some ⟨q, 0, none⟩)] w fun e w' => e = .returned (.int .i64 0) ∧ w = w' := by
  go_enter Tryd.func19, Tryd.ntmps19
  go_wp2_with fail
  refine (ready_zero _ _ _ h).mono ?_
  rintro e w1 ⟨rfl, rfl⟩
  go_wp2_with fail
  go_ret
  exact ⟨rfl, rfl⟩
def triedS (L : LogS) (e : Int) : LogS := { L with broken := L.broken || decide (e ≠ 0) }
theorem tried_any {q p : Nat} {L : LogS} (w : World) (e : Int) (h : LogAt w q p L) :
    Calls Tryd.prog 51 #[.pointer (some ⟨q, 0, none⟩), .int .i64 e] w fun e' w' => e' = .returned (.int .i64 e) ∧ LogAt w' q p (triedS L e) ∧ Upd [q] w w' := by
  have c6 : w.cell? ⟨q, 6, none⟩ = some (.bool L.broken) := blk_cell h 6
  have f6 := blk_free h 6
  have H := Go.Lib.hid h
  clear h
  cases hb : L.broken
  · rw [hb] at c6
    have HB := Go.Lib.hid hb
    clear hb
    by_cases he : e = 0
    · subst he
      go_enter Tryd.func51, Tryd.ntmps51
      go_wp2_with fail
      go_ret
      refine ⟨rfl, ?_, (Upd.refl _ _).set (.inl (by simp)) _ _⟩
      refine (blk_set H.out 6 _).trans ?_
      simp [lcells, triedS, HB.out]
    · have he2 : (e == 0) = false := by simp [he]
      have HE := Go.Lib.hid he
      clear he
      go_enter Tryd.func51, Tryd.ntmps51
      go_wp2_with fail
      go_ret
      refine ⟨rfl, ?_, (Upd.refl _ _).set (.inl (by simp)) _ _⟩
      refine (blk_set H.out 6 _).trans ?_
      simp [lcells, triedS, HB.out, HE.out]
  · rw [hb] at c6
    have HB := Go.Lib.hid hb
    clear hb
    go_enter Tryd.func51, Tryd.ntmps51
    go_wp2_with fail
    go_ret
    refine ⟨rfl, ?_, (Upd.refl _ _).set (.inl (by simp)) _ _⟩
    refine (blk_set H.out 6 _).trans ?_
    simp [lcells, triedS, HB.out]
theorem Used_nil (w : World) : Calls Tryd.prog 22 #[.pointer none] w fun e w' => e = .returned (.int .i64 0) ∧ w = w' := by
  go_enter Tryd.func22, Tryd.ntmps22
  go_wp2_with fail
  go_ret
  exact ⟨rfl, rfl⟩
theorem Seq_nil (w : World) : Calls Tryd.prog 23 #[.pointer none] w fun e w' => e = .returned (.int .i64 0) ∧ w = w' := by
  go_enter Tryd.func23, Tryd.ntmps23
  go_wp2_with fail
  go_ret
  exact ⟨rfl, rfl⟩
theorem Used_any (q : Nat) (d : Option Addr) (L : LogS) (w : World) (h : w.heap[q]? = some (.cells (lcellsO d L) 48 (0, 0))) :
    Calls Tryd.prog 22 #[.pointer (some ⟨q, 0, none⟩)] w fun e w' => e = .returned (.int .i64 L.used) ∧ w = w' := by
  have c5 : w.cell? ⟨q, 5, none⟩ = some (.int .i64 L.used) := blk_cell h 5
  clear h
  go_enter Tryd.func22, Tryd.ntmps22
  go_wp2_with fail
  go_ret
  exact ⟨rfl, rfl⟩
theorem Seq_any (q : Nat) (d : Option Addr) (L : LogS) (w : World) (h : w.heap[q]? = some (.cells (lcellsO d L) 48 (0, 0))) :
    Calls Tryd.prog 23 #[.pointer (some ⟨q, 0, none⟩)] w fun e w' => e = .returned (.int .i64 L.seq) ∧ w = w' := by
  have c4 : w.cell? ⟨q, 4, none⟩ = some (.int .i64 L.seq) := blk_cell h 4
  clear h
  go_enter Tryd.func23, Tryd.ntmps23
  go_wp2_with fail
  go_ret
  exact ⟨rfl, rfl⟩
theorem lRead_nil (at_ : Int) (w : World) : Calls Tryd.prog 25 #[.pointer none, .int .i64 at_] w fun e w' => e = .returned (.tuple #[.string ⟨#[]⟩, .int .i64 1]) ∧ w = w' := by
  go_enter Tryd.func25, Tryd.ntmps25
  go_wp2_with fail
  refine (ready_nil _).mono ?_
  rintro e w1 ⟨rfl, rfl⟩
  go_wp2_with fail
  go_ret2
  exact ⟨rfl, rfl⟩
theorem lRead_zero (q : Nat) (L : LogS) (at_ : Int) (w : World) (h : w.heap[q]? = some (.cells (lcellsO none L) 48 (0, 0))) :
    Calls Tryd.prog 25 #[.pointer (some ⟨q, 0, none⟩), .int .i64 at_] w fun e w' => e = .returned (.tuple #[.string ⟨#[]⟩, .int .i64 13]) ∧ w = w' := by
  go_enter Tryd.func25, Tryd.ntmps25
  go_wp2_with fail
  refine (ready_zero _ _ _ h).mono ?_
  rintro e w1 ⟨rfl, rfl⟩
  go_wp2_with fail
  go_ret2
  exact ⟨rfl, rfl⟩
def lReadV (L : LogS) (D : DiskS) (at_ : Int) : Value := if L.broken then .tuple #[.string ⟨#[]⟩, .int .i64 13] else rdVal D at_
theorem lRead_any {S : List Nat} {q p : Nat} {L : LogS} {D : DiskS} (w : World) (at_ : Int) (h : LogAt w q p L) (hD : DiskAt w S p D) (ok : D.Ok) :
    Calls Tryd.prog 25 #[.pointer (some ⟨q, 0, none⟩), .int .i64 at_] w fun e w' => e = .returned (lReadV L D at_) ∧ Below w.heap.size w w' := by
  have c0 : w.cell? ⟨q, 0, none⟩ = some (.pointer (some ⟨p, 0, none⟩)) := blk_cell h 0
  have hR := ready_any w h
  have hrd := dRead_any w at_ hD ok
  unfold readyE at hR
  unfold lReadV
  unfold rdVal at hrd ⊢
  cases hb : L.broken
  · rw [hb] at hR
    clear hb h
    go_enter Tryd.func25, Tryd.ntmps25
    go_wp2_with fail
    refine hR.mono ?_
    rintro e w1 ⟨rfl, rfl⟩
    go_wp2_with fail
    refine hrd.mono ?_
    rintro e w2 ⟨rfl, hb2⟩
    go_wp2_with fail
    go_ret2
    exact ⟨rfl, hb2⟩
  · rw [hb] at hR
    clear hb h hrd
    go_enter Tryd.func25, Tryd.ntmps25
    go_wp2_with fail
    refine hR.mono ?_
    rintro e w1 ⟨rfl, rfl⟩
    go_wp2_with fail
    go_ret2
    exact ⟨rfl, Below.refl _ _⟩

end Go.Proofs.YtbalbjhmboppoaaDoor
