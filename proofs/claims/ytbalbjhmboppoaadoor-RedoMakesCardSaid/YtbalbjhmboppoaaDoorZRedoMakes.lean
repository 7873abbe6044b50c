/-
  THE LAW RedoMakes: its card, from its walk. The table of check is what the program's text lays.
  No condition of ours.
-/
import Derived.Test.YtbalbjhmboppoaaDoorCards
import Derived.Test.YtbalbjhmboppoaaDoorTie
import Derived.ProofKit
import Derived.OpenShut
import Derived.Deep.DeepHandedRow
import Derived.Lib.LaidTab
import Derived.Test.YtbalbjhmboppoaaDoorK0
import Derived.Test.YtbalbjhmboppoaaDoorV4
set_option linter.unusedSimpArgs false
set_option linter.unusedVariables false
namespace Go.Proofs.YtbalbjhmboppoaaDoor
open Go.ChangeShapes Go.WideShapes Go.ChangeAt Go.RowKit
namespace zRedoMakes

theorem own : ownKnob Tryd.prog.godebug = none := by kernel_rfl
theorem laidOut : laidOutB Tryd.prog = true := by kernel_rfl
theorem gTab : Tryd.prog.globalNamed "scrinium/check.table" = some 0 := by kernel_rfl
theorem gTabType : (Tryd.prog.globals[0]?).map (·.type) = some 134 := by kernel_rfl
theorem cellsTab : Tryd.prog.cellsOf 134 = 16 := by kernel_rfl
theorem cellsU32 : Tryd.prog.cellsOf 110 = 1 := by kernel_rfl
theorem cellsInt : Tryd.prog.cellsOf 3 = 1 := by kernel_rfl

/-- What the row's list gives: the table's cells. -/
theorem table {W : World} (h : laidMetH Tryd.prog Rows.redoMakesRow.laid W) : Tab W := by
  have h1 : Lib.TabIs Tryd.prog W "scrinium/check.table" .u32 [0, 498536548, 997073096, 651767980, 1994146192, 1802195444, 1303535960, 1342533948, 3988292384, 4027552580, 3604390888, 3412177804, 2607071920, 2262029012, 2685067896, 3183342108] :=
    Lib.tabIs_of_head (rest := []) gTab gTabType Tryd.underlying134 Tryd.underlying110 cellsU32 cellsTab h
  intro j hj
  have h2 := h1.cell gTab j hj
  rw [h2]
  have e : ∀ i : Fin 16, ([0, 498536548, 997073096, 651767980, 1994146192, 1802195444, 1303535960, 1342533948, 3988292384, 4027552580, 3604390888, 3412177804, 2607071920, 2262029012, 2685067896, 3183342108] : List Int).getD i.val 0 = (tabN i.val : Int) := by decide
  rw [e ⟨j, hj⟩]

theorem readable : ∀ t, t ∈ Tryd.f5.params.toList → Tryd.prog.readableRec t = true ∧ t < Tryd.prog.types.size := by
  rw [Tryd.params5]
  intro t ht
  simp only [List.mem_cons, List.not_mem_nil, or_false] at ht
  obtain rfl : t = 3 := by rcases ht with h | h <;> exact h
  exact ⟨by kernel_rfl, of_decide_eq_true (by kernel_rfl)⟩

set_option maxRecDepth 100000 in
theorem contract (H : Type) (enc : TypeId × Value → H) (W : World) (base : Nat) (args : Array Value) (ds gs : List (DataW H)) (before : List MemPlace)
    (hval : ∀ (j : Nat) t v, Tryd.f5.params[j]? = some t → args[j]? = some v → Value.okWide Tryd.prog W .any base t v)
    (hW : DataW.Whole enc Tryd.prog Tryd.f5.params.toList Rows.redoMakesSpec.vars false W args.toList ds gs before) (hL : laidMetH Tryd.prog Rows.redoMakesRow.laid W) :
    Calls Tryd.prog 5 args W fun e W' => ∃ v, e = .returned v ∧ Rows.redoMakesSpec.post enc Tryd.prog Tryd.f5 false true false false W args v W' := by
  have hT := table hL
  have hW' := hW
  obtain ⟨p, q, hA0, hV, hpq, hfz, hnd⟩ := hW
  have hA : DataW.TrodAll enc Tryd.prog W 0 (fun _ => true) true Tryd.f5.params.toList args.toList ds p := hA0
  have hval2 := hval
  rw [Tryd.params5] at hA hval2
  obtain ⟨rfl, rfl⟩ := trodVars_none hV
  suffices walk : Calls Tryd.prog 5 args W (fun e w' => e = .returned (.bool true) ∧ Below W.heap.size W w') ∧ (Rows.redoMakesSpec.fn H (ds ++ [])).args = ds ∧ (Rows.redoMakesSpec.fn H (ds ++ [])).vars = [] ∧ (Rows.redoMakesSpec.fn H (ds ++ [])).results = [.lit (.bool true)] by
    refine walk.1.mono fun e W' ⟨he, hb⟩ => ?_
    subst he
    exact ⟨_, rfl, law_post (v := .bool true) laidOut readable rfl hW' (fun _ _ _ => by rw [walk.2.2.2]; exact trodAll_cons_mk (shut_bool Tryd.underlying4 _) trodAll_mk0) walk.2.1 walk.2.2.1 hb (ok_one (by kernel_rfl) rfl (okWide_bool_mk Tryd.underlying4 _))⟩
  obtain ⟨v0, v1, d0, d1, p0, p1, rfl, rfl, rfl, h0, h1⟩ := trodAll_two hA
  obtain ⟨a, rfl, rfl, rfl, wa⟩ := open_int Tryd.underlying3 (hval2 0 3 v0 rfl rfl) h0
  obtain ⟨b, rfl, rfl, rfl, wb⟩ := open_int Tryd.underlying3 (hval2 1 3 v1 rfl rfl) h1
  have ba := bounds_i64 wa
  refine ⟨?_, rfl, rfl, rfl⟩
  by_cases hf : 0 ≤ a ∧ 4 ≤ b ∧ b ≤ 65536 ∧ a ≤ 20 - b
  · exact RedoMakes_yes a b W hT hf
  · exact RedoMakes_no a b W hT (by omega) (by omega) hf

noncomputable def laidWorld (os : Os) : World :=
  { World.holding Tryd.prog os ⟨#[], #[], []⟩ with heap := (World.holding Tryd.prog os ⟨#[], #[], []⟩).heap.modify 0 fun
      | .cells _ t frozen => .cells #[.int .u32 0, .int .u32 498536548, .int .u32 997073096, .int .u32 651767980, .int .u32 1994146192, .int .u32 1802195444, .int .u32 1303535960, .int .u32 1342533948, .int .u32 3988292384, .int .u32 4027552580, .int .u32 3604390888, .int .u32 3412177804, .int .u32 2607071920, .int .u32 2262029012, .int .u32 2685067896, .int .u32 3183342108] t frozen
      | o => o }
theorem laid_met (os : Os) : laidMet Tryd.prog Rows.redoMakesRow.laid ((laidWorld os).forCall (fun _ _ => 0) ⟨#[], #[.int .i64 0, .int .i64 0], []⟩).memory :=
  laidMet_of_run' 8 (by kernel_rfl) (by kernel_rfl)
theorem reads (os : Os) {H : Type} (enc : TypeId × Value → H) : ∃ places, DataW.whole enc Tryd.prog ((laidWorld os).forCall (fun _ _ => 0) ⟨#[], #[.int .i64 0, .int .i64 0], []⟩).memory Tryd.f5.params.toList Rows.redoMakesSpec.vars false (#[.int .i64 0, .int .i64 0] : Array Value).toList 8 = some ([.lit (.int .i64 0), .lit (.int .i64 0)], [], places) :=
  ⟨[], by kernel_rfl⟩

set_option maxRecDepth 100000 in
theorem lifted (os : Os) (started : os.Started) (H : Type) (enc : TypeId × Value → H) (F : Stop.Interp) :
    ReturnsInHanded {} Tryd.checked os 5 .any ((OpenSpec.ofChange Rows.redoMakesSpec).preRow enc Tryd.prog Tryd.f5 Rows.redoMakesRow.domain false Rows.redoMakesRow.laid) (((OpenSpec.ofChange Rows.redoMakesSpec).at F).post enc Tryd.prog Tryd.f5 false true false false) := by
  obtain ⟨places, hx⟩ := reads os enc
  refine returnsInHanded_of_row (C := Tryd.checked) (s := OpenSpec.ofChange Rows.redoMakesSpec) own started (by kernel_rfl) Tryd.func5
    (witness_row_at (enc := enc) (C := Tryd.checked) false (laidWorld os) #[.int .i64 0, .int .i64 0] rfl (by kernel_rfl) (by kernel_rfl) (by kernel_rfl)
      (OpenSpec.preRow_of_cond 8 hx (by kernel_rfl) (fun k hk => by cases hk) (by kernel_rfl) (laid_met os))) ?_
  intro W base args ds gs before hval hW _ _ _ hL _ _
  exact contract H enc W base args ds gs before hval hW hL

theorem said : Rows.RedoMakesSaid :=
  OpenClaim.holds_of_cond 5 Tryd.f5 rfl rfl rfl rfl rfl rfl rfl ⟨rfl, rfl, rfl, rfl, rfl⟩ rfl rfl rfl rfl rfl (by kernel_rfl) Tryd.func5 (by kernel_rfl)
    (of_decide_eq_true (by kernel_rfl)) (by unfold Func.isWrapper; first | (rw [if_pos (by decide +kernel)]; kernel_rfl) | (rw [if_neg (by decide +kernel)]; exact ⟨rfl, rfl⟩))
    (fun os started H enc _ F => by rw [OpenClaim.pre_eq_preRow]; exact lifted os started H enc F)

theorem plain (f : FuncId) (fn : Func) (hf : Tryd.pinned.checked.prog.funcNamed "scrinium/scriniumlaw07.RedoMakes" = some f) (hfn : Tryd.pinned.checked.prog.funcs[f]? = some fn) :
    false = Tryd.pinned.checked.prog.looks [] ∧ ∀ (j : Nat) t, fn.params[j]? = some t → Tryd.pinned.checked.prog.wantsStandIn t = false := by
  obtain rfl : f = 5 := Option.some.inj ((show Tryd.prog.funcNamed "scrinium/scriniumlaw07.RedoMakes" = some 5 by kernel_rfl).symm.trans hf) |>.symm
  obtain rfl : fn = Tryd.f5 := (Option.some.inj (Tryd.func5.symm.trans hfn)).symm
  refine ⟨by kernel_rfl, fun j t ht => ?_⟩
  rw [Tryd.params5] at ht
  have hm := Array.mem_of_getElem? ht
  simp only [List.mem_toArray, List.mem_cons, List.not_mem_nil, or_false] at hm
  obtain rfl : t = 3 := by rcases hm with h | h <;> exact h
  exact (show Tryd.prog.wantsStandIn 3 = false by kernel_rfl)
end zRedoMakes

/-- THE CARD. -/
theorem redoMakes_card : Rows.RedoMakesCardSaid :=
  Claim7.holds_tied_plain_at .later [] _ _ _ _ zRedoMakes.said (fun _ h => by cases h) (by kernel_rfl) (fun _ h => by cases h) redoMakes_row_tie rfl ⟨rfl, rfl⟩ (by kernel_rfl) rfl zRedoMakes.plain (by kernel_rfl)
end Go.Proofs.YtbalbjhmboppoaaDoor
