/-
  THE LAW RedoWhole: its card, from its walk. The table of check is what the program's text lays.
  No condition of ours.
-/
import Derived.Test.YtbalbjhmboppoaaDoorCards
import Derived.Test.YtbalbjhmboppoaaDoorTie
import Derived.ProofKit
import Derived.OpenShut
import Derived.Deep.DeepHandedRow
import Derived.Lib.LaidTab
import Derived.Test.YtbalbjhmboppoaaDoorK2
import Derived.Test.YtbalbjhmboppoaaDoorV11
set_option linter.unusedSimpArgs false
set_option linter.unusedVariables false
namespace Go.Proofs.YtbalbjhmboppoaaDoor
open Go.ChangeShapes Go.WideShapes Go.ChangeAt Go.RowKit
namespace zRedoWhole

theorem own : ownKnob Tryd.prog.godebug = none := by kernel_rfl
theorem laidOut : laidOutB Tryd.prog = true := by kernel_rfl
theorem gTab : Tryd.prog.globalNamed "scrinium/check.table" = some 0 := by kernel_rfl
theorem gTabType : (Tryd.prog.globals[0]?).map (·.type) = some 134 := by kernel_rfl
theorem cellsTab : Tryd.prog.cellsOf 134 = 16 := by kernel_rfl
theorem cellsU32 : Tryd.prog.cellsOf 110 = 1 := by kernel_rfl
theorem cellsInt : Tryd.prog.cellsOf 3 = 1 := by kernel_rfl
theorem cellsSpec : Tryd.prog.cellsOf 43 = 2 := by kernel_rfl
theorem cellsByte : Tryd.prog.cellsOf 5 = 1 := by kernel_rfl
theorem cellsOp : Tryd.prog.cellsOf 62 = 4 := by kernel_rfl
theorem cellsSpecs : Tryd.prog.cellsOf 28 = 1 := by kernel_rfl
theorem cellsInts : Tryd.prog.cellsOf 23 = 1 := by kernel_rfl

/-- What the row's list gives: the table's cells. -/
theorem table {W : World} (h : laidMetH Tryd.prog Rows.redoWholeRow.laid W) : Tab W := by
  have h1 : Lib.TabIs Tryd.prog W "scrinium/check.table" .u32 [0, 498536548, 997073096, 651767980, 1994146192, 1802195444, 1303535960, 1342533948, 3988292384, 4027552580, 3604390888, 3412177804, 2607071920, 2262029012, 2685067896, 3183342108] :=
    Lib.tabIs_of_head (rest := []) gTab gTabType Tryd.underlying134 Tryd.underlying110 cellsU32 cellsTab h
  intro j hj
  have h2 := h1.cell gTab j hj
  rw [h2]
  have e : ∀ i : Fin 16, ([0, 498536548, 997073096, 651767980, 1994146192, 1802195444, 1303535960, 1342533948, 3988292384, 4027552580, 3604390888, 3412177804, 2607071920, 2262029012, 2685067896, 3183342108] : List Int).getD i.val 0 = (tabN i.val : Int) := by decide
  rw [e ⟨j, hj⟩]

theorem readable : ∀ t, t ∈ Tryd.f8.params.toList → Tryd.prog.readableRec t = true ∧ t < Tryd.prog.types.size := by
  rw [Tryd.params8]
  intro t ht
  simp only [List.mem_cons, List.not_mem_nil, or_false] at ht
  have ht : t = 3 ∨ t = 60 := by rcases ht with h | h <;> simp [h]
  rcases ht with rfl | rfl
  · exact ⟨by kernel_rfl, of_decide_eq_true (by kernel_rfl)⟩
  · exact ⟨by kernel_rfl, of_decide_eq_true (by kernel_rfl)⟩

set_option maxRecDepth 100000 in
theorem contract (H : Type) (enc : TypeId × Value → H) (W : World) (base : Nat) (args : Array Value) (ds gs : List (DataW H)) (before : List MemPlace)
    (hval : ∀ (j : Nat) t v, Tryd.f8.params[j]? = some t → args[j]? = some v → Value.okWide Tryd.prog W .any base t v)
    (hW : DataW.Whole enc Tryd.prog Tryd.f8.params.toList Rows.redoWholeSpec.vars false W args.toList ds gs before) (hL : laidMetH Tryd.prog Rows.redoWholeRow.laid W) :
    Calls Tryd.prog 8 args W fun e W' => ∃ v, e = .returned v ∧ Rows.redoWholeSpec.post enc Tryd.prog Tryd.f8 false true false false W args v W' := by
  have hT := table hL
  have hW' := hW
  obtain ⟨p, q, hA0, hV, hpq, hfz, hnd⟩ := hW
  have hA : DataW.TrodAll enc Tryd.prog W 0 (fun _ => true) true Tryd.f8.params.toList args.toList ds p := hA0
  have hval2 := hval
  rw [Tryd.params8] at hA hval2
  obtain ⟨rfl, rfl⟩ := trodVars_none hV
  suffices walk : Calls Tryd.prog 8 args W (fun e w' => e = .returned (.bool true) ∧ Below W.heap.size W w') ∧ (Rows.redoWholeSpec.fn H (ds ++ [])).args = ds ∧ (Rows.redoWholeSpec.fn H (ds ++ [])).vars = [] ∧ (Rows.redoWholeSpec.fn H (ds ++ [])).results = [.lit (.bool true)] by
    refine walk.1.mono fun e W' ⟨he, hb⟩ => ?_
    subst he
    exact ⟨_, rfl, law_post (v := .bool true) laidOut readable rfl hW' (fun _ _ _ => by rw [walk.2.2.2]; exact trodAll_cons_mk (shut_bool Tryd.underlying4 _) trodAll_mk0) walk.2.1 walk.2.2.1 hb (ok_one (by kernel_rfl) rfl (okWide_bool_mk Tryd.underlying4 _))⟩
  obtain ⟨v0, v1, d0, d1, p0, p1, rfl, rfl, rfl, h0, h1⟩ := trodAll_two hA
  obtain ⟨a, rfl, rfl, rfl, wa⟩ := open_int Tryd.underlying3 (hval2 0 3 v0 rfl rfl) h0
  have hc1 := slice_cells Tryd.underlying60 (hval2 1 60 v1 rfl rfl)
  obtain ⟨fuel1, hf1⟩ := h1
  rw [hc1] at hf1
  obtain ⟨A1, len1, cap1, hv1, hlc1, hcm1, hR1⟩ := open_ops Tryd.underlying60 Tryd.underlying62 cellsOp rfl rfl rfl rfl cellsInt cellsInt cellsSpecs cellsInts Tryd.underlying3 Tryd.underlying3 Tryd.underlying28 Tryd.underlying23 Tryd.underlying43 cellsSpec rfl rfl cellsInt cellsByte Tryd.underlying3 Tryd.underlying5 Tryd.underlying3 cellsInt hf1
  obtain rfl : v1 = .slice A1 len1 cap1 := by simpa using hv1
  refine ⟨?_, rfl, rfl, rfl⟩
  unfold maxLen at hcm1
  exact RedoWhole_any a A1 len1 cap1 W hT hR1 hlc1 (by omega)

noncomputable def laidWorld (os : Os) : World :=
  { World.holding Tryd.prog os ⟨#[], #[], []⟩ with heap := (World.holding Tryd.prog os ⟨#[], #[], []⟩).heap.modify 0 fun
      | .cells _ t frozen => .cells #[.int .u32 0, .int .u32 498536548, .int .u32 997073096, .int .u32 651767980, .int .u32 1994146192, .int .u32 1802195444, .int .u32 1303535960, .int .u32 1342533948, .int .u32 3988292384, .int .u32 4027552580, .int .u32 3604390888, .int .u32 3412177804, .int .u32 2607071920, .int .u32 2262029012, .int .u32 2685067896, .int .u32 3183342108] t frozen
      | o => o }
theorem laid_met (os : Os) : laidMet Tryd.prog Rows.redoWholeRow.laid ((laidWorld os).forCall (fun _ _ => 0) ⟨#[], #[.int .i64 0, .slice none 0 0], []⟩).memory :=
  laidMet_of_run' 8 (by kernel_rfl) (by kernel_rfl)
theorem reads (os : Os) {H : Type} (enc : TypeId × Value → H) : ∃ places, DataW.whole enc Tryd.prog ((laidWorld os).forCall (fun _ _ => 0) ⟨#[], #[.int .i64 0, .slice none 0 0], []⟩).memory Tryd.f8.params.toList Rows.redoWholeSpec.vars false (#[.int .i64 0, .slice none 0 0] : Array Value).toList 8 = some ([.lit (.int .i64 0), .nil], [], places) :=
  ⟨[], by kernel_rfl⟩

set_option maxRecDepth 100000 in
theorem lifted (os : Os) (started : os.Started) (H : Type) (enc : TypeId × Value → H) (F : Stop.Interp) :
    ReturnsInHanded {} Tryd.checked os 8 .any ((OpenSpec.ofChange Rows.redoWholeSpec).preRow enc Tryd.prog Tryd.f8 Rows.redoWholeRow.domain false Rows.redoWholeRow.laid) (((OpenSpec.ofChange Rows.redoWholeSpec).at F).post enc Tryd.prog Tryd.f8 false true false false) := by
  obtain ⟨places, hx⟩ := reads os enc
  refine returnsInHanded_of_row (C := Tryd.checked) (s := OpenSpec.ofChange Rows.redoWholeSpec) own started (by kernel_rfl) Tryd.func8
    (witness_row_at (enc := enc) (C := Tryd.checked) false (laidWorld os) #[.int .i64 0, .slice none 0 0] rfl (by kernel_rfl) (by kernel_rfl) (by kernel_rfl)
      (OpenSpec.preRow_of_cond 8 hx (by kernel_rfl) (fun k hk => by cases hk) (by kernel_rfl) (laid_met os))) ?_
  intro W base args ds gs before hval hW _ _ _ hL _ _
  exact contract H enc W base args ds gs before hval hW hL

theorem said : Rows.RedoWholeSaid :=
  OpenClaim.holds_of_cond 8 Tryd.f8 rfl rfl rfl rfl rfl rfl rfl ⟨rfl, rfl, rfl, rfl, rfl⟩ rfl rfl rfl rfl rfl (by kernel_rfl) Tryd.func8 (by kernel_rfl)
    (of_decide_eq_true (by kernel_rfl)) (by unfold Func.isWrapper; first | (rw [if_pos (by decide +kernel)]; kernel_rfl) | (rw [if_neg (by decide +kernel)]; exact ⟨rfl, rfl⟩))
    (fun os started H enc _ F => by rw [OpenClaim.pre_eq_preRow]; exact lifted os started H enc F)

theorem plain (f : FuncId) (fn : Func) (hf : Tryd.pinned.checked.prog.funcNamed "scrinium/scriniumlaw07.RedoWhole" = some f) (hfn : Tryd.pinned.checked.prog.funcs[f]? = some fn) :
    false = Tryd.pinned.checked.prog.looks [] ∧ ∀ (j : Nat) t, fn.params[j]? = some t → Tryd.pinned.checked.prog.wantsStandIn t = false := by
  obtain rfl : f = 8 := Option.some.inj ((show Tryd.prog.funcNamed "scrinium/scriniumlaw07.RedoWhole" = some 8 by kernel_rfl).symm.trans hf) |>.symm
  obtain rfl : fn = Tryd.f8 := (Option.some.inj (Tryd.func8.symm.trans hfn)).symm
  refine ⟨by kernel_rfl, fun j t ht => ?_⟩
  rw [Tryd.params8] at ht
  have hm := Array.mem_of_getElem? ht
  simp only [List.mem_toArray, List.mem_cons, List.not_mem_nil, or_false] at hm
  have hm : t = 3 ∨ t = 60 := by rcases hm with h | h <;> simp [h]
  rcases hm with rfl | rfl
  · exact (show Tryd.prog.wantsStandIn 3 = false by kernel_rfl)
  · exact (show Tryd.prog.wantsStandIn 60 = false by kernel_rfl)
end zRedoWhole

/-- THE CARD. -/
theorem redoWhole_card : Rows.RedoWholeCardSaid :=
  Claim7.holds_tied_plain_at .later [] _ _ _ _ zRedoWhole.said (fun _ h => by cases h) (by kernel_rfl) (fun _ h => by cases h) redoWhole_row_tie rfl ⟨rfl, rfl⟩ (by kernel_rfl) rfl zRedoWhole.plain (by kernel_rfl)
end Go.Proofs.YtbalbjhmboppoaaDoor
