/-
  DERIVED. GIVEN WITH THE SEED: THE CARDS: each row of YtbalbjhmboppoaaDoorRows.lean that lists a variable, with what it lists TIED to the program's text (the seventh form; the later family's looks); each row that meets fmt, with fmt's text TOLD by the authors' own Lean function (tested against real Go, not proved from fmt's source: count such statements apart). THE CARD IS WHAT COUNTS. Prove the row's statement (the work); the ties are given (YtbalbjhmboppoaaDoorTie.lean); close each card by the builder's one call (the guide's Derived/Test/ToyasCard.lean, 'card_holds'). Laid BY PROGRAM, IN A SANDBOX (cutbox-door.mjs). By AI agents, Wed Nov 11 2026. No macro, syntax, notation, axiom, sorry.
-/
import Derived.Test.YtbalbjhmboppoaaDoorRows
import GoSem.ClaimSeven
namespace Go.Proofs.YtbalbjhmboppoaaDoor
namespace Rows

/-- THE TIED CARD OF 'scriniumlaw07.RedoLines'. -/
def redoLinesCard : Claim7 := { stood := { row := redoLinesRow, standIns := [], harness := (true, "bd06321f57839d69c64b10ae8cfb8e7f62c3aa26b305f299f97fb59f58a942a8"), looks := false }, kinds := [], alts := [], laidByText := true, laidKinds := [.data], laidTests := true, laidLooks := .later }
def RedoLinesCardSaid : Prop := Claim7.holds Tryd.pinned (.plain (OpenSpec.ofChange redoLinesSpec)) redoLinesCard

/-- THE TIED CARD OF 'scriniumlaw07.RedoTells'. -/
def redoTellsCard : Claim7 := { stood := { row := redoTellsRow, standIns := [], harness := (true, "bd06321f57839d69c64b10ae8cfb8e7f62c3aa26b305f299f97fb59f58a942a8"), looks := false }, kinds := [], alts := [], laidByText := true, laidKinds := [.data], laidTests := true, laidLooks := .later }
def RedoTellsCardSaid : Prop := Claim7.holds Tryd.pinned (.plain (OpenSpec.ofChange redoTellsSpec)) redoTellsCard

/-- THE TIED CARD OF 'scriniumlaw07.RedoMakes'. -/
def redoMakesCard : Claim7 := { stood := { row := redoMakesRow, standIns := [], harness := (true, "bd06321f57839d69c64b10ae8cfb8e7f62c3aa26b305f299f97fb59f58a942a8"), looks := false }, kinds := [], alts := [], laidByText := true, laidKinds := [.data], laidTests := true, laidLooks := .later }
def RedoMakesCardSaid : Prop := Claim7.holds Tryd.pinned (.plain (OpenSpec.ofChange redoMakesSpec)) redoMakesCard

/-- THE TIED CARD OF 'scriniumlaw07.RedoNil'. -/
def redoNilCard : Claim7 := { stood := { row := redoNilRow, standIns := [], harness := (true, "bd06321f57839d69c64b10ae8cfb8e7f62c3aa26b305f299f97fb59f58a942a8"), looks := false }, kinds := [], alts := [], laidByText := true, laidKinds := [.data], laidTests := true, laidLooks := .later }
def RedoNilCardSaid : Prop := Claim7.holds Tryd.pinned (.plain (OpenSpec.ofChange redoNilSpec)) redoNilCard

/-- THE TIED CARD OF 'scriniumlaw07.RedoRound'. -/
def redoRoundCard : Claim7 := { stood := { row := redoRoundRow, standIns := [], harness := (true, "bd06321f57839d69c64b10ae8cfb8e7f62c3aa26b305f299f97fb59f58a942a8"), looks := false }, kinds := [], alts := [], laidByText := true, laidKinds := [.data], laidTests := true, laidLooks := .later }
def RedoRoundCardSaid : Prop := Claim7.holds Tryd.pinned (.plain (OpenSpec.ofChange redoRoundSpec)) redoRoundCard

/-- THE TIED CARD OF 'scriniumlaw07.RedoWhole'. -/
def redoWholeCard : Claim7 := { stood := { row := redoWholeRow, standIns := [], harness := (true, "bd06321f57839d69c64b10ae8cfb8e7f62c3aa26b305f299f97fb59f58a942a8"), looks := false }, kinds := [], alts := [], laidByText := true, laidKinds := [.data], laidTests := true, laidLooks := .later }
def RedoWholeCardSaid : Prop := Claim7.holds Tryd.pinned (.plain (OpenSpec.ofChange redoWholeSpec)) redoWholeCard

/-- THE SECOND FORM's CARD OF 'scriniumlaw07.RedoLines'. -/
def redoLinesUptoCard : Claim7 := { stood := { row := redoLinesUptoRow, standIns := [], harness := (true, "bd06321f57839d69c64b10ae8cfb8e7f62c3aa26b305f299f97fb59f58a942a8"), looks := false }, kinds := [], alts := [], laidByText := true, laidKinds := [.data], laidTests := true, laidLooks := .later }
def RedoLinesUptoCardSaid : Prop := Claim7.holds Tryd.pinned (.plain (OpenSpec.upto redoLinesSpec)) redoLinesUptoCard

/-- THE SECOND FORM's CARD OF 'scriniumlaw07.RedoTells'. -/
def redoTellsUptoCard : Claim7 := { stood := { row := redoTellsUptoRow, standIns := [], harness := (true, "bd06321f57839d69c64b10ae8cfb8e7f62c3aa26b305f299f97fb59f58a942a8"), looks := false }, kinds := [], alts := [], laidByText := true, laidKinds := [.data], laidTests := true, laidLooks := .later }
def RedoTellsUptoCardSaid : Prop := Claim7.holds Tryd.pinned (.plain (OpenSpec.upto redoTellsSpec)) redoTellsUptoCard

/-- THE SECOND FORM's CARD OF 'scriniumlaw07.RedoMakes'. -/
def redoMakesUptoCard : Claim7 := { stood := { row := redoMakesUptoRow, standIns := [], harness := (true, "bd06321f57839d69c64b10ae8cfb8e7f62c3aa26b305f299f97fb59f58a942a8"), looks := false }, kinds := [], alts := [], laidByText := true, laidKinds := [.data], laidTests := true, laidLooks := .later }
def RedoMakesUptoCardSaid : Prop := Claim7.holds Tryd.pinned (.plain (OpenSpec.upto redoMakesSpec)) redoMakesUptoCard

/-- THE SECOND FORM's CARD OF 'scriniumlaw07.RedoNil'. -/
def redoNilUptoCard : Claim7 := { stood := { row := redoNilUptoRow, standIns := [], harness := (true, "bd06321f57839d69c64b10ae8cfb8e7f62c3aa26b305f299f97fb59f58a942a8"), looks := false }, kinds := [], alts := [], laidByText := true, laidKinds := [.data], laidTests := true, laidLooks := .later }
def RedoNilUptoCardSaid : Prop := Claim7.holds Tryd.pinned (.plain (OpenSpec.upto redoNilSpec)) redoNilUptoCard

/-- THE SECOND FORM's CARD OF 'scriniumlaw07.RedoRound'. -/
def redoRoundUptoCard : Claim7 := { stood := { row := redoRoundUptoRow, standIns := [], harness := (true, "bd06321f57839d69c64b10ae8cfb8e7f62c3aa26b305f299f97fb59f58a942a8"), looks := false }, kinds := [], alts := [], laidByText := true, laidKinds := [.data], laidTests := true, laidLooks := .later }
def RedoRoundUptoCardSaid : Prop := Claim7.holds Tryd.pinned (.plain (OpenSpec.upto redoRoundSpec)) redoRoundUptoCard

/-- THE SECOND FORM's CARD OF 'scriniumlaw07.RedoWhole'. -/
def redoWholeUptoCard : Claim7 := { stood := { row := redoWholeUptoRow, standIns := [], harness := (true, "bd06321f57839d69c64b10ae8cfb8e7f62c3aa26b305f299f97fb59f58a942a8"), looks := false }, kinds := [], alts := [], laidByText := true, laidKinds := [.data], laidTests := true, laidLooks := .later }
def RedoWholeUptoCardSaid : Prop := Claim7.holds Tryd.pinned (.plain (OpenSpec.upto redoWholeSpec)) redoWholeUptoCard
end Rows
end Go.Proofs.YtbalbjhmboppoaaDoor
