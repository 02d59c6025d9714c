/-
  DERIVED. GIVEN WITH THE SEED: THE CARDS: each row of YtnilkkggnffklaaGreatDoorRows.lean that lists a variable, with what it lists TIED to the program's text (the seventh form; the later family's looks); each row that meets fmt, with fmt's text TOLD by the authors' own Lean function (tested against real Go, not proved from fmt's source: count such statements apart). THE CARD IS WHAT COUNTS. Prove the row's statement (the work); the ties are given (YtnilkkggnffklaaGreatDoorTie.lean); close each card by the builder's one call (the guide's Derived/Test/ToyasCard.lean, 'card_holds'). Laid BY PROGRAM, IN A SANDBOX (cutbox-door.mjs). By AI agents, Wed Nov 11 2026. No macro, syntax, notation, axiom, sorry.
-/
import Derived.Test.YtnilkkggnffklaaGreatDoorRows
import GoSem.ClaimSeven
namespace Go.Proofs.YtnilkkggnffklaaGreatDoor
namespace Rows

/-- THE TIED CARD OF 'batchlinelaw11.NominationTotals'. -/
def nominationTotalsCard : Claim7 := { stood := { row := nominationTotalsRow, standIns := [], harness := (true, "a08a21a1adf046c2b6ce73585ca3910f554ddccfdc506826d5e84da8d80a2ae3"), looks := true }, kinds := [], alts := [], laidByText := true, laidKinds := [.data, .data, .data, .data, .sentinel, .sentinel, .pinned], laidTests := true, laidLooks := .later }
def NominationTotalsCardSaid : Prop := Claim7.holds Tryz.pinned (.plain (OpenSpec.ofChange nominationTotalsSpec)) nominationTotalsCard

/-- THE TIED CARD OF 'batchlinelaw11.NominationParts'. -/
def nominationPartsCard : Claim7 := { stood := { row := nominationPartsRow, standIns := [], harness := (true, "a08a21a1adf046c2b6ce73585ca3910f554ddccfdc506826d5e84da8d80a2ae3"), looks := true }, kinds := [], alts := [], laidByText := true, laidKinds := [.data, .data, .data, .data, .sentinel, .sentinel, .pinned], laidTests := true, laidLooks := .later }
def NominationPartsCardSaid : Prop := Claim7.holds Tryz.pinned (.plain (OpenSpec.ofChange nominationPartsSpec)) nominationPartsCard

/-- THE TIED CARD OF 'batchlinelaw11.NominationAnswers'. -/
def nominationAnswersCard : Claim7 := { stood := { row := nominationAnswersRow, standIns := [], harness := (true, "a08a21a1adf046c2b6ce73585ca3910f554ddccfdc506826d5e84da8d80a2ae3"), looks := true }, kinds := [], alts := [], laidByText := true, laidKinds := [.data, .data, .data, .data, .sentinel, .sentinel, .pinned], laidTests := true, laidLooks := .later }
def NominationAnswersCardSaid : Prop := Claim7.holds Tryz.pinned (.plain (OpenSpec.ofChange nominationAnswersSpec)) nominationAnswersCard

/-- THE SECOND FORM's CARD OF 'batchlinelaw11.NominationTotals'. -/
def nominationTotalsUptoCard : Claim7 := { stood := { row := nominationTotalsUptoRow, standIns := [], harness := (true, "a08a21a1adf046c2b6ce73585ca3910f554ddccfdc506826d5e84da8d80a2ae3"), looks := true }, kinds := [], alts := [], laidByText := true, laidKinds := [.data, .data, .data, .data, .sentinel, .sentinel, .pinned], laidTests := true, laidLooks := .later }
def NominationTotalsUptoCardSaid : Prop := Claim7.holds Tryz.pinned (.plain (OpenSpec.upto nominationTotalsSpec)) nominationTotalsUptoCard

/-- THE SECOND FORM's CARD OF 'batchlinelaw11.NominationParts'. -/
def nominationPartsUptoCard : Claim7 := { stood := { row := nominationPartsUptoRow, standIns := [], harness := (true, "a08a21a1adf046c2b6ce73585ca3910f554ddccfdc506826d5e84da8d80a2ae3"), looks := true }, kinds := [], alts := [], laidByText := true, laidKinds := [.data, .data, .data, .data, .sentinel, .sentinel, .pinned], laidTests := true, laidLooks := .later }
def NominationPartsUptoCardSaid : Prop := Claim7.holds Tryz.pinned (.plain (OpenSpec.upto nominationPartsSpec)) nominationPartsUptoCard

/-- THE SECOND FORM's CARD OF 'batchlinelaw11.NominationAnswers'. -/
def nominationAnswersUptoCard : Claim7 := { stood := { row := nominationAnswersUptoRow, standIns := [], harness := (true, "a08a21a1adf046c2b6ce73585ca3910f554ddccfdc506826d5e84da8d80a2ae3"), looks := true }, kinds := [], alts := [], laidByText := true, laidKinds := [.data, .data, .data, .data, .sentinel, .sentinel, .pinned], laidTests := true, laidLooks := .later }
def NominationAnswersUptoCardSaid : Prop := Claim7.holds Tryz.pinned (.plain (OpenSpec.upto nominationAnswersSpec)) nominationAnswersUptoCard
end Rows
end Go.Proofs.YtnilkkggnffklaaGreatDoor
