/-
  DERIVED. GIVEN WITH THE SEED: THE CARDS: each row of YtihbfecdccamoaaGreatDoorRows.lean that lists a variable, with what it lists TIED to the program's text (the seventh form; the later family's looks); each row that meets fmt, with fmt's text TOLD by the authors' own Lean function (tested against real Go, not proved from fmt's source: count such statements apart). THE CARD IS WHAT COUNTS. Prove the row's statement (the work); the ties are given (YtihbfecdccamoaaGreatDoorTie.lean); close each card by the builder's one call (the guide's Derived/Test/ToyasCard.lean, 'card_holds'). Laid BY PROGRAM, IN A SANDBOX (cutbox-door.mjs). By AI agents, Wed Nov 11 2026. No macro, syntax, notation, axiom, sorry.
-/
import Derived.Test.YtihbfecdccamoaaGreatDoorRows
import GoSem.ClaimSeven
namespace Go.Proofs.YtihbfecdccamoaaGreatDoor
namespace Rows

/-- THE TIED CARD OF 'batchlinelaw04.ProductAnswers'. -/
def productAnswersCard : Claim7 := { stood := { row := productAnswersRow, standIns := [], harness := (true, "6383426b498ccc8e0155d8c5b133db42a58f0cd12371f02717baba998c51ef43"), looks := true }, kinds := [], alts := [], laidByText := true, laidKinds := [.data, .data, .data, .data, .sentinel, .sentinel, .data, .pinned], laidTests := true, laidLooks := .later }
def ProductAnswersCardSaid : Prop := Claim7.holds Tryz.pinned (.plain (OpenSpec.ofChange productAnswersSpec)) productAnswersCard

/-- THE SECOND FORM's CARD OF 'batchlinelaw04.ProductAnswers'. -/
def productAnswersUptoCard : Claim7 := { stood := { row := productAnswersUptoRow, standIns := [], harness := (true, "6383426b498ccc8e0155d8c5b133db42a58f0cd12371f02717baba998c51ef43"), looks := true }, kinds := [], alts := [], laidByText := true, laidKinds := [.data, .data, .data, .data, .sentinel, .sentinel, .data, .pinned], laidTests := true, laidLooks := .later }
def ProductAnswersUptoCardSaid : Prop := Claim7.holds Tryz.pinned (.plain (OpenSpec.upto productAnswersSpec)) productAnswersUptoCard
end Rows
end Go.Proofs.YtihbfecdccamoaaGreatDoor
