/-
  DERIVED. GIVEN WITH THE SEED: THE CARDS: each row of YtihbfecdccamoaaDoorRows.lean that lists a variable, with what it lists TIED to the program's text (the seventh form; the later family's looks); each row that meets fmt, with fmt's text TOLD by the authors' own Lean function (tested against real Go, not proved from fmt's source: count such statements apart). THE CARD IS WHAT COUNTS. Prove the row's statement (the work); the ties are given (YtihbfecdccamoaaDoorTie.lean); close each card by the builder's one call (the guide's Derived/Test/ToyasCard.lean, 'card_holds'). Laid BY PROGRAM, IN A SANDBOX (cutbox-door.mjs). By AI agents, Wed Nov 11 2026. No macro, syntax, notation, axiom, sorry.
-/
import Derived.Test.YtihbfecdccamoaaDoorRows
import GoSem.ClaimSeven
namespace Go.Proofs.YtihbfecdccamoaaDoor
namespace Rows

/-- THE TIED CARD OF 'batchlinelaw04.ProductChecks'. -/
def productChecksCard : Claim7 := { stood := { row := productChecksRow, standIns := [], harness := (true, "537ab8b80549907cbfd9f15282db386636aa5eb8c6711b1bf84e16c1bce2edff"), looks := true }, kinds := [], alts := [], laidByText := true, laidKinds := [.data, .data, .data, .data, .sentinel, .sentinel, .data, .pinned], laidTests := true, laidLooks := .later }
def ProductChecksCardSaid : Prop := Claim7.holds Tryd.pinned (.plain (OpenSpec.ofChange productChecksSpec)) productChecksCard

/-- THE TIED CARD OF 'batchlinelaw04.ProductBack'. -/
def productBackCard : Claim7 := { stood := { row := productBackRow, standIns := [], harness := (true, "537ab8b80549907cbfd9f15282db386636aa5eb8c6711b1bf84e16c1bce2edff"), looks := true }, kinds := [], alts := [], laidByText := true, laidKinds := [.data, .data, .data, .data, .sentinel, .sentinel, .data, .pinned], laidTests := true, laidLooks := .later }
def ProductBackCardSaid : Prop := Claim7.holds Tryd.pinned (.plain (OpenSpec.ofChange productBackSpec)) productBackCard

/-- THE TIED CARD OF 'batchlinelaw04.ProductLines'. -/
def productLinesCard : Claim7 := { stood := { row := productLinesRow, standIns := [], harness := (true, "537ab8b80549907cbfd9f15282db386636aa5eb8c6711b1bf84e16c1bce2edff"), looks := true }, kinds := [], alts := [], laidByText := true, laidKinds := [.data, .data, .data, .data, .sentinel, .sentinel, .data, .pinned], laidTests := true, laidLooks := .later }
def ProductLinesCardSaid : Prop := Claim7.holds Tryd.pinned (.plain (OpenSpec.ofChange productLinesSpec)) productLinesCard

/-- THE TIED CARD OF 'batchlinelaw04.ProductParts'. -/
def productPartsCard : Claim7 := { stood := { row := productPartsRow, standIns := [], harness := (true, "537ab8b80549907cbfd9f15282db386636aa5eb8c6711b1bf84e16c1bce2edff"), looks := true }, kinds := [], alts := [], laidByText := true, laidKinds := [.data, .data, .data, .data, .sentinel, .sentinel, .data, .pinned], laidTests := true, laidLooks := .later }
def ProductPartsCardSaid : Prop := Claim7.holds Tryd.pinned (.plain (OpenSpec.ofChange productPartsSpec)) productPartsCard

/-- THE SECOND FORM's CARD OF 'batchlinelaw04.ProductChecks'. -/
def productChecksUptoCard : Claim7 := { stood := { row := productChecksUptoRow, standIns := [], harness := (true, "537ab8b80549907cbfd9f15282db386636aa5eb8c6711b1bf84e16c1bce2edff"), looks := true }, kinds := [], alts := [], laidByText := true, laidKinds := [.data, .data, .data, .data, .sentinel, .sentinel, .data, .pinned], laidTests := true, laidLooks := .later }
def ProductChecksUptoCardSaid : Prop := Claim7.holds Tryd.pinned (.plain (OpenSpec.upto productChecksSpec)) productChecksUptoCard

/-- THE SECOND FORM's CARD OF 'batchlinelaw04.ProductBack'. -/
def productBackUptoCard : Claim7 := { stood := { row := productBackUptoRow, standIns := [], harness := (true, "537ab8b80549907cbfd9f15282db386636aa5eb8c6711b1bf84e16c1bce2edff"), looks := true }, kinds := [], alts := [], laidByText := true, laidKinds := [.data, .data, .data, .data, .sentinel, .sentinel, .data, .pinned], laidTests := true, laidLooks := .later }
def ProductBackUptoCardSaid : Prop := Claim7.holds Tryd.pinned (.plain (OpenSpec.upto productBackSpec)) productBackUptoCard

/-- THE SECOND FORM's CARD OF 'batchlinelaw04.ProductLines'. -/
def productLinesUptoCard : Claim7 := { stood := { row := productLinesUptoRow, standIns := [], harness := (true, "537ab8b80549907cbfd9f15282db386636aa5eb8c6711b1bf84e16c1bce2edff"), looks := true }, kinds := [], alts := [], laidByText := true, laidKinds := [.data, .data, .data, .data, .sentinel, .sentinel, .data, .pinned], laidTests := true, laidLooks := .later }
def ProductLinesUptoCardSaid : Prop := Claim7.holds Tryd.pinned (.plain (OpenSpec.upto productLinesSpec)) productLinesUptoCard

/-- THE SECOND FORM's CARD OF 'batchlinelaw04.ProductParts'. -/
def productPartsUptoCard : Claim7 := { stood := { row := productPartsUptoRow, standIns := [], harness := (true, "537ab8b80549907cbfd9f15282db386636aa5eb8c6711b1bf84e16c1bce2edff"), looks := true }, kinds := [], alts := [], laidByText := true, laidKinds := [.data, .data, .data, .data, .sentinel, .sentinel, .data, .pinned], laidTests := true, laidLooks := .later }
def ProductPartsUptoCardSaid : Prop := Claim7.holds Tryd.pinned (.plain (OpenSpec.upto productPartsSpec)) productPartsUptoCard
end Rows
end Go.Proofs.YtihbfecdccamoaaDoor
