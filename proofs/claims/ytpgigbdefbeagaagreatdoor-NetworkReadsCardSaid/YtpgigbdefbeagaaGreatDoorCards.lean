/-
  DERIVED. GIVEN WITH THE SEED: THE CARDS: each row of YtpgigbdefbeagaaGreatDoorRows.lean that lists a variable, with what it lists TIED to the program's text (the seventh form; the later family's looks); each row that meets fmt, with fmt's text TOLD by the authors' own Lean function (tested against real Go, not proved from fmt's source: count such statements apart). THE CARD IS WHAT COUNTS. Prove the row's statement (the work); the ties are given (YtpgigbdefbeagaaGreatDoorTie.lean); close each card by the builder's one call (the guide's Derived/Test/ToyasCard.lean, 'card_holds'). Laid BY PROGRAM, IN A SANDBOX (cutbox-door.mjs). By AI agents, Wed Nov 11 2026. No macro, syntax, notation, axiom, sorry.
-/
import Derived.Test.YtpgigbdefbeagaaGreatDoorRows
import GoSem.ClaimSeven
namespace Go.Proofs.YtpgigbdefbeagaaGreatDoor
namespace Rows

/-- THE TIED CARD OF 'batchlinelaw12.NetworkReads'. -/
def networkReadsCard : Claim7 := { stood := { row := networkReadsRow, standIns := [], harness := (true, "4c527482c4d789b4538e349c7ef34b3de1ddd1959696a08fa8582b638a35b135"), looks := true }, kinds := [], alts := [], laidByText := true, laidKinds := [.data, .data, .data, .data, .sentinel, .sentinel, .pinned], laidTests := true, laidLooks := .later }
def NetworkReadsCardSaid : Prop := Claim7.holds Tryz.pinned (.plain (OpenSpec.ofChange networkReadsSpec)) networkReadsCard

/-- THE TIED CARD OF 'batchlinelaw12.NetworkNames'. -/
def networkNamesCard : Claim7 := { stood := { row := networkNamesRow, standIns := [], harness := (true, "4c527482c4d789b4538e349c7ef34b3de1ddd1959696a08fa8582b638a35b135"), looks := true }, kinds := [], alts := [], laidByText := true, laidKinds := [.data, .data, .data, .data, .sentinel, .sentinel, .pinned], laidTests := true, laidLooks := .later }
def NetworkNamesCardSaid : Prop := Claim7.holds Tryz.pinned (.plain (OpenSpec.ofChange networkNamesSpec)) networkNamesCard

/-- THE TIED CARD OF 'batchlinelaw12.NetworkParts'. -/
def networkPartsCard : Claim7 := { stood := { row := networkPartsRow, standIns := [], harness := (true, "4c527482c4d789b4538e349c7ef34b3de1ddd1959696a08fa8582b638a35b135"), looks := true }, kinds := [], alts := [], laidByText := true, laidKinds := [.data, .data, .data, .data, .sentinel, .sentinel, .pinned], laidTests := true, laidLooks := .later }
def NetworkPartsCardSaid : Prop := Claim7.holds Tryz.pinned (.plain (OpenSpec.ofChange networkPartsSpec)) networkPartsCard

/-- THE TIED CARD OF 'batchlinelaw12.NetworkBack'. -/
def networkBackCard : Claim7 := { stood := { row := networkBackRow, standIns := [], harness := (true, "4c527482c4d789b4538e349c7ef34b3de1ddd1959696a08fa8582b638a35b135"), looks := true }, kinds := [], alts := [], laidByText := true, laidKinds := [.data, .data, .data, .data, .sentinel, .sentinel, .pinned], laidTests := true, laidLooks := .later }
def NetworkBackCardSaid : Prop := Claim7.holds Tryz.pinned (.plain (OpenSpec.ofChange networkBackSpec)) networkBackCard

/-- THE SECOND FORM's CARD OF 'batchlinelaw12.NetworkReads'. -/
def networkReadsUptoCard : Claim7 := { stood := { row := networkReadsUptoRow, standIns := [], harness := (true, "4c527482c4d789b4538e349c7ef34b3de1ddd1959696a08fa8582b638a35b135"), looks := true }, kinds := [], alts := [], laidByText := true, laidKinds := [.data, .data, .data, .data, .sentinel, .sentinel, .pinned], laidTests := true, laidLooks := .later }
def NetworkReadsUptoCardSaid : Prop := Claim7.holds Tryz.pinned (.plain (OpenSpec.upto networkReadsSpec)) networkReadsUptoCard

/-- THE SECOND FORM's CARD OF 'batchlinelaw12.NetworkNames'. -/
def networkNamesUptoCard : Claim7 := { stood := { row := networkNamesUptoRow, standIns := [], harness := (true, "4c527482c4d789b4538e349c7ef34b3de1ddd1959696a08fa8582b638a35b135"), looks := true }, kinds := [], alts := [], laidByText := true, laidKinds := [.data, .data, .data, .data, .sentinel, .sentinel, .pinned], laidTests := true, laidLooks := .later }
def NetworkNamesUptoCardSaid : Prop := Claim7.holds Tryz.pinned (.plain (OpenSpec.upto networkNamesSpec)) networkNamesUptoCard

/-- THE SECOND FORM's CARD OF 'batchlinelaw12.NetworkParts'. -/
def networkPartsUptoCard : Claim7 := { stood := { row := networkPartsUptoRow, standIns := [], harness := (true, "4c527482c4d789b4538e349c7ef34b3de1ddd1959696a08fa8582b638a35b135"), looks := true }, kinds := [], alts := [], laidByText := true, laidKinds := [.data, .data, .data, .data, .sentinel, .sentinel, .pinned], laidTests := true, laidLooks := .later }
def NetworkPartsUptoCardSaid : Prop := Claim7.holds Tryz.pinned (.plain (OpenSpec.upto networkPartsSpec)) networkPartsUptoCard

/-- THE SECOND FORM's CARD OF 'batchlinelaw12.NetworkBack'. -/
def networkBackUptoCard : Claim7 := { stood := { row := networkBackUptoRow, standIns := [], harness := (true, "4c527482c4d789b4538e349c7ef34b3de1ddd1959696a08fa8582b638a35b135"), looks := true }, kinds := [], alts := [], laidByText := true, laidKinds := [.data, .data, .data, .data, .sentinel, .sentinel, .pinned], laidTests := true, laidLooks := .later }
def NetworkBackUptoCardSaid : Prop := Claim7.holds Tryz.pinned (.plain (OpenSpec.upto networkBackSpec)) networkBackUptoCard
end Rows
end Go.Proofs.YtpgigbdefbeagaaGreatDoor
