/-
  DERIVED. GIVEN WITH THE SEED: THE CARDS: each row of YtiojagjejddocaaGreatDoorRows.lean that lists a variable, with what it lists TIED to the program's text (the seventh form; the later family's looks); each row that meets fmt, with fmt's text TOLD by the authors' own Lean function (tested against real Go, not proved from fmt's source: count such statements apart). THE CARD IS WHAT COUNTS. Prove the row's statement (the work); the ties are given (YtiojagjejddocaaGreatDoorTie.lean); close each card by the builder's one call (the guide's Derived/Test/ToyasCard.lean, 'card_holds'). Laid BY PROGRAM, IN A SANDBOX (cutbox-door.mjs). By AI agents, Wed Nov 11 2026. No macro, syntax, notation, axiom, sorry.
-/
import Derived.Test.YtiojagjejddocaaGreatDoorRows
import GoSem.ClaimSeven
namespace Go.Proofs.YtiojagjejddocaaGreatDoor
namespace Rows

/-- THE TIED CARD OF 'batchlinelaw29.LotsAll'. -/
def lotsAllCard : Claim7 := { stood := { row := lotsAllRow, standIns := [], harness := (true, "6682dd39008aadf2d100150407e15ea0a0aea1d7fab80817ede493e0f81abb5c"), looks := false }, kinds := [], alts := [], laidByText := true, laidKinds := [.data], laidTests := true, laidLooks := .later }
def LotsAllCardSaid : Prop := Claim7.holds Tryz.pinned (.plain (OpenSpec.ofChange lotsAllSpec)) lotsAllCard

/-- THE TIED CARD OF 'batchlinelaw29.LotsSums'. -/
def lotsSumsCard : Claim7 := { stood := { row := lotsSumsRow, standIns := [], harness := (true, "6682dd39008aadf2d100150407e15ea0a0aea1d7fab80817ede493e0f81abb5c"), looks := false }, kinds := [], alts := [], laidByText := true, laidKinds := [.data], laidTests := true, laidLooks := .later }
def LotsSumsCardSaid : Prop := Claim7.holds Tryz.pinned (.plain (OpenSpec.ofChange lotsSumsSpec)) lotsSumsCard

/-- THE TIED CARD OF 'batchlinelaw29.LotsMade'. -/
def lotsMadeCard : Claim7 := { stood := { row := lotsMadeRow, standIns := [], harness := (true, "6682dd39008aadf2d100150407e15ea0a0aea1d7fab80817ede493e0f81abb5c"), looks := false }, kinds := [], alts := [], laidByText := true, laidKinds := [.data], laidTests := true, laidLooks := .later }
def LotsMadeCardSaid : Prop := Claim7.holds Tryz.pinned (.plain (OpenSpec.ofChange lotsMadeSpec)) lotsMadeCard

/-- THE SECOND FORM's CARD OF 'batchlinelaw29.LotsAll'. -/
def lotsAllUptoCard : Claim7 := { stood := { row := lotsAllUptoRow, standIns := [], harness := (true, "6682dd39008aadf2d100150407e15ea0a0aea1d7fab80817ede493e0f81abb5c"), looks := false }, kinds := [], alts := [], laidByText := true, laidKinds := [.data], laidTests := true, laidLooks := .later }
def LotsAllUptoCardSaid : Prop := Claim7.holds Tryz.pinned (.plain (OpenSpec.upto lotsAllSpec)) lotsAllUptoCard

/-- THE SECOND FORM's CARD OF 'batchlinelaw29.LotsSums'. -/
def lotsSumsUptoCard : Claim7 := { stood := { row := lotsSumsUptoRow, standIns := [], harness := (true, "6682dd39008aadf2d100150407e15ea0a0aea1d7fab80817ede493e0f81abb5c"), looks := false }, kinds := [], alts := [], laidByText := true, laidKinds := [.data], laidTests := true, laidLooks := .later }
def LotsSumsUptoCardSaid : Prop := Claim7.holds Tryz.pinned (.plain (OpenSpec.upto lotsSumsSpec)) lotsSumsUptoCard

/-- THE SECOND FORM's CARD OF 'batchlinelaw29.LotsMade'. -/
def lotsMadeUptoCard : Claim7 := { stood := { row := lotsMadeUptoRow, standIns := [], harness := (true, "6682dd39008aadf2d100150407e15ea0a0aea1d7fab80817ede493e0f81abb5c"), looks := false }, kinds := [], alts := [], laidByText := true, laidKinds := [.data], laidTests := true, laidLooks := .later }
def LotsMadeUptoCardSaid : Prop := Claim7.holds Tryz.pinned (.plain (OpenSpec.upto lotsMadeSpec)) lotsMadeUptoCard
end Rows
end Go.Proofs.YtiojagjejddocaaGreatDoor
