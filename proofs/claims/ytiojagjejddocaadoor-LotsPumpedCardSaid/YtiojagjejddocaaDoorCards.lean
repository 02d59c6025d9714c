/-
  DERIVED. GIVEN WITH THE SEED: THE CARDS: each row of YtiojagjejddocaaDoorRows.lean that lists a variable, with what it lists TIED to the program's text (the seventh form; the later family's looks); each row that meets fmt, with fmt's text TOLD by the authors' own Lean function (tested against real Go, not proved from fmt's source: count such statements apart). THE CARD IS WHAT COUNTS. Prove the row's statement (the work); the ties are given (YtiojagjejddocaaDoorTie.lean); close each card by the builder's one call (the guide's Derived/Test/ToyasCard.lean, 'card_holds'). Laid BY PROGRAM, IN A SANDBOX (cutbox-door.mjs). By AI agents, Wed Nov 11 2026. No macro, syntax, notation, axiom, sorry.
-/
import Derived.Test.YtiojagjejddocaaDoorRows
import GoSem.ClaimSeven
namespace Go.Proofs.YtiojagjejddocaaDoor
namespace Rows

/-- THE TIED CARD OF 'batchlinelaw29.LotsPumped'. -/
def lotsPumpedCard : Claim7 := { stood := { row := lotsPumpedRow, standIns := [], harness := (true, "5c7fb9698c6584309bd0dca2cf6609155b5e872378073a3878ba520ca130f503"), looks := false }, kinds := [], alts := [], laidByText := true, laidKinds := [.data], laidTests := true, laidLooks := .later }
def LotsPumpedCardSaid : Prop := Claim7.holds Tryd.pinned (.plain (OpenSpec.ofChange lotsPumpedSpec)) lotsPumpedCard

/-- THE SECOND FORM's CARD OF 'batchlinelaw29.LotsPumped'. -/
def lotsPumpedUptoCard : Claim7 := { stood := { row := lotsPumpedUptoRow, standIns := [], harness := (true, "5c7fb9698c6584309bd0dca2cf6609155b5e872378073a3878ba520ca130f503"), looks := false }, kinds := [], alts := [], laidByText := true, laidKinds := [.data], laidTests := true, laidLooks := .later }
def LotsPumpedUptoCardSaid : Prop := Claim7.holds Tryd.pinned (.plain (OpenSpec.upto lotsPumpedSpec)) lotsPumpedUptoCard
end Rows
end Go.Proofs.YtiojagjejddocaaDoor
