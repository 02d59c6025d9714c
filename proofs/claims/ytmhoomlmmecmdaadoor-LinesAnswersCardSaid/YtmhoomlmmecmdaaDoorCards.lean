/-
  DERIVED. GIVEN WITH THE SEED: THE CARDS: each row of YtmhoomlmmecmdaaDoorRows.lean that lists a variable, with what it lists TIED to the program's text (the seventh form; the later family's looks); each row that meets fmt, with fmt's text TOLD by the authors' own Lean function (tested against real Go, not proved from fmt's source: count such statements apart). THE CARD IS WHAT COUNTS. Prove the row's statement (the work); the ties are given (YtmhoomlmmecmdaaDoorTie.lean); close each card by the builder's one call (the guide's Derived/Test/ToyasCard.lean, 'card_holds'). Laid BY PROGRAM, IN A SANDBOX (cutbox-door.mjs). By AI agents, Wed Nov 11 2026. No macro, syntax, notation, axiom, sorry.
-/
import Derived.Test.YtmhoomlmmecmdaaDoorRows
import GoSem.ClaimSeven
namespace Go.Proofs.YtmhoomlmmecmdaaDoor
namespace Rows

/-- THE TIED CARD OF 'batchlinelaw03.LinesNumbers'. -/
def linesNumbersCard : Claim7 := { stood := { row := linesNumbersRow, standIns := [], harness := (true, "713b0671e3da2110a91090312f7fd24194c5d7f31cab39b6dba056f7d36bb9a1"), looks := true }, kinds := [], alts := [], laidByText := true, laidKinds := [.data, .data, .data, .data, .sentinel, .sentinel, .pinned], laidTests := true, laidLooks := .later }
def LinesNumbersCardSaid : Prop := Claim7.holds Tryd.pinned (.plain (OpenSpec.ofChange linesNumbersSpec)) linesNumbersCard

/-- THE TIED CARD OF 'batchlinelaw03.LinesAnswers'. -/
def linesAnswersCard : Claim7 := { stood := { row := linesAnswersRow, standIns := [], harness := (true, "713b0671e3da2110a91090312f7fd24194c5d7f31cab39b6dba056f7d36bb9a1"), looks := true }, kinds := [], alts := [], laidByText := true, laidKinds := [.data, .data, .data, .data, .sentinel, .sentinel, .pinned], laidTests := true, laidLooks := .later }
def LinesAnswersCardSaid : Prop := Claim7.holds Tryd.pinned (.plain (OpenSpec.ofChange linesAnswersSpec)) linesAnswersCard

/-- THE TIED CARD OF 'batchlinelaw03.LinesBack'. -/
def linesBackCard : Claim7 := { stood := { row := linesBackRow, standIns := [], harness := (true, "713b0671e3da2110a91090312f7fd24194c5d7f31cab39b6dba056f7d36bb9a1"), looks := true }, kinds := [], alts := [], laidByText := true, laidKinds := [.data, .data, .data, .data, .sentinel, .sentinel, .pinned], laidTests := true, laidLooks := .later }
def LinesBackCardSaid : Prop := Claim7.holds Tryd.pinned (.plain (OpenSpec.ofChange linesBackSpec)) linesBackCard

/-- THE TIED CARD OF 'batchlinelaw03.LinesParts'. -/
def linesPartsCard : Claim7 := { stood := { row := linesPartsRow, standIns := [], harness := (true, "713b0671e3da2110a91090312f7fd24194c5d7f31cab39b6dba056f7d36bb9a1"), looks := true }, kinds := [], alts := [], laidByText := true, laidKinds := [.data, .data, .data, .data, .sentinel, .sentinel, .pinned], laidTests := true, laidLooks := .later }
def LinesPartsCardSaid : Prop := Claim7.holds Tryd.pinned (.plain (OpenSpec.ofChange linesPartsSpec)) linesPartsCard

/-- THE TIED CARD OF 'batchlinelaw03.LinesComments'. -/
def linesCommentsCard : Claim7 := { stood := { row := linesCommentsRow, standIns := [], harness := (true, "713b0671e3da2110a91090312f7fd24194c5d7f31cab39b6dba056f7d36bb9a1"), looks := true }, kinds := [], alts := [], laidByText := true, laidKinds := [.data, .data, .data, .data, .sentinel, .sentinel, .pinned], laidTests := true, laidLooks := .later }
def LinesCommentsCardSaid : Prop := Claim7.holds Tryd.pinned (.plain (OpenSpec.ofChange linesCommentsSpec)) linesCommentsCard

/-- THE SECOND FORM's CARD OF 'batchlinelaw03.LinesNumbers'. -/
def linesNumbersUptoCard : Claim7 := { stood := { row := linesNumbersUptoRow, standIns := [], harness := (true, "713b0671e3da2110a91090312f7fd24194c5d7f31cab39b6dba056f7d36bb9a1"), looks := true }, kinds := [], alts := [], laidByText := true, laidKinds := [.data, .data, .data, .data, .sentinel, .sentinel, .pinned], laidTests := true, laidLooks := .later }
def LinesNumbersUptoCardSaid : Prop := Claim7.holds Tryd.pinned (.plain (OpenSpec.upto linesNumbersSpec)) linesNumbersUptoCard

/-- THE SECOND FORM's CARD OF 'batchlinelaw03.LinesAnswers'. -/
def linesAnswersUptoCard : Claim7 := { stood := { row := linesAnswersUptoRow, standIns := [], harness := (true, "713b0671e3da2110a91090312f7fd24194c5d7f31cab39b6dba056f7d36bb9a1"), looks := true }, kinds := [], alts := [], laidByText := true, laidKinds := [.data, .data, .data, .data, .sentinel, .sentinel, .pinned], laidTests := true, laidLooks := .later }
def LinesAnswersUptoCardSaid : Prop := Claim7.holds Tryd.pinned (.plain (OpenSpec.upto linesAnswersSpec)) linesAnswersUptoCard

/-- THE SECOND FORM's CARD OF 'batchlinelaw03.LinesBack'. -/
def linesBackUptoCard : Claim7 := { stood := { row := linesBackUptoRow, standIns := [], harness := (true, "713b0671e3da2110a91090312f7fd24194c5d7f31cab39b6dba056f7d36bb9a1"), looks := true }, kinds := [], alts := [], laidByText := true, laidKinds := [.data, .data, .data, .data, .sentinel, .sentinel, .pinned], laidTests := true, laidLooks := .later }
def LinesBackUptoCardSaid : Prop := Claim7.holds Tryd.pinned (.plain (OpenSpec.upto linesBackSpec)) linesBackUptoCard

/-- THE SECOND FORM's CARD OF 'batchlinelaw03.LinesParts'. -/
def linesPartsUptoCard : Claim7 := { stood := { row := linesPartsUptoRow, standIns := [], harness := (true, "713b0671e3da2110a91090312f7fd24194c5d7f31cab39b6dba056f7d36bb9a1"), looks := true }, kinds := [], alts := [], laidByText := true, laidKinds := [.data, .data, .data, .data, .sentinel, .sentinel, .pinned], laidTests := true, laidLooks := .later }
def LinesPartsUptoCardSaid : Prop := Claim7.holds Tryd.pinned (.plain (OpenSpec.upto linesPartsSpec)) linesPartsUptoCard

/-- THE SECOND FORM's CARD OF 'batchlinelaw03.LinesComments'. -/
def linesCommentsUptoCard : Claim7 := { stood := { row := linesCommentsUptoRow, standIns := [], harness := (true, "713b0671e3da2110a91090312f7fd24194c5d7f31cab39b6dba056f7d36bb9a1"), looks := true }, kinds := [], alts := [], laidByText := true, laidKinds := [.data, .data, .data, .data, .sentinel, .sentinel, .pinned], laidTests := true, laidLooks := .later }
def LinesCommentsUptoCardSaid : Prop := Claim7.holds Tryd.pinned (.plain (OpenSpec.upto linesCommentsSpec)) linesCommentsUptoCard
end Rows
end Go.Proofs.YtmhoomlmmecmdaaDoor
