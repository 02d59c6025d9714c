/-
  DERIVED. GIVEN WITH THE SEED: THE CARDS: each row of YtnilkkggnffklaaDoorRows.lean that lists a variable, with what it lists TIED to the program's text (the seventh form; the later family's looks); each row that meets fmt, with fmt's text TOLD by the authors' own Lean function (tested against real Go, not proved from fmt's source: count such statements apart). THE CARD IS WHAT COUNTS. Prove the row's statement (the work); the ties are given (YtnilkkggnffklaaDoorTie.lean); close each card by the builder's one call (the guide's Derived/Test/ToyasCard.lean, 'card_holds'). Laid BY PROGRAM, IN A SANDBOX (cutbox-door.mjs). By AI agents, Wed Nov 11 2026. No macro, syntax, notation, axiom, sorry.
-/
import Derived.Test.YtnilkkggnffklaaDoorRows
import GoSem.ClaimSeven
namespace Go.Proofs.YtnilkkggnffklaaDoor
namespace Rows

/-- THE TIED CARD OF 'batchlinelaw11.NominationBack'. -/
def nominationBackCard : Claim7 := { stood := { row := nominationBackRow, standIns := [], harness := (true, "c908786c0885a5d18d13ccad7f120523d67b85af4ee096234b5b2c1e0d54955d"), looks := true }, kinds := [], alts := [], laidByText := true, laidKinds := [.data, .data, .data, .data, .sentinel, .sentinel, .pinned], laidTests := true, laidLooks := .later }
def NominationBackCardSaid : Prop := Claim7.holds Tryd.pinned (.plain (OpenSpec.ofChange nominationBackSpec)) nominationBackCard

/-- THE TIED CARD OF 'batchlinelaw11.NominationLines'. -/
def nominationLinesCard : Claim7 := { stood := { row := nominationLinesRow, standIns := [], harness := (true, "c908786c0885a5d18d13ccad7f120523d67b85af4ee096234b5b2c1e0d54955d"), looks := true }, kinds := [], alts := [], laidByText := true, laidKinds := [.data, .data, .data, .data, .sentinel, .sentinel, .pinned], laidTests := true, laidLooks := .later }
def NominationLinesCardSaid : Prop := Claim7.holds Tryd.pinned (.plain (OpenSpec.ofChange nominationLinesSpec)) nominationLinesCard

/-- THE TIED CARD OF 'batchlinelaw11.NominationOne'. -/
def nominationOneCard : Claim7 := { stood := { row := nominationOneRow, standIns := [], harness := (true, "c908786c0885a5d18d13ccad7f120523d67b85af4ee096234b5b2c1e0d54955d"), looks := true }, kinds := [], alts := [], laidByText := true, laidKinds := [.data, .data, .data, .data, .sentinel, .sentinel, .pinned], laidTests := true, laidLooks := .later }
def NominationOneCardSaid : Prop := Claim7.holds Tryd.pinned (.plain (OpenSpec.ofChange nominationOneSpec)) nominationOneCard

/-- THE SECOND FORM's CARD OF 'batchlinelaw11.NominationBack'. -/
def nominationBackUptoCard : Claim7 := { stood := { row := nominationBackUptoRow, standIns := [], harness := (true, "c908786c0885a5d18d13ccad7f120523d67b85af4ee096234b5b2c1e0d54955d"), looks := true }, kinds := [], alts := [], laidByText := true, laidKinds := [.data, .data, .data, .data, .sentinel, .sentinel, .pinned], laidTests := true, laidLooks := .later }
def NominationBackUptoCardSaid : Prop := Claim7.holds Tryd.pinned (.plain (OpenSpec.upto nominationBackSpec)) nominationBackUptoCard

/-- THE SECOND FORM's CARD OF 'batchlinelaw11.NominationLines'. -/
def nominationLinesUptoCard : Claim7 := { stood := { row := nominationLinesUptoRow, standIns := [], harness := (true, "c908786c0885a5d18d13ccad7f120523d67b85af4ee096234b5b2c1e0d54955d"), looks := true }, kinds := [], alts := [], laidByText := true, laidKinds := [.data, .data, .data, .data, .sentinel, .sentinel, .pinned], laidTests := true, laidLooks := .later }
def NominationLinesUptoCardSaid : Prop := Claim7.holds Tryd.pinned (.plain (OpenSpec.upto nominationLinesSpec)) nominationLinesUptoCard

/-- THE SECOND FORM's CARD OF 'batchlinelaw11.NominationOne'. -/
def nominationOneUptoCard : Claim7 := { stood := { row := nominationOneUptoRow, standIns := [], harness := (true, "c908786c0885a5d18d13ccad7f120523d67b85af4ee096234b5b2c1e0d54955d"), looks := true }, kinds := [], alts := [], laidByText := true, laidKinds := [.data, .data, .data, .data, .sentinel, .sentinel, .pinned], laidTests := true, laidLooks := .later }
def NominationOneUptoCardSaid : Prop := Claim7.holds Tryd.pinned (.plain (OpenSpec.upto nominationOneSpec)) nominationOneUptoCard
end Rows
end Go.Proofs.YtnilkkggnffklaaDoor
