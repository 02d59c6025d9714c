/-
  DERIVED. GIVEN WITH THE SEED: THE CARDS: each row of YtmdijohmddokhaaGreatDoorRows.lean that lists a variable, with what it lists TIED to the program's text (the seventh form; the later family's looks); each row that meets fmt, with fmt's text TOLD by the authors' own Lean function (tested against real Go, not proved from fmt's source: count such statements apart). THE CARD IS WHAT COUNTS. Prove the row's statement (the work); the ties are given (YtmdijohmddokhaaGreatDoorTie.lean); close each card by the builder's one call (the guide's Derived/Test/ToyasCard.lean, 'card_holds'). Laid BY PROGRAM, IN A SANDBOX (cutbox-door.mjs). By AI agents, Wed Nov 11 2026. No macro, syntax, notation, axiom, sorry.
-/
import Derived.Test.YtmdijohmddokhaaGreatDoorRows
import GoSem.ClaimSeven
namespace Go.Proofs.YtmdijohmddokhaaGreatDoor
namespace Rows

/-- THE TIED CARD OF 'batchlinelaw44.ConsoleBack'. -/
def consoleBackCard : Claim7 := { stood := { row := consoleBackRow, standIns := [], harness := (true, "1f85db96d364c7b06da4998e8b36317f97978692ff0f1d30ef075a1fa63316d4"), looks := true }, kinds := [], alts := [], laidByText := true, laidKinds := [.data, .data, .data, .data, .sentinel, .sentinel, .pinned], laidTests := true, laidLooks := .later }
def ConsoleBackCardSaid : Prop := Claim7.holds Tryz.pinned (.plain (OpenSpec.ofChange consoleBackSpec)) consoleBackCard

/-- THE TIED CARD OF 'batchlinelaw44.ConsoleShows'. -/
def consoleShowsCard : Claim7 := { stood := { row := consoleShowsRow, standIns := [], harness := (true, "1f85db96d364c7b06da4998e8b36317f97978692ff0f1d30ef075a1fa63316d4"), looks := true }, kinds := [], alts := [], laidByText := true, laidKinds := [.data, .data, .data, .data, .sentinel, .sentinel, .pinned], laidTests := true, laidLooks := .later }
def ConsoleShowsCardSaid : Prop := Claim7.holds Tryz.pinned (.plain (OpenSpec.ofChange consoleShowsSpec)) consoleShowsCard

/-- THE TIED CARD OF 'batchlinelaw44.ConsoleRaw'. -/
def consoleRawCard : Claim7 := { stood := { row := consoleRawRow, standIns := [], harness := (true, "1f85db96d364c7b06da4998e8b36317f97978692ff0f1d30ef075a1fa63316d4"), looks := true }, kinds := [], alts := [], laidByText := true, laidKinds := [.data, .data, .data, .data, .sentinel, .sentinel, .pinned], laidTests := true, laidLooks := .later }
def ConsoleRawCardSaid : Prop := Claim7.holds Tryz.pinned (.plain (OpenSpec.ofChange consoleRawSpec)) consoleRawCard

/-- THE TIED CARD OF 'batchlinelaw44.ConsoleNear'. -/
def consoleNearCard : Claim7 := { stood := { row := consoleNearRow, standIns := [], harness := (true, "1f85db96d364c7b06da4998e8b36317f97978692ff0f1d30ef075a1fa63316d4"), looks := true }, kinds := [], alts := [], laidByText := true, laidKinds := [.data, .data, .data, .data, .sentinel, .sentinel, .pinned], laidTests := true, laidLooks := .later }
def ConsoleNearCardSaid : Prop := Claim7.holds Tryz.pinned (.plain (OpenSpec.ofChange consoleNearSpec)) consoleNearCard

/-- THE SECOND FORM's CARD OF 'batchlinelaw44.ConsoleBack'. -/
def consoleBackUptoCard : Claim7 := { stood := { row := consoleBackUptoRow, standIns := [], harness := (true, "1f85db96d364c7b06da4998e8b36317f97978692ff0f1d30ef075a1fa63316d4"), looks := true }, kinds := [], alts := [], laidByText := true, laidKinds := [.data, .data, .data, .data, .sentinel, .sentinel, .pinned], laidTests := true, laidLooks := .later }
def ConsoleBackUptoCardSaid : Prop := Claim7.holds Tryz.pinned (.plain (OpenSpec.upto consoleBackSpec)) consoleBackUptoCard

/-- THE SECOND FORM's CARD OF 'batchlinelaw44.ConsoleShows'. -/
def consoleShowsUptoCard : Claim7 := { stood := { row := consoleShowsUptoRow, standIns := [], harness := (true, "1f85db96d364c7b06da4998e8b36317f97978692ff0f1d30ef075a1fa63316d4"), looks := true }, kinds := [], alts := [], laidByText := true, laidKinds := [.data, .data, .data, .data, .sentinel, .sentinel, .pinned], laidTests := true, laidLooks := .later }
def ConsoleShowsUptoCardSaid : Prop := Claim7.holds Tryz.pinned (.plain (OpenSpec.upto consoleShowsSpec)) consoleShowsUptoCard

/-- THE SECOND FORM's CARD OF 'batchlinelaw44.ConsoleRaw'. -/
def consoleRawUptoCard : Claim7 := { stood := { row := consoleRawUptoRow, standIns := [], harness := (true, "1f85db96d364c7b06da4998e8b36317f97978692ff0f1d30ef075a1fa63316d4"), looks := true }, kinds := [], alts := [], laidByText := true, laidKinds := [.data, .data, .data, .data, .sentinel, .sentinel, .pinned], laidTests := true, laidLooks := .later }
def ConsoleRawUptoCardSaid : Prop := Claim7.holds Tryz.pinned (.plain (OpenSpec.upto consoleRawSpec)) consoleRawUptoCard

/-- THE SECOND FORM's CARD OF 'batchlinelaw44.ConsoleNear'. -/
def consoleNearUptoCard : Claim7 := { stood := { row := consoleNearUptoRow, standIns := [], harness := (true, "1f85db96d364c7b06da4998e8b36317f97978692ff0f1d30ef075a1fa63316d4"), looks := true }, kinds := [], alts := [], laidByText := true, laidKinds := [.data, .data, .data, .data, .sentinel, .sentinel, .pinned], laidTests := true, laidLooks := .later }
def ConsoleNearUptoCardSaid : Prop := Claim7.holds Tryz.pinned (.plain (OpenSpec.upto consoleNearSpec)) consoleNearUptoCard
end Rows
end Go.Proofs.YtmdijohmddokhaaGreatDoor
