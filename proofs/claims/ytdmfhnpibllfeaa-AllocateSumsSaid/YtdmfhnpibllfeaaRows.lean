/-
  No cell of these rows narrows 'for every input' (looked for: loops, veiled, ifaces, maps, wideKeys, modest, calm, conditions, laid).
  DERIVED. THE GIVEN ROWS OF THIS SEAT. 8 by the template 'for every input the law returns true; each argument reads behind the call as it read before'; 0 by the template 'total and deterministic' (their statements: YtdmfhnpibllfeaaTotals.lean).
  GIVEN WITH THE SEED: the statements are not yours to turn. If you find one false, say at which input.
  Laid BY PROGRAM, IN A SANDBOX (cutbox-rows.mjs): the forced cells as the released guide's own fill.sh prints them over the translation 8314f256807abafa… (all of the seat's roots in one cut). By AI agents, Wed Nov 11 2026. No macro, syntax, notation, axiom, sorry.
-/
import Derived.Test.YtdmfhnpibllfeaaChecked
import GoSem.Claim
import GoSem.ClaimJoined
import GoSem.ClaimMapViews
import Derived.JoinedTies
import Derived.KernelRfl
namespace Go.Proofs.Ytdmfhnpibllfeaa
/- THE CELL 'sum', in the pinned program and in every row, IS THE sha256 OF THE DUMP (.gsa) THAT YtdmfhnpibllfeaaProg.lean LOADS. Nothing in Lean hashes anything: it is a label: what it is worth is what the hold of that sum in a sandbox is worth. -/
noncomputable def Try.pinned : Pinned := { name := "ytdmfhnpibllfeaa", sum := "8314f256807abafae83f57a01b1cb45024365b303f1dcc13d4503851705eb3d5", checked := Try.checked }
namespace Rows
def none {H : Type} : Left H := { results := [], args := [] }

/-- 'batchlinelaw38.AllocateShares': WHATEVER THE INPUT: true; the input reads as it did. -/
def allocateSharesSpec : ChangeSpec := { name := "allocateShares", fn := fun _ => fun
  | [d1, d2, d3] => { results := [.lit (.bool true)], args := [d1, d2, d3] }
  | _ => none }
def allocateSharesRow : OpenClaim := { program := "ytdmfhnpibllfeaa", sum := "8314f256807abafae83f57a01b1cb45024365b303f1dcc13d4503851705eb3d5", func := "batchline/batchlinelaw38.AllocateShares", spec := "allocateShares", unfollowed := true, recurses := true, apart := false }
def AllocateSharesSaid : Prop := allocateSharesRow.holds Try.pinned (OpenSpec.ofChange allocateSharesSpec)

/-- ITS FALSE NEIGHBOUR: 'it returns false'. Refute it at one input. -/
def allocateSharesWrong : ChangeSpec := { name := "allocateShares", fn := fun _ => fun
  | [d1, d2, d3] => { results := [.lit (.bool false)], args := [d1, d2, d3] }
  | _ => none }
def AllocateSharesWrongFalsely : Prop := allocateSharesRow.holds Try.pinned (OpenSpec.ofChange allocateSharesWrong)

/-- 'batchlinelaw38.AllocateSums': WHATEVER THE INPUT: true; the input reads as it did. -/
def allocateSumsSpec : ChangeSpec := { name := "allocateSums", fn := fun _ => fun
  | [d1, d2] => { results := [.lit (.bool true)], args := [d1, d2] }
  | _ => none }
def allocateSumsRow : OpenClaim := { program := "ytdmfhnpibllfeaa", sum := "8314f256807abafae83f57a01b1cb45024365b303f1dcc13d4503851705eb3d5", func := "batchline/batchlinelaw38.AllocateSums", spec := "allocateSums", unfollowed := true, recurses := true, apart := false }
def AllocateSumsSaid : Prop := allocateSumsRow.holds Try.pinned (OpenSpec.ofChange allocateSumsSpec)

/-- ITS FALSE NEIGHBOUR: 'it returns false'. Refute it at one input. -/
def allocateSumsWrong : ChangeSpec := { name := "allocateSums", fn := fun _ => fun
  | [d1, d2] => { results := [.lit (.bool false)], args := [d1, d2] }
  | _ => none }
def AllocateSumsWrongFalsely : Prop := allocateSumsRow.holds Try.pinned (OpenSpec.ofChange allocateSumsWrong)

/-- 'batchlinelaw01.RoundAnswers': WHATEVER THE INPUT: true; the input reads as it did. -/
def roundAnswersSpec : ChangeSpec := { name := "roundAnswers", fn := fun _ => fun
  | [d1, d2, d3, d4, d5] => { results := [.lit (.bool true)], args := [d1, d2, d3, d4, d5] }
  | _ => none }
def roundAnswersRow : OpenClaim := { program := "ytdmfhnpibllfeaa", sum := "8314f256807abafae83f57a01b1cb45024365b303f1dcc13d4503851705eb3d5", func := "batchline/batchlinelaw01.RoundAnswers", spec := "roundAnswers", unfollowed := true, recurses := true, apart := false }
def RoundAnswersSaid : Prop := roundAnswersRow.holds Try.pinned (OpenSpec.ofChange roundAnswersSpec)

/-- ITS FALSE NEIGHBOUR: 'it returns false'. Refute it at one input. -/
def roundAnswersWrong : ChangeSpec := { name := "roundAnswers", fn := fun _ => fun
  | [d1, d2, d3, d4, d5] => { results := [.lit (.bool false)], args := [d1, d2, d3, d4, d5] }
  | _ => none }
def RoundAnswersWrongFalsely : Prop := roundAnswersRow.holds Try.pinned (OpenSpec.ofChange roundAnswersWrong)

/-- 'batchlinelaw01.RoundBetween': WHATEVER THE INPUT: true; the input reads as it did. -/
def roundBetweenSpec : ChangeSpec := { name := "roundBetween", fn := fun _ => fun
  | [d1, d2] => { results := [.lit (.bool true)], args := [d1, d2] }
  | _ => none }
def roundBetweenRow : OpenClaim := { program := "ytdmfhnpibllfeaa", sum := "8314f256807abafae83f57a01b1cb45024365b303f1dcc13d4503851705eb3d5", func := "batchline/batchlinelaw01.RoundBetween", spec := "roundBetween", unfollowed := true, recurses := true, apart := false }
def RoundBetweenSaid : Prop := roundBetweenRow.holds Try.pinned (OpenSpec.ofChange roundBetweenSpec)

/-- ITS FALSE NEIGHBOUR: 'it returns false'. Refute it at one input. -/
def roundBetweenWrong : ChangeSpec := { name := "roundBetween", fn := fun _ => fun
  | [d1, d2] => { results := [.lit (.bool false)], args := [d1, d2] }
  | _ => none }
def RoundBetweenWrongFalsely : Prop := roundBetweenRow.holds Try.pinned (OpenSpec.ofChange roundBetweenWrong)

/-- 'batchlinelaw01.RoundRoots': WHATEVER THE INPUT: true; the input reads as it did. -/
def roundRootsSpec : ChangeSpec := { name := "roundRoots", fn := fun _ => fun
  | [d] => { results := [.lit (.bool true)], args := [d] }
  | _ => none }
def roundRootsRow : OpenClaim := { program := "ytdmfhnpibllfeaa", sum := "8314f256807abafae83f57a01b1cb45024365b303f1dcc13d4503851705eb3d5", func := "batchline/batchlinelaw01.RoundRoots", spec := "roundRoots", unfollowed := true, recurses := true, apart := false }
def RoundRootsSaid : Prop := roundRootsRow.holds Try.pinned (OpenSpec.ofChange roundRootsSpec)

/-- ITS FALSE NEIGHBOUR: 'it returns false'. Refute it at one input. -/
def roundRootsWrong : ChangeSpec := { name := "roundRoots", fn := fun _ => fun
  | [d] => { results := [.lit (.bool false)], args := [d] }
  | _ => none }
def RoundRootsWrongFalsely : Prop := roundRootsRow.holds Try.pinned (OpenSpec.ofChange roundRootsWrong)

/-- 'batchlinelaw01.RoundShares': WHATEVER THE INPUT: true; the input reads as it did. -/
def roundSharesSpec : ChangeSpec := { name := "roundShares", fn := fun _ => fun
  | [d1, d2] => { results := [.lit (.bool true)], args := [d1, d2] }
  | _ => none }
def roundSharesRow : OpenClaim := { program := "ytdmfhnpibllfeaa", sum := "8314f256807abafae83f57a01b1cb45024365b303f1dcc13d4503851705eb3d5", func := "batchline/batchlinelaw01.RoundShares", spec := "roundShares", unfollowed := true, recurses := true, apart := false }
def RoundSharesSaid : Prop := roundSharesRow.holds Try.pinned (OpenSpec.ofChange roundSharesSpec)

/-- ITS FALSE NEIGHBOUR: 'it returns false'. Refute it at one input. -/
def roundSharesWrong : ChangeSpec := { name := "roundShares", fn := fun _ => fun
  | [d1, d2] => { results := [.lit (.bool false)], args := [d1, d2] }
  | _ => none }
def RoundSharesWrongFalsely : Prop := roundSharesRow.holds Try.pinned (OpenSpec.ofChange roundSharesWrong)

/-- 'batchlinelaw01.RoundOrder': WHATEVER THE INPUT: true; the input reads as it did. -/
def roundOrderSpec : ChangeSpec := { name := "roundOrder", fn := fun _ => fun
  | [d1, d2, d3] => { results := [.lit (.bool true)], args := [d1, d2, d3] }
  | _ => none }
def roundOrderRow : OpenClaim := { program := "ytdmfhnpibllfeaa", sum := "8314f256807abafae83f57a01b1cb45024365b303f1dcc13d4503851705eb3d5", func := "batchline/batchlinelaw01.RoundOrder", spec := "roundOrder", unfollowed := true, recurses := true, apart := false }
def RoundOrderSaid : Prop := roundOrderRow.holds Try.pinned (OpenSpec.ofChange roundOrderSpec)

/-- ITS FALSE NEIGHBOUR: 'it returns false'. Refute it at one input. -/
def roundOrderWrong : ChangeSpec := { name := "roundOrder", fn := fun _ => fun
  | [d1, d2, d3] => { results := [.lit (.bool false)], args := [d1, d2, d3] }
  | _ => none }
def RoundOrderWrongFalsely : Prop := roundOrderRow.holds Try.pinned (OpenSpec.ofChange roundOrderWrong)

/-- 'batchlinelaw01.RoundTurns': WHATEVER THE INPUT: true; the input reads as it did. -/
def roundTurnsSpec : ChangeSpec := { name := "roundTurns", fn := fun _ => fun
  | [d1, d2, d3] => { results := [.lit (.bool true)], args := [d1, d2, d3] }
  | _ => none }
def roundTurnsRow : OpenClaim := { program := "ytdmfhnpibllfeaa", sum := "8314f256807abafae83f57a01b1cb45024365b303f1dcc13d4503851705eb3d5", func := "batchline/batchlinelaw01.RoundTurns", spec := "roundTurns", unfollowed := true, recurses := true, apart := false }
def RoundTurnsSaid : Prop := roundTurnsRow.holds Try.pinned (OpenSpec.ofChange roundTurnsSpec)

/-- ITS FALSE NEIGHBOUR: 'it returns false'. Refute it at one input. -/
def roundTurnsWrong : ChangeSpec := { name := "roundTurns", fn := fun _ => fun
  | [d1, d2, d3] => { results := [.lit (.bool false)], args := [d1, d2, d3] }
  | _ => none }
def RoundTurnsWrongFalsely : Prop := roundTurnsRow.holds Try.pinned (OpenSpec.ofChange roundTurnsWrong)

/- THE SECOND FORM. 'bulk': how many values and letters a reading holds, each counted each time it is reached (what is shared counts as often as it is met; a slice's spare places count too). A statement '..UptoSaid' is the law's where the arguments, and the package variables that the reading takes, are together of bulk at most 1048576: NARROWER than '..Said'. Prove '..Said' where nothing that the law and all that it calls make is longer than what came in: it says more and counts as full. Else prove '..UptoSaid'. A law counts once. -/
mutual
def uptoBulk {H : Type} : DataW H → Nat
  | .lit (.string bytes) => bytes.length + 1
  | .lit _ => 1
  | .nil => 1
  | .ptr d => uptoBulk d + 1
  | .slice elems spare => uptoBulkAll elems + uptoBulkAll spare + 1
  | .agg parts => uptoBulkAll parts + 1
  | .iface _ d => uptoBulk d + 1
  | .map entries => uptoBulkEntries entries + 1
  | .held _ => 1
def uptoBulkAll {H : Type} : List (DataW H) → Nat
  | [] => 0
  | d :: r => uptoBulk d + uptoBulkAll r
def uptoBulkEntries {H : Type} : List (Lit × DataW H) → Nat
  | [] => 0
  | x :: r => uptoBulkEntry x + uptoBulkEntries r
def uptoBulkEntry {H : Type} : Lit × DataW H → Nat
  | (.string bytes, d) => bytes.length + uptoBulk d + 1
  | (_, d) => uptoBulk d + 1
 end
def uptoSmall : (H : Type) → List (DataW H) → Bool := fun _ ds => decide (uptoBulkAll ds ≤ 1048576)
def OpenSpec.upto (s : _root_.Go.ChangeSpec) : _root_.Go.OpenSpec := { _root_.Go.OpenSpec.ofChange s with cond := some uptoSmall }

/-- 'batchlinelaw38.AllocateShares', WHERE WHAT IT READS IS OF BULK AT MOST 1048576: true; the input reads as it did. -/
def allocateSharesUptoRow : OpenClaim := { program := "ytdmfhnpibllfeaa", sum := "8314f256807abafae83f57a01b1cb45024365b303f1dcc13d4503851705eb3d5", func := "batchline/batchlinelaw38.AllocateShares", spec := "allocateShares", unfollowed := true, recurses := true, apart := false, narrowed := true }
def AllocateSharesUptoSaid : Prop := allocateSharesUptoRow.holds Try.pinned (OpenSpec.upto allocateSharesSpec)

/-- 'batchlinelaw38.AllocateSums', WHERE WHAT IT READS IS OF BULK AT MOST 1048576: true; the input reads as it did. -/
def allocateSumsUptoRow : OpenClaim := { program := "ytdmfhnpibllfeaa", sum := "8314f256807abafae83f57a01b1cb45024365b303f1dcc13d4503851705eb3d5", func := "batchline/batchlinelaw38.AllocateSums", spec := "allocateSums", unfollowed := true, recurses := true, apart := false, narrowed := true }
def AllocateSumsUptoSaid : Prop := allocateSumsUptoRow.holds Try.pinned (OpenSpec.upto allocateSumsSpec)

/-- 'batchlinelaw01.RoundAnswers', WHERE WHAT IT READS IS OF BULK AT MOST 1048576: true; the input reads as it did. -/
def roundAnswersUptoRow : OpenClaim := { program := "ytdmfhnpibllfeaa", sum := "8314f256807abafae83f57a01b1cb45024365b303f1dcc13d4503851705eb3d5", func := "batchline/batchlinelaw01.RoundAnswers", spec := "roundAnswers", unfollowed := true, recurses := true, apart := false, narrowed := true }
def RoundAnswersUptoSaid : Prop := roundAnswersUptoRow.holds Try.pinned (OpenSpec.upto roundAnswersSpec)

/-- 'batchlinelaw01.RoundBetween', WHERE WHAT IT READS IS OF BULK AT MOST 1048576: true; the input reads as it did. -/
def roundBetweenUptoRow : OpenClaim := { program := "ytdmfhnpibllfeaa", sum := "8314f256807abafae83f57a01b1cb45024365b303f1dcc13d4503851705eb3d5", func := "batchline/batchlinelaw01.RoundBetween", spec := "roundBetween", unfollowed := true, recurses := true, apart := false, narrowed := true }
def RoundBetweenUptoSaid : Prop := roundBetweenUptoRow.holds Try.pinned (OpenSpec.upto roundBetweenSpec)

/-- 'batchlinelaw01.RoundRoots', WHERE WHAT IT READS IS OF BULK AT MOST 1048576: true; the input reads as it did. -/
def roundRootsUptoRow : OpenClaim := { program := "ytdmfhnpibllfeaa", sum := "8314f256807abafae83f57a01b1cb45024365b303f1dcc13d4503851705eb3d5", func := "batchline/batchlinelaw01.RoundRoots", spec := "roundRoots", unfollowed := true, recurses := true, apart := false, narrowed := true }
def RoundRootsUptoSaid : Prop := roundRootsUptoRow.holds Try.pinned (OpenSpec.upto roundRootsSpec)

/-- 'batchlinelaw01.RoundShares', WHERE WHAT IT READS IS OF BULK AT MOST 1048576: true; the input reads as it did. -/
def roundSharesUptoRow : OpenClaim := { program := "ytdmfhnpibllfeaa", sum := "8314f256807abafae83f57a01b1cb45024365b303f1dcc13d4503851705eb3d5", func := "batchline/batchlinelaw01.RoundShares", spec := "roundShares", unfollowed := true, recurses := true, apart := false, narrowed := true }
def RoundSharesUptoSaid : Prop := roundSharesUptoRow.holds Try.pinned (OpenSpec.upto roundSharesSpec)

/-- 'batchlinelaw01.RoundOrder', WHERE WHAT IT READS IS OF BULK AT MOST 1048576: true; the input reads as it did. -/
def roundOrderUptoRow : OpenClaim := { program := "ytdmfhnpibllfeaa", sum := "8314f256807abafae83f57a01b1cb45024365b303f1dcc13d4503851705eb3d5", func := "batchline/batchlinelaw01.RoundOrder", spec := "roundOrder", unfollowed := true, recurses := true, apart := false, narrowed := true }
def RoundOrderUptoSaid : Prop := roundOrderUptoRow.holds Try.pinned (OpenSpec.upto roundOrderSpec)

/-- 'batchlinelaw01.RoundTurns', WHERE WHAT IT READS IS OF BULK AT MOST 1048576: true; the input reads as it did. -/
def roundTurnsUptoRow : OpenClaim := { program := "ytdmfhnpibllfeaa", sum := "8314f256807abafae83f57a01b1cb45024365b303f1dcc13d4503851705eb3d5", func := "batchline/batchlinelaw01.RoundTurns", spec := "roundTurns", unfollowed := true, recurses := true, apart := false, narrowed := true }
def RoundTurnsUptoSaid : Prop := roundTurnsUptoRow.holds Try.pinned (OpenSpec.upto roundTurnsSpec)

end Rows
end Go.Proofs.Ytdmfhnpibllfeaa
