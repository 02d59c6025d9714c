/-
  No cell of these rows narrows 'for every input' (looked for: loops, veiled, ifaces, maps, wideKeys, modest, calm, conditions, laid).
  DERIVED. THE GIVEN ROWS OF THIS SEAT. 7 by the template 'for every input the law returns true; each argument reads behind the call as it read before'; 0 by the template 'total and deterministic' (their statements: YtmleldfhkangbaaTotals.lean).
  GIVEN WITH THE SEED: the statements are not yours to turn. If you find one false, say at which input.
  Laid BY PROGRAM, IN A SANDBOX (cutbox-rows.mjs): the forced cells as the released guide's own fill.sh prints them over the translation fecf996c92d73ca8… (all of the seat's roots in one cut). By AI agents, Wed Nov 11 2026. No macro, syntax, notation, axiom, sorry.
-/
import Derived.Test.YtmleldfhkangbaaChecked
import GoSem.Claim
import GoSem.ClaimJoined
import GoSem.ClaimMapViews
import Derived.JoinedTies
import Derived.KernelRfl
namespace Go.Proofs.Ytmleldfhkangbaa
/- THE CELL 'sum', in the pinned program and in every row, IS THE sha256 OF THE DUMP (.gsa) THAT YtmleldfhkangbaaProg.lean LOADS. Nothing in Lean hashes anything: it is a label: what it is worth is what the hold of that sum in a sandbox is worth. -/
noncomputable def Try.pinned : Pinned := { name := "ytmleldfhkangbaa", sum := "fecf996c92d73ca80427195334182d91c9673b67cb434a00a0aed8efb9a9029d", checked := Try.checked }
namespace Rows
def none {H : Type} : Left H := { results := [], args := [] }

/-- 'batchlinelaw39.AccountParts': WHATEVER THE INPUT: true; the input reads as it did. -/
def accountPartsSpec : ChangeSpec := { name := "accountParts", fn := fun _ => fun
  | [d1, d2] => { results := [.lit (.bool true)], args := [d1, d2] }
  | _ => none }
def accountPartsRow : OpenClaim := { program := "ytmleldfhkangbaa", sum := "fecf996c92d73ca80427195334182d91c9673b67cb434a00a0aed8efb9a9029d", func := "batchline/batchlinelaw39.AccountParts", spec := "accountParts", inPlace := ["internal/bytealg.abigen_runtime_cmpstring"], unfollowed := true, recurses := true, apart := false }
def AccountPartsSaid : Prop := accountPartsRow.holds Try.pinned (OpenSpec.ofChange accountPartsSpec)

/-- ITS FALSE NEIGHBOUR: 'it returns false'. Refute it at one input. -/
def accountPartsWrong : ChangeSpec := { name := "accountParts", fn := fun _ => fun
  | [d1, d2] => { results := [.lit (.bool false)], args := [d1, d2] }
  | _ => none }
def AccountPartsWrongFalsely : Prop := accountPartsRow.holds Try.pinned (OpenSpec.ofChange accountPartsWrong)

/-- 'batchlinelaw39.AccountMade': WHATEVER THE INPUT: true; the input reads as it did. -/
def accountMadeSpec : ChangeSpec := { name := "accountMade", fn := fun _ => fun
  | [d1, d2, d3, d4, d5] => { results := [.lit (.bool true)], args := [d1, d2, d3, d4, d5] }
  | _ => none }
def accountMadeRow : OpenClaim := { program := "ytmleldfhkangbaa", sum := "fecf996c92d73ca80427195334182d91c9673b67cb434a00a0aed8efb9a9029d", func := "batchline/batchlinelaw39.AccountMade", spec := "accountMade", inPlace := ["internal/bytealg.abigen_runtime_cmpstring"], unfollowed := true, recurses := true, apart := false }
def AccountMadeSaid : Prop := accountMadeRow.holds Try.pinned (OpenSpec.ofChange accountMadeSpec)

/-- ITS FALSE NEIGHBOUR: 'it returns false'. Refute it at one input. -/
def accountMadeWrong : ChangeSpec := { name := "accountMade", fn := fun _ => fun
  | [d1, d2, d3, d4, d5] => { results := [.lit (.bool false)], args := [d1, d2, d3, d4, d5] }
  | _ => none }
def AccountMadeWrongFalsely : Prop := accountMadeRow.holds Try.pinned (OpenSpec.ofChange accountMadeWrong)

/-- 'batchlinelaw39.AccountOrder': WHATEVER THE INPUT: true; the input reads as it did. -/
def accountOrderSpec : ChangeSpec := { name := "accountOrder", fn := fun _ => fun
  | [d1, d2] => { results := [.lit (.bool true)], args := [d1, d2] }
  | _ => none }
def accountOrderRow : OpenClaim := { program := "ytmleldfhkangbaa", sum := "fecf996c92d73ca80427195334182d91c9673b67cb434a00a0aed8efb9a9029d", func := "batchline/batchlinelaw39.AccountOrder", spec := "accountOrder", inPlace := ["internal/bytealg.abigen_runtime_cmpstring"], unfollowed := true, recurses := true, apart := false }
def AccountOrderSaid : Prop := accountOrderRow.holds Try.pinned (OpenSpec.ofChange accountOrderSpec)

/-- ITS FALSE NEIGHBOUR: 'it returns false'. Refute it at one input. -/
def accountOrderWrong : ChangeSpec := { name := "accountOrder", fn := fun _ => fun
  | [d1, d2] => { results := [.lit (.bool false)], args := [d1, d2] }
  | _ => none }
def AccountOrderWrongFalsely : Prop := accountOrderRow.holds Try.pinned (OpenSpec.ofChange accountOrderWrong)

/-- 'batchlinelaw39.AccountCloses': WHATEVER THE INPUT: true; the input reads as it did. -/
def accountClosesSpec : ChangeSpec := { name := "accountCloses", fn := fun _ => fun
  | [d1, d2] => { results := [.lit (.bool true)], args := [d1, d2] }
  | _ => none }
def accountClosesRow : OpenClaim := { program := "ytmleldfhkangbaa", sum := "fecf996c92d73ca80427195334182d91c9673b67cb434a00a0aed8efb9a9029d", func := "batchline/batchlinelaw39.AccountCloses", spec := "accountCloses", inPlace := ["internal/bytealg.abigen_runtime_cmpstring"], unfollowed := true, recurses := true, apart := false }
def AccountClosesSaid : Prop := accountClosesRow.holds Try.pinned (OpenSpec.ofChange accountClosesSpec)

/-- ITS FALSE NEIGHBOUR: 'it returns false'. Refute it at one input. -/
def accountClosesWrong : ChangeSpec := { name := "accountCloses", fn := fun _ => fun
  | [d1, d2] => { results := [.lit (.bool false)], args := [d1, d2] }
  | _ => none }
def AccountClosesWrongFalsely : Prop := accountClosesRow.holds Try.pinned (OpenSpec.ofChange accountClosesWrong)

/-- 'batchlinelaw39.AccountExact': WHATEVER THE INPUT: true; the input reads as it did. -/
def accountExactSpec : ChangeSpec := { name := "accountExact", fn := fun _ => fun
  | [d] => { results := [.lit (.bool true)], args := [d] }
  | _ => none }
def accountExactRow : OpenClaim := { program := "ytmleldfhkangbaa", sum := "fecf996c92d73ca80427195334182d91c9673b67cb434a00a0aed8efb9a9029d", func := "batchline/batchlinelaw39.AccountExact", spec := "accountExact", inPlace := ["internal/bytealg.abigen_runtime_cmpstring"], unfollowed := true, recurses := true, apart := false }
def AccountExactSaid : Prop := accountExactRow.holds Try.pinned (OpenSpec.ofChange accountExactSpec)

/-- ITS FALSE NEIGHBOUR: 'it returns false'. Refute it at one input. -/
def accountExactWrong : ChangeSpec := { name := "accountExact", fn := fun _ => fun
  | [d] => { results := [.lit (.bool false)], args := [d] }
  | _ => none }
def AccountExactWrongFalsely : Prop := accountExactRow.holds Try.pinned (OpenSpec.ofChange accountExactWrong)

/-- 'batchlinelaw38.AllocateMade': WHATEVER THE INPUT: true; the input reads as it did. -/
def allocateMadeSpec : ChangeSpec := { name := "allocateMade", fn := fun _ => fun
  | [d1, d2, d3, d4] => { results := [.lit (.bool true)], args := [d1, d2, d3, d4] }
  | _ => none }
def allocateMadeRow : OpenClaim := { program := "ytmleldfhkangbaa", sum := "fecf996c92d73ca80427195334182d91c9673b67cb434a00a0aed8efb9a9029d", func := "batchline/batchlinelaw38.AllocateMade", spec := "allocateMade", inPlace := ["internal/bytealg.abigen_runtime_cmpstring"], unfollowed := true, recurses := true, apart := false }
def AllocateMadeSaid : Prop := allocateMadeRow.holds Try.pinned (OpenSpec.ofChange allocateMadeSpec)

/-- ITS FALSE NEIGHBOUR: 'it returns false'. Refute it at one input. -/
def allocateMadeWrong : ChangeSpec := { name := "allocateMade", fn := fun _ => fun
  | [d1, d2, d3, d4] => { results := [.lit (.bool false)], args := [d1, d2, d3, d4] }
  | _ => none }
def AllocateMadeWrongFalsely : Prop := allocateMadeRow.holds Try.pinned (OpenSpec.ofChange allocateMadeWrong)

/-- 'batchlinelaw38.AllocateTurned': WHATEVER THE INPUT: true; the input reads as it did. -/
def allocateTurnedSpec : ChangeSpec := { name := "allocateTurned", fn := fun _ => fun
  | [d1, d2, d3] => { results := [.lit (.bool true)], args := [d1, d2, d3] }
  | _ => none }
def allocateTurnedRow : OpenClaim := { program := "ytmleldfhkangbaa", sum := "fecf996c92d73ca80427195334182d91c9673b67cb434a00a0aed8efb9a9029d", func := "batchline/batchlinelaw38.AllocateTurned", spec := "allocateTurned", inPlace := ["internal/bytealg.abigen_runtime_cmpstring"], unfollowed := true, recurses := true, apart := false }
def AllocateTurnedSaid : Prop := allocateTurnedRow.holds Try.pinned (OpenSpec.ofChange allocateTurnedSpec)

/-- ITS FALSE NEIGHBOUR: 'it returns false'. Refute it at one input. -/
def allocateTurnedWrong : ChangeSpec := { name := "allocateTurned", fn := fun _ => fun
  | [d1, d2, d3] => { results := [.lit (.bool false)], args := [d1, d2, d3] }
  | _ => none }
def AllocateTurnedWrongFalsely : Prop := allocateTurnedRow.holds Try.pinned (OpenSpec.ofChange allocateTurnedWrong)

/- THE SECOND FORM. 'bulk': how many values and letters a reading holds, each counted each time it is reached (what is shared counts as often as it is met; a slice's spare places count too). A statement '..UptoSaid' is the law's where the arguments, and the package variables that the reading takes, are together of bulk at most 1048576: NARROWER than '..Said'. Prove '..Said' where nothing that the law and all that it calls make is longer than what came in: it says more and counts as full. Else prove '..UptoSaid'. A law counts once. -/
mutual
def uptoBulk {H : Type} : DataW H → Nat
  | .lit (.string bytes) => bytes.length + 1
  | .lit _ => 1
  | .nil => 1
  | .ptr d => uptoBulk d + 1
  | .slice elems spare => uptoBulkAll elems + uptoBulkAll spare + 1
  | .agg parts => uptoBulkAll parts + 1
  | .iface _ d => uptoBulk d + 1
  | .map entries => uptoBulkEntries entries + 1
  | .held _ => 1
def uptoBulkAll {H : Type} : List (DataW H) → Nat
  | [] => 0
  | d :: r => uptoBulk d + uptoBulkAll r
def uptoBulkEntries {H : Type} : List (Lit × DataW H) → Nat
  | [] => 0
  | x :: r => uptoBulkEntry x + uptoBulkEntries r
def uptoBulkEntry {H : Type} : Lit × DataW H → Nat
  | (.string bytes, d) => bytes.length + uptoBulk d + 1
  | (_, d) => uptoBulk d + 1
 end
def uptoSmall : (H : Type) → List (DataW H) → Bool := fun _ ds => decide (uptoBulkAll ds ≤ 1048576)
def OpenSpec.upto (s : _root_.Go.ChangeSpec) : _root_.Go.OpenSpec := { _root_.Go.OpenSpec.ofChange s with cond := some uptoSmall }

/-- 'batchlinelaw39.AccountParts', WHERE WHAT IT READS IS OF BULK AT MOST 1048576: true; the input reads as it did. -/
def accountPartsUptoRow : OpenClaim := { program := "ytmleldfhkangbaa", sum := "fecf996c92d73ca80427195334182d91c9673b67cb434a00a0aed8efb9a9029d", func := "batchline/batchlinelaw39.AccountParts", spec := "accountParts", inPlace := ["internal/bytealg.abigen_runtime_cmpstring"], unfollowed := true, recurses := true, apart := false, narrowed := true }
def AccountPartsUptoSaid : Prop := accountPartsUptoRow.holds Try.pinned (OpenSpec.upto accountPartsSpec)

/-- 'batchlinelaw39.AccountMade', WHERE WHAT IT READS IS OF BULK AT MOST 1048576: true; the input reads as it did. -/
def accountMadeUptoRow : OpenClaim := { program := "ytmleldfhkangbaa", sum := "fecf996c92d73ca80427195334182d91c9673b67cb434a00a0aed8efb9a9029d", func := "batchline/batchlinelaw39.AccountMade", spec := "accountMade", inPlace := ["internal/bytealg.abigen_runtime_cmpstring"], unfollowed := true, recurses := true, apart := false, narrowed := true }
def AccountMadeUptoSaid : Prop := accountMadeUptoRow.holds Try.pinned (OpenSpec.upto accountMadeSpec)

/-- 'batchlinelaw39.AccountOrder', WHERE WHAT IT READS IS OF BULK AT MOST 1048576: true; the input reads as it did. -/
def accountOrderUptoRow : OpenClaim := { program := "ytmleldfhkangbaa", sum := "fecf996c92d73ca80427195334182d91c9673b67cb434a00a0aed8efb9a9029d", func := "batchline/batchlinelaw39.AccountOrder", spec := "accountOrder", inPlace := ["internal/bytealg.abigen_runtime_cmpstring"], unfollowed := true, recurses := true, apart := false, narrowed := true }
def AccountOrderUptoSaid : Prop := accountOrderUptoRow.holds Try.pinned (OpenSpec.upto accountOrderSpec)

/-- 'batchlinelaw39.AccountCloses', WHERE WHAT IT READS IS OF BULK AT MOST 1048576: true; the input reads as it did. -/
def accountClosesUptoRow : OpenClaim := { program := "ytmleldfhkangbaa", sum := "fecf996c92d73ca80427195334182d91c9673b67cb434a00a0aed8efb9a9029d", func := "batchline/batchlinelaw39.AccountCloses", spec := "accountCloses", inPlace := ["internal/bytealg.abigen_runtime_cmpstring"], unfollowed := true, recurses := true, apart := false, narrowed := true }
def AccountClosesUptoSaid : Prop := accountClosesUptoRow.holds Try.pinned (OpenSpec.upto accountClosesSpec)

/-- 'batchlinelaw39.AccountExact', WHERE WHAT IT READS IS OF BULK AT MOST 1048576: true; the input reads as it did. -/
def accountExactUptoRow : OpenClaim := { program := "ytmleldfhkangbaa", sum := "fecf996c92d73ca80427195334182d91c9673b67cb434a00a0aed8efb9a9029d", func := "batchline/batchlinelaw39.AccountExact", spec := "accountExact", inPlace := ["internal/bytealg.abigen_runtime_cmpstring"], unfollowed := true, recurses := true, apart := false, narrowed := true }
def AccountExactUptoSaid : Prop := accountExactUptoRow.holds Try.pinned (OpenSpec.upto accountExactSpec)

/-- 'batchlinelaw38.AllocateMade', WHERE WHAT IT READS IS OF BULK AT MOST 1048576: true; the input reads as it did. -/
def allocateMadeUptoRow : OpenClaim := { program := "ytmleldfhkangbaa", sum := "fecf996c92d73ca80427195334182d91c9673b67cb434a00a0aed8efb9a9029d", func := "batchline/batchlinelaw38.AllocateMade", spec := "allocateMade", inPlace := ["internal/bytealg.abigen_runtime_cmpstring"], unfollowed := true, recurses := true, apart := false, narrowed := true }
def AllocateMadeUptoSaid : Prop := allocateMadeUptoRow.holds Try.pinned (OpenSpec.upto allocateMadeSpec)

/-- 'batchlinelaw38.AllocateTurned', WHERE WHAT IT READS IS OF BULK AT MOST 1048576: true; the input reads as it did. -/
def allocateTurnedUptoRow : OpenClaim := { program := "ytmleldfhkangbaa", sum := "fecf996c92d73ca80427195334182d91c9673b67cb434a00a0aed8efb9a9029d", func := "batchline/batchlinelaw38.AllocateTurned", spec := "allocateTurned", inPlace := ["internal/bytealg.abigen_runtime_cmpstring"], unfollowed := true, recurses := true, apart := false, narrowed := true }
def AllocateTurnedUptoSaid : Prop := allocateTurnedUptoRow.holds Try.pinned (OpenSpec.upto allocateTurnedSpec)

end Rows
end Go.Proofs.Ytmleldfhkangbaa
