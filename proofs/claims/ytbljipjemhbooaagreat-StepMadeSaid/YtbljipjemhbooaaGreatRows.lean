/-
  No cell of these rows narrows 'for every input' (looked for: loops, veiled, ifaces, maps, wideKeys, modest, calm, conditions, laid).
  DERIVED. THE GIVEN ROWS OF THIS SEAT. 5 by the template 'for every input the law returns true; each argument reads behind the call as it read before'; 0 by the template 'total and deterministic' (their statements: YtbljipjemhbooaaGreatTotals.lean).
  GIVEN WITH THE SEED: the statements are not yours to turn. If you find one false, say at which input.
  Laid BY PROGRAM, IN A SANDBOX (cutbox-rows.mjs): the forced cells as the released guide's own fill.sh prints them over the translation bf14cc2056c3376b… (all of the seat's roots in one cut). By AI agents, Wed Nov 11 2026. No macro, syntax, notation, axiom, sorry.
-/
import Derived.Test.YtbljipjemhbooaaGreatChecked
import GoSem.Claim
import GoSem.ClaimJoined
import GoSem.ClaimMapViews
import Derived.JoinedTies
import Derived.KernelRfl
namespace Go.Proofs.YtbljipjemhbooaaGreat
/- THE CELL 'sum', in the pinned program and in every row, IS THE sha256 OF THE DUMP (.gsa) THAT YtbljipjemhbooaaGreatProg.lean LOADS. Nothing in Lean hashes anything: it is a label: what it is worth is what the hold of that sum in a sandbox is worth. -/
noncomputable def Tryz.pinned : Pinned := { name := "ytbljipjemhbooaagreat", sum := "bf14cc2056c3376b7f762a94978e0eacc0f2d782f7c5cfb3517752ab58a1ca7f", checked := Tryz.checked }
namespace Rows
def none {H : Type} : Left H := { results := [], args := [] }

/-- 'batchlinelaw26.StepMade': WHATEVER THE INPUT: true; the input reads as it did. -/
def stepMadeSpec : ChangeSpec := { name := "stepMade", fn := fun _ => fun
  | [d1, d2, d3] => { results := [.lit (.bool true)], args := [d1, d2, d3] }
  | _ => none }
def stepMadeRow : OpenClaim := { program := "ytbljipjemhbooaagreat", sum := "bf14cc2056c3376b7f762a94978e0eacc0f2d782f7c5cfb3517752ab58a1ca7f", func := "batchline/batchlinelaw26.StepMade", spec := "stepMade", unfollowed := true, recurses := true, apart := false }
def StepMadeSaid : Prop := stepMadeRow.holds Tryz.pinned (OpenSpec.ofChange stepMadeSpec)

/-- ITS FALSE NEIGHBOUR: 'it returns false'. Refute it at one input. -/
def stepMadeWrong : ChangeSpec := { name := "stepMade", fn := fun _ => fun
  | [d1, d2, d3] => { results := [.lit (.bool false)], args := [d1, d2, d3] }
  | _ => none }
def StepMadeWrongFalsely : Prop := stepMadeRow.holds Tryz.pinned (OpenSpec.ofChange stepMadeWrong)

/-- 'batchlinelaw26.StepRaw': WHATEVER THE INPUT: true; the input reads as it did. -/
def stepRawSpec : ChangeSpec := { name := "stepRaw", fn := fun _ => fun
  | [d1, d2] => { results := [.lit (.bool true)], args := [d1, d2] }
  | _ => none }
def stepRawRow : OpenClaim := { program := "ytbljipjemhbooaagreat", sum := "bf14cc2056c3376b7f762a94978e0eacc0f2d782f7c5cfb3517752ab58a1ca7f", func := "batchline/batchlinelaw26.StepRaw", spec := "stepRaw", unfollowed := true, recurses := true, apart := false }
def StepRawSaid : Prop := stepRawRow.holds Tryz.pinned (OpenSpec.ofChange stepRawSpec)

/-- ITS FALSE NEIGHBOUR: 'it returns false'. Refute it at one input. -/
def stepRawWrong : ChangeSpec := { name := "stepRaw", fn := fun _ => fun
  | [d1, d2] => { results := [.lit (.bool false)], args := [d1, d2] }
  | _ => none }
def StepRawWrongFalsely : Prop := stepRawRow.holds Tryz.pinned (OpenSpec.ofChange stepRawWrong)

/-- 'batchlinelaw26.StepKeeps': WHATEVER THE INPUT: true; the input reads as it did. -/
def stepKeepsSpec : ChangeSpec := { name := "stepKeeps", fn := fun _ => fun
  | [d] => { results := [.lit (.bool true)], args := [d] }
  | _ => none }
def stepKeepsRow : OpenClaim := { program := "ytbljipjemhbooaagreat", sum := "bf14cc2056c3376b7f762a94978e0eacc0f2d782f7c5cfb3517752ab58a1ca7f", func := "batchline/batchlinelaw26.StepKeeps", spec := "stepKeeps", unfollowed := true, recurses := true, apart := false }
def StepKeepsSaid : Prop := stepKeepsRow.holds Tryz.pinned (OpenSpec.ofChange stepKeepsSpec)

/-- ITS FALSE NEIGHBOUR: 'it returns false'. Refute it at one input. -/
def stepKeepsWrong : ChangeSpec := { name := "stepKeeps", fn := fun _ => fun
  | [d] => { results := [.lit (.bool false)], args := [d] }
  | _ => none }
def StepKeepsWrongFalsely : Prop := stepKeepsRow.holds Tryz.pinned (OpenSpec.ofChange stepKeepsWrong)

/-- 'batchlinelaw26.StepParts': WHATEVER THE INPUT: true; the input reads as it did. -/
def stepPartsSpec : ChangeSpec := { name := "stepParts", fn := fun _ => fun
  | [d1, d2] => { results := [.lit (.bool true)], args := [d1, d2] }
  | _ => none }
def stepPartsRow : OpenClaim := { program := "ytbljipjemhbooaagreat", sum := "bf14cc2056c3376b7f762a94978e0eacc0f2d782f7c5cfb3517752ab58a1ca7f", func := "batchline/batchlinelaw26.StepParts", spec := "stepParts", unfollowed := true, recurses := true, apart := false }
def StepPartsSaid : Prop := stepPartsRow.holds Tryz.pinned (OpenSpec.ofChange stepPartsSpec)

/-- ITS FALSE NEIGHBOUR: 'it returns false'. Refute it at one input. -/
def stepPartsWrong : ChangeSpec := { name := "stepParts", fn := fun _ => fun
  | [d1, d2] => { results := [.lit (.bool false)], args := [d1, d2] }
  | _ => none }
def StepPartsWrongFalsely : Prop := stepPartsRow.holds Tryz.pinned (OpenSpec.ofChange stepPartsWrong)

/-- 'batchlinelaw26.StepFlows': WHATEVER THE INPUT: true; the input reads as it did. -/
def stepFlowsSpec : ChangeSpec := { name := "stepFlows", fn := fun _ => fun
  | [d] => { results := [.lit (.bool true)], args := [d] }
  | _ => none }
def stepFlowsRow : OpenClaim := { program := "ytbljipjemhbooaagreat", sum := "bf14cc2056c3376b7f762a94978e0eacc0f2d782f7c5cfb3517752ab58a1ca7f", func := "batchline/batchlinelaw26.StepFlows", spec := "stepFlows", unfollowed := true, recurses := true, apart := false }
def StepFlowsSaid : Prop := stepFlowsRow.holds Tryz.pinned (OpenSpec.ofChange stepFlowsSpec)

/-- ITS FALSE NEIGHBOUR: 'it returns false'. Refute it at one input. -/
def stepFlowsWrong : ChangeSpec := { name := "stepFlows", fn := fun _ => fun
  | [d] => { results := [.lit (.bool false)], args := [d] }
  | _ => none }
def StepFlowsWrongFalsely : Prop := stepFlowsRow.holds Tryz.pinned (OpenSpec.ofChange stepFlowsWrong)

/- THE SECOND FORM. 'bulk': how many values and letters a reading holds, each counted each time it is reached (what is shared counts as often as it is met; a slice's spare places count too). A statement '..UptoSaid' is the law's where the arguments, and the package variables that the reading takes, are together of bulk at most 1048576: NARROWER than '..Said'. Prove '..Said' where nothing that the law and all that it calls make is longer than what came in: it says more and counts as full. Else prove '..UptoSaid'. A law counts once. -/
mutual
def uptoBulk {H : Type} : DataW H → Nat
  | .lit (.string bytes) => bytes.length + 1
  | .lit _ => 1
  | .nil => 1
  | .ptr d => uptoBulk d + 1
  | .slice elems spare => uptoBulkAll elems + uptoBulkAll spare + 1
  | .agg parts => uptoBulkAll parts + 1
  | .iface _ d => uptoBulk d + 1
  | .map entries => uptoBulkEntries entries + 1
  | .held _ => 1
def uptoBulkAll {H : Type} : List (DataW H) → Nat
  | [] => 0
  | d :: r => uptoBulk d + uptoBulkAll r
def uptoBulkEntries {H : Type} : List (Lit × DataW H) → Nat
  | [] => 0
  | x :: r => uptoBulkEntry x + uptoBulkEntries r
def uptoBulkEntry {H : Type} : Lit × DataW H → Nat
  | (.string bytes, d) => bytes.length + uptoBulk d + 1
  | (_, d) => uptoBulk d + 1
 end
def uptoSmall : (H : Type) → List (DataW H) → Bool := fun _ ds => decide (uptoBulkAll ds ≤ 1048576)
def OpenSpec.upto (s : _root_.Go.ChangeSpec) : _root_.Go.OpenSpec := { _root_.Go.OpenSpec.ofChange s with cond := some uptoSmall }

/-- 'batchlinelaw26.StepMade', WHERE WHAT IT READS IS OF BULK AT MOST 1048576: true; the input reads as it did. -/
def stepMadeUptoRow : OpenClaim := { program := "ytbljipjemhbooaagreat", sum := "bf14cc2056c3376b7f762a94978e0eacc0f2d782f7c5cfb3517752ab58a1ca7f", func := "batchline/batchlinelaw26.StepMade", spec := "stepMade", unfollowed := true, recurses := true, apart := false, narrowed := true }
def StepMadeUptoSaid : Prop := stepMadeUptoRow.holds Tryz.pinned (OpenSpec.upto stepMadeSpec)

/-- 'batchlinelaw26.StepRaw', WHERE WHAT IT READS IS OF BULK AT MOST 1048576: true; the input reads as it did. -/
def stepRawUptoRow : OpenClaim := { program := "ytbljipjemhbooaagreat", sum := "bf14cc2056c3376b7f762a94978e0eacc0f2d782f7c5cfb3517752ab58a1ca7f", func := "batchline/batchlinelaw26.StepRaw", spec := "stepRaw", unfollowed := true, recurses := true, apart := false, narrowed := true }
def StepRawUptoSaid : Prop := stepRawUptoRow.holds Tryz.pinned (OpenSpec.upto stepRawSpec)

/-- 'batchlinelaw26.StepKeeps', WHERE WHAT IT READS IS OF BULK AT MOST 1048576: true; the input reads as it did. -/
def stepKeepsUptoRow : OpenClaim := { program := "ytbljipjemhbooaagreat", sum := "bf14cc2056c3376b7f762a94978e0eacc0f2d782f7c5cfb3517752ab58a1ca7f", func := "batchline/batchlinelaw26.StepKeeps", spec := "stepKeeps", unfollowed := true, recurses := true, apart := false, narrowed := true }
def StepKeepsUptoSaid : Prop := stepKeepsUptoRow.holds Tryz.pinned (OpenSpec.upto stepKeepsSpec)

/-- 'batchlinelaw26.StepParts', WHERE WHAT IT READS IS OF BULK AT MOST 1048576: true; the input reads as it did. -/
def stepPartsUptoRow : OpenClaim := { program := "ytbljipjemhbooaagreat", sum := "bf14cc2056c3376b7f762a94978e0eacc0f2d782f7c5cfb3517752ab58a1ca7f", func := "batchline/batchlinelaw26.StepParts", spec := "stepParts", unfollowed := true, recurses := true, apart := false, narrowed := true }
def StepPartsUptoSaid : Prop := stepPartsUptoRow.holds Tryz.pinned (OpenSpec.upto stepPartsSpec)

/-- 'batchlinelaw26.StepFlows', WHERE WHAT IT READS IS OF BULK AT MOST 1048576: true; the input reads as it did. -/
def stepFlowsUptoRow : OpenClaim := { program := "ytbljipjemhbooaagreat", sum := "bf14cc2056c3376b7f762a94978e0eacc0f2d782f7c5cfb3517752ab58a1ca7f", func := "batchline/batchlinelaw26.StepFlows", spec := "stepFlows", unfollowed := true, recurses := true, apart := false, narrowed := true }
def StepFlowsUptoSaid : Prop := stepFlowsUptoRow.holds Tryz.pinned (OpenSpec.upto stepFlowsSpec)

end Rows
end Go.Proofs.YtbljipjemhbooaaGreat
