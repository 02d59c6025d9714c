/-
  No cell of these rows narrows 'for every input' (looked for: loops, veiled, ifaces, maps, wideKeys, modest, calm, conditions, laid).
  DERIVED. THE GIVEN ROWS OF THIS SEAT. 5 by the template 'for every input the law returns true; each argument reads behind the call as it read before'; 0 by the template 'total and deterministic' (their statements: YtnkfkceghbkkkaaGreatTotals.lean).
  GIVEN WITH THE SEED: the statements are not yours to turn. If you find one false, say at which input.
  Laid BY PROGRAM, IN A SANDBOX (cutbox-rows.mjs): the forced cells as the released guide's own fill.sh prints them over the translation cd49cd7afff8a075… (all of the seat's roots in one cut). By AI agents, Wed Nov 11 2026. No macro, syntax, notation, axiom, sorry.
-/
import Derived.Test.YtnkfkceghbkkkaaGreatChecked
import GoSem.Claim
import GoSem.ClaimJoined
import GoSem.ClaimMapViews
import Derived.JoinedTies
import Derived.KernelRfl
namespace Go.Proofs.YtnkfkceghbkkkaaGreat
/- THE CELL 'sum', in the pinned program and in every row, IS THE sha256 OF THE DUMP (.gsa) THAT YtnkfkceghbkkkaaGreatProg.lean LOADS. Nothing in Lean hashes anything: it is a label: what it is worth is what the hold of that sum in a sandbox is worth. -/
noncomputable def Tryz.pinned : Pinned := { name := "ytnkfkceghbkkkaagreat", sum := "cd49cd7afff8a0758e2526d001a4ba93f53213ce04502a0b4841ce09f0cd7dd7", checked := Tryz.checked }
namespace Rows
def none {H : Type} : Left H := { results := [], args := [] }

/-- 'batchlinelaw41.CentreBytes': WHATEVER THE INPUT: true; the input reads as it did. -/
def centreBytesSpec : ChangeSpec := { name := "centreBytes", fn := fun _ => fun
  | [d1, d2, d3, d4] => { results := [.lit (.bool true)], args := [d1, d2, d3, d4] }
  | _ => none }
def centreBytesRow : OpenClaim := { program := "ytnkfkceghbkkkaagreat", sum := "cd49cd7afff8a0758e2526d001a4ba93f53213ce04502a0b4841ce09f0cd7dd7", func := "batchline/batchlinelaw41.CentreBytes", spec := "centreBytes", inPlace := ["slices.overlaps[batchline/api.Telegram]", "internal/bytealg.abigen_runtime_cmpstring"], unfollowed := true, recurses := true, apart := false }
def CentreBytesSaid : Prop := centreBytesRow.holds Tryz.pinned (OpenSpec.ofChange centreBytesSpec)

/-- ITS FALSE NEIGHBOUR: 'it returns false'. Refute it at one input. -/
def centreBytesWrong : ChangeSpec := { name := "centreBytes", fn := fun _ => fun
  | [d1, d2, d3, d4] => { results := [.lit (.bool false)], args := [d1, d2, d3, d4] }
  | _ => none }
def CentreBytesWrongFalsely : Prop := centreBytesRow.holds Tryz.pinned (OpenSpec.ofChange centreBytesWrong)

/-- 'batchlinelaw41.CentreRestarts': WHATEVER THE INPUT: true; the input reads as it did. -/
def centreRestartsSpec : ChangeSpec := { name := "centreRestarts", fn := fun _ => fun
  | [d] => { results := [.lit (.bool true)], args := [d] }
  | _ => none }
def centreRestartsRow : OpenClaim := { program := "ytnkfkceghbkkkaagreat", sum := "cd49cd7afff8a0758e2526d001a4ba93f53213ce04502a0b4841ce09f0cd7dd7", func := "batchline/batchlinelaw41.CentreRestarts", spec := "centreRestarts", inPlace := ["slices.overlaps[batchline/api.Telegram]", "internal/bytealg.abigen_runtime_cmpstring"], unfollowed := true, recurses := true, apart := false }
def CentreRestartsSaid : Prop := centreRestartsRow.holds Tryz.pinned (OpenSpec.ofChange centreRestartsSpec)

/-- ITS FALSE NEIGHBOUR: 'it returns false'. Refute it at one input. -/
def centreRestartsWrong : ChangeSpec := { name := "centreRestarts", fn := fun _ => fun
  | [d] => { results := [.lit (.bool false)], args := [d] }
  | _ => none }
def CentreRestartsWrongFalsely : Prop := centreRestartsRow.holds Tryz.pinned (OpenSpec.ofChange centreRestartsWrong)

/-- 'batchlinelaw41.CentreFolds': WHATEVER THE INPUT: true; the input reads as it did. -/
def centreFoldsSpec : ChangeSpec := { name := "centreFolds", fn := fun _ => fun
  | [d] => { results := [.lit (.bool true)], args := [d] }
  | _ => none }
def centreFoldsRow : OpenClaim := { program := "ytnkfkceghbkkkaagreat", sum := "cd49cd7afff8a0758e2526d001a4ba93f53213ce04502a0b4841ce09f0cd7dd7", func := "batchline/batchlinelaw41.CentreFolds", spec := "centreFolds", inPlace := ["slices.overlaps[batchline/api.Telegram]", "internal/bytealg.abigen_runtime_cmpstring"], unfollowed := true, recurses := true, apart := false }
def CentreFoldsSaid : Prop := centreFoldsRow.holds Tryz.pinned (OpenSpec.ofChange centreFoldsSpec)

/-- ITS FALSE NEIGHBOUR: 'it returns false'. Refute it at one input. -/
def centreFoldsWrong : ChangeSpec := { name := "centreFolds", fn := fun _ => fun
  | [d] => { results := [.lit (.bool false)], args := [d] }
  | _ => none }
def CentreFoldsWrongFalsely : Prop := centreFoldsRow.holds Tryz.pinned (OpenSpec.ofChange centreFoldsWrong)

/-- 'batchlinelaw41.CentreMade': WHATEVER THE INPUT: true; the input reads as it did. -/
def centreMadeSpec : ChangeSpec := { name := "centreMade", fn := fun _ => fun
  | [d1, d2, d3] => { results := [.lit (.bool true)], args := [d1, d2, d3] }
  | _ => none }
def centreMadeRow : OpenClaim := { program := "ytnkfkceghbkkkaagreat", sum := "cd49cd7afff8a0758e2526d001a4ba93f53213ce04502a0b4841ce09f0cd7dd7", func := "batchline/batchlinelaw41.CentreMade", spec := "centreMade", inPlace := ["slices.overlaps[batchline/api.Telegram]", "internal/bytealg.abigen_runtime_cmpstring"], unfollowed := true, recurses := true, apart := false }
def CentreMadeSaid : Prop := centreMadeRow.holds Tryz.pinned (OpenSpec.ofChange centreMadeSpec)

/-- ITS FALSE NEIGHBOUR: 'it returns false'. Refute it at one input. -/
def centreMadeWrong : ChangeSpec := { name := "centreMade", fn := fun _ => fun
  | [d1, d2, d3] => { results := [.lit (.bool false)], args := [d1, d2, d3] }
  | _ => none }
def CentreMadeWrongFalsely : Prop := centreMadeRow.holds Tryz.pinned (OpenSpec.ofChange centreMadeWrong)

/-- 'batchlinelaw41.CentreRepeats': WHATEVER THE INPUT: true; the input reads as it did. -/
def centreRepeatsSpec : ChangeSpec := { name := "centreRepeats", fn := fun _ => fun
  | [d] => { results := [.lit (.bool true)], args := [d] }
  | _ => none }
def centreRepeatsRow : OpenClaim := { program := "ytnkfkceghbkkkaagreat", sum := "cd49cd7afff8a0758e2526d001a4ba93f53213ce04502a0b4841ce09f0cd7dd7", func := "batchline/batchlinelaw41.CentreRepeats", spec := "centreRepeats", inPlace := ["slices.overlaps[batchline/api.Telegram]", "internal/bytealg.abigen_runtime_cmpstring"], unfollowed := true, recurses := true, apart := false }
def CentreRepeatsSaid : Prop := centreRepeatsRow.holds Tryz.pinned (OpenSpec.ofChange centreRepeatsSpec)

/-- ITS FALSE NEIGHBOUR: 'it returns false'. Refute it at one input. -/
def centreRepeatsWrong : ChangeSpec := { name := "centreRepeats", fn := fun _ => fun
  | [d] => { results := [.lit (.bool false)], args := [d] }
  | _ => none }
def CentreRepeatsWrongFalsely : Prop := centreRepeatsRow.holds Tryz.pinned (OpenSpec.ofChange centreRepeatsWrong)

/- THE SECOND FORM. 'bulk': how many values and letters a reading holds, each counted each time it is reached (what is shared counts as often as it is met; a slice's spare places count too). A statement '..UptoSaid' is the law's where the arguments, and the package variables that the reading takes, are together of bulk at most 1048576: NARROWER than '..Said'. Prove '..Said' where nothing that the law and all that it calls make is longer than what came in: it says more and counts as full. Else prove '..UptoSaid'. A law counts once. -/
mutual
def uptoBulk {H : Type} : DataW H → Nat
  | .lit (.string bytes) => bytes.length + 1
  | .lit _ => 1
  | .nil => 1
  | .ptr d => uptoBulk d + 1
  | .slice elems spare => uptoBulkAll elems + uptoBulkAll spare + 1
  | .agg parts => uptoBulkAll parts + 1
  | .iface _ d => uptoBulk d + 1
  | .map entries => uptoBulkEntries entries + 1
  | .held _ => 1
def uptoBulkAll {H : Type} : List (DataW H) → Nat
  | [] => 0
  | d :: r => uptoBulk d + uptoBulkAll r
def uptoBulkEntries {H : Type} : List (Lit × DataW H) → Nat
  | [] => 0
  | x :: r => uptoBulkEntry x + uptoBulkEntries r
def uptoBulkEntry {H : Type} : Lit × DataW H → Nat
  | (.string bytes, d) => bytes.length + uptoBulk d + 1
  | (_, d) => uptoBulk d + 1
 end
def uptoSmall : (H : Type) → List (DataW H) → Bool := fun _ ds => decide (uptoBulkAll ds ≤ 1048576)
def OpenSpec.upto (s : _root_.Go.ChangeSpec) : _root_.Go.OpenSpec := { _root_.Go.OpenSpec.ofChange s with cond := some uptoSmall }

/-- 'batchlinelaw41.CentreBytes', WHERE WHAT IT READS IS OF BULK AT MOST 1048576: true; the input reads as it did. -/
def centreBytesUptoRow : OpenClaim := { program := "ytnkfkceghbkkkaagreat", sum := "cd49cd7afff8a0758e2526d001a4ba93f53213ce04502a0b4841ce09f0cd7dd7", func := "batchline/batchlinelaw41.CentreBytes", spec := "centreBytes", inPlace := ["slices.overlaps[batchline/api.Telegram]", "internal/bytealg.abigen_runtime_cmpstring"], unfollowed := true, recurses := true, apart := false, narrowed := true }
def CentreBytesUptoSaid : Prop := centreBytesUptoRow.holds Tryz.pinned (OpenSpec.upto centreBytesSpec)

/-- 'batchlinelaw41.CentreRestarts', WHERE WHAT IT READS IS OF BULK AT MOST 1048576: true; the input reads as it did. -/
def centreRestartsUptoRow : OpenClaim := { program := "ytnkfkceghbkkkaagreat", sum := "cd49cd7afff8a0758e2526d001a4ba93f53213ce04502a0b4841ce09f0cd7dd7", func := "batchline/batchlinelaw41.CentreRestarts", spec := "centreRestarts", inPlace := ["slices.overlaps[batchline/api.Telegram]", "internal/bytealg.abigen_runtime_cmpstring"], unfollowed := true, recurses := true, apart := false, narrowed := true }
def CentreRestartsUptoSaid : Prop := centreRestartsUptoRow.holds Tryz.pinned (OpenSpec.upto centreRestartsSpec)

/-- 'batchlinelaw41.CentreFolds', WHERE WHAT IT READS IS OF BULK AT MOST 1048576: true; the input reads as it did. -/
def centreFoldsUptoRow : OpenClaim := { program := "ytnkfkceghbkkkaagreat", sum := "cd49cd7afff8a0758e2526d001a4ba93f53213ce04502a0b4841ce09f0cd7dd7", func := "batchline/batchlinelaw41.CentreFolds", spec := "centreFolds", inPlace := ["slices.overlaps[batchline/api.Telegram]", "internal/bytealg.abigen_runtime_cmpstring"], unfollowed := true, recurses := true, apart := false, narrowed := true }
def CentreFoldsUptoSaid : Prop := centreFoldsUptoRow.holds Tryz.pinned (OpenSpec.upto centreFoldsSpec)

/-- 'batchlinelaw41.CentreMade', WHERE WHAT IT READS IS OF BULK AT MOST 1048576: true; the input reads as it did. -/
def centreMadeUptoRow : OpenClaim := { program := "ytnkfkceghbkkkaagreat", sum := "cd49cd7afff8a0758e2526d001a4ba93f53213ce04502a0b4841ce09f0cd7dd7", func := "batchline/batchlinelaw41.CentreMade", spec := "centreMade", inPlace := ["slices.overlaps[batchline/api.Telegram]", "internal/bytealg.abigen_runtime_cmpstring"], unfollowed := true, recurses := true, apart := false, narrowed := true }
def CentreMadeUptoSaid : Prop := centreMadeUptoRow.holds Tryz.pinned (OpenSpec.upto centreMadeSpec)

/-- 'batchlinelaw41.CentreRepeats', WHERE WHAT IT READS IS OF BULK AT MOST 1048576: true; the input reads as it did. -/
def centreRepeatsUptoRow : OpenClaim := { program := "ytnkfkceghbkkkaagreat", sum := "cd49cd7afff8a0758e2526d001a4ba93f53213ce04502a0b4841ce09f0cd7dd7", func := "batchline/batchlinelaw41.CentreRepeats", spec := "centreRepeats", inPlace := ["slices.overlaps[batchline/api.Telegram]", "internal/bytealg.abigen_runtime_cmpstring"], unfollowed := true, recurses := true, apart := false, narrowed := true }
def CentreRepeatsUptoSaid : Prop := centreRepeatsUptoRow.holds Tryz.pinned (OpenSpec.upto centreRepeatsSpec)

end Rows
end Go.Proofs.YtnkfkceghbkkkaaGreat
