/- The law ConsoleShows, from its contract: its row, and the card. The row's own condition: the listed package variable holds what the program's text lays (the card ties it). -/
import Derived.Test.YtmdijohmddokhaaGreatDoorRows
import Derived.Test.YtmdijohmddokhaaGreatDoorCards
import Derived.Test.YtmdijohmddokhaaGreatDoorTie
import Derived.Test.YtmdijohmddokhaaGreatDoorCoG
import Derived.Test.YtmdijohmddokhaaGreatDoorLd
import Derived.Test.YtmdijohmddokhaaGreatDoorSqZ
import Derived.WalkKit
import Derived.ProofKit
import Derived.OpenShut
import Derived.Lib.SmallJoins
import Derived.LaidLaws
import Derived.LaidHandle
import Derived.RowKitTokens
import Derived.ChangeVars
import Derived.SevenTiedAt
namespace Go.Proofs.YtmdijohmddokhaaGreatDoor.consoleShows
open Go.ChangeShapes Go.WideShapes Go.ChangeAt Go.RowKit Go.Sq Go.Joins
set_option linter.unusedVariables false
theorem own : ownKnob Tryz.prog.godebug = none := by kernel_rfl
theorem glob_ok {W : World} (h : laidMetH Tryz.prog Rows.consoleShowsRow.laid W) : qgQ (fun g => g < W.heap.size) W := Ld.glob_ok h
theorem laid_heap {w w' : World} (hh : w.heap = w'.heap) (h : laidMetH Tryz.prog Rows.consoleShowsRow.laid w) : laidMetH Tryz.prog Rows.consoleShowsRow.laid w' := Ld.laid_heap hh h
noncomputable def laidWorld (os : Os) : World := Ld.laidWorld os
theorem laidWorld_met (os : Os) (args : Array Value) : laidMetH Tryz.prog Rows.consoleShowsRow.laid ((laidWorld os).forCall (fun _ _ => 0) ⟨#[], args, []⟩).memory := Ld.laidWorld_met os args
set_option maxRecDepth 100000 in
theorem lifted (os : Os) (started : os.Started) (H : Type) (enc : TypeId × Value -> H) :
    ReturnsInHanded {} Tryz.checked os 4 .any (fun w args => (Rows.consoleShowsSpec.pre enc Tryz.prog Tryz.f4 [] false w args /\ laidMetH Tryz.prog Rows.consoleShowsRow.laid w) /\ sizedMet enc Tryz.prog Tryz.f4 (OpenSpec.ofChange Rows.consoleShowsSpec) false w args) (Rows.consoleShowsSpec.post enc Tryz.prog Tryz.f4 false true false false) := by
  refine returnsInHanded_of_change_and (C := Tryz.checked) (X := fun w _ => laidMetH Tryz.prog Rows.consoleShowsRow.laid w) (fun _ _ _ hh h => laid_heap hh h) own started (by kernel_rfl) Tryz.func4
    (ChangeSpec.witness_at (enc := enc) (C := Tryz.checked) (os := os) (X := fun w _ => laidMetH Tryz.prog Rows.consoleShowsRow.laid w) false (laidWorld os) #[.slice none 0 0] 8 rfl (by kernel_rfl) (by kernel_rfl) (by kernel_rfl) (by kernel_rfl) (by kernel_rfl)
      (laidWorld_met os #[.slice none 0 0])) ?_
  intro W base args ds gs before hval0 hW hcnd _ hL _;have hval : ∀ (j : Nat) t v, Tryz.f4.params[j]? = some t -> args[j]? = some v -> Value.okWide Tryz.prog W .any base t v := hval0;have hW' := hW;obtain ⟨p, q, hA0, hV, rfl, hfz, hnd⟩ := hW;have hA : DataW.TrodAll enc Tryz.prog W 0 (fun _ => true) true Tryz.f4.params.toList args.toList ds p := hA0
  rw [Tryz.params4] at hA hval;obtain ⟨v0, vs0, d0, ds0, p0, q0, hargs, rfl, rfl, h0, r0⟩ := trodAll_cons hA;obtain ⟨rfl, rfl, rfl⟩ := trodAll_nil r0;obtain rfl : args = #[v0] := by cases args; simp_all
  obtain ⟨rfl, rfl⟩ := trodVars_none hV;obtain ⟨l0, D0, n0, b0⟩ := qB0 Tryz.underlying22 Tryz.underlying3 (by kernel_rfl) (hval 0 22 v0 rfl rfl) h0
  exact qBZ (e := qhg) (x := l0) (y := true) (by kernel_rfl) (by kernel_rfl) (by kernel_rfl) Tryz.underlying4 rfl rfl hW' qmF rfl rfl rfl rfl (qzf b0) rfl
    (fun i v hv => by
      rcases i with _ | i
      · have hq := zI2 (show some _ = some v from hv)
        subst hq;show Den _ _ _ _ (.v (.sl (.int .i64)) l0) _;exact .v D0
      · simp at hv) (glob_ok hL)
theorem k1 : (Rows.consoleShowsRow.inPlace == Tryz.pinned.checked.prog.inPlace 4) = true := by kernel_rfl
theorem k2 : (Rows.consoleShowsRow.unfollowed == Tryz.pinned.checked.prog.unfollowed 4) = true := by kernel_rfl
theorem k3 : (Rows.consoleShowsRow.recurses == Tryz.pinned.checked.prog.recurses 4) = true := by kernel_rfl
theorem k4 : (Rows.consoleShowsRow.named == Tryz.pinned.checked.prog.varsNamed 4) = true := by kernel_rfl
theorem kj : joinedFacts Tryz.pinned.checked.prog 4 Tryz.f4 Rows.consoleShowsSpec Rows.consoleShowsRow = true := by
  unfold joinedFacts;rw [k1, k2, k3, k4]
  kernel_rfl
theorem row : Rows.ConsoleShowsSaid :=
  OpenClaim.holds_of_wide 4 Tryz.f4 rfl rfl rfl rfl rfl rfl rfl ⟨rfl, rfl, rfl, rfl, rfl⟩ rfl rfl rfl rfl rfl (by kernel_rfl) Tryz.func4 kj
    (zj (by kernel_rfl)) (by unfold Func.isWrapper; first | (rw [if_pos (by decide +kernel)]; kernel_rfl) | (rw [if_neg (by decide +kernel)]; exact ⟨rfl, rfl⟩))
    (fun os started H enc _ => lifted os started H enc)
theorem wants : ∀ t, t ∈ [22] -> Tryz.prog.wantsStandIn t = false := by
  intro t ht;simp only [zr, zC2, or_false] at ht;subst ht <;> kernel_rfl
theorem kl : true = Tryz.pinned.checked.prog.looks [] := by kernel_rfl
theorem kg : false = Rows.consoleShowsRow.goesBy Tryz.pinned.checked.prog := by kernel_rfl
theorem kw : Rows.consoleShowsRow.wfByText (OpenSpec.ofChange Rows.consoleShowsSpec) = true := by kernel_rfl
theorem proved : Rows.ConsoleShowsCardSaid :=
  Claim7.holds_tied_plain_at .later [] [.data, .data, .data, .data, .sentinel, .sentinel, .pinned] true (true, "1f85db96d364c7b06da4998e8b36317f97978692ff0f1d30ef075a1fa63316d4") true
    row (fun _ h => by cases h) kw (fun _ h => by cases h) consoleShows_row_tie rfl ⟨rfl, rfl⟩ (by kernel_rfl) rfl
    (fun f fn hf hfn => by
      obtain rfl : f = 4 := zI2 ((show Tryz.prog.funcNamed Rows.consoleShowsRow.func = some 4 by kernel_rfl).symm.trans hf) |>.symm
      obtain rfl : fn = Tryz.f4 := (zI2 (Tryz.func4.symm.trans hfn)).symm;exact ⟨kl, fun j t ht => wants t (by
        rw [Tryz.params4] at ht;have := Array.mem_of_getElem? ht;simpa using this)⟩)
    kg
end Go.Proofs.YtmdijohmddokhaaGreatDoor.consoleShows
