/- The law LotsMade, from its contract: its row, and the card. The row's own condition: the listed package variable holds what the program's text lays (the card ties it). -/
import Derived.Test.YtiojagjejddocaaGreatDoorRows
import Derived.Test.YtiojagjejddocaaGreatDoorCards
import Derived.Test.YtiojagjejddocaaGreatDoorTie
import Derived.Test.YtiojagjejddocaaGreatDoorLm6
import Derived.Test.YtiojagjejddocaaGreatDoorLd
import Derived.Test.YtiojagjejddocaaGreatDoorSqZ
import Derived.WalkKit
import Derived.ProofKit
import Derived.OpenShut
import Derived.Lib.SmallJoins
import Derived.LaidLaws
import Derived.LaidHandle
import Derived.RowKitTokens
import Derived.ChangeVars
import Derived.SevenTiedAt
namespace Go.Proofs.YtiojagjejddocaaGreatDoor.lotsMade
open Go.ChangeShapes Go.WideShapes Go.ChangeAt Go.RowKit Go.Sq Go.Joins
set_option linter.unusedVariables false

theorem own : ownKnob Tryz.prog.godebug = none := by kernel_rfl

theorem glob_ok {W : World} (h : laidMetH Tryz.prog Rows.lotsMadeRow.laid W) : GlobOk (fun g => g < W.heap.size) W := Ld.glob_ok h
theorem laid_heap {w w' : World} (hh : w.heap = w'.heap) (h : laidMetH Tryz.prog Rows.lotsMadeRow.laid w) : laidMetH Tryz.prog Rows.lotsMadeRow.laid w' := Ld.laid_heap hh h
noncomputable def laidWorld (os : Os) : World := Ld.laidWorld os
theorem laidWorld_met (os : Os) (args : Array Value) : laidMetH Tryz.prog Rows.lotsMadeRow.laid ((laidWorld os).forCall (fun _ _ => 0) ⟨#[], args, []⟩).memory := Ld.laidWorld_met os args

set_option maxRecDepth 100000 in
theorem lifted (os : Os) (started : os.Started) (H : Type) (enc : TypeId × Value → H) :
    ReturnsInHanded {} Tryz.checked os 5 .any (fun w args => (Rows.lotsMadeSpec.pre enc Tryz.prog Tryz.f5 [] false w args ∧ laidMetH Tryz.prog Rows.lotsMadeRow.laid w) ∧ sizedMet enc Tryz.prog Tryz.f5 (OpenSpec.ofChange Rows.lotsMadeSpec) false w args) (Rows.lotsMadeSpec.post enc Tryz.prog Tryz.f5 false true false false) := by
  refine returnsInHanded_of_change_and (C := Tryz.checked) (X := fun w _ => laidMetH Tryz.prog Rows.lotsMadeRow.laid w) (fun _ _ _ hh h => laid_heap hh h) own started (by kernel_rfl) Tryz.func5
    (ChangeSpec.witness_at (enc := enc) (C := Tryz.checked) (os := os) (X := fun w _ => laidMetH Tryz.prog Rows.lotsMadeRow.laid w) false (laidWorld os) #[.slice none 0 0, .int .i64 0, .int .i64 0] 8 rfl (by kernel_rfl) (by kernel_rfl) (by kernel_rfl) (by kernel_rfl) (by kernel_rfl)
      (laidWorld_met os #[.slice none 0 0, .int .i64 0, .int .i64 0])) ?_
  intro W base args ds gs before hval0 hW hcnd _ hL _
  have hval : ∀ (j : Nat) t v, Tryz.f5.params[j]? = some t → args[j]? = some v → Value.okWide Tryz.prog W .any base t v := hval0
  have hW' := hW
  obtain ⟨p, q, hA0, hV, rfl, hfz, hnd⟩ := hW
  have hA : DataW.TrodAll enc Tryz.prog W 0 (fun _ => true) true Tryz.f5.params.toList args.toList ds p := hA0
  rw [Tryz.params5] at hA hval
  obtain ⟨v0, vs0, d0, ds0, p0, q0, hargs, rfl, rfl, h0, r0⟩ := trodAll_cons hA
  obtain ⟨v1, vs1, d1, ds1, p1, q1, rfl, rfl, rfl, h1, r1⟩ := trodAll_cons r0
  obtain ⟨v2, vs2, d2, ds2, p2, q2, rfl, rfl, rfl, h2, r2⟩ := trodAll_cons r1
  obtain ⟨rfl, rfl, rfl⟩ := trodAll_nil r2
  obtain rfl : args = #[v0, v1, v2] := by cases args; simp_all
  obtain ⟨rfl, rfl⟩ := trodVars_none hV
  obtain ⟨l0, D0, n0, b0⟩ := den_ints Tryz.underlying22 Tryz.underlying3 (by kernel_rfl) (hval 0 22 v0 rfl rfl) h0
  obtain ⟨a1, rfl, rfl, rfl, w1⟩ := open_int Tryz.underlying3 (hval 1 3 v1 rfl rfl) h1
  have b1 : (-9223372036854775808 : Int) ≤ a1 ∧ a1 ≤ 9223372036854775807 := by simpa [Lit.wf, IntKind.min, IntKind.max, IntKind.signed, IntKind.bits] using w1
  obtain ⟨a2, rfl, rfl, rfl, w2⟩ := open_int Tryz.underlying3 (hval 2 3 v2 rfl rfl) h2
  have b2 : (-9223372036854775808 : Int) ≤ a2 ∧ a2 ≤ 9223372036854775807 := by simpa [Lit.wf, IntKind.min, IntKind.max, IntKind.signed, IntKind.bits] using w2
  exact law_post (e := fn_law29_LotsMade) (x := (l0, a1, a2)) (y := true) (by kernel_rfl) (by kernel_rfl) (by kernel_rfl) Tryz.underlying4 rfl rfl hW' ok_law29_LotsMade rfl rfl rfl rfl (made_true b0 b1 b2) rfl
    (fun i v hv => by
      rcases i with _ | _ | _ | i
      · have hq := Option.some.inj (show some _ = some v from hv)
        subst hq
        show Den _ _ _ _ (.v (.sl (.int .i64)) l0) _
        exact .v D0
      · have hq := Option.some.inj (show some _ = some v from hv)
        subst hq
        show Den _ _ _ _ (.v (.int .i64) a1) _
        exact .v ⟨_, rfl, rfl⟩
      · have hq := Option.some.inj (show some _ = some v from hv)
        subst hq
        show Den _ _ _ _ (.v (.int .i64) a2) _
        exact .v ⟨_, rfl, rfl⟩
      · simp at hv) (glob_ok hL)

theorem row : Rows.LotsMadeSaid :=
  OpenClaim.holds_of_wide 5 Tryz.f5 rfl rfl rfl rfl rfl rfl rfl ⟨rfl, rfl, rfl, rfl, rfl⟩ rfl rfl rfl rfl rfl (by kernel_rfl) Tryz.func5 (by kernel_rfl)
    (of_decide_eq_true (by kernel_rfl)) (by unfold Func.isWrapper; first | (rw [if_pos (by decide +kernel)]; kernel_rfl) | (rw [if_neg (by decide +kernel)]; exact ⟨rfl, rfl⟩))
    (fun os started H enc _ => lifted os started H enc)

theorem wants : ∀ t, t ∈ [22, 3, 3] → Tryz.prog.wantsStandIn t = false := by
  intro t ht
  simp only [List.mem_cons, List.not_mem_nil, or_false] at ht
  rcases ht with rfl | rfl | rfl <;> kernel_rfl
theorem proved : Rows.LotsMadeCardSaid :=
  Claim7.holds_tied_plain_at .later [] [.data] true (true, "6682dd39008aadf2d100150407e15ea0a0aea1d7fab80817ede493e0f81abb5c") false
    row (fun _ h => by cases h) (by kernel_rfl) (fun _ h => by cases h) lotsMade_row_tie rfl ⟨rfl, rfl⟩ (by kernel_rfl) rfl
    (fun f fn hf hfn => by
      obtain rfl : f = 5 := Option.some.inj ((show Tryz.prog.funcNamed Rows.lotsMadeRow.func = some 5 by kernel_rfl).symm.trans hf) |>.symm
      obtain rfl : fn = Tryz.f5 := (Option.some.inj (Tryz.func5.symm.trans hfn)).symm
      exact ⟨by kernel_rfl, fun j t ht => wants t (by
        rw [Tryz.params5] at ht
        have := Array.mem_of_getElem? ht
        simpa using this)⟩)
    (by kernel_rfl)
end Go.Proofs.YtiojagjejddocaaGreatDoor.lotsMade
