/- The law ProductAnswers, from its contract: its row, and the card. The row's own condition: the listed package variable holds what the program's text lays (the card ties it). -/
import Derived.Test.YtihbfecdccamoaaGreatDoorRows
import Derived.Test.YtihbfecdccamoaaGreatDoorCards
import Derived.Test.YtihbfecdccamoaaGreatDoorTie
import Derived.Test.YtihbfecdccamoaaGreatDoorPr10
import Derived.Test.YtihbfecdccamoaaGreatDoorLd
import Derived.Test.YtihbfecdccamoaaGreatDoorSqZ
import Derived.WalkKit
import Derived.ProofKit
import Derived.OpenShut
import Derived.Lib.SmallJoins
import Derived.LaidLaws
import Derived.LaidHandle
import Derived.RowKitTokens
import Derived.ChangeVars
import Derived.SevenTiedAt
namespace Go.Proofs.YtihbfecdccamoaaGreatDoor.productAnswers
open Go.ChangeShapes Go.WideShapes Go.ChangeAt Go.RowKit Go.Sq Go.Joins
set_option linter.unusedVariables false

theorem own : ownKnob Tryz.prog.godebug = none := by kernel_rfl

theorem glob_ok {W : World} (h : laidMetH Tryz.prog Rows.productAnswersRow.laid W) : GlobOk (fun g => g < W.heap.size) W := Ld.glob_ok h
theorem laid_heap {w w' : World} (hh : w.heap = w'.heap) (h : laidMetH Tryz.prog Rows.productAnswersRow.laid w) : laidMetH Tryz.prog Rows.productAnswersRow.laid w' := Ld.laid_heap hh h
noncomputable def laidWorld (os : Os) : World := Ld.laidWorld os
theorem laidWorld_met (os : Os) (args : Array Value) : laidMetH Tryz.prog Rows.productAnswersRow.laid ((laidWorld os).forCall (fun _ _ => 0) ⟨#[], args, []⟩).memory := Ld.laidWorld_met os args

set_option maxRecDepth 100000 in
theorem lifted (os : Os) (started : os.Started) (H : Type) (enc : TypeId × Value → H) :
    ReturnsInHanded {} Tryz.checked os 3 .any (fun w args => (Rows.productAnswersSpec.pre enc Tryz.prog Tryz.f3 [] false w args ∧ laidMetH Tryz.prog Rows.productAnswersRow.laid w) ∧ sizedMet enc Tryz.prog Tryz.f3 (OpenSpec.ofChange Rows.productAnswersSpec) false w args) (Rows.productAnswersSpec.post enc Tryz.prog Tryz.f3 false true false false) := by
  refine returnsInHanded_of_change_and (C := Tryz.checked) (X := fun w _ => laidMetH Tryz.prog Rows.productAnswersRow.laid w) (fun _ _ _ hh h => laid_heap hh h) own started (by kernel_rfl) Tryz.func3
    (ChangeSpec.witness_at (enc := enc) (C := Tryz.checked) (os := os) (X := fun w _ => laidMetH Tryz.prog Rows.productAnswersRow.laid w) false (laidWorld os) #[.slice none 0 0, .string ⟨#[]⟩, .string ⟨#[]⟩, .slice none 0 0] 8 rfl (by kernel_rfl) (by kernel_rfl) (by kernel_rfl) (by kernel_rfl) (by kernel_rfl)
      (laidWorld_met os #[.slice none 0 0, .string ⟨#[]⟩, .string ⟨#[]⟩, .slice none 0 0])) ?_
  intro W base args ds gs before hval0 hW hcnd _ hL _
  have hval : ∀ (j : Nat) t v, Tryz.f3.params[j]? = some t → args[j]? = some v → Value.okWide Tryz.prog W .any base t v := hval0
  have hW' := hW
  obtain ⟨p, q, hA0, hV, rfl, hfz, hnd⟩ := hW
  have hA : DataW.TrodAll enc Tryz.prog W 0 (fun _ => true) true Tryz.f3.params.toList args.toList ds p := hA0
  rw [Tryz.params3] at hA hval
  obtain ⟨v0, vs0, d0, ds0, p0, q0, hargs, rfl, rfl, h0, r0⟩ := trodAll_cons hA
  obtain ⟨v1, vs1, d1, ds1, p1, q1, rfl, rfl, rfl, h1, r1⟩ := trodAll_cons r0
  obtain ⟨v2, vs2, d2, ds2, p2, q2, rfl, rfl, rfl, h2, r2⟩ := trodAll_cons r1
  obtain ⟨v3, vs3, d3, ds3, p3, q3, rfl, rfl, rfl, h3, r3⟩ := trodAll_cons r2
  obtain ⟨rfl, rfl, rfl⟩ := trodAll_nil r3
  obtain rfl : args = #[v0, v1, v2, v3] := by cases args; simp_all
  obtain ⟨rfl, rfl⟩ := trodVars_none hV
  obtain ⟨l0, D0, b0⟩ := den_data (τ := .sl (.pair (.str) (.pair (.int .i64) (.pair (.int .i64) (.pair (.int .i64) (.int .i64)))))) (HasTy.sl Tryz.underlying22 (by kernel_rfl) (by decide) (HasTy.struct Tryz.underlying26 (by kernel_rfl) (.more rfl (by kernel_rfl) (HasTy.str Tryz.underlying9) (.more rfl (by kernel_rfl) (HasTy.int Tryz.underlying3) (.more rfl (by kernel_rfl) (HasTy.int Tryz.underlying3) (.two rfl (by kernel_rfl) (HasTy.int Tryz.underlying3) rfl (by kernel_rfl) (HasTy.int Tryz.underlying3))))))) (hval 0 22 v0 rfl rfl) h0
  obtain ⟨l1, D1, b1⟩ := den_data (τ := .str) (HasTy.str Tryz.underlying9) (hval 1 9 v1 rfl rfl) h1
  obtain ⟨l2, D2, b2⟩ := den_data (τ := .str) (HasTy.str Tryz.underlying9) (hval 2 9 v2 rfl rfl) h2
  obtain ⟨l3, D3, n3, b3⟩ := den_ints Tryz.underlying23 Tryz.underlying3 (by kernel_rfl) (hval 3 23 v3 rfl rfl) h3
  exact law_post (e := fn_law04_ProductAnswers) (x := (l0, l1, l2, l3)) (y := true) (by kernel_rfl) (by kernel_rfl) (by kernel_rfl) Tryz.underlying4 rfl rfl hW' ok_law04_ProductAnswers rfl rfl rfl rfl (answers_true l0 l1 l2 b3) rfl
    (fun i v hv => by
      rcases i with _ | _ | _ | _ | i
      · have hq := Option.some.inj (show some _ = some v from hv)
        subst hq
        show Den _ _ _ _ (.v (.sl (.pair (.str) (.pair (.int .i64) (.pair (.int .i64) (.pair (.int .i64) (.int .i64)))))) l0) _
        exact .v D0
      · have hq := Option.some.inj (show some _ = some v from hv)
        subst hq
        show Den _ _ _ _ (.v (.str) l1) _
        exact .v D1
      · have hq := Option.some.inj (show some _ = some v from hv)
        subst hq
        show Den _ _ _ _ (.v (.str) l2) _
        exact .v D2
      · have hq := Option.some.inj (show some _ = some v from hv)
        subst hq
        show Den _ _ _ _ (.v (.sl (.int .i64)) l3) _
        exact .v D3
      · simp at hv) (glob_ok hL)

theorem row : Rows.ProductAnswersSaid :=
  OpenClaim.holds_of_wide 3 Tryz.f3 rfl rfl rfl rfl rfl rfl rfl ⟨rfl, rfl, rfl, rfl, rfl⟩ rfl rfl rfl rfl rfl (by kernel_rfl) Tryz.func3 (by kernel_rfl)
    (of_decide_eq_true (by kernel_rfl)) (by unfold Func.isWrapper; first | (rw [if_pos (by decide +kernel)]; kernel_rfl) | (rw [if_neg (by decide +kernel)]; exact ⟨rfl, rfl⟩))
    (fun os started H enc _ => lifted os started H enc)

theorem wants : ∀ t, t ∈ [22, 9, 9, 23] → Tryz.prog.wantsStandIn t = false := by
  intro t ht
  simp only [List.mem_cons, List.not_mem_nil, or_false] at ht
  rcases ht with rfl | rfl | rfl | rfl <;> kernel_rfl
theorem proved : Rows.ProductAnswersCardSaid :=
  Claim7.holds_tied_plain_at .later [] [.data, .data, .data, .data, .sentinel, .sentinel, .data, .pinned] true (true, "6383426b498ccc8e0155d8c5b133db42a58f0cd12371f02717baba998c51ef43") true
    row (fun _ h => by cases h) (by kernel_rfl) (fun _ h => by cases h) productAnswers_row_tie rfl ⟨rfl, rfl⟩ (by kernel_rfl) rfl
    (fun f fn hf hfn => by
      obtain rfl : f = 3 := Option.some.inj ((show Tryz.prog.funcNamed Rows.productAnswersRow.func = some 3 by kernel_rfl).symm.trans hf) |>.symm
      obtain rfl : fn = Tryz.f3 := (Option.some.inj (Tryz.func3.symm.trans hfn)).symm
      exact ⟨by kernel_rfl, fun j t ht => wants t (by
        rw [Tryz.params3] at ht
        have := Array.mem_of_getElem? ht
        simpa using this)⟩)
    (by kernel_rfl)
end Go.Proofs.YtihbfecdccamoaaGreatDoor.productAnswers
