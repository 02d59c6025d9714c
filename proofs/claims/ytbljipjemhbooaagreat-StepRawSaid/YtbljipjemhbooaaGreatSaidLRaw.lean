/- The law StepRaw, from its contract. No condition. -/
import Derived.Test.YtbljipjemhbooaaGreatRows
import Derived.Test.YtbljipjemhbooaaGreatSa0
import Derived.Test.YtbljipjemhbooaaGreatSqZ
import Derived.WalkKit
import Derived.ProofKit
import Derived.OpenShut
import Derived.Lib.SmallJoins
namespace Go.Proofs.YtbljipjemhbooaaGreat.stepRaw
open Go.ChangeShapes Go.WideShapes Go.ChangeAt Go.RowKit Go.Sq Go.Joins
set_option linter.unusedVariables false

theorem own : ownKnob Tryz.prog.godebug = none := by kernel_rfl

set_option maxRecDepth 100000 in
theorem lifted (os : Os) (started : os.Started) (H : Type) (enc : TypeId × Value → H) :
    ReturnsInHanded {} Tryz.checked os 4 .any (Rows.stepRawSpec.pre6 enc Tryz.prog Tryz.f4 Rows.stepRawRow.domain false) (Rows.stepRawSpec.post enc Tryz.prog Tryz.f4 false true false false) := by
  refine returnsInHanded_of_change (C := Tryz.checked) own started (by kernel_rfl) Tryz.func4
    (ChangeSpec.witness6 (enc := enc) (C := Tryz.checked) false ⟨#[], #[.slice none 0 0, .agg #[.int .i64 0, .int .i64 0, .int .i64 0, .int .i64 0, .int .i64 0, .slice none 0 0, .int .i64 0]], []⟩ 8 (by kernel_rfl) (by kernel_rfl) (by kernel_rfl) (by kernel_rfl)) ?_
  intro W base args ds gs before hval0 hW hcnd _
  have hval : ∀ (j : Nat) t v, Tryz.f4.params[j]? = some t → args[j]? = some v → Value.okWide Tryz.prog W .any base t v := hval0
  have hW' := hW
  obtain ⟨p, q, hA0, hV, rfl, hfz, hnd⟩ := hW
  have hA : DataW.TrodAll enc Tryz.prog W 0 (fun _ => true) true Tryz.f4.params.toList args.toList ds p := hA0
  rw [Tryz.params4] at hA hval
  obtain ⟨v0, vs0, d0, ds0, p0, q0, hargs, rfl, rfl, h0, r0⟩ := trodAll_cons hA
  obtain ⟨v1, vs1, d1, ds1, p1, q1, rfl, rfl, rfl, h1, r1⟩ := trodAll_cons r0
  obtain ⟨rfl, rfl, rfl⟩ := trodAll_nil r1
  obtain rfl : args = #[v0, v1] := by cases args; simp_all
  obtain ⟨rfl, rfl⟩ := trodVars_none hV
  obtain ⟨l0, D0, n0, b0⟩ := den_ints Tryz.underlying22 Tryz.underlying3 (by kernel_rfl) (hval 0 22 v0 rfl rfl) h0
  obtain ⟨l1, D1, b1⟩ := den_data (τ := .pair (.int .i64) (.pair (.int .i64) (.pair (.int .i64) (.pair (.int .i64) (.pair (.int .i64) (.pair (.sl (.pair (.int .i64) (.bool))) (.int .i64))))))) (HasTy.struct Tryz.underlying48 (by kernel_rfl) (.more rfl (by kernel_rfl) (HasTy.int Tryz.underlying3) (.more rfl (by kernel_rfl) (HasTy.int Tryz.underlying3) (.two rfl (by kernel_rfl) (HasTy.int Tryz.underlying3) rfl (by kernel_rfl) (HasTy.struct Tryz.underlying46 (by kernel_rfl) (.more rfl (by kernel_rfl) (HasTy.int Tryz.underlying3) (.more rfl (by kernel_rfl) (HasTy.int Tryz.underlying3) (.two rfl (by kernel_rfl) (HasTy.sl Tryz.underlying44 (by kernel_rfl) (by decide) (HasTy.struct Tryz.underlying78 (by kernel_rfl) (.two rfl (by kernel_rfl) (HasTy.int Tryz.underlying3) rfl (by kernel_rfl) (HasTy.bool Tryz.underlying4)))) rfl (by kernel_rfl) (HasTy.int Tryz.underlying3))))))))) (hval 1 48 v1 rfl rfl) h1
  exact law_post (e := fn_law26_StepRaw) (x := (l0, l1)) (y := true) (by kernel_rfl) (by kernel_rfl) (by kernel_rfl) Tryz.underlying4 rfl rfl hW' ok_law26_StepRaw rfl rfl rfl rfl (raw_true l0 b0 l1) rfl
    (fun i v hv => by
      rcases i with _ | _ | i
      · have hq := Option.some.inj (show some _ = some v from hv)
        subst hq
        show Den _ _ _ _ (.v (.sl (.int .i64)) l0) _
        exact .v D0
      · have hq := Option.some.inj (show some _ = some v from hv)
        subst hq
        show Den _ _ _ _ (.v (.pair (.int .i64) (.pair (.int .i64) (.pair (.int .i64) (.pair (.int .i64) (.pair (.int .i64) (.pair (.sl (.pair (.int .i64) (.bool))) (.int .i64))))))) l1) _
        exact .v D1
      · simp at hv)

theorem over : Rows.stepRawRow.holds Tryz.pinned (OpenSpec.ofChange Rows.stepRawSpec) :=
  OpenClaim.holds_of_wide 4 Tryz.f4 rfl rfl rfl rfl rfl rfl rfl ⟨rfl, rfl, rfl, rfl, rfl⟩ rfl rfl rfl rfl rfl (by kernel_rfl) Tryz.func4 (by kernel_rfl)
    (of_decide_eq_true (by kernel_rfl)) (by unfold Func.isWrapper; first | (rw [if_pos (by decide +kernel)]; kernel_rfl) | (rw [if_neg (by decide +kernel)]; exact ⟨rfl, rfl⟩))
    (fun os started H enc _ => lifted os started H enc)

theorem proved : Rows.StepRawSaid :=
  over
end Go.Proofs.YtbljipjemhbooaaGreat.stepRaw
