/- The law AllocateMade, from its contract. No condition. -/
import Derived.Test.YtmleldfhkangbaaRows
import Derived.Test.YtmleldfhkangbaaAm1
import Derived.Test.YtmleldfhkangbaaSqZ
import Derived.WalkKit
import Derived.ProofKit
import Derived.OpenShut
import Derived.Lib.SmallJoins
namespace Go.Proofs.Ytmleldfhkangbaa.allocateMade
open Go.ChangeShapes Go.WideShapes Go.ChangeAt Go.RowKit Go.Sq Go.Joins
set_option linter.unusedVariables false

theorem own : ownKnob Try.prog.godebug = none := by kernel_rfl

set_option maxRecDepth 100000 in
theorem lifted (os : Os) (started : os.Started) (H : Type) (enc : TypeId × Value → H) :
    ReturnsInHanded {} Try.checked os 8 .any (Rows.allocateMadeSpec.pre6 enc Try.prog Try.f8 Rows.allocateMadeRow.domain false) (Rows.allocateMadeSpec.post enc Try.prog Try.f8 false true false false) := by
  refine returnsInHanded_of_change (C := Try.checked) own started (by kernel_rfl) Try.func8
    (ChangeSpec.witness6 (enc := enc) (C := Try.checked) false ⟨#[], #[.slice none 0 0, .slice none 0 0, .int .i64 0, .int .i64 0], []⟩ 8 (by kernel_rfl) (by kernel_rfl) (by kernel_rfl) (by kernel_rfl)) ?_
  intro W base args ds gs before hval0 hW hcnd _
  have hval : ∀ (j : Nat) t v, Try.f8.params[j]? = some t → args[j]? = some v → Value.okWide Try.prog W .any base t v := hval0
  have hW' := hW
  obtain ⟨p, q, hA0, hV, rfl, hfz, hnd⟩ := hW
  have hA : DataW.TrodAll enc Try.prog W 0 (fun _ => true) true Try.f8.params.toList args.toList ds p := hA0
  rw [Try.params8] at hA hval
  obtain ⟨v0, vs0, d0, ds0, p0, q0, hargs, rfl, rfl, h0, r0⟩ := trodAll_cons hA
  obtain ⟨v1, vs1, d1, ds1, p1, q1, rfl, rfl, rfl, h1, r1⟩ := trodAll_cons r0
  obtain ⟨v2, vs2, d2, ds2, p2, q2, rfl, rfl, rfl, h2, r2⟩ := trodAll_cons r1
  obtain ⟨v3, vs3, d3, ds3, p3, q3, rfl, rfl, rfl, h3, r3⟩ := trodAll_cons r2
  obtain ⟨rfl, rfl, rfl⟩ := trodAll_nil r3
  obtain rfl : args = #[v0, v1, v2, v3] := by cases args; simp_all
  obtain ⟨rfl, rfl⟩ := trodVars_none hV
  obtain ⟨l0, D0, n0, b0⟩ := den_ints Try.underlying22 Try.underlying3 (by kernel_rfl) (hval 0 22 v0 rfl rfl) h0
  obtain ⟨l1, D1, b1⟩ := den_data (τ := .sl (.pair (.str) (.pair (.int .i64) (.int .i64)))) (HasTy.sl Try.underlying27 (by kernel_rfl) (by decide) (HasTy.struct Try.underlying35 (by kernel_rfl) (.more rfl (by kernel_rfl) (HasTy.str Try.underlying9) (.two rfl (by kernel_rfl) (HasTy.int Try.underlying3) rfl (by kernel_rfl) (HasTy.int Try.underlying3))))) (hval 1 27 v1 rfl rfl) h1
  obtain ⟨a2, rfl, rfl, rfl, w2⟩ := open_int Try.underlying3 (hval 2 3 v2 rfl rfl) h2
  have b2 : (-9223372036854775808 : Int) ≤ a2 ∧ a2 ≤ 9223372036854775807 := by simpa [Lit.wf, IntKind.min, IntKind.max, IntKind.signed, IntKind.bits] using w2
  obtain ⟨a3, rfl, rfl, rfl, w3⟩ := open_int Try.underlying3 (hval 3 3 v3 rfl rfl) h3
  have b3 : (-9223372036854775808 : Int) ≤ a3 ∧ a3 ≤ 9223372036854775807 := by simpa [Lit.wf, IntKind.min, IntKind.max, IntKind.signed, IntKind.bits] using w3
  exact law_post (e := fn_law38_AllocateMade) (x := (l0, l1, a2, a3)) (y := true) (by kernel_rfl) (by kernel_rfl) (by kernel_rfl) Try.underlying4 rfl rfl hW' ok_law38_AllocateMade rfl rfl rfl rfl (made_true b0 b2 b3) rfl
    (fun i v hv => by
      rcases i with _ | _ | _ | _ | i
      · have hq := Option.some.inj (show some _ = some v from hv)
        subst hq
        show Den _ _ _ _ (.v (.sl (.int .i64)) l0) _
        exact .v D0
      · have hq := Option.some.inj (show some _ = some v from hv)
        subst hq
        show Den _ _ _ _ (.v (.sl (.pair (.str) (.pair (.int .i64) (.int .i64)))) l1) _
        exact .v D1
      · have hq := Option.some.inj (show some _ = some v from hv)
        subst hq
        show Den _ _ _ _ (.v (.int .i64) a2) _
        exact .v ⟨_, rfl, rfl⟩
      · have hq := Option.some.inj (show some _ = some v from hv)
        subst hq
        show Den _ _ _ _ (.v (.int .i64) a3) _
        exact .v ⟨_, rfl, rfl⟩
      · simp at hv)

theorem over : Rows.allocateMadeRow.holds Try.pinned (OpenSpec.ofChange Rows.allocateMadeSpec) :=
  OpenClaim.holds_of_wide 8 Try.f8 rfl rfl rfl rfl rfl rfl rfl ⟨rfl, rfl, rfl, rfl, rfl⟩ rfl rfl rfl rfl rfl (by kernel_rfl) Try.func8 (by kernel_rfl)
    (of_decide_eq_true (by kernel_rfl)) (by unfold Func.isWrapper; first | (rw [if_pos (by decide +kernel)]; kernel_rfl) | (rw [if_neg (by decide +kernel)]; exact ⟨rfl, rfl⟩))
    (fun os started H enc _ => lifted os started H enc)

theorem proved : Rows.AllocateMadeSaid :=
  over
end Go.Proofs.Ytmleldfhkangbaa.allocateMade
