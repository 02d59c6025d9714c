/- The law ValveRaw, from its contract. No condition. -/
import Derived.Test.YtjbfofiijdnbkaaRows
import Derived.Test.YtjbfofiijdnbkaaVal
import Derived.Test.YtjbfofiijdnbkaaSpL
import Derived.WalkKit
import Derived.ProofKit
import Derived.OpenShut
import Derived.Lib.SmallJoins
namespace Go.Proofs.Ytjbfofiijdnbkaa.valveRaw
open Go.ChangeShapes Go.WideShapes Go.ChangeAt Go.RowKit Go.Sp Go.Joins
set_option linter.unusedVariables false

theorem own : ownKnob Try.prog.godebug = none := by kernel_rfl

set_option maxRecDepth 100000 in
theorem lifted (os : Os) (started : os.Started) (H : Type) (enc : TypeId × Value → H) :
    ReturnsInHanded {} Try.checked os 5 .any (Rows.valveRawSpec.pre6 enc Try.prog Try.f5 Rows.valveRawRow.domain false) (Rows.valveRawSpec.post enc Try.prog Try.f5 false true false false) := by
  refine returnsInHanded_of_change (C := Try.checked) own started (by kernel_rfl) Try.func5
    (ChangeSpec.witness6 (enc := enc) (C := Try.checked) false ⟨#[], #[.agg #[.int .i64 0, .int .i64 0, .bool false, .bool false], .bool false, .int .i64 0, .bool false], []⟩ 8 (by kernel_rfl) (by kernel_rfl) (by kernel_rfl) (by kernel_rfl)) ?_
  intro W base args ds gs before hval0 hW hcnd _
  have hval : ∀ (j : Nat) t v, Try.f5.params[j]? = some t → args[j]? = some v → Value.okWide Try.prog W .any base t v := hval0
  have hW' := hW
  obtain ⟨p, q, hA0, hV, rfl, hfz, hnd⟩ := hW
  have hA : DataW.TrodAll enc Try.prog W 0 (fun _ => true) true Try.f5.params.toList args.toList ds p := hA0
  rw [Try.params5] at hA hval
  obtain ⟨v0, vs0, d0, ds0, p0, q0, hargs, rfl, rfl, h0, r0⟩ := trodAll_cons hA
  obtain ⟨v1, vs1, d1, ds1, p1, q1, rfl, rfl, rfl, h1, r1⟩ := trodAll_cons r0
  obtain ⟨v2, vs2, d2, ds2, p2, q2, rfl, rfl, rfl, h2, r2⟩ := trodAll_cons r1
  obtain ⟨v3, vs3, d3, ds3, p3, q3, rfl, rfl, rfl, h3, r3⟩ := trodAll_cons r2
  obtain ⟨rfl, rfl, rfl⟩ := trodAll_nil r3
  obtain rfl : args = #[v0, v1, v2, v3] := by cases args; simp_all
  obtain ⟨rfl, rfl⟩ := trodVars_none hV
  obtain ⟨e0_0, e0_1, e0_2, e0_3, y0_0, y0_1, y0_2, y0_3, _, rfl, rfl, rfl, t0_0, t0_1, t0_2, t0_3⟩ := open_agg4 Try.underlying26 (by kernel_rfl) (by kernel_rfl) (hval 0 26 v0 rfl rfl) h0
  obtain ⟨a0_0, rfl, w0_0⟩ := trodI Try.underlying3 t0_0
  have b0_0 := wf_i64 w0_0
  obtain ⟨a0_1, rfl, w0_1⟩ := trodI Try.underlying3 t0_1
  have b0_1 := wf_i64 w0_1
  obtain ⟨a0_2, rfl⟩ := trodB Try.underlying4 t0_2
  obtain ⟨a0_3, rfl⟩ := trodB Try.underlying4 t0_3
  obtain ⟨a1, rfl, rfl, rfl⟩ := open_bool Try.underlying4 (hval 1 4 v1 rfl rfl) h1
  obtain ⟨a2, rfl, rfl, rfl, w2⟩ := open_int Try.underlying3 (hval 2 3 v2 rfl rfl) h2
  have b2 := wf_i64 w2
  obtain ⟨a3, rfl, rfl, rfl⟩ := open_bool Try.underlying4 (hval 3 4 v3 rfl rfl) h3
  exact law_post (svs := [(⟨a0_0, a0_1, a0_2, a0_3⟩ : Valve).sv, .b a1, .i a2, .b a3]) (by kernel_rfl) (by kernel_rfl) (by kernel_rfl) Try.underlying4 rfl rfl hW' (valveRaw_ok ⟨a0_0, a0_1, a0_2, a0_3⟩ a1 a2 a3 ⟨b0_0.1, b0_0.2, b0_1.1, b0_1.2⟩ b2) rfl
    (denAll_cons (.agg rfl (denAll_cons (.val _) (denAll_cons (.val _) (denAll_cons (.val _) (denAll_cons (.val _) (denAll_nil)))))) (denAll_cons (.val _) (denAll_cons (.val _) (denAll_cons (.val _) (denAll_nil)))))

theorem over : Rows.valveRawRow.holds Try.pinned (OpenSpec.ofChange Rows.valveRawSpec) :=
  OpenClaim.holds_of_wide 5 Try.f5 rfl rfl rfl rfl rfl rfl rfl ⟨rfl, rfl, rfl, rfl, rfl⟩ rfl rfl rfl rfl rfl (by kernel_rfl) Try.func5 (by kernel_rfl)
    (of_decide_eq_true (by kernel_rfl)) (by unfold Func.isWrapper; first | (rw [if_pos (by decide +kernel)]; kernel_rfl) | (rw [if_neg (by decide +kernel)]; exact ⟨rfl, rfl⟩))
    (fun os started H enc _ => lifted os started H enc)

theorem proved : Rows.ValveRawSaid :=
  over
end Go.Proofs.Ytjbfofiijdnbkaa.valveRaw
