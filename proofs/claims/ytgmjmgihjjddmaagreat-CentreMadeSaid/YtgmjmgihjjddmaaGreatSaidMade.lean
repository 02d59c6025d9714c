/- The law CentreMade, from its contract. No condition. -/
import Derived.Test.YtgmjmgihjjddmaaGreatRows
import Derived.Test.YtgmjmgihjjddmaaGreatCma
import Derived.Test.YtgmjmgihjjddmaaGreatSqZ
import Derived.WalkKit
import Derived.ProofKit
import Derived.OpenShut
import Derived.Lib.SmallJoins
namespace Go.Proofs.YtgmjmgihjjddmaaGreat.centreMade
open Go.ChangeShapes Go.WideShapes Go.ChangeAt Go.RowKit Go.Sq Go.Joins
set_option linter.unusedVariables false
theorem own : ownKnob Tryz.prog.godebug = none := by kernel_rfl
set_option maxRecDepth 100000 in
theorem lifted (os : Os) (started : os.Started) (H : Type) (enc : TypeId × Value -> H) :
    ReturnsInHanded {} Tryz.checked os 3 .any (Rows.centreMadeSpec.pre6 enc Tryz.prog Tryz.f3 Rows.centreMadeRow.domain false) (Rows.centreMadeSpec.post enc Tryz.prog Tryz.f3 false true false false) := by
  refine returnsInHanded_of_change (C := Tryz.checked) own started (by kernel_rfl) Tryz.func3
    (ChangeSpec.witness6 (enc := enc) (C := Tryz.checked) false ⟨#[], #[.slice none 0 0, .int .i64 0, .int .i64 0], []⟩ 8 (by kernel_rfl) (by kernel_rfl) (by kernel_rfl) (by kernel_rfl)) ?_
  intro W base args ds gs before hval0 hW hcnd _;have hval : ∀ (j : Nat) t v, Tryz.f3.params[j]? = some t -> args[j]? = some v -> Value.okWide Tryz.prog W .any base t v := hval0;have hW' := hW;obtain ⟨p, q, hA0, hV, rfl, hfz, hnd⟩ := hW;have hA : DataW.TrodAll enc Tryz.prog W 0 (fun _ => true) true Tryz.f3.params.toList args.toList ds p := hA0
  rw [Tryz.params3] at hA hval;obtain ⟨v0, vs0, d0, ds0, p0, q0, hargs, rfl, rfl, h0, r0⟩ := trodAll_cons hA;obtain ⟨v1, vs1, d1, ds1, p1, q1, rfl, rfl, rfl, h1, r1⟩ := trodAll_cons r0;obtain ⟨v2, vs2, d2, ds2, p2, q2, rfl, rfl, rfl, h2, r2⟩ := trodAll_cons r1;obtain ⟨rfl, rfl, rfl⟩ := trodAll_nil r2;obtain rfl : args = #[v0, v1, v2] := by cases args; simp_all
  obtain ⟨rfl, rfl⟩ := trodVars_none hV;obtain ⟨l0, D0, n0, b0⟩ := qAn Tryz.underlying22 Tryz.underlying3 (by kernel_rfl) (hval 0 22 v0 rfl rfl) h0
  obtain ⟨a1, rfl, rfl, rfl, w1⟩ := open_int Tryz.underlying3 (hval 1 3 v1 rfl rfl) h1;have b1 : (-9223372036854775808 : Int) <= a1 /\ a1 <= 9223372036854775807 := by simpa [Lit.wf, IntKind.min, IntKind.max, IntKind.signed, IntKind.bits] using w1
  obtain ⟨a2, rfl, rfl, rfl, w2⟩ := open_int Tryz.underlying3 (hval 2 3 v2 rfl rfl) h2;have b2 : (-9223372036854775808 : Int) <= a2 /\ a2 <= 9223372036854775807 := by simpa [Lit.wf, IntKind.min, IntKind.max, IntKind.signed, IntKind.bits] using w2
  exact qAm (e := qhZ) (x := (l0, a1, a2)) (y := true) (by kernel_rfl) (by kernel_rfl) (by kernel_rfl) Tryz.underlying4 rfl rfl hW' qnx rfl rfl rfl rfl (qzY l0 b0 a1 a2 b1 b2) rfl
    (fun i v hv => by
      rcases i with _ | _ | _ | i
      · have hq := Option.some.inj (show some _ = some v from hv)
        subst hq;show Den _ _ _ _ (.v (.sl (.int .i64)) l0) _;exact .v D0
      · have hq := Option.some.inj (show some _ = some v from hv)
        subst hq;show Den _ _ _ _ (.v (.int .i64) a1) _;exact .v ⟨_, rfl, rfl⟩
      · have hq := Option.some.inj (show some _ = some v from hv)
        subst hq;show Den _ _ _ _ (.v (.int .i64) a2) _;exact .v ⟨_, rfl, rfl⟩
      · simp at hv)
theorem over : Rows.centreMadeRow.holds Tryz.pinned (OpenSpec.ofChange Rows.centreMadeSpec) :=
  OpenClaim.holds_of_wide 3 Tryz.f3 rfl rfl rfl rfl rfl rfl rfl ⟨rfl, rfl, rfl, rfl, rfl⟩ rfl rfl rfl rfl rfl (by kernel_rfl) Tryz.func3 (by kernel_rfl)
    (zi (by kernel_rfl)) (by unfold Func.isWrapper; first | (rw [if_pos (by decide +kernel)]; kernel_rfl) | (rw [if_neg (by decide +kernel)]; exact ⟨rfl, rfl⟩))
    (fun os started H enc _ => lifted os started H enc)
theorem proved : Rows.CentreMadeSaid :=
  over
end Go.Proofs.YtgmjmgihjjddmaaGreat.centreMade
