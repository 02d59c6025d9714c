/- The law CentreBytes, from its contract. No condition. -/
import Derived.Test.YtnkfkceghbkkkaaGreatRows
import Derived.Test.YtnkfkceghbkkkaaGreatWi12
import Derived.Test.YtnkfkceghbkkkaaGreatSqZ
import Derived.WalkKit
import Derived.ProofKit
import Derived.OpenShut
import Derived.Lib.SmallJoins
namespace Go.Proofs.YtnkfkceghbkkkaaGreat.centreBytes
open Go.ChangeShapes Go.WideShapes Go.ChangeAt Go.RowKit Go.Sq Go.Joins
set_option linter.unusedVariables false

theorem own : ownKnob Tryz.prog.godebug = none := by kernel_rfl

set_option maxRecDepth 100000 in
theorem lifted (os : Os) (started : os.Started) (H : Type) (enc : TypeId × Value → H) :
    ReturnsInHanded {} Tryz.checked os 3 .any (Rows.centreBytesSpec.pre6 enc Tryz.prog Tryz.f3 Rows.centreBytesRow.domain false) (Rows.centreBytesSpec.post enc Tryz.prog Tryz.f3 false true false false) := by
  refine returnsInHanded_of_change (C := Tryz.checked) own started (by kernel_rfl) Tryz.func3
    (ChangeSpec.witness6 (enc := enc) (C := Tryz.checked) false ⟨#[], #[.slice none 0 0, .agg #[.int .i64 0, .slice none 0 0, .int .i64 0, .int .i64 0, .int .i64 0, .int .i64 0, .int .i64 0, .slice none 0 0, .int .i64 0, .string ⟨#[]⟩, .int .i64 0, .int .i64 0], .int .i64 0, .int .u8 0], []⟩ 8 (by kernel_rfl) (by kernel_rfl) (by kernel_rfl) (by kernel_rfl)) ?_
  intro W base args ds gs before hval0 hW hcnd _
  have hval : ∀ (j : Nat) t v, Tryz.f3.params[j]? = some t → args[j]? = some v → Value.okWide Tryz.prog W .any base t v := hval0
  have hW' := hW
  obtain ⟨p, q, hA0, hV, rfl, hfz, hnd⟩ := hW
  have hA : DataW.TrodAll enc Tryz.prog W 0 (fun _ => true) true Tryz.f3.params.toList args.toList ds p := hA0
  rw [Tryz.params3] at hA hval
  obtain ⟨v0, vs0, d0, ds0, p0, q0, hargs, rfl, rfl, h0, r0⟩ := trodAll_cons hA
  obtain ⟨v1, vs1, d1, ds1, p1, q1, rfl, rfl, rfl, h1, r1⟩ := trodAll_cons r0
  obtain ⟨v2, vs2, d2, ds2, p2, q2, rfl, rfl, rfl, h2, r2⟩ := trodAll_cons r1
  obtain ⟨v3, vs3, d3, ds3, p3, q3, rfl, rfl, rfl, h3, r3⟩ := trodAll_cons r2
  obtain ⟨rfl, rfl, rfl⟩ := trodAll_nil r3
  obtain rfl : args = #[v0, v1, v2, v3] := by cases args; simp_all
  obtain ⟨rfl, rfl⟩ := trodVars_none hV
  obtain ⟨l0, D0, n0, b00⟩ := den_intsK Tryz.underlying22 Tryz.underlying5 (by kernel_rfl) (hval 0 22 v0 rfl rfl) h0
  have b0 : ∀ x ∈ l0, (0 : Int) ≤ x ∧ x ≤ 255 := fun x hx => by simpa [Lit.wf, IntKind.min, IntKind.max, IntKind.signed, IntKind.bits] using b00 x hx
  obtain ⟨l1, D1, b1⟩ := den_data (τ := .pair (.int .i64) (.pair (.sl (.int .i64)) (.pair (.pair (.int .i64) (.pair (.int .i64) (.pair (.int .i64) (.pair (.int .i64) (.pair (.int .i64) (.pair (.sl (.pair (.int .i64) (.bool))) (.int .i64))))))) (.pair (.str) (.pair (.int .i64) (.int .i64)))))) (HasTy.struct Tryz.underlying32 (by kernel_rfl) (.more rfl (by kernel_rfl) (HasTy.int Tryz.underlying3) (.more rfl (by kernel_rfl) (HasTy.sl Tryz.underlying23 (by kernel_rfl) (by decide) (HasTy.int Tryz.underlying3)) (.two rfl (by kernel_rfl) (HasTy.struct Tryz.underlying28 (by kernel_rfl) (.more rfl (by kernel_rfl) (HasTy.int Tryz.underlying3) (.more rfl (by kernel_rfl) (HasTy.int Tryz.underlying3) (.two rfl (by kernel_rfl) (HasTy.int Tryz.underlying3) rfl (by kernel_rfl) (HasTy.struct Tryz.underlying26 (by kernel_rfl) (.more rfl (by kernel_rfl) (HasTy.int Tryz.underlying3) (.more rfl (by kernel_rfl) (HasTy.int Tryz.underlying3) (.two rfl (by kernel_rfl) (HasTy.sl Tryz.underlying24 (by kernel_rfl) (by decide) (HasTy.struct Tryz.underlying114 (by kernel_rfl) (.two rfl (by kernel_rfl) (HasTy.int Tryz.underlying3) rfl (by kernel_rfl) (HasTy.bool Tryz.underlying4)))) rfl (by kernel_rfl) (HasTy.int Tryz.underlying3))))))))) rfl (by kernel_rfl) (HasTy.struct Tryz.underlying30 (by kernel_rfl) (.more rfl (by kernel_rfl) (HasTy.str Tryz.underlying9) (.two rfl (by kernel_rfl) (HasTy.int Tryz.underlying3) rfl (by kernel_rfl) (HasTy.int Tryz.underlying3)))))))) (hval 1 32 v1 rfl rfl) h1
  obtain ⟨a2, rfl, rfl, rfl, w2⟩ := open_int Tryz.underlying3 (hval 2 3 v2 rfl rfl) h2
  have b2 : (-9223372036854775808 : Int) ≤ a2 ∧ a2 ≤ 9223372036854775807 := by simpa [Lit.wf, IntKind.min, IntKind.max, IntKind.signed, IntKind.bits] using w2
  obtain ⟨a3, rfl, rfl, rfl, w3⟩ := open_int Tryz.underlying5 (hval 3 5 v3 rfl rfl) h3
  have b3 : (0 : Int) ≤ a3 ∧ a3 ≤ 255 := by simpa [Lit.wf, IntKind.min, IntKind.max, IntKind.signed, IntKind.bits] using w3
  exact law_post (e := fn_law41_CentreBytes) (x := (l0, l1, a2, a3)) (y := true) (by kernel_rfl) (by kernel_rfl) (by kernel_rfl) Tryz.underlying4 rfl rfl hW' ok_law41_CentreBytes rfl rfl rfl rfl (all_true l0 b0 l1 b1 a2 b2 a3 b3) rfl
    (fun i v hv => by
      rcases i with _ | _ | _ | _ | i
      · have hq := Option.some.inj (show some _ = some v from hv)
        subst hq
        show Den _ _ _ _ (.v (.sl (.int .u8)) l0) _
        exact .v D0
      · have hq := Option.some.inj (show some _ = some v from hv)
        subst hq
        show Den _ _ _ _ (.v (.pair (.int .i64) (.pair (.sl (.int .i64)) (.pair (.pair (.int .i64) (.pair (.int .i64) (.pair (.int .i64) (.pair (.int .i64) (.pair (.int .i64) (.pair (.sl (.pair (.int .i64) (.bool))) (.int .i64))))))) (.pair (.str) (.pair (.int .i64) (.int .i64)))))) l1) _
        exact .v D1
      · have hq := Option.some.inj (show some _ = some v from hv)
        subst hq
        show Den _ _ _ _ (.v (.int .i64) a2) _
        exact .v ⟨_, rfl, rfl⟩
      · have hq := Option.some.inj (show some _ = some v from hv)
        subst hq
        show Den _ _ _ _ (.v (.int .u8) a3) _
        exact .v ⟨_, rfl, rfl⟩
      · simp at hv)

theorem over : Rows.centreBytesRow.holds Tryz.pinned (OpenSpec.ofChange Rows.centreBytesSpec) :=
  OpenClaim.holds_of_wide 3 Tryz.f3 rfl rfl rfl rfl rfl rfl rfl ⟨rfl, rfl, rfl, rfl, rfl⟩ rfl rfl rfl rfl rfl (by kernel_rfl) Tryz.func3 (by kernel_rfl)
    (of_decide_eq_true (by kernel_rfl)) (by unfold Func.isWrapper; first | (rw [if_pos (by decide +kernel)]; kernel_rfl) | (rw [if_neg (by decide +kernel)]; exact ⟨rfl, rfl⟩))
    (fun os started H enc _ => lifted os started H enc)

theorem proved : Rows.CentreBytesSaid :=
  over
end Go.Proofs.YtnkfkceghbkkkaaGreat.centreBytes
