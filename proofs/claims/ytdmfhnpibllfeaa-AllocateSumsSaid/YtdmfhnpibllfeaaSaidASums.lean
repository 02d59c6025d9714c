/- The law AllocateSums, from its contract. No condition. -/
import Derived.Test.YtdmfhnpibllfeaaRows
import Derived.Test.YtdmfhnpibllfeaaAl3
import Derived.Test.YtdmfhnpibllfeaaSqV
import Derived.WalkKit
import Derived.ProofKit
import Derived.OpenShut
import Derived.Lib.SmallJoins
namespace Go.Proofs.Ytdmfhnpibllfeaa.allocateSums
open Go.ChangeShapes Go.WideShapes Go.ChangeAt Go.RowKit Go.Sq Go.Joins
set_option linter.unusedVariables false

theorem own : ownKnob Try.prog.godebug = none := by kernel_rfl

set_option maxRecDepth 100000 in
theorem lifted (os : Os) (started : os.Started) (H : Type) (enc : TypeId × Value → H) :
    ReturnsInHanded {} Try.checked os 4 .any (Rows.allocateSumsSpec.pre6 enc Try.prog Try.f4 Rows.allocateSumsRow.domain false) (Rows.allocateSumsSpec.post enc Try.prog Try.f4 false true false false) := by
  refine returnsInHanded_of_change (C := Try.checked) own started (by kernel_rfl) Try.func4
    (ChangeSpec.witness6 (enc := enc) (C := Try.checked) false ⟨#[], #[.int .i32 0, .slice none 0 0], []⟩ 8 (by kernel_rfl) (by kernel_rfl) (by kernel_rfl) (by kernel_rfl)) ?_
  intro W base args ds gs before hval0 hW hcnd _
  have hval : ∀ (j : Nat) t v, Try.f4.params[j]? = some t → args[j]? = some v → Value.okWide Try.prog W .any base t v := hval0
  have hW' := hW
  obtain ⟨p, q, hA0, hV, rfl, hfz, hnd⟩ := hW
  have hA : DataW.TrodAll enc Try.prog W 0 (fun _ => true) true Try.f4.params.toList args.toList ds p := hA0
  rw [Try.params4] at hA hval
  obtain ⟨v0, vs0, d0, ds0, p0, q0, hargs, rfl, rfl, h0, r0⟩ := trodAll_cons hA
  obtain ⟨v1, vs1, d1, ds1, p1, q1, rfl, rfl, rfl, h1, r1⟩ := trodAll_cons r0
  obtain ⟨rfl, rfl, rfl⟩ := trodAll_nil r1
  obtain rfl : args = #[v0, v1] := by cases args; simp_all
  obtain ⟨rfl, rfl⟩ := trodVars_none hV
  obtain ⟨a0, rfl, rfl, rfl, w0⟩ := open_int Try.underlying21 (hval 0 21 v0 rfl rfl) h0
  have b0 : (-2147483648 : Int) ≤ a0 ∧ a0 ≤ 2147483647 := by simpa [Lit.wf, IntKind.min, IntKind.max, IntKind.signed, IntKind.bits] using w0
  obtain ⟨l1, D1, n1, b10⟩ := den_intsK Try.underlying30 Try.underlying31 (by kernel_rfl) (hval 1 30 v1 rfl rfl) h1
  have b1 : ∀ x ∈ l1, (0 : Int) ≤ x ∧ x ≤ 65535 := fun x hx => by simpa [Lit.wf, IntKind.min, IntKind.max, IntKind.signed, IntKind.bits] using b10 x hx
  exact law_post (e := fn_law38_AllocateSums) (x := (a0, l1)) (y := true) (by kernel_rfl) (by kernel_rfl) (by kernel_rfl) Try.underlying4 rfl rfl hW' ok_law38_AllocateSums rfl rfl rfl rfl (asums_true b0 b1) rfl
    (fun i v hv => by
      rcases i with _ | _ | i
      · have hq := Option.some.inj (show some _ = some v from hv)
        subst hq
        show Den _ _ _ _ (.v (.int .i32) a0) _
        exact .v ⟨_, rfl, rfl⟩
      · have hq := Option.some.inj (show some _ = some v from hv)
        subst hq
        show Den _ _ _ _ (.v (.sl (.int .u16)) l1) _
        exact .v D1
      · simp at hv)

theorem over : Rows.allocateSumsRow.holds Try.pinned (OpenSpec.ofChange Rows.allocateSumsSpec) :=
  OpenClaim.holds_of_wide 4 Try.f4 rfl rfl rfl rfl rfl rfl rfl ⟨rfl, rfl, rfl, rfl, rfl⟩ rfl rfl rfl rfl rfl (by kernel_rfl) Try.func4 (by kernel_rfl)
    (of_decide_eq_true (by kernel_rfl)) (by unfold Func.isWrapper; first | (rw [if_pos (by decide +kernel)]; kernel_rfl) | (rw [if_neg (by decide +kernel)]; exact ⟨rfl, rfl⟩))
    (fun os started H enc _ => lifted os started H enc)

theorem proved : Rows.AllocateSumsSaid :=
  over
end Go.Proofs.Ytdmfhnpibllfeaa.allocateSums
