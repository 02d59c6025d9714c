/- Steps: a flow changes; a step is carried out. No condition. -/
import Derived.Test.YtbljipjemhbooaaGreatSp4
namespace Go.Proofs.YtbljipjemhbooaaGreat
open Go Go.Sq
set_option linter.unusedVariables false
section
variable {n : Net}
theorem rgk4 {A : Type} (v : Int) (x : A) : (bif decide (v < -1000) then some (true, x) else some (decide (1000 < v), x)) = some (!rg (-1000) 1000 v, x) := by
 unfold rg; rw [notlt v (-1000), notlt 1000 v]
 cases decide (-1000 ≤ v) <;> cases decide (v ≤ 1000) <;> rfl
theorem change_eq {d : Dk} (hd : VDk n d) (s : Stp) : inner (chgS n d s) (step_change n s d.1 d.2.1 d.2.2.1 d.2.2.2) := by
 unfold chgS step_change
 rw [rgk4, Option.bind_some]
 simp only
 cases hr : rg (-1000) 1000 s.2.2.1 with
 | false => exact ⟨_, rfl, rfl, fun e => by cases e⟩
 | true =>
  have hv := rg_iff.1 hr
  simp only [Bool.not_true, cond_false]
  rw [wi (by omega), net_eta, show ((s.2.2.2.1, (s.2.2.2.2.1, (s.2.2.2.2.2.1, max s.2.2.1 (0 - s.2.2.1)))) : Pth) = absP s from rfl, pathV_eq hd.net, Option.bind_some]
  cases hp : pathB n (absP s) with
  | false => exact ⟨_, rfl, rfl, fun e => by cases e⟩
  | true =>
   have hx := VPa.of hp
   simp only [Bool.not_true, cond_false]
   rw [show ((d.1, (d.2.1, (d.2.2.1, d.2.2.2))) : Dk) = d from rfl, grows_eq hd hx hv, Option.bind_some]
   cases hg : growB n d (absP s) s.2.2.1 with
   | false => exact ⟨_, rfl, rfl, fun e => by cases e⟩
   | true =>
    simp only [Bool.not_true, cond_false]
    rw [grow_eq hv hd.rate hd.prate hx hd.sz.1 hd.sz.2.1, Option.bind_some]
    simp only
    rw [show (((growP (absP s) s.2.2.1 d.2).1, ((growP (absP s) s.2.2.1 d.2).2.1, (growP (absP s) s.2.2.1 d.2).2.2)) : Pl) = growP (absP s) s.2.2.1 d.2 from rfl, flowcheck_eq, Option.bind_some]
    by_cases hc : chkPlan n (growP (absP s) s.2.2.1 d.2) = 0
    ·rw [dec_t hc, if_neg (fun e => e hc), Bool.not_true, cond_false, idles_eq hc, Option.bind_some]
     cases idleB n (growP (absP s) s.2.2.1 d.2) with
     | true => exact ⟨_, rfl, rfl, fun e => by cases e⟩
     | false => exact ⟨_, rfl, rfl, fun _ => rfl⟩
    ·rw [dec_f hc, if_pos hc]
     exact ⟨_, rfl, rfl, fun e => absurd e hc⟩
end
end Go.Proofs.YtbljipjemhbooaaGreat
