/- Steps: the program does what the reference does. No condition. -/
import Derived.Test.YtbljipjemhbooaaGreatSp5
namespace Go.Proofs.YtbljipjemhbooaaGreat
open Go Go.Sq
set_option linter.unusedVariables false
section
variable {n : Net}
theorem pcopy_eq (x : Pth) (h : x.2.2.1.length ≤ 100000) : ref25_Copy x = some (x.1, x.2.1, x.2.2.2, x.2.2.1) := by
 unfold ref25_Copy
 rw [gd_t (fits_t (by omega))]; rfl
theorem rport_eq {d : Dk} (hd : VDk n d) {x : Pth} (hx : VPa n x) {v : Int} (hv : -1000 ≤ v ∧ v ≤ 1000) {A : Type} (X : A) :
  (bif decide ((growQ x v d.2.2.1).getD x.1.toNat 0 < 0) then some (true, X) else
   (bif decide (0 < (growQ x v d.2.2.1).getD x.2.1.toNat 0) then some (true, X) else
    (bif decide (d.2.2.1.getD x.1.toNat 0 < 0) then some (true, X) else some (decide (0 < d.2.2.1.getD x.2.1.toNat 0), X)))) = some (!ptOk d.2 x v, X) := by
 have hz := hd.sz
 have hi := hx.i
 have ho := hx.o
 have hne := hx.ne
 have e1 : (growQ x v d.2.2.1).getD x.1.toNat 0 = d.2.2.1.getD x.1.toNat 0 + v := by
  unfold growQ
  rw [gD_set, if_neg (by omega), gD_set, if_pos (by omega)]
 have e2 : (growQ x v d.2.2.1).getD x.2.1.toNat 0 = d.2.2.1.getD x.2.1.toNat 0 - v := by
  unfold growQ
  rw [gD_set, if_pos (by rw [List.length_set]; omega), gD_set, if_neg (by omega)]
 rw [e1, e2]
 unfold ptOk
 by_cases a : d.2.2.1.getD x.1.toNat 0 + v < 0
 ·rw [dec_t a, dec_f (show ¬ 0 ≤ d.2.2.1.getD x.1.toNat 0 + v by omega)]; simp
 ·rw [dec_f a, dec_t (show 0 ≤ d.2.2.1.getD x.1.toNat 0 + v by omega), cond_false]
  by_cases b : 0 < d.2.2.1.getD x.2.1.toNat 0 - v
  ·rw [dec_t b, dec_f (show ¬ 0 ≤ 0 - d.2.2.1.getD x.2.1.toNat 0 + v by omega)]; simp
  ·rw [dec_f b, dec_t (show 0 ≤ 0 - d.2.2.1.getD x.2.1.toNat 0 + v by omega), cond_false]
   by_cases c : d.2.2.1.getD x.1.toNat 0 < 0
   ·rw [dec_t c, dec_f (show ¬ 0 ≤ d.2.2.1.getD x.1.toNat 0 by omega)]; rfl
   ·rw [dec_f c, dec_t (show 0 ≤ d.2.2.1.getD x.1.toNat 0 by omega), cond_false]
    by_cases e : 0 < d.2.2.1.getD x.2.1.toNat 0
    ·rw [dec_t e, dec_f (show ¬ 0 ≤ 0 - d.2.2.1.getD x.2.1.toNat 0 by omega)]; rfl
    ·rw [dec_f e, dec_t (show 0 ≤ 0 - d.2.2.1.getD x.2.1.toNat 0 by omega)]; rfl
theorem rflow_eq {d : Dk} (hd : VDk n d) (s : Stp) (hs : s.2.2.2.2.2.1.length ≤ 100000) : ref26_flow n d s = some (chgS n d s) := by
 unfold chgS ref26_flow
 rw [rgk1, Option.bind_some]
 cases hr : rg (-1000) 1000 s.2.2.1 with
 | false => rfl
 | true =>
  have hv := rg_iff.1 hr
  simp only [Bool.not_true, cond_false]
  rw [show ((s.2.2.2.1, (s.2.2.2.2.1, (s.2.2.2.2.2.1, s.2.2.2.2.2.2))) : Pth) = s.2.2.2 from rfl, pcopy_eq _ hs, Option.bind_some, wi (by omega)]
  simp only
  rw [net_eta, show ((s.2.2.2.1, (s.2.2.2.2.1, (s.2.2.2.2.2.1, max s.2.2.1 (0 - s.2.2.1)))) : Pth) = absP s from rfl, rpathV_eq hd.net, Option.bind_some]
  cases hp : pathB n (absP s) with
  | false => rfl
  | true =>
   have hx := VPa.of hp
   have hi := hx.i
   have ho := hx.o
   have hz := hd.sz
   simp only [Bool.not_true, cond_false]
   rw [show ((d.1, (d.2.1, (d.2.2.1, d.2.2.2))) : Dk) = d from rfl, rcopy_eq hd.small, Option.bind_some, rready_eq hd hx, Option.bind_some]
   unfold growB
   cases hrd : rdPath n d (absP s) with
   | false => rfl
   | true =>
    simp only [Bool.not_true, cond_false, Bool.true_and]
    have b1 := hd.prate (absP s).1.toNat
    have b2 : -2000 ≤ (d.2.2.1.set (absP s).1.toNat (d.2.2.1.getD (absP s).1.toNat 0 + s.2.2.1)).getD (absP s).2.1.toNat 0 ∧ (d.2.2.1.set (absP s).1.toNat (d.2.2.1.getD (absP s).1.toNat 0 + s.2.2.1)).getD (absP s).2.1.toNat 0 ≤ 2000 := by
     rw [gD_set]; have := hd.prate (absP s).2.1.toNat; split <;> omega
    have i1 : s.2.2.2.1 = (absP s).1 := rfl
    have i2 : s.2.2.2.2.1 = (absP s).2.1 := rfl
    have i3 : s.2.2.2.2.2.1 = (absP s).2.2.1 := rfl
    rw [i1, i2, i3]
    have hB : inB (absP s).1 d.2.2.1.length = true := inB_iff.2 (by omega)
    have hC : inB (absP s).2.1 d.2.2.1.length = true := inB_iff.2 (by omega)
    rw [wi (show -9223372036854775808 ≤ d.2.2.1.getD (absP s).1.toNat 0 + s.2.2.1 ∧ d.2.2.1.getD (absP s).1.toNat 0 + s.2.2.1 ≤ 9223372036854775807 by omega), wi (by omega)]
    simp only [List.length_set, gd_t hB, gd_t hC]
    rw [show ((d.2.2.1.set (absP s).1.toNat (d.2.2.1.getD (absP s).1.toNat 0 + s.2.2.1)).set (absP s).2.1.toNat ((d.2.2.1.set (absP s).1.toNat (d.2.2.1.getD (absP s).1.toNat 0 + s.2.2.1)).getD (absP s).2.1.toNat 0 - s.2.2.1)) = growQ (absP s) s.2.2.1 d.2.2.1 from rfl,
     rport_eq hd hx hv, Option.bind_some]
    simp only
    cases hpo : ptOk d.2 (absP s) s.2.2.1 with
    | false => rfl
    | true =>
     simp only [Bool.not_true, cond_false, Bool.true_and]
     rw [rflow_in hd hx hv, Option.bind_some]
     cases hh : (absP s).2.2.1.all (hpOk d.2 s.2.2.1) with
     | false => rfl
     | true =>
      simp only [cond_true, Sum.elim_inl, Bool.not_true, cond_false]
      rw [show ((growR (absP s).2.2.1 s.2.2.1 d.2.1, (growQ (absP s) s.2.2.1 d.2.2.1, d.2.2.2)) : Pl) = growP (absP s) s.2.2.1 d.2 from rfl, refplan_eq, Option.bind_some]
      by_cases hc : chkPlan n (growP (absP s) s.2.2.1 d.2) = 0
      ·rw [dec_t hc, if_neg (fun e => e hc), Bool.not_true, cond_false, rfed_eq hc, Option.bind_some, Bool.not_not]
       cases idleB n (growP (absP s) s.2.2.1 d.2) <;> rfl
      ·rw [dec_f hc, if_pos hc]; rfl
theorem inner_bind {r : Dk × Int} {o : Option (Int × List Vl × List Int × List Int × List Bool)} (h : inner r o) : inner r (o.bind fun y => some (y.1, y.2.1, y.2.2.1, y.2.2.2.1, y.2.2.2.2)) := by
 obtain ⟨y, e, h1, h2⟩ := h
 exact ⟨y, by rw [e]; rfl, h1, h2⟩
theorem apply_eq {d : Dk} (hd : VDk n d) (s : Stp) : inner (stepS n d s) (step_apply n s d.1 d.2.1 d.2.2.1 d.2.2.2) := by
 unfold stepS step_apply
 rw [show ((s.1, (s.2.1, (s.2.2.1, (s.2.2.2.1, (s.2.2.2.2.1, (s.2.2.2.2.2.1, s.2.2.2.2.2.2)))))) : Stp) = s from rfl, blank_eq, Option.bind_some, net_eta]
 cases hb : blankB s with
 | false => exact ⟨_, rfl, rfl, fun e => by cases e⟩
 | true =>
  simp only [Bool.not_true, cond_false]
  by_cases k1 : s.1 = 1
  ·rw [k1]; exact inner_bind (turn_eq hd s)
  by_cases k2 : s.1 = 2
  ·rw [k2]; exact inner_bind (turn_eq hd s)
  by_cases k3 : s.1 = 3
  ·rw [k3]; exact inner_bind (run_eq hd s)
  by_cases k4 : s.1 = 4
  ·rw [k4]; exact inner_bind (run_eq hd s)
  by_cases k5 : s.1 = 5
  ·rw [k5]; exact inner_bind (change_eq hd s)
  by_cases k6 : s.1 = 6
  ·rw [k6]; exact inner_bind (wait_eq hd s n)
  ·unfold blankB at hb
   rw [dec_f k1, dec_f k2, dec_f k3, dec_f k4, dec_f k5, dec_f k6] at hb
   cases hb
def Er (d : Dk) (r : Dk × Int) : Prop := r.2 = 0 ∨ r.1 = d
theorem Er.bif {d : Dk} {c : Bool} {x y : Dk × Int} (h : Er d x) (h' : Er d y) : Er d (bif c then x else y) := by cases c; exact h'; exact h
theorem Er.ite {d : Dk} {c : Prop} [Decidable c] {x y : Dk × Int} (h : Er d x) (h' : Er d y) : Er d (if c then x else y) := by split; exact h; exact h'
theorem step_er (d : Dk) (s : Stp) : Er d (stepS n d s) := by
 unfold stepS turnS runS chgS waitS
 have r : ∀ k, Er d (d, k) := fun k => .inr rfl
 have z : ∀ x, Er d (x, 0) := fun x => .inl rfl
 exact .bif (r _) (.bif (.bif (r _) (.bif (r _) (z _))) (.bif (.bif (r _) (.bif (r _) (z _))) (.bif (.bif (r _) (.bif (r _) (.bif (r _) (.ite (r _) (.bif (r _) (z _)))))) (.bif (r _) (z _)))))
theorem step_err (d : Dk) (s : Stp) (h : (stepS n d s).2 ≠ 0) : (stepS n d s).1 = d := (step_er d s).resolve_left h
theorem Apply_eq {d : Dk} (hz : DkS d) (s : Stp) : step_Apply n d s = some (appS n d s) := by
 unfold step_Apply appS
 rw [net_eta, show ((d.1, (d.2.1, (d.2.2.1, d.2.2.2))) : Dk) = d from rfl, deskcheck_eq, Option.bind_some, copy_eq hz, Option.bind_some, Option.bind_some]
 by_cases hc : chkDesk n d = 0
 ·have hd := VDk.of hc
  rw [dec_t hc, if_neg (fun e => e hc), Bool.not_true, cond_false, show ((s.1, (s.2.1, (s.2.2.1, (s.2.2.2.1, (s.2.2.2.2.1, (s.2.2.2.2.2.1, s.2.2.2.2.2.2)))))) : Stp) = s from rfl]
  obtain ⟨y, e, h1, h2⟩ := apply_eq hd s
  rw [e, Option.bind_some, h1]
  by_cases h0 : (stepS n d s).2 = 0
  ·rw [dec_t h0, Bool.not_true, cond_false]
   have := h2 h0
   rw [show stepS n d s = (y.2, 0) by rw [← h0, this]]
  ·rw [dec_f h0, Bool.not_false, cond_true, Option.bind_some]
   exact congrArg some (Prod.ext (step_err d s h0).symm rfl)
 ·rw [dec_f hc, if_pos hc]; rfl
theorem rwait_eq {d : Dk} (hd : VDk n d) (s : Stp) : (Option.bind (α := Bool) (bif decide (s.2.2.1 < 1) then some true else some (decide (100 < s.2.2.1))) fun s4 =>
  bif s4 then some ((d.1, (d.2.1, (d.2.2.1, d.2.2.2))), 1) else (ref26_Copy (d.1, (d.2.1, (d.2.2.1, d.2.2.2)))).bind fun r6 =>
   (iter (fun x5 => ref26_Apply_L0 s x5.1 x5.2.1 x5.2.2.1 x5.2.2.2.1 x5.2.2.2.2) (0, r6.1, r6.2.1, r6.2.2.1, r6.2.2.2)).bind fun s5 => some ((s5.1, (s5.2.1, (s5.2.2.1, s5.2.2.2))), 0)) = some (waitS d s) := by
 unfold waitS
 rw [rg1, Option.bind_some]
 cases hr : rg 1 100 s.2.2.1 with
 | false => rfl
 | true =>
  have ht := rg_iff.1 hr
  have hl := hd.small.v
  simp only [Bool.not_true, cond_false]
  rw [show ((d.1, (d.2.1, (d.2.2.1, d.2.2.2))) : Dk) = d from rfl, rcopy_eq hd.small, Option.bind_some]
  have := iter_for (step := fun x : Int × List Vl × List Int × List Int × List Bool => ref26_Apply_L0 s x.1 x.2.1 x.2.2.1 x.2.2.2.1 x.2.2.2.2) (e := (d.1.map fun v => movV v s.2.2.1, d.2)) d.1.length (fun i => ((i : Int), mix (d.1.map fun v => movV v s.2.2.1) d.1 i, d.2)) (fun i hi => ?_) ?_
  ·have this : iter (fun x => ref26_Apply_L0 s x.1 x.2.1 x.2.2.1 x.2.2.2.1 x.2.2.2.2) ((0 : Int), mix (d.1.map fun v => movV v s.2.2.1) d.1 0, d.2) = some (d.1.map fun v => movV v s.2.2.1, d.2) := this
   rw [mix_0] at this
   rw [show ((0, d.1, d.2.1, d.2.2.1, d.2.2.2) : Int × Dk) = (0, d.1, d.2) from rfl, this]; rfl
  ·show ref26_Apply_L0 s (i : Int) (mix (d.1.map fun v => movV v s.2.2.1) d.1 i) d.2.1 d.2.2.1 d.2.2.2 = _
   unfold ref26_Apply_L0
   have hm : (d.1.map fun v => movV v s.2.2.1).length = d.1.length := List.length_map ..
   have hg : (mix (d.1.map fun v => movV v s.2.2.1) d.1 i).getD i (0, (0, (false, false))) = d.1.getD i v0 := by rw [gD_mix hm rfl, if_neg (by omega)]
   have hB : inB (i : Int) (mix (d.1.map fun v => movV v s.2.2.1) d.1 i).length = true := inB_t (by rw [mix_len hm rfl]; exact hi)
   rw [dec_t (show (i : Int) < ((mix (d.1.map fun v => movV v s.2.2.1) d.1 i).length : Int) by rw [mix_len hm rfl]; omega), cond_true, gd_t hB, Int.toNat_natCast, hg, rpass_eq (hd.val1 hi) ht, Option.bind_some, gd_t hB, w1 hi (by omega),
    set_mix hm rfl v0 hi (by rw [gD_map _ _ _ v0 _ hi])]
  ·show ref26_Apply_L0 s ((d.1.length : Nat) : Int) (mix (d.1.map fun v => movV v s.2.2.1) d.1 d.1.length) d.2.1 d.2.2.1 d.2.2.2 = _
   unfold ref26_Apply_L0
   have hm : (d.1.map fun v => movV v s.2.2.1).length = d.1.length := List.length_map ..
   rw [mix_n hm rfl, dec_f (show ¬ ((d.1.length : Nat) : Int) < ((d.1.map fun v => movV v s.2.2.1).length : Int) by omega)]; rfl
theorem rApply_eq {d : Dk} (s : Stp) (hs : s.2.2.2.2.2.1.length ≤ 100000) : ref26_Apply n d s = some (appS n d s) := by
 unfold ref26_Apply appS
 rw [net_eta, show ((s.1, (s.2.1, (s.2.2.1, (s.2.2.2.1, (s.2.2.2.2.1, (s.2.2.2.2.2.1, s.2.2.2.2.2.2)))))) : Stp) = s from rfl, show ((d.1, (d.2.1, (d.2.2.1, d.2.2.2))) : Dk) = d from rfl, refdesk_eq, Option.bind_some]
 by_cases hc : chkDesk n d = 0
 ·have hd := VDk.of hc
  rw [dec_t hc, if_neg (fun e => e hc), Bool.not_true, cond_false, shaped_eq, Option.bind_some]
  unfold stepS
  cases hb : blankB s with
  | false => rfl
  | true =>
   simp only [Bool.not_true, cond_false]
   have e1 : ∀ a b : Int, (bif decide (s.1 = a) then some (decide (s.1 = a)) else some (decide (s.1 = b))) = some (decide (s.1 = a) || decide (s.1 = b)) := fun a b => by cases decide (s.1 = a) <;> rfl
   rw [e1, Option.bind_some, e1, Option.bind_some, rturn_eq hd, rpump_eq hd, rflow_eq hd s hs, Option.bind_some, Option.bind_some, Option.bind_some]
   cases (decide (s.1 = 1) || decide (s.1 = 2)) with
   | true => rfl
   | false =>
    cases (decide (s.1 = 3) || decide (s.1 = 4)) with
    | true => rfl
    | false =>
     cases decide (s.1 = 5) with
     | true => rfl
     | false => exact rwait_eq hd s
 ·rw [dec_f hc, if_pos hc]; rfl
end
end Go.Proofs.YtbljipjemhbooaaGreat
