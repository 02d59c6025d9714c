/- Steps: desks, and what is checked of them. No condition. -/
import Derived.Test.YtbljipjemhbooaaGreatFl4
namespace Go.Proofs.YtbljipjemhbooaaGreat
open Go Go.Sq
set_option linter.unusedVariables false
abbrev Vl := Int × Int × Bool × Bool
abbrev Dk := List Vl × Pl
abbrev v0 : Vl := (0, (0, (false, false)))
def validV (v : Vl) : Bool := rg 1 60 v.1 && rg 0 v.1 v.2.1
def readyV (v : Vl) : Bool := validV v && (decide (v.2.1 = v.1) && v.2.2.1)
def vlB (n : Net) (l : List Vl) : Bool := decide (l.length = n.2.1.length + n.2.2.1.length) && l.all validV
def rdyB (d : Dk) : Bool := (List.range (need d.2).length).all fun i => !(need d.2).getD i false || readyV (d.1.getD i v0)
def idleAt (n : Net) (p : Pl) (i : Nat) : Bool := p.2.2.getD i false && decide (comeF n p (n.2.2.2.1.getD i sta0).2.1 = 0)
def idleB (n : Net) (p : Pl) : Bool := (List.range n.2.2.2.1.length).any (idleAt n p)
def chkDesk (n : Net) (d : Dk) : Int := if chkNet n ≠ 0 then chkNet n else
 bif vlB n d.1 then (if chkPlan n d.2 ≠ 0 then chkPlan n d.2 else bif rdyB d then (bif idleB n d.2 then 21 else 0) else 21) else 20
section
variable {n : Net} {p : Pl}
theorem valid_eq (v : Vl) : valve_Valid v = some (validV v) := by
 unfold valve_Valid validV rg
 cases decide (1 ≤ v.1) <;> cases decide (v.1 ≤ 60) <;> cases decide (0 ≤ v.2.1) <;> rfl
theorem rvalid_eq (v : Vl) : ref23_Valid v = some (validV v) := valid_eq v
theorem open_eq (v : Vl) : valve_Open v = some (validV v && decide (v.2.1 = v.1)) := by
 unfold valve_Open
 rw [show ((v.1, (v.2.1, (v.2.2.1, v.2.2.2))) : Vl) = v from rfl, valid_eq, Option.bind_some]
 cases validV v <;> rfl
theorem ropen_eq (v : Vl) : ref23_Open v = some (validV v && decide (v.2.1 = v.1)) := open_eq v
theorem ready_eq (v : Vl) : step_ready v = some (readyV v) := by
 unfold step_ready readyV
 rw [show ((v.1, (v.2.1, (v.2.2.1, v.2.2.2))) : Vl) = v from rfl, open_eq, Option.bind_some]
 cases validV v <;> cases decide (v.2.1 = v.1) <;> rfl
theorem thr_ok (h : chkPlan n p = 0) {i : Nat} (hi : i < n.2.2.2.1.length) : thr n p (n.2.2.2.1.getD i sta0).2.1 = (comeF n p (n.2.2.2.1.getD i sta0).2.1, 0) := by
 unfold thr
 have hn := VNet.of (VPl.of h).net
 rw [if_neg (fun e => e h), kn_iff.2 (hn.kn.t i hi)]; rfl
theorem leaves_eq (h : chkPlan n p = 0) {i : Nat} (hi : i < n.2.2.2.1.length) : step_leaves n p (i : Int) = some (!decide (comeF n p (n.2.2.2.1.getD i sta0).2.1 = 0)) := by
 unfold step_leaves
 rw [gd_t (inB_t hi), Int.toNat_natCast, net_eta, thr_eq, Option.bind_some, show ((n.2.2.2.1.getD i ([], (0, (0, (0, 0))))).2).1 = (n.2.2.2.1.getD i sta0).2.1 from rfl, show ((p.1, (p.2.1, p.2.2)) : Pl) = p from rfl, thr_ok h hi]; rfl
theorem idles_eq (h : chkPlan n p = 0) : step_idles n p = some (idleB n p) := by
 have hv := VPl.of h
 have hn := VNet.of hv.net
 have hl := hv.len.2.2
 have hs := hn.small.st
 unfold step_idles
 have := scanN (ε := Unit ⊕ Bool) (step := fun x => step_idles_L0 n p x) n.2.2.2.1.length (idleAt n p) (fin := .inl ()) (bad := .inr true) (fun i hi hq => ?_) (fun i hi hq => ?_) ?_
 ·rw [this, Option.bind_some]; unfold idleB
  cases (List.range n.2.2.2.1.length).any (idleAt n p) <;> rfl
 all_goals unfold step_idles_L0
 ·rw [dec_t (show (i : Int) < (p.2.2.length : Int) by omega), cond_true, gd_t (inB_t (by omega)), Int.toNat_natCast, dec_t (show (i : Int) < (n.2.2.2.1.length : Int) by omega), net_eta, show ((p.1, (p.2.1, p.2.2)) : Pl) = p from rfl, leaves_eq h hi, w1 hi (by omega)]
  unfold idleAt at hq
  cases hp : p.2.2.getD i false with
  | false => rfl
  | true =>
   rw [hp, Bool.true_and] at hq
   simp only [cond_true, Option.bind_some, hq, Bool.not_false, Bool.not_true, cond_false]
 ·rw [dec_t (show (i : Int) < (p.2.2.length : Int) by omega), cond_true, gd_t (inB_t (by omega)), Int.toNat_natCast, dec_t (show (i : Int) < (n.2.2.2.1.length : Int) by omega), net_eta, show ((p.1, (p.2.1, p.2.2)) : Pl) = p from rfl, leaves_eq h hi]
  unfold idleAt at hq
  rw [Bool.and_eq_true] at hq
  rw [hq.1]
  simp only [cond_true, Option.bind_some, hq.2, Bool.not_true, Bool.not_false]
 ·rw [dec_f (by omega)]; rfl
theorem rfed_eq (h : chkPlan n p = 0) : ref26_fed n p = some (!idleB n p) := by
 have hv := VPl.of h
 have hn := VNet.of hv.net
 have hl := hv.len.2.2
 have hs := hn.small.st
 unfold ref26_fed
 have := scanN (ε := Unit ⊕ Bool) (step := fun x => ref26_fed_L0 n p x) n.2.2.2.1.length (idleAt n p) (fin := .inl ()) (bad := .inr false) (fun i hi hq => ?_) (fun i hi hq => ?_) ?_
 ·rw [this, Option.bind_some]; unfold idleB
  cases (List.range n.2.2.2.1.length).any (idleAt n p) <;> rfl
 all_goals unfold ref26_fed_L0
 ·rw [dec_t (show (i : Int) < (n.2.2.2.1.length : Int) by omega), cond_true, gd_t (inB_t (by omega)), Int.toNat_natCast, gd_t (inB_t hi), net_eta, show ((p.1, (p.2.1, p.2.2)) : Pl) = p from rfl, show ((n.2.2.2.1.getD i ([], (0, (0, (0, 0))))).2).1 = (n.2.2.2.1.getD i sta0).2.1 from rfl, rthr_eq, thr_ok h hi, w1 hi (by omega)]
  unfold idleAt at hq
  cases hp : p.2.2.getD i false with
  | false => rfl
  | true =>
   rw [hp, Bool.true_and] at hq
   simp only [cond_true, Option.bind_some, hq, dec_t, Bool.not_true, cond_false, Sum.elim_inl]
 ·rw [dec_t (show (i : Int) < (n.2.2.2.1.length : Int) by omega), cond_true, gd_t (inB_t (by omega)), Int.toNat_natCast, gd_t (inB_t hi), net_eta, show ((p.1, (p.2.1, p.2.2)) : Pl) = p from rfl, show ((n.2.2.2.1.getD i ([], (0, (0, (0, 0))))).2).1 = (n.2.2.2.1.getD i sta0).2.1 from rfl, rthr_eq, thr_ok h hi]
  unfold idleAt at hq
  rw [Bool.and_eq_true] at hq
  rw [hq.1]
  simp only [cond_true, Option.bind_some, hq.2, dec_t, Bool.not_true, cond_false, Sum.elim_inr]
 ·rw [dec_f (by omega)]; rfl
theorem need_len (h : szB n p = true) : (need p).length = n.2.1.length + n.2.2.1.length := by
 have := szB_iff.1 h
 unfold need; rw [List.length_append, nz_len, nz_len]; omega
theorem rdy_in (d : Dk) (hl : (need d.2).length ≤ d.1.length) (hs : d.1.length ≤ 1000) : iter (fun x => step_Check_L0 d (need d.2) x.1 x.2) (0, need d.2) = some (bif rdyB d then .inl () else .inr 21) := by
 refine iter_all (step := fun x : Int × List Bool => step_Check_L0 d (need d.2) x.1 x.2) (need d.2).length (fun i => ((i : Int), need d.2)) (fun i => !(need d.2).getD i false || readyV (d.1.getD i v0)) (fin := .inl ()) (bad := .inr 21) (fun i hi _ hq => ?_) (fun i hi _ hq => ?_) (fun _ => ?_)
 ·show step_Check_L0 d (need d.2) (i : Int) (need d.2) = _
  unfold step_Check_L0
  rw [dec_t (show (i : Int) < ((need d.2).length : Int) by omega), cond_true, gd_t (inB_t hi), gd_t (inB_t (by omega)), Int.toNat_natCast, show (d.1.getD i (0, (0, (false, false)))) = d.1.getD i v0 from rfl, ready_eq, w1 hi (by omega)]
  cases hp : (need d.2).getD i false with
  | false => rfl
  | true =>
   rw [hp] at hq
   simp only [Bool.not_true, Bool.false_or] at hq
   rw [hq]; rfl
 ·show step_Check_L0 d (need d.2) (i : Int) (need d.2) = _
  unfold step_Check_L0
  rw [dec_t (show (i : Int) < ((need d.2).length : Int) by omega), cond_true, gd_t (inB_t hi), gd_t (inB_t (by omega)), Int.toNat_natCast, show (d.1.getD i (0, (0, (false, false)))) = d.1.getD i v0 from rfl, ready_eq]
  rw [Bool.or_eq_false_iff] at hq
  have h1 : (need d.2).getD i false = true := by simpa using hq.1
  rw [h1, hq.2]; rfl
 ·show step_Check_L0 d (need d.2) (((need d.2).length : Nat) : Int) (need d.2) = _
  unfold step_Check_L0
  rw [dec_f (by omega)]; rfl
theorem rrdy_in (d : Dk) (hl : (need d.2).length ≤ d.1.length) (hs : d.1.length ≤ 1000) : iter (fun x => ref26_Check_L0 d x.1 x.2) (0, need d.2) = some (bif rdyB d then .inl () else .inr 21) := by
 refine iter_all (step := fun x : Int × List Bool => ref26_Check_L0 d x.1 x.2) (need d.2).length (fun i => ((i : Int), need d.2)) (fun i => !(need d.2).getD i false || readyV (d.1.getD i v0)) (fin := .inl ()) (bad := .inr 21) (fun i hi _ hq => ?_) (fun i hi _ hq => ?_) (fun _ => ?_)
 ·show ref26_Check_L0 d (i : Int) (need d.2) = _
  unfold ref26_Check_L0
  have hB : inB (i : Int) d.1.length = true := inB_t (by omega)
  rw [dec_t (show (i : Int) < ((need d.2).length : Int) by omega), cond_true, gd_t (inB_t hi)]
  simp only [gd_t hB, Int.toNat_natCast]
  rw [show (d.1.getD i (0, (0, (false, false)))) = d.1.getD i v0 from rfl, ropen_eq, w1 hi (by omega)]
  cases hp : (need d.2).getD i false with
  | false => rfl
  | true =>
   rw [hp] at hq
   simp only [Bool.not_true, Bool.false_or] at hq
   unfold readyV at hq
   rw [Bool.and_eq_true, Bool.and_eq_true] at hq
   rw [hq.1, hq.2.1, hq.2.2]; rfl
 ·show ref26_Check_L0 d (i : Int) (need d.2) = _
  unfold ref26_Check_L0
  have hB : inB (i : Int) d.1.length = true := inB_t (by omega)
  rw [dec_t (show (i : Int) < ((need d.2).length : Int) by omega), cond_true, gd_t (inB_t hi)]
  simp only [gd_t hB, Int.toNat_natCast]
  rw [show (d.1.getD i (0, (0, (false, false)))) = d.1.getD i v0 from rfl, ropen_eq]
  rw [Bool.or_eq_false_iff] at hq
  have h1 : (need d.2).getD i false = true := by simpa using hq.1
  have h2 := hq.2
  unfold readyV at h2
  rw [h1]
  revert h2
  cases validV (d.1.getD i v0) <;> cases decide ((d.1.getD i v0).2.1 = (d.1.getD i v0).1) <;> cases (d.1.getD i v0).2.2.1 <;> intro h2 <;> first | rfl | cases h2
 ·show ref26_Check_L0 d (((need d.2).length : Nat) : Int) (need d.2) = _
  unfold ref26_Check_L0
  rw [dec_f (by omega)]; rfl
theorem count_eq (hn : VNet n) : lineup_Count n = some ((n.2.1.length + n.2.2.1.length : Nat) : Int) := by
 have := hn.small.sg
 have := hn.small.po
 unfold lineup_Count
 rw [wi (by omega)]; rfl
theorem rcount_eq (hn : VNet n) : ref24_Numbers n = some ((n.2.1.length + n.2.2.1.length : Nat) : Int) := count_eq hn
theorem deskcheck_eq (n : Net) (d : Dk) : step_Check n d = some (chkDesk n d) := by
 unfold step_Check chkDesk
 rw [net_eta, netcheck_eq, Option.bind_some]
 by_cases h0 : chkNet n = 0
 ·have hn := VNet.of h0
  have m1 := hn.small.sg
  have m2 := hn.small.po
  rw [dec_t h0, if_neg (fun e => e h0), Bool.not_true, cond_false, count_eq hn, Option.bind_some, natdec]
  have e1 : (bif !decide (d.1.length = n.2.1.length + n.2.2.1.length) then some true
    else (slices_ContainsFunc_api_Valve_api_Valve d.1 (fun h => (step_Check_1 h.1).bind fun y => some y)).bind fun r3 => some r3) = some (!vlB n d.1) := by
   unfold vlB
   by_cases hl : d.1.length = n.2.1.length + n.2.2.1.length
   ·rw [dec_t hl, Bool.not_true, cond_false, any_api_Valve_api_Valve d.1 (fun v => !validV v) _ (fun v _ => by
     show (step_Check_1 v).bind _ = _
     unfold step_Check_1
     rw [show ((v.1, (v.2.1, (v.2.2.1, v.2.2.2))) : Vl) = v from rfl, valid_eq]; rfl) (by omega), Option.bind_some, Bool.true_and]
    congr 1
    simp [List.all_eq_not_any_not]
   ·rw [dec_f hl]; rfl
  rw [e1, Option.bind_some]
  cases hv : vlB n d.1 with
  | false => rfl
  | true =>
   have hl : d.1.length = n.2.1.length + n.2.2.1.length := by
    unfold vlB at hv; rw [Bool.and_eq_true, decide_eq_true_iff] at hv; exact hv.1
   simp only [Bool.not_true, cond_false, cond_true]
   rw [show ((d.2.1, (d.2.2.1, d.2.2.2)) : Pl) = d.2 from rfl, flowcheck_eq, Option.bind_some, need_eq, Option.bind_some]
   by_cases hp : chkPlan n d.2 = 0
   ·have hz := (VPl.of hp).sz
    have hnl := need_len hz
    have hzl := (VPl.of hp).len
    rw [dec_t hp, if_neg (fun e => e hp), if_neg (fun e => e hp)]
    simp only [Bool.not_true, cond_false, decide_true]
    rw [numbers_eq _ _ (by rw [nz_len]; omega) (by rw [nz_len]; omega), Option.bind_some, show nz d.2.1 ++ nz d.2.2.1 = need d.2 from rfl, rdy_in d (by omega) (by omega), Option.bind_some]
    cases rdyB d with
    | false => rfl
    | true =>
     simp only [cond_true, Sum.elim_inl]
     rw [idles_eq hp, Option.bind_some]
     cases idleB n d.2 <;> rfl
   ·rw [dec_f hp, if_pos hp, if_pos hp]; rfl
 ·rw [dec_f h0, if_pos h0]; rfl
theorem refdesk_eq (n : Net) (d : Dk) : ref26_Check n d = some (chkDesk n d) := by
 unfold ref26_Check chkDesk
 rw [net_eta, refcheck_eq, Option.bind_some]
 by_cases h0 : chkNet n = 0
 ·have hn := VNet.of h0
  have m1 := hn.small.sg
  have m2 := hn.small.po
  rw [dec_t h0, if_neg (fun e => e h0), Bool.not_true, cond_false]
  have e1 : ref24_Valves n d.1 = some (bif vlB n d.1 then 0 else 20) := by
   unfold ref24_Valves vlB
   rw [net_eta, rcount_eq hn, Option.bind_some, natdec]
   by_cases hl : d.1.length = n.2.1.length + n.2.2.1.length
   ·rw [dec_t hl, Bool.not_true, cond_false, Bool.true_and]
    have := scanL (step := fun x => ref24_Valves_L0 d.1 x) d.1 v0 validV (bad := (20 : Int)) (fun i hi hq => ?_) (fun i hi hq => ?_) ?_
    ·rw [this, Option.bind_some]
     cases d.1.all validV <;> rfl
    all_goals unfold ref24_Valves_L0
    ·rw [dec_t (show (i : Int) < (d.1.length : Int) by omega), cond_true, gd_t (inB_t hi), Int.toNat_natCast, rvalid_eq, Option.bind_some, hq, w1 hi (by omega)]; rfl
    ·rw [dec_t (show (i : Int) < (d.1.length : Int) by omega), cond_true, gd_t (inB_t hi), Int.toNat_natCast, rvalid_eq, Option.bind_some, hq]; rfl
    ·rw [dec_f (by omega)]; rfl
   ·rw [dec_f hl]; rfl
  rw [e1, Option.bind_some]
  cases hv : vlB n d.1 with
  | false => rfl
  | true =>
   have hl : d.1.length = n.2.1.length + n.2.2.1.length := by
    unfold vlB at hv; rw [Bool.and_eq_true, decide_eq_true_iff] at hv; exact hv.1
   simp only [cond_true, decide_true, Bool.not_true, cond_false]
   rw [show ((d.2.1, (d.2.2.1, d.2.2.2)) : Pl) = d.2 from rfl, refplan_eq, Option.bind_some]
   by_cases hp : chkPlan n d.2 = 0
   ·have hz := (VPl.of hp).sz
    have hnl := need_len hz
    have hzl := (VPl.of hp).len
    rw [dec_t hp, if_neg (fun e => e hp)]
    simp only [Bool.not_true, cond_false]
    rw [needs_eq _ (by omega) (by omega), Option.bind_some, all_eq _ _ (by rw [nz_len]; omega) (by rw [nz_len]; omega), Option.bind_some, show nz d.2.1 ++ nz d.2.2.1 = need d.2 from rfl, rrdy_in d (by omega) (by omega), Option.bind_some]
    cases rdyB d with
    | false => rfl
    | true =>
     simp only [cond_true, Sum.elim_inl]
     rw [rfed_eq hp, Option.bind_some]
     cases idleB n d.2 <;> rfl
   ·rw [dec_f hp, if_pos hp]; rfl
 ·rw [dec_f h0, if_pos h0]; rfl
end
end Go.Proofs.YtbljipjemhbooaaGreat
