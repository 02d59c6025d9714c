/- Flows: the reference's check is the same; what goes through a node; lineups. No condition. -/
import Derived.Test.YtbljipjemhbooaaGreatFl3
namespace Go.Proofs.YtbljipjemhbooaaGreat
open Go Go.Sq
set_option linter.unusedVariables false
section
variable {n : Net} {p : Pl}
theorem natdec (a b : Nat) : decide ((a : Int) = (b : Int)) = decide (a = b) := by congr 1; rw [Int.natCast_inj]
theorem refplan_eq (n : Net) (p : Pl) : ref16_Check n p = some (chkPlan n p) := by
 unfold ref16_Check chkPlan
 rw [net_eta, refcheck_eq, Option.bind_some]
 by_cases h0 : chkNet n = 0
 ·rw [if_neg (fun h => h h0), dec_t h0, Bool.not_true, cond_false]
  have hn := VNet.of h0
  have es : (
    bif !decide ((p.1.length : Int) = (n.2.1.length : Int)) then some true
    else bif !decide ((p.2.1.length : Int) = (n.2.2.1.length : Int)) then some true
    else some (!decide ((p.2.2.length : Int) = (n.2.2.2.1.length : Int)))) = some (!szB n p) := by
   unfold szB
   rw [natdec, natdec, natdec]
   cases decide (p.1.length = n.2.1.length) <;> cases decide (p.2.1.length = n.2.2.1.length) <;> cases decide (p.2.2.length = n.2.2.2.1.length) <;> rfl
  rw [es, Option.bind_some]
  cases hz : szB n p with
  | false => rfl
  | true =>
   obtain ⟨s1, s2, s3⟩ := szB_iff.1 hz
   have m1 := hn.small.sg
   have m2 := hn.small.po
   simp only [Bool.not_true, cond_false, cond_true]
   have key : ∀ i, i < n.2.1.length → (bif decide (p.1.getD i 0 < wi64 (0 - (min 1000 (((((n.2.1.getD i ([], (0, (0, (0, (0, (0, []))))))).2).2).2).1)))) then some true
     else some (decide (min 1000 (((((n.2.1.getD i ([], (0, (0, (0, (0, (0, []))))))).2).2).2).1) < p.1.getD i 0))) = some (!rtB n p i) := by
    intro i hi
    have hc := cap_pos hn hi
    have e : ((((n.2.1.getD i ([], (0, (0, (0, (0, (0, []))))))).2).2).2).1 = (n.2.1.getD i sg0).2.2.2.1 := rfl
    rw [e, wi (by omega)]
    unfold rtB rg rate
    by_cases a : p.1.getD i 0 < 0 - min 1000 (n.2.1.getD i sg0).2.2.2.1
    ·rw [dec_t a, dec_f (show ¬ (0 - min 1000 (n.2.1.getD i sg0).2.2.2.1 ≤ p.1.getD i 0) by omega)]; rfl
    ·rw [dec_f a, dec_t (show (0 - min 1000 (n.2.1.getD i sg0).2.2.2.1 ≤ p.1.getD i 0) by omega), cond_false, Bool.true_and]
     by_cases b : min 1000 (n.2.1.getD i sg0).2.2.2.1 < p.1.getD i 0
     ·rw [dec_t b, dec_f (by omega)]; rfl
     ·rw [dec_f b, dec_t (by omega)]; rfl
   have e1 : iter (fun x => ref16_Check_L0 n p x) 0 = some (bif ratesB n p then .inl () else .inr 1) := by
    unfold ratesB
    rw [← s1]
    refine iter_all (step := fun x => ref16_Check_L0 n p x) p.1.length (fun i => (i : Int)) (rtB n p) (fin := .inl ()) (bad := .inr 1) (fun i hi _ hq => ?_) (fun i hi _ hq => ?_) (fun _ => ?_)
    all_goals unfold ref16_Check_L0
    ·rw [dec_t (show (i : Int) < (p.1.length : Int) by omega), cond_true, gd_t (inB_t hi), gd_t (inB_t (show i < n.2.1.length by omega)), Int.toNat_natCast, key i (by omega), hq, Option.bind_some, w1 hi (by omega)]; rfl
    ·rw [dec_t (show (i : Int) < (p.1.length : Int) by omega), cond_true, gd_t (inB_t hi), gd_t (inB_t (show i < n.2.1.length by omega)), Int.toNat_natCast, key i (by omega), hq, Option.bind_some]; rfl
    ·rw [dec_f (by omega)]; rfl
   rw [e1, Option.bind_some]
   cases hr : ratesB n p with
   | false => rfl
   | true =>
    simp only [cond_true, Sum.elim_inl, Bool.true_and]
    have key2 : ∀ x : Int, (bif decide (x < -1000) then some true else some (decide (1000 < x))) = some (!rg (-1000) 1000 x) := by
     intro x
     unfold rg
     by_cases a : x < -1000
     ·rw [dec_t a, dec_f (show ¬ (-1000 ≤ x) by omega)]; rfl
     ·rw [dec_f a, dec_t (show -1000 ≤ x by omega), cond_false, Bool.true_and]
      by_cases b : 1000 < x
      ·rw [dec_t b, dec_f (by omega)]; rfl
      ·rw [dec_f b, dec_t (by omega)]; rfl
    have e2 : iter (fun x2 => ref16_Check_L1 p x2) 0 = some (bif pratesB p then .inl () else .inr 1) := by
     refine scanL (step := fun x2 => ref16_Check_L1 p x2) p.2.1 0 (rg (-1000) 1000) (bad := 1) (fun i hi hq => ?_) (fun i hi hq => ?_) ?_
     all_goals unfold ref16_Check_L1
     ·rw [dec_t (show (i : Int) < (p.2.1.length : Int) by omega), cond_true, gd_t (inB_t hi), Int.toNat_natCast, key2, hq, Option.bind_some, w1 hi (by omega)]; rfl
     ·rw [dec_t (show (i : Int) < (p.2.1.length : Int) by omega), cond_true, gd_t (inB_t hi), Int.toNat_natCast, key2, hq, Option.bind_some]; rfl
     ·rw [dec_f (by omega)]; rfl
    rw [e2, Option.bind_some]
    cases hq : pratesB p with
    | false => rfl
    | true =>
     simp only [cond_true, Sum.elim_inl]
     have hp := RB.of hz hr hq
     have e3 : iter (fun x3 => ref16_Check_L2 n p x3) 0 = some (bif balB n p then .inl () else .inr 12) := by
      refine iter_all (step := fun x => ref16_Check_L2 n p x) n.1.length (fun i => (i : Int)) (fun k => decide (comeF n p (k : Int) = leaveF n p (k : Int))) (fin := .inl ()) (bad := .inr 12) (fun i hi _ hq => ?_) (fun i hi _ hq => ?_) (fun _ => ?_)
      all_goals unfold ref16_Check_L2
      ·rw [dec_t (show (i : Int) < (n.1.length : Int) by omega), cond_true, net_eta, show ((p.1, (p.2.1, p.2.2)) : Pl) = p from rfl, rsums_eq hp m1 m2 s1 s2, Option.bind_some]
       simp only
       rw [hq, w1 hi (by have := hn.small.no; omega)]; rfl
      ·rw [dec_t (show (i : Int) < (n.1.length : Int) by omega), cond_true, net_eta, show ((p.1, (p.2.1, p.2.2)) : Pl) = p from rfl, rsums_eq hp m1 m2 s1 s2, Option.bind_some]
       simp only
       rw [hq]; rfl
      ·rw [dec_f (by omega)]; rfl
     rw [e3, Option.bind_some]
     cases hb : balB n p with
     | false => rfl
     | true =>
      simp only [cond_true, Sum.elim_inl]
      rw [show ((p.1, (p.2.1, p.2.2)) : Pl) = p from rfl, rorder_eq hn s1, Option.bind_some, natdec]
      cases ho : Nat.beq (ordL n p).length n.1.length with
      | true => have := Nat.eq_of_beq_eq_true ho; rw [dec_t this]; rfl
      | false =>
       have : (ordL n p).length ≠ n.1.length := fun e => by rw [e, Nat.beq_refl] at ho; cases ho
       rw [dec_f this]; rfl
 ·rw [if_pos h0, dec_f h0]; rfl

structure VPl (n : Net) (p : Pl) : Prop where
 net : chkNet n = 0
 sz : szB n p = true
 rt : ratesB n p = true
 pr : pratesB p = true
theorem VPl.of (h : chkPlan n p = 0) : VPl n p := by
 unfold chkPlan at h
 by_cases h0 : chkNet n = 0
 ·rw [if_neg (fun h => h h0)] at h
  obtain ⟨h1, h⟩ := bif_ne (by decide) h
  obtain ⟨h2, h⟩ := bif_ne (by decide) h
  rw [Bool.and_eq_true] at h2
  exact ⟨h0, h1, h2.1, h2.2⟩
 ·rw [if_pos h0] at h; exact absurd h h0
theorem VPl.rb (h : VPl n p) : RB p := RB.of h.sz h.rt h.pr
theorem VPl.len (h : VPl n p) : p.1.length = n.2.1.length ∧ p.2.1.length = n.2.2.1.length ∧ p.2.2.length = n.2.2.2.1.length := szB_iff.1 h.sz
def thr (n : Net) (p : Pl) (k : Int) : Int × Int := if chkPlan n p ≠ 0 then (0, chkPlan n p) else bif kn n k then (comeF n p k, 0) else (0, 8)
theorem knD (n : Net) (k : Int) : (bif decide (k < 0) then some true else some (decide ((n.1.length : Int) ≤ k))) = some (!kn n k) := by
 unfold kn
 by_cases a : k < 0
 ·rw [dec_t a, dec_f (show ¬ 0 ≤ k by omega)]; rfl
 ·rw [dec_f a, dec_t (show 0 ≤ k by omega), cond_false, Bool.true_and]
  by_cases b : (n.1.length : Int) ≤ k
  ·rw [dec_t b, dec_f (by omega)]; rfl
  ·rw [dec_f b, dec_t (by omega)]; rfl
theorem thr_eq (n : Net) (p : Pl) (k : Int) : flow_Through n p k = some (thr n p k) := by
 unfold flow_Through thr
 rw [net_eta, show ((p.1, (p.2.1, p.2.2)) : Pl) = p from rfl, flowcheck_eq, Option.bind_some]
 by_cases h : chkPlan n p = 0
 ·rw [dec_t h, if_neg (fun e => e h), Bool.not_true, cond_false, knD, Option.bind_some]
  have hv := VPl.of h
  have hn := VNet.of hv.net
  cases hk : kn n k with
  | false => rfl
  | true =>
   have hk := kn_iff.1 hk
   have := hn.small.no
   obtain ⟨k', rfl⟩ : ∃ k' : Nat, k = (k' : Int) := ⟨k.toNat, by omega⟩
   simp only [Bool.not_true, cond_false, cond_true]
   rw [fsums_eq hn hv.rb hv.len.1 hv.len.2.1, Option.bind_some, gd_t (inB_t (by omega)), Int.toNat_natCast]
   simp only
   rw [m24_get _ (by omega)]
 ·rw [dec_f h, if_pos h]; rfl
theorem rthr_eq (n : Net) (p : Pl) (k : Int) : ref16_Through n p k = some (thr n p k) := by
 unfold ref16_Through thr
 rw [net_eta, show ((p.1, (p.2.1, p.2.2)) : Pl) = p from rfl, refplan_eq, Option.bind_some]
 by_cases h : chkPlan n p = 0
 ·rw [dec_t h, if_neg (fun e => e h), Bool.not_true, cond_false, knD, Option.bind_some]
  have hv := VPl.of h
  have hn := VNet.of hv.net
  cases hk : kn n k with
  | false => rfl
  | true =>
   simp only [Bool.not_true, cond_false, cond_true]
   rw [rsums_eq hv.rb hn.small.sg hn.small.po hv.len.1 hv.len.2.1, Option.bind_some]
 ·rw [dec_f h, if_pos h]; rfl

/-! ### Lineups -/
def nz (l : List Int) : List Bool := l.map fun r => !decide (r = 0)
theorem nz_len (l : List Int) : (nz l).length = l.length := List.length_map ..
def need (p : Pl) : List Bool := nz p.1 ++ nz p.2.1
theorem nz_next {l : List Int} {i : Nat} (h : i < l.length) : nz (l.take (i + 1)) = nz (l.take i) ++ [!decide (l.getD i 0 = 0)] := by
 unfold nz; rw [take_next 0 h, List.map_append]; rfl
theorem flows_eq (l : List Int) (h : l.length ≤ 1000000) : lineup_flows l = some (nz l) := by
 unfold lineup_flows
 have := iter_for (step := fun x : Int × List Bool => lineup_flows_L0 l x.1 x.2) (e := nz l) l.length (fun i => ((i : Int), nz (l.take i))) (fun i hi => ?_) ?_
 ·have this : iter (fun x => lineup_flows_L0 l x.1 x.2) ((0 : Int), []) = some (nz l) := this
  rw [this]; rfl
 ·show lineup_flows_L0 l (i : Int) (nz (l.take i)) = some (.inl (((i + 1 : Nat) : Int), nz (l.take (i + 1))))
  unfold lineup_flows_L0
  rw [dec_t (show (i : Int) < (l.length : Int) by omega), cond_true, gd_t (inB_t hi), gd_t (fits_t (by rw [nz_len, List.length_take]; omega)), Int.toNat_natCast, w1 hi (by omega), nz_next hi]
 ·show lineup_flows_L0 l ((l.length : Nat) : Int) (nz (l.take l.length)) = _
  unfold lineup_flows_L0
  rw [dec_f (by omega), List.take_length]; rfl
theorem needs_eq (p : Pl) (h1 : p.1.length ≤ 1000000) (h2 : p.2.1.length ≤ 1000000) : ref24_Needs p = some (nz p.1, nz p.2.1) := by
 unfold ref24_Needs
 have e1 := iter_for (step := fun x : Int × List Bool => ref24_Needs_L0 p x.1 x.2) (e := nz p.1) p.1.length (fun i => ((i : Int), nz (p.1.take i))) (fun i hi => ?_) ?_
 ·have e1 : iter (fun x => ref24_Needs_L0 p x.1 x.2) ((0 : Int), []) = some (nz p.1) := e1
  rw [e1, Option.bind_some]
  have e2 := iter_for (step := fun x2 : Int × List Bool × List Bool => ref24_Needs_L1 p x2.1 x2.2.1 x2.2.2) (e := (nz p.1, nz p.2.1)) p.2.1.length (fun i => ((i : Int), nz p.1, nz (p.2.1.take i))) (fun i hi => ?_) ?_
  ·have e2 : iter (fun x2 => ref24_Needs_L1 p x2.1 x2.2.1 x2.2.2) ((0 : Int), nz p.1, []) = some (nz p.1, nz p.2.1) := e2
   rw [e2]; rfl
  ·show ref24_Needs_L1 p (i : Int) (nz p.1) (nz (p.2.1.take i)) = some (.inl (((i + 1 : Nat) : Int), nz p.1, nz (p.2.1.take (i + 1))))
   unfold ref24_Needs_L1
   rw [dec_t (show (i : Int) < (p.2.1.length : Int) by omega), cond_true, gd_t (inB_t hi), gd_t (fits_t (by rw [nz_len, List.length_take]; omega)), Int.toNat_natCast, w1 hi (by omega), nz_next hi]
  ·show ref24_Needs_L1 p ((p.2.1.length : Nat) : Int) (nz p.1) (nz (p.2.1.take p.2.1.length)) = _
   unfold ref24_Needs_L1
   rw [dec_f (by omega), List.take_length]; rfl
 ·show ref24_Needs_L0 p (i : Int) (nz (p.1.take i)) = some (.inl (((i + 1 : Nat) : Int), nz (p.1.take (i + 1))))
  unfold ref24_Needs_L0
  rw [dec_t (show (i : Int) < (p.1.length : Int) by omega), cond_true, gd_t (inB_t hi), gd_t (fits_t (by rw [nz_len, List.length_take]; omega)), Int.toNat_natCast, w1 hi (by omega), nz_next hi]
 ·show ref24_Needs_L0 p ((p.1.length : Nat) : Int) (nz (p.1.take p.1.length)) = _
  unfold ref24_Needs_L0
  rw [dec_f (by omega), List.take_length]; rfl
theorem all_eq (a b : List Bool) (h1 : a.length ≤ 1000000) (h2 : b.length ≤ 1000000) : ref24_All (a, b) = some (a ++ b) := by
 unfold ref24_All
 rw [gd_t (fits_t (by simp only; omega)), gd_t (fits_t (by simp only [List.nil_append]; omega))]; rfl
theorem numbers_eq (a b : List Bool) (h1 : a.length ≤ 1000000) (h2 : b.length ≤ 1000000) : lineup_Numbers (a, b) = some (a ++ b) := all_eq a b h1 h2
theorem need_eq (n : Net) (p : Pl) : lineup_Need n p = some (if chkPlan n p ≠ 0 then (chkPlan n p, [], []) else (0, nz p.1, nz p.2.1)) := by
 unfold lineup_Need
 rw [net_eta, netcheck_eq, Option.bind_some, show ((p.1, (p.2.1, p.2.2)) : Pl) = p from rfl, flowcheck_eq, Option.bind_some]
 by_cases h0 : chkNet n = 0
 ·rw [dec_t h0, Bool.not_true, cond_false]
  by_cases h : chkPlan n p = 0
  ·have hv := VPl.of h
   have hn := VNet.of h0
   have := hv.len
   have := hn.small.sg
   have := hn.small.po
   rw [dec_t h, if_neg (fun e => e h), Bool.not_true, cond_false, flows_eq _ (by omega), Option.bind_some, flows_eq _ (by omega)]; rfl
  ·rw [dec_f h, if_pos h]; rfl
 ·have e : chkPlan n p = chkNet n := by unfold chkPlan; rw [if_pos h0]
  rw [dec_f h0, e, if_pos h0]; rfl
end
end Go.Proofs.YtbljipjemhbooaaGreat
