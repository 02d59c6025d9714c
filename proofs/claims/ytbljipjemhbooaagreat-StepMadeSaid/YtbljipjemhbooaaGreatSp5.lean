/- Steps: a flow changes; a step is carried out. No condition. -/
import Derived.Test.YtbljipjemhbooaaGreatSp4
namespace Go.Proofs.YtbljipjemhbooaaGreat
open Go Go.Sq
set_option linter.unusedVariables false
section
variable {n : Net}
theorem rgk1 (v : Int) : (bif decide (v < -1000) then some true else some (decide (1000 < v))) = some (!rg (-1000) 1000 v) := by
 unfold rg; rw [notlt v (-1000), notlt 1000 v]
 cases decide (-1000 ≤ v) <;> cases decide (v ≤ 1000) <;> rfl
theorem rgk4 {A : Type} (v : Int) (x : A) : (bif decide (v < -1000) then some (true, x) else some (decide (1000 < v), x)) = some (!rg (-1000) 1000 v, x) := by
 unfold rg; rw [notlt v (-1000), notlt 1000 v]
 cases decide (-1000 ≤ v) <;> cases decide (v ≤ 1000) <;> rfl
theorem change_eq {d : Dk} (hd : VDk n d) (s : Stp) : inner (chgS n d s) (step_change n s d.1 d.2.1 d.2.2.1 d.2.2.2) := by
 unfold chgS step_change
 rw [rgk4, Option.bind_some]
 simp only
 cases hr : rg (-1000) 1000 s.2.2.1 with
 | false => exact ⟨_, rfl, rfl, fun e => by cases e⟩
 | true =>
  have hv := rg_iff.1 hr
  simp only [Bool.not_true, cond_false]
  rw [wi (by omega), net_eta, show ((s.2.2.2.1, (s.2.2.2.2.1, (s.2.2.2.2.2.1, max s.2.2.1 (0 - s.2.2.1)))) : Pth) = absP s from rfl, pathV_eq hd.net, Option.bind_some]
  cases hp : pathB n (absP s) with
  | false => exact ⟨_, rfl, rfl, fun e => by cases e⟩
  | true =>
   have hx := VPa.of hp
   simp only [Bool.not_true, cond_false]
   rw [show ((d.1, (d.2.1, (d.2.2.1, d.2.2.2))) : Dk) = d from rfl, grows_eq hd hx hv, Option.bind_some]
   cases hg : growB n d (absP s) s.2.2.1 with
   | false => exact ⟨_, rfl, rfl, fun e => by cases e⟩
   | true =>
    simp only [Bool.not_true, cond_false]
    rw [grow_eq hv hd.rate hd.prate hx hd.sz.1 hd.sz.2.1, Option.bind_some]
    simp only
    rw [show (((growP (absP s) s.2.2.1 d.2).1, ((growP (absP s) s.2.2.1 d.2).2.1, (growP (absP s) s.2.2.1 d.2).2.2)) : Pl) = growP (absP s) s.2.2.1 d.2 from rfl, flowcheck_eq, Option.bind_some]
    by_cases hc : chkPlan n (growP (absP s) s.2.2.1 d.2) = 0
    ·rw [dec_t hc, if_neg (fun e => e hc), Bool.not_true, cond_false, idles_eq hc, Option.bind_some]
     cases idleB n (growP (absP s) s.2.2.1 d.2) with
     | true => exact ⟨_, rfl, rfl, fun e => by cases e⟩
     | false => exact ⟨_, rfl, rfl, fun _ => rfl⟩
    ·rw [dec_f hc, if_pos hc]
     exact ⟨_, rfl, rfl, fun e => absurd e hc⟩
theorem rready_eq {d : Dk} (hd : VDk n d) {x : Pth} (hx : VPa n x) : ref26_ready n d x = some (rdPath n d x) := by
 have hn := (VNet.of hd.net).small
 have m1 := hn.sg
 have m2 := hn.po
 have hl := hd.len
 have hi := hx.i
 have ho := hx.o
 have h3 := hx.hl
 unfold ref26_ready
 rw [wi (by omega), wi (by omega)]
 have e1 := iter_for (step := fun y : Int × List Int => ref26_ready_L0 x y.1 y.2) (e := [(n.2.1.length : Int) + x.1, (n.2.1.length : Int) + x.2.1] ++ x.2.2.1.map (·.1)) x.2.2.1.length (fun i => ((i : Int), [(n.2.1.length : Int) + x.1, (n.2.1.length : Int) + x.2.1] ++ (x.2.2.1.take i).map (·.1))) (fun i hi' => ?_) ?_
 ·have e1 : iter (fun y => ref26_ready_L0 x y.1 y.2) ((0 : Int), [(n.2.1.length : Int) + x.1, (n.2.1.length : Int) + x.2.1]) = some ([(n.2.1.length : Int) + x.1, (n.2.1.length : Int) + x.2.1] ++ x.2.2.1.map (·.1)) := e1
  rw [e1, Option.bind_some]
  have hlen : ([(n.2.1.length : Int) + x.1, (n.2.1.length : Int) + x.2.1] ++ x.2.2.1.map (·.1)).length = 2 + x.2.2.1.length := by simp; omega
  have hin : ∀ k ∈ [(n.2.1.length : Int) + x.1, (n.2.1.length : Int) + x.2.1] ++ x.2.2.1.map (·.1), 0 ≤ k ∧ k < (d.1.length : Int) := by
   intro k hk
   simp only [List.cons_append, List.nil_append, List.mem_cons, List.mem_map] at hk
   rcases hk with rfl | rfl | ⟨h, hh, rfl⟩
   ·omega
   ·omega
   ·have := hx.h h hh; omega
  have hall : ([(n.2.1.length : Int) + x.1, (n.2.1.length : Int) + x.2.1] ++ x.2.2.1.map (·.1)).all (fun k => readyV (d.1.getD k.toNat v0)) = rdPath n d x := by
   unfold rdPath
   simp only [List.cons_append, List.nil_append, List.all_cons, List.all_map]
   rw [show (((n.2.1.length : Int) + x.1).toNat) = n.2.1.length + x.1.toNat by omega, show (((n.2.1.length : Int) + x.2.1).toNat) = n.2.1.length + x.2.1.toNat by omega]; rfl
  generalize hL : [(n.2.1.length : Int) + x.1, (n.2.1.length : Int) + x.2.1] ++ x.2.2.1.map (·.1) = L at hlen hin hall
  have key : ∀ i, i < L.length → (gd (inB (i : Int) L.length) (gd (inB (L.getD i 0) d.1.length) ((ref23_Open (d.1.getD (L.getD i 0).toNat (0, (0, (false, false))))).bind fun r =>
    bif !r then some (true, L) else gd (inB (i : Int) L.length) (gd (inB (L.getD i 0) d.1.length) (some ((!((((d.1.getD (L.getD i 0).toNat (0, (0, (false, false)))).2).2).1)), L))))) : Option (Bool × List Int)) = some (!readyV (d.1.getD (L.getD i 0).toNat v0), L) := by
   intro i hi'
   have hk := hin _ (gD_mem (d := 0) hi')
   have hB : inB (L.getD i 0) d.1.length = true := inB_iff.2 hk
   rw [gd_t (inB_t hi'), gd_t (inB_t hi'), gd_t hB, gd_t hB, show (d.1.getD (L.getD i 0).toNat (0, (0, (false, false)))) = d.1.getD (L.getD i 0).toNat v0 from rfl, ropen_eq, Option.bind_some]
   unfold readyV
   cases (validV (d.1.getD (L.getD i 0).toNat v0)) <;> cases (decide ((d.1.getD (L.getD i 0).toNat v0).2.1 = (d.1.getD (L.getD i 0).toNat v0).1)) <;> rfl
  have e2 := iter_all (step := fun y : Int × List Int => ref26_ready_L1 d y.1 y.2) L.length (fun i => ((i : Int), L)) (fun i => readyV (d.1.getD (L.getD i 0).toNat v0)) (fin := .inl ()) (bad := .inr false) (fun i hi' _ hq => ?_) (fun i hi' _ hq => ?_) (fun _ => ?_)
  ·have e2 : iter (fun y => ref26_ready_L1 d y.1 y.2) ((0 : Int), L) = some (bif (List.range L.length).all fun i => readyV (d.1.getD (L.getD i 0).toNat v0) then .inl () else .inr false) := e2
   rw [e2, Option.bind_some, all_gD L 0 (fun k => readyV (d.1.getD k.toNat v0)), hall]
   cases rdPath n d x <;> rfl
  ·show ref26_ready_L1 d (i : Int) L = _
   unfold ref26_ready_L1
   rw [dec_t (show (i : Int) < (L.length : Int) by omega), cond_true, Int.toNat_natCast, key i hi', hq, w1 hi' (by omega)]; rfl
  ·show ref26_ready_L1 d (i : Int) L = _
   unfold ref26_ready_L1
   rw [dec_t (show (i : Int) < (L.length : Int) by omega), cond_true, Int.toNat_natCast, key i hi', hq]; rfl
  ·show ref26_ready_L1 d ((L.length : Nat) : Int) L = _
   unfold ref26_ready_L1
   rw [dec_f (by omega)]; rfl
 ·show ref26_ready_L0 x (i : Int) ([(n.2.1.length : Int) + x.1, (n.2.1.length : Int) + x.2.1] ++ (x.2.2.1.take i).map (·.1)) = some (.inl (((i + 1 : Nat) : Int), [(n.2.1.length : Int) + x.1, (n.2.1.length : Int) + x.2.1] ++ (x.2.2.1.take (i + 1)).map (·.1)))
  unfold ref26_ready_L0
  rw [dec_t (show (i : Int) < (x.2.2.1.length : Int) by omega), cond_true, gd_t (inB_t hi'), gd_t (fits_t (by rw [List.length_append, List.length_map, List.length_take]; simp only [List.length_cons, List.length_nil]; omega)), Int.toNat_natCast, w1 hi' (by omega), take_next (0, false) hi', List.map_append, List.append_assoc]; rfl
 ·show ref26_ready_L0 x ((x.2.2.1.length : Nat) : Int) ([(n.2.1.length : Int) + x.1, (n.2.1.length : Int) + x.2.1] ++ (x.2.2.1.take x.2.2.1.length).map (·.1)) = _
  unfold ref26_ready_L0
  rw [dec_f (by omega), List.take_length]; rfl
theorem rflow_in {d : Dk} (hd : VDk n d) {x : Pth} (hx : VPa n x) {s : Stp} (hv : -1000 ≤ s.2.2.1 ∧ s.2.2.1 ≤ 1000) (q : List Int) (b : List Bool) :
  iter (fun x5 => ref26_flow_L0 d s x5.1 x5.2.1 x5.2.2.1 x5.2.2.2.1 x5.2.2.2.2.1 x5.2.2.2.2.2.1 x5.2.2.2.2.2.2.1 x5.2.2.2.2.2.2.2.1 x5.2.2.2.2.2.2.2.2.1 x5.2.2.2.2.2.2.2.2.2) (0, [], [], [], [], x.2.2.1, d.1, d.2.1, q, b) =
   some (bif x.2.2.1.all (hpOk d.2 s.2.2.1) then .inl ([], [], [], [], d.1, growR x.2.2.1 s.2.2.1 d.2.1, q, b) else .inr (22, d)) := by
 have h3 := hx.hl
 have hz := hd.sz
 have := iter_all (step := fun x5 : Int × List Vl × List Int × List Int × List Bool × List Hop × List Vl × List Int × List Int × List Bool => ref26_flow_L0 d s x5.1 x5.2.1 x5.2.2.1 x5.2.2.2.1 x5.2.2.2.2.1 x5.2.2.2.2.2.1 x5.2.2.2.2.2.2.1 x5.2.2.2.2.2.2.2.1 x5.2.2.2.2.2.2.2.2.1 x5.2.2.2.2.2.2.2.2.2) x.2.2.1.length (fun i => ((i : Int), [], [], [], [], x.2.2.1, d.1, growR (x.2.2.1.take i) s.2.2.1 d.2.1, q, b)) (fun i => hpOk d.2 s.2.2.1 (x.2.2.1.getD i (0, false)))
  (fin := .inl ([], [], [], [], d.1, growR x.2.2.1 s.2.2.1 d.2.1, q, b)) (bad := .inr (22, d)) (fun i hi _ hq => ?_) (fun i hi _ hq => ?_) (fun _ => ?_)
 ·rw [all_gD x.2.2.1 (0, false) (hpOk d.2 s.2.2.1)] at this
  exact this
 ·show ref26_flow_L0 d s (i : Int) [] [] [] [] x.2.2.1 d.1 (growR (x.2.2.1.take i) s.2.2.1 d.2.1) q b = some (.inl (((i + 1 : Nat) : Int), [], [], [], [], x.2.2.1, d.1, growR (x.2.2.1.take (i + 1)) s.2.2.1 d.2.1, q, b))
  have hh := hx.h _ (gD_mem (d := (0, false)) hi)
  have hr := hd.rate (x.2.2.1.getD i (0, false)).1.toNat
  have hA : inB (x.2.2.1.getD i (0, false)).1 d.2.1.length = true := inB_iff.2 (by omega)
  have hC : inB (x.2.2.1.getD i (0, false)).1 (growR (x.2.2.1.take i) s.2.2.1 d.2.1).length = true := inB_iff.2 (by rw [growR_len]; omega)
  have hg : (growR (x.2.2.1.take i) s.2.2.1 d.2.1).getD (x.2.2.1.getD i (0, false)).1.toNat 0 = d.2.1.getD (x.2.2.1.getD i (0, false)).1.toNat 0 := growR_other _ _ _ fun h hm => by
   obtain ⟨j, hj, rfl⟩ := mem_gD (0, false) hm
   rw [List.length_take] at hj
   rw [gD_take, if_pos (by omega)]
   have := hx.d j i (by omega) hi
   have := hx.h _ (gD_mem (d := (0, false)) (show j < x.2.2.1.length by omega))
   omega
  unfold ref26_flow_L0
  rw [dec_t (show (i : Int) < (x.2.2.1.length : Int) by omega), cond_true, gd_t (inB_t hi), Int.toNat_natCast]
  unfold hpOk along at hq
  rw [Bool.and_eq_true, decide_eq_true_iff, decide_eq_true_iff] at hq
  rw [growR_next hi, hg]
  unfold sgn
  cases hb : (x.2.2.1.getD i (0, false)).2 with
  | true =>
   rw [hb, if_pos rfl] at hq
   simp only [cond_true, Option.bind_some, gd_t hA, if_true]
   rw [wi (by omega), wi (by omega), dec_f (show ¬ -1 * d.2.1.getD (x.2.2.1.getD i (0, false)).1.toNat 0 < 0 by omega), dec_f (show ¬ -1 * d.2.1.getD (x.2.2.1.getD i (0, false)).1.toNat 0 + s.2.2.1 < 0 by omega), cond_false, Option.bind_some]
   simp only [cond_false]
   rw [gd_t hC, w1 hi (by omega), wi (by omega), show -1 * (-1 * d.2.1.getD (x.2.2.1.getD i (0, false)).1.toNat 0 + s.2.2.1) = d.2.1.getD (x.2.2.1.getD i (0, false)).1.toNat 0 + (0 - s.2.2.1) by omega]
  | false =>
   rw [hb, if_neg (by simp)] at hq
   simp only [cond_false, Option.bind_some, gd_t hA]
   rw [wi (by omega), wi (by omega), dec_f (show ¬ 1 * d.2.1.getD (x.2.2.1.getD i (0, false)).1.toNat 0 < 0 by omega), dec_f (show ¬ 1 * d.2.1.getD (x.2.2.1.getD i (0, false)).1.toNat 0 + s.2.2.1 < 0 by omega), cond_false, Option.bind_some]
   simp only [cond_false]
   rw [gd_t hC, w1 hi (by omega), wi (by omega), if_neg (by simp), show 1 * (1 * d.2.1.getD (x.2.2.1.getD i (0, false)).1.toNat 0 + s.2.2.1) = d.2.1.getD (x.2.2.1.getD i (0, false)).1.toNat 0 + s.2.2.1 by omega]
 ·show ref26_flow_L0 d s (i : Int) [] [] [] [] x.2.2.1 d.1 (growR (x.2.2.1.take i) s.2.2.1 d.2.1) q b = some (.inr (.inr (22, d)))
  have hh := hx.h _ (gD_mem (d := (0, false)) hi)
  have hr := hd.rate (x.2.2.1.getD i (0, false)).1.toNat
  have hA : inB (x.2.2.1.getD i (0, false)).1 d.2.1.length = true := inB_iff.2 (by omega)
  unfold ref26_flow_L0
  rw [dec_t (show (i : Int) < (x.2.2.1.length : Int) by omega), cond_true, gd_t (inB_t hi), Int.toNat_natCast]
  unfold hpOk along at hq
  rw [Bool.and_eq_false_iff, decide_eq_false_iff_not, decide_eq_false_iff_not] at hq
  cases hb : (x.2.2.1.getD i (0, false)).2 with
  | true =>
   rw [hb, if_pos rfl] at hq
   simp only [cond_true, Option.bind_some, gd_t hA]
   rw [wi (by omega), wi (by omega)]
   by_cases h0 : -1 * d.2.1.getD (x.2.2.1.getD i (0, false)).1.toNat 0 < 0
   ·rw [dec_t h0]; rfl
   ·rw [dec_f h0, dec_t (show -1 * d.2.1.getD (x.2.2.1.getD i (0, false)).1.toNat 0 + s.2.2.1 < 0 by omega)]; rfl
  | false =>
   rw [hb, if_neg (by simp)] at hq
   simp only [cond_false, Option.bind_some, gd_t hA]
   rw [wi (by omega), wi (by omega)]
   by_cases h0 : 1 * d.2.1.getD (x.2.2.1.getD i (0, false)).1.toNat 0 < 0
   ·rw [dec_t h0]; rfl
   ·rw [dec_f h0, dec_t (show 1 * d.2.1.getD (x.2.2.1.getD i (0, false)).1.toNat 0 + s.2.2.1 < 0 by omega)]; rfl
 ·show ref26_flow_L0 d s ((x.2.2.1.length : Nat) : Int) [] [] [] [] x.2.2.1 d.1 (growR (x.2.2.1.take x.2.2.1.length) s.2.2.1 d.2.1) q b = _
  unfold ref26_flow_L0
  rw [dec_f (by omega), List.take_length]; rfl
end
end Go.Proofs.YtbljipjemhbooaaGreat
