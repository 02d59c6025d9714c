/- Steps: what a step does. No condition. -/
import Derived.Test.YtbljipjemhbooaaGreatSp3
namespace Go.Proofs.YtbljipjemhbooaaGreat
open Go Go.Sq
set_option linter.unusedVariables false
def cmdV (v : Vl) (w : Bool) : Vl := (v.1, (v.2.1, (w, v.2.2.2)))
def movO (v : Vl) (t : Int) : Int := bif v.2.2.2 then v.2.1 else (if v.2.1 < (bif v.2.2.1 then v.1 else 0) then min (bif v.2.2.1 then v.1 else 0) (v.2.1 + t) else max (bif v.2.2.1 then v.1 else 0) (v.2.1 - t))
def movV (v : Vl) (t : Int) : Vl := (v.1, (movO v t, (v.2.2.1, v.2.2.2)))
def absP (s : Stp) : Pth := (s.2.2.2.1, (s.2.2.2.2.1, (s.2.2.2.2.2.1, max s.2.2.1 (0 - s.2.2.1))))
def turnS (n : Net) (d : Dk) (s : Stp) : Dk × Int := bif !(decide (0 ≤ s.2.1) && decide (s.2.1 < (d.1.length : Int))) then (d, 8) else
 bif decide (s.1 = 2) && (need d.2).getD s.2.1.toNat false then (d, 22) else ((d.1.set s.2.1.toNat (cmdV (d.1.getD s.2.1.toNat v0) (decide (s.1 = 1))), d.2), 0)
def setP (p : Pl) (i : Nat) (b : Bool) : Pl := (p.1, (p.2.1, p.2.2.set i b))
def runS (n : Net) (d : Dk) (s : Stp) : Dk × Int := bif !(decide (0 ≤ s.2.1) && decide (s.2.1 < (n.2.2.2.1.length : Int))) then (d, 8) else
 bif decide (s.1 = 3) && decide (comeF n d.2 (n.2.2.2.1.getD s.2.1.toNat sta0).2.1 = 0) then (d, 22) else ((d.1, setP d.2 s.2.1.toNat (decide (s.1 = 3))), 0)
def chgS (n : Net) (d : Dk) (s : Stp) : Dk × Int := bif !rg (-1000) 1000 s.2.2.1 then (d, 23) else
 bif !pathB n (absP s) then (d, 23) else bif !growB n d (absP s) s.2.2.1 then (d, 22) else
 (if chkPlan n (growP (absP s) s.2.2.1 d.2) ≠ 0 then (d, chkPlan n (growP (absP s) s.2.2.1 d.2)) else bif idleB n (growP (absP s) s.2.2.1 d.2) then (d, 22) else ((d.1, growP (absP s) s.2.2.1 d.2), 0))
def waitS (d : Dk) (s : Stp) : Dk × Int := bif !rg 1 100 s.2.2.1 then (d, 1) else ((d.1.map fun v => movV v s.2.2.1, d.2), 0)
def stepS (n : Net) (d : Dk) (s : Stp) : Dk × Int := bif !blankB s then (d, 22) else
 bif decide (s.1 = 1) || decide (s.1 = 2) then turnS n d s else bif decide (s.1 = 3) || decide (s.1 = 4) then runS n d s else bif decide (s.1 = 5) then chgS n d s else waitS d s
def appS (n : Net) (d : Dk) (s : Stp) : Dk × Int := if chkDesk n d ≠ 0 then (d, chkDesk n d) else stepS n d s
section
variable {n : Net}
theorem oob (a b : Int) : (bif decide (a < 0) then some true else some (decide (b ≤ a))) = some (!(decide (0 ≤ a) && decide (a < b))) := by
 rw [notlt a 0, notlt a b]
 cases decide (0 ≤ a) <;> cases decide (b ≤ a) <;> rfl
theorem oob4 {A : Type} (a b : Int) (x : A) : (bif decide (a < 0) then some (true, x) else some (decide (b ≤ a), x)) = some (!(decide (0 ≤ a) && decide (a < b)), x) := by
 rw [notlt a 0, notlt a b]
 cases decide (0 ≤ a) <;> cases decide (b ≤ a) <;> rfl
theorem inn_iff {a b : Int} : (decide (0 ≤ a) && decide (a < b)) = true ↔ 0 ≤ a ∧ a < b := by rw [Bool.and_eq_true, decide_eq_true_iff, decide_eq_true_iff]
theorem cmd_eq {v : Vl} (h : validV v = true) (w : Bool) : valve_Command v w = some (cmdV v w, 0) := by
 unfold valve_Command
 rw [show ((v.1, (v.2.1, (v.2.2.1, v.2.2.2))) : Vl) = v from rfl, valid_eq, Option.bind_some, h]; rfl
theorem rcmd_eq {v : Vl} (h : validV v = true) (w : Bool) : ref23_Command v w = some (cmdV v w, 0) := cmd_eq h w
theorem VDk.val1 {d : Dk} (hd : VDk n d) {i : Nat} (hi : i < d.1.length) : validV (d.1.getD i v0) = true := List.all_eq_true.1 hd.val _ (gD_mem hi)
theorem VDk.needl {d : Dk} (hd : VDk n d) : (need d.2).length = d.1.length := by rw [need_len (VPl.of hd.pl).sz, hd.len]
def inner (r : Dk × Int) (o : Option (Int × List Vl × List Int × List Int × List Bool)) : Prop := ∃ y, o = some y ∧ y.1 = r.2 ∧ (r.2 = 0 → y.2 = r.1)
theorem turn_eq {d : Dk} (hd : VDk n d) (s : Stp) : inner (turnS n d s) (step_turn n s d.1 d.2.1 d.2.2.1 d.2.2.2) := by
 unfold turnS step_turn
 rw [oob4, Option.bind_some]
 simp only
 cases hb : (decide (0 ≤ s.2.1) && decide (s.2.1 < (d.1.length : Int))) with
 | false => exact ⟨_, rfl, rfl, fun e => by cases e⟩
 | true =>
  have hb := inn_iff.1 hb
  have hz := hd.sz
  have hs := (VNet.of hd.net).small
  have m1 := hs.sg
  have m2 := hs.po
  have hl := hd.len
  simp only [Bool.not_true, cond_false]
  have e1 : ∀ (q : Bool), (bif decide (s.1 = 2) then
    (lineup_Need (n.1, (n.2.1, (n.2.2.1, (n.2.2.2.1, (n.2.2.2.2.1, n.2.2.2.2.2))))) (d.2.1, (d.2.2.1, d.2.2.2))).bind fun r =>
     bif !decide (r.1 = 0) then some (.inr (r.1, d.1, d.2.1, d.2.2.1, d.2.2.2))
     else (lineup_Numbers (r.2.1, r.2.2)).bind fun r2 =>
      gd (inB s.2.1 r2.length) (bif r2.getD s.2.1.toNat false then some (.inr (22, d.1, d.2.1, d.2.2.1, d.2.2.2)) else some (.inl (d.1, d.2.1, d.2.2.1, d.2.2.2)))
    else (some (.inl (d.1, d.2.1, d.2.2.1, d.2.2.2)) : Option (Dk ⊕ (Int × Dk)))) = some (bif decide (s.1 = 2) && (need d.2).getD s.2.1.toNat false then .inr (22, d) else .inl d) := by
   intro q
   cases decide (s.1 = 2) with
   | false => rfl
   | true =>
    rw [cond_true, net_eta, show ((d.2.1, (d.2.2.1, d.2.2.2)) : Pl) = d.2 from rfl, need_eq, Option.bind_some, if_neg (fun e => e hd.pl)]
    simp only [decide_true, Bool.not_true, cond_false, Bool.true_and]
    rw [numbers_eq _ _ (by rw [nz_len]; omega) (by rw [nz_len]; omega), Option.bind_some, show nz d.2.1 ++ nz d.2.2.1 = need d.2 from rfl, gd_t (inB_iff.2 (by rw [hd.needl]; omega))]
    cases (need d.2).getD s.2.1.toNat false <;> rfl
  rw [e1 true, Option.bind_some]
  cases (decide (s.1 = 2) && (need d.2).getD s.2.1.toNat false) with
  | true => exact ⟨_, rfl, rfl, fun e => by cases e⟩
  | false =>
   simp only [cond_false, Sum.elim_inl]
   rw [gd_t (inB_iff.2 (by omega)), show (d.1.getD s.2.1.toNat (0, (0, (false, false)))) = d.1.getD s.2.1.toNat v0 from rfl, cmd_eq (hd.val1 (by omega)), Option.bind_some, gd_t (inB_iff.2 (by omega))]
   exact ⟨_, rfl, rfl, fun _ => rfl⟩
theorem rturn_eq {d : Dk} (hd : VDk n d) (s : Stp) : ref26_turn d s = some (turnS n d s) := by
 unfold turnS ref26_turn
 rw [oob, Option.bind_some]
 cases hb : (decide (0 ≤ s.2.1) && decide (s.2.1 < (d.1.length : Int))) with
 | false => rfl
 | true =>
  have hb := inn_iff.1 hb
  have hz := hd.sz
  have hs := (VNet.of hd.net).small
  have m1 := hs.sg
  have m2 := hs.po
  have hl := hd.len
  simp only [Bool.not_true, cond_false]
  have e1 : (bif decide (s.1 = 2) then
    (ref24_Needs (d.2.1, (d.2.2.1, d.2.2.2))).bind fun r => (ref24_All (r.1, r.2)).bind fun r2 => gd (inB s.2.1 r2.length) (some (r2.getD s.2.1.toNat false))
    else some false) = some (decide (s.1 = 2) && (need d.2).getD s.2.1.toNat false) := by
   cases decide (s.1 = 2) with
   | false => rfl
   | true =>
    rw [cond_true, show ((d.2.1, (d.2.2.1, d.2.2.2)) : Pl) = d.2 from rfl, needs_eq _ (by omega) (by omega), Option.bind_some, all_eq _ _ (by rw [nz_len]; omega) (by rw [nz_len]; omega), Option.bind_some, show nz d.2.1 ++ nz d.2.2.1 = need d.2 from rfl, gd_t (inB_iff.2 (by rw [hd.needl]; omega))]; rfl
  rw [e1, Option.bind_some]
  cases (decide (s.1 = 2) && (need d.2).getD s.2.1.toNat false) with
  | true => rfl
  | false =>
   simp only [cond_false]
   rw [show ((d.1, (d.2.1, (d.2.2.1, d.2.2.2))) : Dk) = d from rfl, rcopy_eq hd.small, Option.bind_some, gd_t (inB_iff.2 (by omega)), show (d.1.getD s.2.1.toNat (0, (0, (false, false)))) = d.1.getD s.2.1.toNat v0 from rfl, rcmd_eq (hd.val1 (by omega)), Option.bind_some, gd_t (inB_iff.2 (by omega))]
theorem chk_setP (p : Pl) (i : Nat) (b : Bool) : chkPlan n (setP p i b) = chkPlan n p := by
 have e1 : szB n (setP p i b) = szB n p := by unfold szB setP; rw [List.length_set]
 have e2 : ∀ f th, topo n (setP p i b) f th = topo n p f th := by
  intro f
  induction f with
  | zero => intro _; rfl
  | succ f ih =>
   intro th
   unfold topo
   rw [show nextF n (setP p i b) th = nextF n p th from rfl]
   cases nextF n p th with
   | none => rfl
   | some k => exact congrArg _ (ih _)
 unfold chkPlan
 rw [e1, show ordL n (setP p i b) = ordL n p from e2 _ _]; rfl
theorem idle_setP {d : Dk} (hd : VDk n d) {i : Nat} (hi : i < n.2.2.2.1.length) (b : Bool) : idleB n (setP d.2 i b) = (b && decide (comeF n d.2 (n.2.2.2.1.getD i sta0).2.1 = 0)) := by
 have hn := hd.idl
 unfold idleB at hn ⊢
 have hz := hd.sz
 rw [List.any_eq_false] at hn
 have key : ∀ j, j < n.2.2.2.1.length → idleAt n (setP d.2 i b) j = (decide (j = i) && (b && decide (comeF n d.2 (n.2.2.2.1.getD i sta0).2.1 = 0))) := by
  intro j hj
  have h1 := hn j (List.mem_range.2 hj)
  unfold idleAt at h1 ⊢
  have e : comeF n (setP d.2 i b) (n.2.2.2.1.getD j sta0).2.1 = comeF n d.2 (n.2.2.2.1.getD j sta0).2.1 := rfl
  rw [e, show (setP d.2 i b).2.2 = d.2.2.2.set i b from rfl, gD_set]
  by_cases hji : i = j
  ·subst hji; rw [if_pos ⟨rfl, by omega⟩, dec_t rfl]; rfl
  ·rw [if_neg (fun h => hji h.1), dec_f (show ¬ j = i from fun h => hji h.symm)]
   revert h1; cases (d.2.2.2.getD j false && decide (comeF n d.2 (n.2.2.2.1.getD j sta0).2.1 = 0)) <;> simp
 rw [Bool.eq_iff_iff, List.any_eq_true]
 constructor
 ·rintro ⟨j, hj, h⟩
  rw [key j (List.mem_range.1 hj), Bool.and_eq_true] at h
  exact h.2
 ·intro h
  exact ⟨i, List.mem_range.2 hi, by rw [key i hi, h, dec_t rfl]; rfl⟩
theorem run_eq {d : Dk} (hd : VDk n d) (s : Stp) : inner (runS n d s) (step_run n s d.1 d.2.1 d.2.2.1 d.2.2.2) := by
 unfold runS step_run
 rw [oob4, Option.bind_some]
 simp only
 cases hb : (decide (0 ≤ s.2.1) && decide (s.2.1 < (n.2.2.2.1.length : Int))) with
 | false => exact ⟨_, rfl, rfl, fun e => by cases e⟩
 | true =>
  have hb := inn_iff.1 hb
  have hz := hd.sz
  obtain ⟨i, hi⟩ : ∃ i : Nat, s.2.1 = (i : Int) := ⟨s.2.1.toNat, by omega⟩
  simp only [Bool.not_true, cond_false]
  rw [hi, Int.toNat_natCast, net_eta, show ((d.2.1, (d.2.2.1, d.2.2.2)) : Pl) = d.2 from rfl, leaves_eq hd.pl (by omega), Option.bind_some, Bool.not_not]
  cases hk : decide (s.1 = 3) with
  | false =>
   simp only [cond_false, Option.bind_some, Bool.false_and]
   rw [gd_t (inB_t (by omega))]
   exact ⟨_, rfl, rfl, fun _ => rfl⟩
  | true =>
   simp only [cond_true, Option.bind_some, Bool.true_and]
   cases decide (comeF n d.2 (n.2.2.2.1.getD i sta0).2.1 = 0) with
   | true => exact ⟨_, rfl, rfl, fun e => by cases e⟩
   | false =>
    simp only [cond_false]
    rw [gd_t (inB_t (by omega))]
    exact ⟨_, rfl, rfl, fun _ => rfl⟩
theorem rpump_eq {d : Dk} (hd : VDk n d) (s : Stp) : ref26_pump n d s = some (runS n d s) := by
 unfold runS ref26_pump
 rw [oob, Option.bind_some]
 cases hb : (decide (0 ≤ s.2.1) && decide (s.2.1 < (n.2.2.2.1.length : Int))) with
 | false => rfl
 | true =>
  have hb := inn_iff.1 hb
  have hz := hd.sz
  obtain ⟨i, hi⟩ : ∃ i : Nat, s.2.1 = (i : Int) := ⟨s.2.1.toNat, by omega⟩
  simp only [Bool.not_true, cond_false]
  rw [hi, Int.toNat_natCast, show ((d.1, (d.2.1, (d.2.2.1, d.2.2.2))) : Dk) = d from rfl, rcopy_eq hd.small, Option.bind_some, gd_t (inB_t (by omega)), net_eta,
   show ((d.2.1, (d.2.2.1, d.2.2.2.set i (decide (s.1 = 3)))) : Pl) = setP d.2 i (decide (s.1 = 3)) from rfl, rfed_eq (by rw [chk_setP]; exact hd.pl), Option.bind_some, Bool.not_not, idle_setP hd (by omega)]
  cases (decide (s.1 = 3) && decide (comeF n d.2 (n.2.2.2.1.getD i sta0).2.1 = 0)) <;> rfl

/-! ### Waiting -/
theorem valid_iff {v : Vl} : validV v = true ↔ 1 ≤ v.1 ∧ v.1 ≤ 60 ∧ 0 ≤ v.2.1 ∧ v.2.1 ≤ v.1 := by
 unfold validV; rw [Bool.and_eq_true, rg_iff, rg_iff, and_assoc]
theorem bif_same {A : Type} (c : Bool) (x : A) : (bif c then x else x) = x := by cases c <;> rfl
theorem pass_eq {v : Vl} (h : validV v = true) {t : Int} (ht : 1 ≤ t ∧ t ≤ 100) : valve_Pass v t = some (movV v t, 0) := by
 have hv := valid_iff.1 h
 unfold valve_Pass
 rw [show ((v.1, (v.2.1, (v.2.2.1, v.2.2.2))) : Vl) = v from rfl, valid_eq, Option.bind_some, h, dec_f (show ¬ t < 0 by omega), dec_f (show ¬ 400 < t by omega)]
 simp only [Bool.not_true, cond_false, Option.bind_some]
 have e : valve_moved v t = some (movV v t) := by
  unfold valve_moved valve_goal
  rw [wi (by omega), wi (by omega)]
  have eg : (bif v.2.2.1 then some v.1 else some 0) = some (bif v.2.2.1 then v.1 else 0) := by cases v.2.2.1 <;> rfl
  simp only
  rw [eg, Option.bind_some]
  have em : (bif v.2.2.2 then some v.2.1 else Option.bind (α := Int) (bif decide (v.2.1 < (bif v.2.2.1 then v.1 else 0)) then some (min (bif v.2.2.1 then v.1 else 0) (v.2.1 + t)) else some (max (bif v.2.2.1 then v.1 else 0) (v.2.1 - t))) fun s => some s) = some (movO v t) := by
   unfold movO
   cases v.2.2.2 with
   | true => rfl
   | false =>
    simp only [cond_false]
    by_cases hc : v.2.1 < (bif v.2.2.1 then v.1 else 0)
    ·rw [dec_t hc, if_pos hc]; rfl
    ·rw [dec_f hc, if_neg hc]; rfl
  rw [em, Option.bind_some]
  by_cases hc : movO v t = v.2.1
  ·rw [show movV v t = v by unfold movV; rw [hc], hc]; exact bif_same _ _
  ·rw [dec_f hc, Bool.false_and, Bool.and_false]; rfl
 rw [e]; rfl
theorem mov_valid {v : Vl} (h : validV v = true) {t : Int} (ht : 0 ≤ t) : validV (movV v t) = true := by
 rw [valid_iff] at h ⊢
 unfold movV movO
 simp only
 cases v.2.2.2 <;> cases v.2.2.1 <;> simp only [cond_true, cond_false] <;> (try split) <;> omega
theorem mov_zero {v : Vl} (h : validV v = true) : movV v 0 = v := by
 rw [valid_iff] at h
 have : movO v 0 = v.2.1 := by
  unfold movO
  cases v.2.2.2 <;> cases v.2.2.1 <;> simp only [cond_true, cond_false] <;> (try split) <;> omega
 unfold movV; rw [this]
theorem rstep_eq {v : Vl} (h : validV v = true) (i : Nat) : ref23_Step (movV v (i : Int)) = some (movV v ((i + 1 : Nat) : Int), 0) := by
 have hm := mov_valid h (t := (i : Int)) (by omega)
 have hm2 := valid_iff.1 hm
 rw [valid_iff] at h
 unfold ref23_Step
 rw [show (((movV v (i : Int)).1, ((movV v (i : Int)).2.1, ((movV v (i : Int)).2.2.1, (movV v (i : Int)).2.2.2))) : Vl) = movV v (i : Int) from rfl, rvalid_eq, Option.bind_some, hm, wi (by omega), wi (by omega)]
 unfold movV movO at hm2 ⊢
 simp only at hm2 ⊢
 cases h1 : v.2.2.2 <;> cases h2 : v.2.2.1 <;> simp only [h1, h2, cond_true, cond_false, Bool.not_true, Bool.not_false, Option.bind_some] at hm2 ⊢
 ·by_cases hz : v.2.1 < 0
  ·omega
  ·rw [if_neg hz] at hm2
   rw [if_neg hz, if_neg hz]
   by_cases hc : 0 < max 0 (v.2.1 - (i : Int))
   ·rw [dec_t hc, cond_true, Option.bind_some, Option.bind_some, show max 0 (v.2.1 - (i : Int)) - 1 = max 0 (v.2.1 - ((i + 1 : Nat) : Int)) by omega]
   ·rw [dec_f hc, cond_false, Option.bind_some, Option.bind_some, show max 0 (v.2.1 - (i : Int)) = max 0 (v.2.1 - ((i + 1 : Nat) : Int)) by omega]
 ·by_cases hz : v.2.1 < v.1
  ·rw [if_pos hz] at hm2
   rw [if_pos hz, if_pos hz]
   by_cases hc : min v.1 (v.2.1 + (i : Int)) < v.1
   ·rw [dec_t hc, cond_true, Option.bind_some, show min v.1 (v.2.1 + (i : Int)) + 1 = min v.1 (v.2.1 + ((i + 1 : Nat) : Int)) by omega]
   ·rw [dec_f hc, cond_false, Option.bind_some, show min v.1 (v.2.1 + (i : Int)) = min v.1 (v.2.1 + ((i + 1 : Nat) : Int)) by omega]
  ·rw [if_neg hz] at hm2
   rw [if_neg hz, if_neg hz, dec_f (show ¬ max v.1 (v.2.1 - (i : Int)) < v.1 by omega), cond_false, Option.bind_some, show max v.1 (v.2.1 - (i : Int)) = max v.1 (v.2.1 - ((i + 1 : Nat) : Int)) by omega]
theorem rpass_eq {v : Vl} (h : validV v = true) {t : Int} (ht : 1 ≤ t ∧ t ≤ 100) : ref23_Pass v t = some (movV v t, 0) := by
 obtain ⟨m, rfl⟩ : ∃ m : Nat, t = (m : Int) := ⟨t.toNat, by omega⟩
 unfold ref23_Pass
 rw [show ((v.1, (v.2.1, (v.2.2.1, v.2.2.2))) : Vl) = v from rfl, rvalid_eq, Option.bind_some, h, dec_f (show ¬ (m : Int) < 0 by omega), dec_f (show ¬ 400 < (m : Int) by omega)]
 simp only [Bool.not_true, cond_false, Option.bind_some]
 have := iter_for (step := fun x : Int × Int × Int × Bool × Bool => ref23_Pass_L0 (m : Int) x.1 x.2.1 x.2.2.1 x.2.2.2.1 x.2.2.2.2) (e := movV v (m : Int)) m (fun i => ((i : Int), movV v (i : Int))) (fun i hi => ?_) ?_
 ·have this : iter (fun x => ref23_Pass_L0 (m : Int) x.1 x.2.1 x.2.2.1 x.2.2.2.1 x.2.2.2.2) ((0 : Int), movV v 0) = some (movV v (m : Int)) := this
  rw [mov_zero h] at this
  rw [show ((0, v.1, v.2.1, v.2.2.1, v.2.2.2) : Int × Vl) = (0, v) from rfl, this]; rfl
 ·show ref23_Pass_L0 (m : Int) (i : Int) (movV v (i : Int)).1 (movV v (i : Int)).2.1 (movV v (i : Int)).2.2.1 (movV v (i : Int)).2.2.2 = _
  unfold ref23_Pass_L0
  rw [dec_t (show (i : Int) < (m : Int) by omega), cond_true, show (((movV v (i : Int)).1, ((movV v (i : Int)).2.1, ((movV v (i : Int)).2.2.1, (movV v (i : Int)).2.2.2))) : Vl) = movV v (i : Int) from rfl, rstep_eq h, Option.bind_some, w1 hi (by omega)]
 ·show ref23_Pass_L0 (m : Int) (m : Int) (movV v (m : Int)).1 (movV v (m : Int)).2.1 (movV v (m : Int)).2.2.1 (movV v (m : Int)).2.2.2 = _
  unfold ref23_Pass_L0
  rw [dec_f (by omega)]; rfl
theorem rg1 (v : Int) : (bif decide (v < 1) then some true else some (decide (100 < v))) = some (!rg 1 100 v) := by
 unfold rg; rw [notlt v 1, notlt 100 v]
 cases decide (1 ≤ v) <;> cases decide (v ≤ 100) <;> rfl
theorem rg14 {A : Type} (v : Int) (x : A) : (bif decide (v < 1) then some (true, x) else some (decide (100 < v), x)) = some (!rg 1 100 v, x) := by
 unfold rg; rw [notlt v 1, notlt 100 v]
 cases decide (1 ≤ v) <;> cases decide (v ≤ 100) <;> rfl
theorem wait_eq {d : Dk} (hd : VDk n d) (s : Stp) (m : Net) : inner (waitS d s) (step_wait m s d.1 d.2.1 d.2.2.1 d.2.2.2) := by
 unfold waitS step_wait
 rw [rg14, Option.bind_some]
 simp only
 cases hr : rg 1 100 s.2.2.1 with
 | false => exact ⟨_, rfl, rfl, fun e => by cases e⟩
 | true =>
  have ht := rg_iff.1 hr
  have hl := hd.small.v
  simp only [Bool.not_true, cond_false]
  have := iter_for (step := fun x : Int × List Vl × List Int × List Int × List Bool => step_wait_L0 s (false, d) x.1 x.2.1 x.2.2.1 x.2.2.2.1 x.2.2.2.2) (e := .inl (d.1.map fun v => movV v s.2.2.1, d.2)) d.1.length (fun i => ((i : Int), mix (d.1.map fun v => movV v s.2.2.1) d.1 i, d.2)) (fun i hi => ?_) ?_
  ·have this : iter (fun x => step_wait_L0 s (false, d.1, d.2.1, d.2.2.1, d.2.2.2) x.1 x.2.1 x.2.2.1 x.2.2.2.1 x.2.2.2.2) ((0 : Int), mix (d.1.map fun v => movV v s.2.2.1) d.1 0, d.2) = some (.inl (d.1.map fun v => movV v s.2.2.1, d.2)) := this
   rw [mix_0] at this
   rw [show ((0, d.1, d.2.1, d.2.2.1, d.2.2.2) : Int × Dk) = (0, d.1, d.2) from rfl, this]
   exact ⟨_, rfl, rfl, fun _ => rfl⟩
  ·show step_wait_L0 s (false, d) (i : Int) (mix (d.1.map fun v => movV v s.2.2.1) d.1 i) d.2.1 d.2.2.1 d.2.2.2 = _
   unfold step_wait_L0
   have hm : (d.1.map fun v => movV v s.2.2.1).length = d.1.length := List.length_map ..
   have hg : (mix (d.1.map fun v => movV v s.2.2.1) d.1 i).getD i (0, (0, (false, false))) = d.1.getD i v0 := by rw [gD_mix hm rfl, if_neg (by omega)]
   have hB : inB (i : Int) (mix (d.1.map fun v => movV v s.2.2.1) d.1 i).length = true := inB_t (by rw [mix_len hm rfl]; exact hi)
   rw [dec_t (show (i : Int) < (d.1.length : Int) by omega), cond_true, gd_t hB, Int.toNat_natCast, hg,
    show (((d.1.getD i v0).1, (((d.1.getD i v0).2).1, ((((d.1.getD i v0).2).2).1, (((d.1.getD i v0).2).2).2))) : Vl) = d.1.getD i v0 from rfl, pass_eq (hd.val1 hi) ht, Option.bind_some, gd_t hB]
   simp only [decide_true, Bool.not_true, cond_false]
   rw [w1 hi (by omega), show (((movV (d.1.getD i v0) s.2.2.1).1, ((movV (d.1.getD i v0) s.2.2.1).2.1, ((movV (d.1.getD i v0) s.2.2.1).2.2.1, (movV (d.1.getD i v0) s.2.2.1).2.2.2))) : Vl) = movV (d.1.getD i v0) s.2.2.1 from rfl,
    set_mix hm rfl v0 hi (by rw [gD_map _ _ _ v0 _ hi])]
  ·show step_wait_L0 s (false, d) ((d.1.length : Nat) : Int) (mix (d.1.map fun v => movV v s.2.2.1) d.1 d.1.length) d.2.1 d.2.2.1 d.2.2.2 = _
   unfold step_wait_L0
   have hm : (d.1.map fun v => movV v s.2.2.1).length = d.1.length := List.length_map ..
   rw [dec_f (show ¬ ((d.1.length : Nat) : Int) < (d.1.length : Int) by omega), mix_n hm rfl]; rfl
end
end Go.Proofs.YtbljipjemhbooaaGreat
