/- Steps: the idle desk; the example; any step on a desk that is made of numbers. No condition. -/
import Derived.Test.YtbljipjemhbooaaGreatSp9
namespace Go.Proofs.YtbljipjemhbooaaGreat
open Go Go.Sq
set_option linter.unusedVariables false
theorem mul_eq : ∀ k : Fin 100, math_bits_Mul (wu64 1) (wu64 ((k.val : Nat) : Int)) = some (0, ((k.val : Nat) : Int)) := by decide +kernel
theorem rep_in (v : Vl) (k : Nat) (hk : k ≤ 1000) : ∀ (f m : Nat) (l : List Vl), k ≤ m + f → 1 ≤ m → m ≤ k → l.length = k → (∀ i, i < m → l[i]? = some v) →
  iter (fun x2 => slices_Repeat_api_Valve_api_Valve_L0 x2.1 x2.2) ((m : Int), l) = some (List.replicate k v) := by
 have fin : ∀ (l : List Vl), l.length = k → (∀ i, i < k → l[i]? = some v) → l = List.replicate k v := fun l hl h => by
  refine List.ext_getElem? fun i => ?_
  by_cases hi : i < k
  ·rw [h i hi, List.getElem?_replicate, if_pos hi]
  ·rw [List.getElem?_eq_none (by omega), List.getElem?_eq_none (by simp; omega)]
 intro f
 induction f with
 | zero =>
  intro m l hf h1 hm hl h
  have : m = k := by omega
  subst this
  rw [← fin l hl h]
  exact iter_inr (by show slices_Repeat_api_Valve_api_Valve_L0 (m : Int) l = _; unfold slices_Repeat_api_Valve_api_Valve_L0; rw [dec_f (by omega)]; rfl)
 | succ f ih =>
  intro m l hf h1 hm hl h
  by_cases he : m = k
  ·subst he
   rw [← fin l hl h]
   exact iter_inr (by show slices_Repeat_api_Valve_api_Valve_L0 (m : Int) l = _; unfold slices_Repeat_api_Valve_api_Valve_L0; rw [dec_f (by omega)]; rfl)
  ·have hlt : (l.take m).length = m := by rw [List.length_take]; omega
   have hst : slices_Repeat_api_Valve_api_Valve_L0 (m : Int) l = some (.inl (((m + min m (k - m) : Nat) : Int), cpyD l m (l.take m))) := by
    unfold slices_Repeat_api_Valve_api_Valve_L0
    rw [dec_t (show (m : Int) < (l.length : Int) by omega), cond_true, gd_t (by rw [dec_t (by omega), inR_t (by omega) (by omega)]; rfl), gd_t (by rw [dec_t (by omega)]; exact inR_t (a := 0) (by omega) (by omega)), Int.toNat_natCast,
     gd_t (by rw [dec_t rfl, dec_t (show m ≤ l.length by omega), dec_t (show 0 < l.length by omega)]; rfl), hlt, hl]
    rw [show wi64 ((m : Int) + Int.ofNat (min m (k - m))) = ((m + min m (k - m) : Nat) : Int) by rw [show Int.ofNat (min m (k - m)) = ((min m (k - m) : Nat) : Int) from rfl, wi (by omega)]; omega]
   rw [iter_inl hst]
   refine ih _ _ (by omega) (by omega) (by omega) (by rw [cpyD_len _ _ (by omega)]; exact hl) fun i hi => ?_
   rw [cpyD_get _ _ (by omega), hlt]
   by_cases hc : m ≤ i ∧ i < m + min m (l.length - m)
   ·rw [if_pos hc, List.getElem?_take, if_pos (by omega)]
    exact h _ (by omega)
   ·rw [if_neg hc]
    rw [hl] at hc
    exact h i (by omega)
theorem rep_eq (v : Vl) {k : Nat} (h1 : 1 ≤ k) (h2 : k < 100) : slices_Repeat_api_Valve_api_Valve [v] (k : Int) = some (List.replicate k v) := by
 unfold slices_Repeat_api_Valve_api_Valve
 rw [dec_f (show ¬ (k : Int) < 0 by omega), cond_false, Option.bind_some, show (([v].length : Nat) : Int) = 1 from rfl, mul_eq ⟨k, h2⟩, Option.bind_some, dec_f (show ¬ (0 : Int) < 0 by omega), cond_false, dec_f (show ¬ 9223372036854775807 < (k : Int) by omega), Option.bind_some]
 simp only [cond_false, Option.bind_some]
 rw [wi (by omega), gd_t (makeG_t (by omega)), Int.toNat_natCast, List.length_replicate, gd_t (by rw [dec_t (by omega)]; rfl), show Int.ofNat (min [v].length (k - 0)) = ((1 : Nat) : Int) by simp only [List.length_cons, List.length_nil]; rw [Nat.min_eq_left (by omega)]; rfl]
 rw [rep_in v k (by omega) k 1 _ (by omega) (by omega) h1 (by rw [cpyD_len _ _ (by omega), List.length_replicate]) fun i hi => ?_]
 ·rfl
 ·rw [cpyD_get _ _ (by omega), if_pos (by simp; omega), show i - 0 = 0 by omega]; rfl
def idleS (n : Net) (t : Int) : Dk × Int := if chkNet n ≠ 0 then (([], ([], ([], []))), chkNet n) else
 bif rg 1 60 t then ((List.replicate (n.2.1.length + n.2.2.1.length) (t, (0, (false, false))), (List.replicate n.2.1.length 0, (List.replicate n.2.2.1.length 0, List.replicate n.2.2.2.1.length false))), 0) else (([], ([], ([], []))), 20)
theorem valid0 (t : Int) : validV (t, (0, (false, false))) = rg 1 60 t := by
 unfold validV rg
 simp only
 by_cases h : 1 ≤ t
 ·rw [dec_t h, dec_t (show (0 : Int) ≤ t by omega), Bool.true_and]; simp
 ·rw [dec_f h]; rfl
theorem idle_eq (n : Net) (t : Int) (h1 : chkNet n = 0 → 1 ≤ n.2.1.length + n.2.2.1.length) : step_Idle n t = some (idleS n t) := by
 unfold step_Idle idleS
 rw [net_eta, netcheck_eq, Option.bind_some, valid_eq, Option.bind_some, valid0]
 by_cases h0 : chkNet n = 0
 ·have hn := VNet.of h0
  have m1 := hn.small.sg
  have m2 := hn.small.po
  have m3 := hn.small.st
  have hh := h1 h0
  rw [dec_t h0, if_neg (fun e => e h0), Bool.not_true, cond_false]
  cases rg 1 60 t with
  | false => rfl
  | true =>
   simp only [Bool.not_true, cond_false, cond_true]
   rw [gd_t (makeG_t (by omega)), gd_t (makeG_t (by omega)), gd_t (makeG_t (by omega)), count_eq hn, Option.bind_some, rep_eq _ hh (by omega), Option.bind_some]
   simp only [Int.toNat_natCast]
 ·rw [dec_f h0, if_pos h0]; rfl

/-! ### The example -/
def n0 : Net := ([[97], [98]], [([103], 0, 1, 10, 0, 0, [(0, 0, 1000), (10, 0, 1000)])], [([112], 0, 0), ([113], 1, 0)], [], 0, 0)
def fl0 : Stp := (5, 0, 3, 0, 1, [(0, false)], 0)
def l0 : List Stp := [(1, 0, 0, 0, 0, [], 0), (1, 1, 0, 0, 0, [], 0), (1, 2, 0, 0, 0, [], 0), (6, 0, 2, 0, 0, [], 0), fl0]
theorem awake_true : law26_awake = some true := by
 have e1 : idleS n0 2 = (([(2, 0, false, false), (2, 0, false, false), (2, 0, false, false)], [0], [0, 0], []), 0) := by kernel_rfl
 have hz : DkS ([(2, 0, false, false), (2, 0, false, false), (2, 0, false, false)], [0], [0, 0], []) := ⟨by decide, by decide, by decide, by decide⟩
 have e2 : (appS n0 ([(2, 0, false, false), (2, 0, false, false), (2, 0, false, false)], [0], [0, 0], []) fl0).2 = 22 := by decide +kernel
 have e3 : runL n0 ([(2, 0, false, false), (2, 0, false, false), (2, 0, false, false)], [0], [0, 0], []) 0 l0 = (([(2, 2, true, false), (2, 2, true, false), (2, 2, true, false)], [3], [3, -3], []), 5, 0) := by kernel_rfl
 have e4 : tkL l0 = 2 := by decide +kernel
 unfold law26_awake
 refine (congrArg (fun o => Option.bind o _) ((idle_eq n0 2 (fun _ => by decide)).trans (congrArg some e1))).trans ?_
 rw [Option.bind_some]
 refine (congrArg (fun o => Option.bind o _) (Apply_eq (n := n0) hz fl0)).trans ?_
 rw [Option.bind_some]
 refine (congrArg (fun o => Option.bind o _) ((Run_eq (n := n0) hz l0).trans (congrArg some ((if_neg (by decide)).trans e3)))).trans ?_
 rw [Option.bind_some]
 refine Eq.trans (b := (step_Ticks l0).bind fun r4 => some (decide (r4 = 2))) (by rw [e2]; rfl) ?_
 rw [Ticks_eq l0 (by decide), e4]; rfl
theorem few_eq (l : List Int) : second_Few l = some (decide ((l.length : Int) ≤ 400)) := rfl
end Go.Proofs.YtbljipjemhbooaaGreat
