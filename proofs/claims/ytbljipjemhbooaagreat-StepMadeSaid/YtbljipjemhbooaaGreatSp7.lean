/- Steps: lists of steps; the program agrees with the reference. No condition. -/
import Derived.Test.YtbljipjemhbooaaGreatSp6
namespace Go.Proofs.YtbljipjemhbooaaGreat
open Go Go.Sq
set_option linter.unusedVariables false
structure Ln (d e : Dk) : Prop where
 v : e.1.length = d.1.length
 r : e.2.1.length = d.2.1.length
 p : e.2.2.1.length = d.2.2.1.length
 b : e.2.2.2.length = d.2.2.2.length
theorem Ln.refl (d : Dk) : Ln d d := ⟨rfl, rfl, rfl, rfl⟩
theorem Ln.trans {a b c : Dk} (h : Ln a b) (h' : Ln b c) : Ln a c := ⟨h'.v.trans h.v, h'.r.trans h.r, h'.p.trans h.p, h'.b.trans h.b⟩
theorem Ln.bif {d : Dk} {c : Bool} {x y : Dk × Int} (h : Ln d x.1) (h' : Ln d y.1) : Ln d (bif c then x else y).1 := by cases c; exact h'; exact h
theorem Ln.ite {d : Dk} {c : Prop} [Decidable c] {x y : Dk × Int} (h : Ln d x.1) (h' : Ln d y.1) : Ln d (if c then x else y).1 := by split; exact h; exact h'
theorem DkS.ln {d e : Dk} (h : DkS d) (hl : Ln d e) : DkS e := ⟨by rw [hl.v]; exact h.v, by rw [hl.r]; exact h.r, by rw [hl.p]; exact h.p, by rw [hl.b]; exact h.b⟩
abbrev s0 : Stp := (0, (0, (0, (0, (0, ([], 0))))))
section
variable {n : Net}
theorem step_ln (d : Dk) (s : Stp) : Ln d (stepS n d s).1 := by
 unfold stepS turnS runS chgS waitS
 have r : ∀ k : Int, Ln d (d, k).1 := fun k => .refl d
 exact .bif (r _) (.bif (.bif (r _) (.bif (r _) ⟨List.length_set .., rfl, rfl, rfl⟩)) (.bif (.bif (r _) (.bif (r _) ⟨rfl, rfl, rfl, List.length_set ..⟩))
  (.bif (.bif (r _) (.bif (r _) (.bif (r _) (.ite (r _) (.bif (r _) ⟨rfl, growR_len .., growQ_len .., rfl⟩))))) (.bif (r _) ⟨List.length_map .., rfl, rfl, rfl⟩))))
theorem app_ln (d : Dk) (s : Stp) : Ln d (appS n d s).1 := .ite (.refl d) (step_ln d s)
def runL (n : Net) : Dk → Int → List Stp → Dk × Int × Int
 | d, i, [] => (d, i, 0)
 | d, i, s :: r => if (appS n d s).2 ≠ 0 then (d, i, (appS n d s).2) else runL n (appS n d s).1 (i + 1) r
theorem runL_ln : ∀ (l : List Stp) (d : Dk) (i : Int), Ln d (runL n d i l).1
 | [], d, _ => .refl d
 | s :: r, d, i => by
  unfold runL
  split
  ·exact .refl d
  ·exact (app_ln d s).trans (runL_ln r _ _)
theorem runL_end : ∀ (l : List Stp) (d : Dk) (i : Int), (runL n d i l).2.2 = 0 → (runL n d i l).2.1 = i + l.length
 | [], _, _, _ => by simp [runL]
 | s :: r, d, i, h => by
  unfold runL at h ⊢
  split
  ·rename_i hc; rw [if_pos hc] at h; exact absurd h hc
  ·rename_i hc; rw [if_neg hc] at h; rw [runL_end r _ _ h, List.length_cons]; omega
def rwrap (q : Dk × Int × Int) : (List Vl × List Int × List Int × List Bool × List Vl × List Int × List Int × List Bool) ⊕ (Int × Int × List Vl × List Int × List Int × List Bool) :=
 if q.2.2 = 0 then .inl (q.1.1, q.1.2.1, q.1.2.2.1, q.1.2.2.2, [], [], [], []) else .inr (q.2.1, q.2.2, q.1)
theorem run_in (l : List Stp) (hl : l.length ≤ 1000) : ∀ (m k : Nat) (d : Dk), k + m = l.length → DkS d →
  iter (fun x => step_Run_L0 n l x.1 x.2.1 x.2.2.1 x.2.2.2.1 x.2.2.2.2.1 x.2.2.2.2.2.1 x.2.2.2.2.2.2.1 x.2.2.2.2.2.2.2.1 x.2.2.2.2.2.2.2.2) ((k : Int), d.1, d.2.1, d.2.2.1, d.2.2.2, [], [], [], []) = some (rwrap (runL n d (k : Int) (l.drop k))) := by
 intro m
 induction m with
 | zero =>
  intro k d hk hd
  rw [List.drop_of_length_le (by omega)]
  exact iter_inr (by show step_Run_L0 n l (k : Int) d.1 d.2.1 d.2.2.1 d.2.2.2 [] [] [] [] = _; unfold step_Run_L0; rw [dec_f (by omega)]; rfl)
 | succ m ih =>
  intro k d hk hd
  have hk' : k < l.length := by omega
  rw [drop_cons s0 hk', runL]
  have hs : step_Run_L0 n l (k : Int) d.1 d.2.1 d.2.2.1 d.2.2.2 [] [] [] [] = some (if (appS n d (l.getD k s0)).2 ≠ 0 then .inr (.inr ((k : Int), (appS n d (l.getD k s0)).2, d)) else .inl (((k + 1 : Nat) : Int), (appS n d (l.getD k s0)).1.1, (appS n d (l.getD k s0)).1.2.1, (appS n d (l.getD k s0)).1.2.2.1, (appS n d (l.getD k s0)).1.2.2.2, [], [], [], [])) := by
   unfold step_Run_L0
   rw [dec_t (show (k : Int) < (l.length : Int) by omega), cond_true, gd_t (inB_t hk'), Int.toNat_natCast, net_eta]
   have e : step_Apply n (d.1, (d.2.1, (d.2.2.1, d.2.2.2))) (l.getD k s0) = some (appS n d (l.getD k s0)) := Apply_eq hd _
   have e' : step_Copy (d.1, (d.2.1, (d.2.2.1, d.2.2.2))) = some d := copy_eq hd
   refine (congrArg (fun o => Option.bind o _) e).trans ?_
   rw [Option.bind_some, e', Option.bind_some]
   by_cases h : (appS n d (l.getD k s0)).2 = 0
   ·rw [dec_t h, if_neg (fun hh => hh h), w1 hk' (by omega)]; rfl
   ·rw [dec_f h, if_pos h]; rfl
  by_cases h : (appS n d (l.getD k s0)).2 = 0
  ·rw [if_neg (fun hh => hh h)] at hs
   rw [if_neg (fun hh => hh h), iter_inl hs]
   exact ih (k + 1) _ (by omega) (hd.ln (app_ln d _))
  ·rw [if_pos h] at hs
   rw [if_pos h, iter_inr hs, rwrap, if_neg h]
theorem Run_eq {d : Dk} (hd : DkS d) (l : List Stp) : step_Run n d l = some (if 400 < l.length then (d, 0, 4) else runL n d 0 l) := by
 unfold step_Run
 by_cases hl : 400 < l.length
 ·rw [dec_t (show 400 < (l.length : Int) by omega), if_pos hl, cond_true, show ((d.1, (d.2.1, (d.2.2.1, d.2.2.2))) : Dk) = d from rfl, copy_eq hd]; rfl
 ·have := run_in (n := n) l (by omega) l.length 0 d (by omega) hd
  have this : iter (fun x => step_Run_L0 n l x.1 x.2.1 x.2.2.1 x.2.2.2.1 x.2.2.2.2.1 x.2.2.2.2.2.1 x.2.2.2.2.2.2.1 x.2.2.2.2.2.2.2.1 x.2.2.2.2.2.2.2.2) ((0 : Int), d.1, d.2.1, d.2.2.1, d.2.2.2, [], [], [], []) = some (rwrap (runL n d 0 l)) := this
  rw [dec_f (show ¬ 400 < (l.length : Int) by omega), if_neg hl, cond_false, this, Option.bind_some]
  unfold rwrap
  by_cases h : (runL n d 0 l).2.2 = 0
  ·have he := runL_end l d 0 h
   rw [if_pos h, Sum.elim_inl]
   rw [show (((runL n d 0 l).1.1, ((runL n d 0 l).1.2.1, ((runL n d 0 l).1.2.2.1, (runL n d 0 l).1.2.2.2))) : Dk) = (runL n d 0 l).1 from rfl, copy_eq (hd.ln (runL_ln l d 0)), Option.bind_some]
   exact congrArg some (Prod.ext rfl (Prod.ext (by rw [he]; simp) h.symm))
  ·rw [if_neg h]; rfl
theorem rrun_in (l : List Stp) (hl : l.length ≤ 1000) (hh : ∀ s ∈ l, s.2.2.2.2.2.1.length ≤ 100000) : ∀ (m k : Nat) (d : Dk), k + m = l.length →
  iter (fun x => ref26_Run_L0 n l x.1 x.2.1 x.2.2.1 x.2.2.2.1 x.2.2.2.2.1 x.2.2.2.2.2.1 x.2.2.2.2.2.2.1 x.2.2.2.2.2.2.2.1 x.2.2.2.2.2.2.2.2) ((k : Int), d.1, d.2.1, d.2.2.1, d.2.2.2, [], [], [], []) = some (rwrap (runL n d (k : Int) (l.drop k))) := by
 intro m
 induction m with
 | zero =>
  intro k d hk
  rw [List.drop_of_length_le (by omega)]
  exact iter_inr (by show ref26_Run_L0 n l (k : Int) d.1 d.2.1 d.2.2.1 d.2.2.2 [] [] [] [] = _; unfold ref26_Run_L0; rw [dec_f (by omega)]; rfl)
 | succ m ih =>
  intro k d hk
  have hk' : k < l.length := by omega
  rw [drop_cons s0 hk', runL]
  have hs : ref26_Run_L0 n l (k : Int) d.1 d.2.1 d.2.2.1 d.2.2.2 [] [] [] [] = some (if (appS n d (l.getD k s0)).2 ≠ 0 then .inr (.inr ((k : Int), (appS n d (l.getD k s0)).2, d)) else .inl (((k + 1 : Nat) : Int), (appS n d (l.getD k s0)).1.1, (appS n d (l.getD k s0)).1.2.1, (appS n d (l.getD k s0)).1.2.2.1, (appS n d (l.getD k s0)).1.2.2.2, [], [], [], [])) := by
   unfold ref26_Run_L0
   rw [dec_t (show (k : Int) < (l.length : Int) by omega), cond_true, gd_t (inB_t hk'), Int.toNat_natCast, net_eta]
   have e : ref26_Apply n (d.1, (d.2.1, (d.2.2.1, d.2.2.2))) (l.getD k s0) = some (appS n d (l.getD k s0)) := rApply_eq _ (hh _ (gD_mem hk'))
   refine (congrArg (fun o => Option.bind o _) e).trans ?_
   rw [Option.bind_some]
   by_cases h : (appS n d (l.getD k s0)).2 = 0
   ·rw [dec_t h, if_neg (fun hh => hh h), w1 hk' (by omega)]; rfl
   ·rw [dec_f h, if_pos h]; rfl
  by_cases h : (appS n d (l.getD k s0)).2 = 0
  ·rw [if_neg (fun hh => hh h)] at hs
   rw [if_neg (fun hh => hh h), iter_inl hs]
   exact ih (k + 1) _ (by omega)
  ·rw [if_pos h] at hs
   rw [if_pos h, iter_inr hs, rwrap, if_neg h]
theorem rRun_eq {d : Dk} (l : List Stp) (hh : ∀ s ∈ l, s.2.2.2.2.2.1.length ≤ 100000) : ref26_Run n d l = some (if 400 < l.length then (d, 0, 4) else runL n d 0 l) := by
 unfold ref26_Run
 by_cases hl : 400 < l.length
 ·rw [dec_t (show 400 < (l.length : Int) by omega), if_pos hl]; rfl
 ·have := rrun_in (n := n) l (by omega) hh l.length 0 d (by omega)
  have this : iter (fun x => ref26_Run_L0 n l x.1 x.2.1 x.2.2.1 x.2.2.2.1 x.2.2.2.2.1 x.2.2.2.2.2.1 x.2.2.2.2.2.2.1 x.2.2.2.2.2.2.2.1 x.2.2.2.2.2.2.2.2) ((0 : Int), d.1, d.2.1, d.2.2.1, d.2.2.2, [], [], [], []) = some (rwrap (runL n d 0 l)) := this
  rw [dec_f (show ¬ 400 < (l.length : Int) by omega), if_neg hl, cond_false, this, Option.bind_some]
  unfold rwrap
  by_cases h : (runL n d 0 l).2.2 = 0
  ·have he := runL_end l d 0 h
   rw [if_pos h, Sum.elim_inl]
   exact congrArg some (Prod.ext rfl (Prod.ext (by rw [he]; simp) h.symm))
  ·rw [if_neg h]; rfl

/-! ### Ticks -/
def tk (s : Stp) : Int := bif decide (s.1 = 6) && rg 1 100 s.2.2.1 then s.2.2.1 else 0
theorem tk_bd (s : Stp) : 0 ≤ tk s ∧ tk s ≤ 100 := by
 unfold tk
 cases h : decide (s.1 = 6) && rg 1 100 s.2.2.1 with
 | true => rw [Bool.and_eq_true, rg_iff] at h; simp only [cond_true]; omega
 | false => simp
def tkL (l : List Stp) : Int := isum (l.map tk)
theorem tkL_bd (l : List Stp) : 0 ≤ tkL l ∧ tkL l ≤ 100 * l.length := by
 have := isum_bd (l := l.map tk) (a := 0) (b := 100) (fun x hx => by obtain ⟨s, _, rfl⟩ := List.mem_map.1 hx; exact tk_bd s)
 rw [List.length_map] at this
 unfold tkL; omega
theorem tkL_next {l : List Stp} {i : Nat} (h : i < l.length) : tkL (l.take (i + 1)) = tkL (l.take i) + tk (l.getD i s0) := by
 unfold tkL; rw [take_next s0 h, List.map_append, isum_app]; simp [isum]
theorem tk_step (s : Stp) (x : Int) (hx : 0 ≤ x ∧ x ≤ 1000000) : (Option.bind (α := Bool) (bif decide (s.1 = 6) then (bif decide (1 ≤ s.2.2.1) then some (decide (s.2.2.1 ≤ 100)) else some false) else some false) fun b => (bif b then some (wi64 (x + s.2.2.1)) else some x)) = some (x + tk s) := by
 unfold tk rg
 cases h1 : decide (s.1 = 6) with
 | false => simp
 | true =>
  cases h2 : decide (1 ≤ s.2.2.1) with
  | false => simp
  | true =>
   cases h3 : decide (s.2.2.1 ≤ 100) with
   | false => simp
   | true =>
    have := of_decide_eq_true h2
    have := of_decide_eq_true h3
    simp only [cond_true, Option.bind_some, Bool.true_and]
    rw [wi (by omega)]
theorem Ticks_eq (l : List Stp) (hl : l.length ≤ 1000) : step_Ticks l = some (tkL l) := by
 unfold step_Ticks
 have := iter_for (step := fun x : Int × Int => step_Ticks_L0 l x.1 x.2) (e := tkL l) l.length (fun i => (tkL (l.take i), (i : Int))) (fun i hi => ?_) ?_
 ·have this : iter (fun x => step_Ticks_L0 l x.1 x.2) ((0 : Int), 0) = some (tkL l) := this
  rw [this]; rfl
 ·show step_Ticks_L0 l (tkL (l.take i)) (i : Int) = some (.inl (tkL (l.take (i + 1)), ((i + 1 : Nat) : Int)))
  have hb := tkL_bd (l.take i)
  rw [List.length_take] at hb
  unfold step_Ticks_L0
  rw [dec_t (show (i : Int) < (l.length : Int) by omega), cond_true, gd_t (inB_t hi), Int.toNat_natCast, tkL_next hi, w1 hi (by omega)]
  have := tk_step (l.getD i s0) (tkL (l.take i)) (by omega)
  revert this
  generalize (bif decide ((l.getD i s0).1 = 6) then (bif decide (1 ≤ (l.getD i s0).2.2.1) then some (decide ((l.getD i s0).2.2.1 ≤ 100)) else some false) else some false : Option Bool) = o
  intro this
  cases o with
  | none => cases this
  | some b => exact (congrArg (fun z => Option.bind z fun s2 => some (Sum.inl (s2, ((i + 1 : Nat) : Int)))) this)
 ·show step_Ticks_L0 l (tkL (l.take l.length)) ((l.length : Nat) : Int) = _
  unfold step_Ticks_L0
  rw [dec_f (by omega), List.take_length]; rfl
theorem rTicks_eq (l : List Stp) (hl : l.length ≤ 1000) : ref26_Ticks l = some (tkL l) := by
 unfold ref26_Ticks
 have := iter_for (step := fun x : Int × Int => ref26_Ticks_L0 l x.1 x.2) (e := tkL l) l.length (fun i => (tkL (l.take i), (i : Int))) (fun i hi => ?_) ?_
 ·have this : iter (fun x => ref26_Ticks_L0 l x.1 x.2) ((0 : Int), 0) = some (tkL l) := this
  rw [this]; rfl
 ·show ref26_Ticks_L0 l (tkL (l.take i)) (i : Int) = some (.inl (tkL (l.take (i + 1)), ((i + 1 : Nat) : Int)))
  have hb := tkL_bd (l.take i)
  rw [List.length_take] at hb
  unfold ref26_Ticks_L0
  have hB : inB (i : Int) l.length = true := inB_t hi
  rw [dec_t (show (i : Int) < (l.length : Int) by omega), cond_true]
  rw [gd_t hB, gd_t hB, gd_t hB, Int.toNat_natCast, tkL_next hi, w1 hi (by omega)]
  have := tk_step (l.getD i s0) (tkL (l.take i)) (by omega)
  revert this
  generalize (bif decide ((l.getD i s0).1 = 6) then (bif decide (1 ≤ (l.getD i s0).2.2.1) then some (decide ((l.getD i s0).2.2.1 ≤ 100)) else some false) else some false : Option Bool) = o
  intro this
  cases o with
  | none => cases this
  | some b =>
   refine Eq.trans ?_ (congrArg (fun z => Option.bind z fun s2 => some (Sum.inl (s2, ((i + 1 : Nat) : Int)))) this)
   cases b
   ·rfl
   ·show Option.bind (gd _ _) _ = _; rw [gd_t hB]; rfl
 ·show ref26_Ticks_L0 l (tkL (l.take l.length)) ((l.length : Nat) : Int) = _
  unfold ref26_Ticks_L0
  rw [dec_f (by omega), List.take_length]; rfl

/-! ### Sameness -/
theorem sameV (a : List Vl) (h : a.length ≤ 100000) : ref23_Same a a = some true := by
 unfold ref23_Same
 rw [dec_t rfl]
 have := iter_all (step := fun x => ref23_Same_L0 a a x) a.length (fun i => (i : Int)) (fun _ => true) (fin := .inl ()) (bad := .inr false) (fun i hi _ hq => ?_) (fun i hi _ hq => by cases hq) (fun _ => ?_)
 ·have e : (List.range a.length).all (fun _ => true) = true := by simp
  rw [e] at this
  have this : iter (fun x => ref23_Same_L0 a a x) 0 = some (.inl ()) := this
  rw [this]; rfl
 ·unfold ref23_Same_L0
  rw [dec_t (show (i : Int) < (a.length : Int) by omega), cond_true, gd_t (inB_t hi), gd_t (inB_t hi), dec_t rfl, dec_t rfl, w1 hi (by omega)]
  rw [beq_self_eq_true, beq_self_eq_true]; rfl
 ·unfold ref23_Same_L0
  rw [dec_f (by omega)]; rfl
theorem sameI (a : List Int) (h : a.length ≤ 100000) : ref23_SameInts a a = some true := by
 unfold ref23_SameInts
 rw [dec_t rfl]
 have := iter_all (step := fun x => ref23_SameInts_L0 a a x) a.length (fun i => (i : Int)) (fun _ => true) (fin := .inl ()) (bad := .inr false) (fun i hi _ hq => ?_) (fun i hi _ hq => by cases hq) (fun _ => ?_)
 ·have e : (List.range a.length).all (fun _ => true) = true := by simp
  rw [e] at this
  have this : iter (fun x => ref23_SameInts_L0 a a x) 0 = some (.inl ()) := this
  rw [this]; rfl
 ·unfold ref23_SameInts_L0
  rw [dec_t (show (i : Int) < (a.length : Int) by omega), cond_true, gd_t (inB_t hi), gd_t (inB_t hi), dec_t rfl, w1 hi (by omega)]; rfl
 ·unfold ref23_SameInts_L0
  rw [dec_f (by omega)]; rfl
theorem sameB (a : List Bool) (h : a.length ≤ 100000) : ref23_SameBools a a = some true := by
 unfold ref23_SameBools
 rw [dec_t rfl]
 have := iter_all (step := fun x => ref23_SameBools_L0 a a x) a.length (fun i => (i : Int)) (fun _ => true) (fin := .inl ()) (bad := .inr false) (fun i hi _ hq => ?_) (fun i hi _ hq => by cases hq) (fun _ => ?_)
 ·have e : (List.range a.length).all (fun _ => true) = true := by simp
  rw [e] at this
  have this : iter (fun x => ref23_SameBools_L0 a a x) 0 = some (.inl ()) := this
  rw [this]; rfl
 ·unfold ref23_SameBools_L0
  rw [dec_t (show (i : Int) < (a.length : Int) by omega), cond_true, gd_t (inB_t hi), gd_t (inB_t hi), beq_self_eq_true, w1 hi (by omega)]; rfl
 ·unfold ref23_SameBools_L0
  rw [dec_f (by omega)]; rfl
theorem sameP {p : Pl} (h1 : p.1.length ≤ 100000) (h2 : p.2.1.length ≤ 100000) (h3 : p.2.2.length ≤ 100000) : ref25_SamePlan p p = some true := by
 unfold ref25_SamePlan
 rw [sameI _ h1, Option.bind_some, sameI _ h2, Option.bind_some, sameB _ h3]; rfl
theorem sameD {d : Dk} (h : DkS d) : ref26_Same d d = some true := by
 unfold ref26_Same
 rw [sameV _ h.v, Option.bind_some, show ((d.2.1, (d.2.2.1, d.2.2.2)) : Pl) = d.2 from rfl, sameP h.r h.p h.b]; rfl
theorem agree_eq {d : Dk} (hd : DkS d) (l : List Stp) (hl : l.length ≤ 400) (hh : ∀ s ∈ l, s.2.2.2.2.2.1.length ≤ 100000) : law26_agree n d l = some true := by
 unfold law26_agree
 rw [net_eta, show ((d.1, (d.2.1, (d.2.2.1, d.2.2.2))) : Dk) = d from rfl, deskcheck_eq, Option.bind_some, refdesk_eq, Option.bind_some, dec_t rfl, Bool.not_true, cond_false, Ticks_eq _ (by omega), Option.bind_some, rTicks_eq _ (by omega), Option.bind_some, dec_t rfl, Option.bind_some]
 simp only [Bool.not_true, cond_false]
 rw [Run_eq hd, Option.bind_some, rRun_eq _ hh, Option.bind_some, if_neg (by omega)]
 have hr := hd.ln (runL_ln (n := n) l d 0)
 rw [dec_t rfl, dec_t rfl, Bool.not_true, cond_false, cond_false, show (((runL n d 0 l).1.1, ((runL n d 0 l).1.2.1, ((runL n d 0 l).1.2.2.1, (runL n d 0 l).1.2.2.2))) : Dk) = (runL n d 0 l).1 from rfl, sameD hr, Option.bind_some, Option.bind_some]
 simp only [Bool.not_true, cond_false]
 have key : Ok (iter (fun x => law26_agree_L0 n d l x.1 x.2.1 x.2.2.1 x.2.2.2.1 x.2.2.2.2.1 x.2.2.2.2.2.1 x.2.2.2.2.2.2.1 x.2.2.2.2.2.2.2.1 x.2.2.2.2.2.2.2.2) (0, (runL n d 0 l).1.1, (runL n d 0 l).1.2.1, (runL n d 0 l).1.2.2.1, (runL n d 0 l).1.2.2.2, (runL n d 0 l).1.1, (runL n d 0 l).1.2.1, (runL n d 0 l).1.2.2.1, (runL n d 0 l).1.2.2.2)) fun e => e = .inl () := by
  refine Ok.loop (fun x => ∃ k : Nat, x.1 = (k : Int) ∧ k ≤ l.length) (fun x => l.length - x.1.toNat) ⟨0, rfl, by omega⟩ ?_
  rintro ⟨v, a1, a2, a3, a4, b1, b2, b3, b4⟩ ⟨k, rfl, hk⟩
  show Ok (law26_agree_L0 n d l (k : Int) a1 a2 a3 a4 b1 b2 b3 b4) _
  unfold law26_agree_L0
  refine Ok.bif (fun hc => ?_) fun hc => ?_
  ·have hc := of_decide_eq_true hc
   have hk' : k < l.length := by omega
   refine Ok.gd (inB_t hk') ?_
   rw [Int.toNat_natCast, net_eta]
   refine Ok.eq (Apply_eq hd (l.getD k s0)) ?_
   refine Ok.gd (inB_t hk') ?_
   refine Ok.eq (rApply_eq (l.getD k s0) (hh _ (gD_mem hk'))) ?_
   rw [dec_t rfl]
   refine Ok.eq (a := false) ?_ ?_
   ·rw [show (((appS n d (l.getD k s0)).1.1, ((appS n d (l.getD k s0)).1.2.1, ((appS n d (l.getD k s0)).1.2.2.1, (appS n d (l.getD k s0)).1.2.2.2))) : Dk) = (appS n d (l.getD k s0)).1 from rfl, sameD (hd.ln (app_ln d _))]; rfl
   ·rw [cond_false, w1 hk' (by omega)]
    exact .ret ⟨⟨k + 1, rfl, by omega⟩, by simp only [Int.toNat_natCast]; omega⟩
  ·exact .ret rfl
 obtain ⟨e, he, rfl⟩ := key
 rw [he]; rfl
end
end Go.Proofs.YtbljipjemhbooaaGreat
