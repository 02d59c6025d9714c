/- Steps: copies, kinds, paths. No condition. -/
import Derived.Test.YtbljipjemhbooaaGreatSp1
namespace Go.Proofs.YtbljipjemhbooaaGreat
open Go Go.Sq
set_option linter.unusedVariables false
abbrev Hop := Int × Bool
abbrev Pth := Int × Int × List Hop × Int
abbrev Stp := Int × Int × Int × Pth
structure DkS (d : Dk) : Prop where
 v : d.1.length ≤ 100000
 r : d.2.1.length ≤ 100000
 p : d.2.2.1.length ≤ 100000
 b : d.2.2.2.length ≤ 100000
theorem both_same {A : Type} (a b : Option A) (h : a = b) : bothO a b = b := by unfold bothO; rw [if_pos h, h]
theorem cloneV (l : List Vl) (h : l.length ≤ 100000) : slices_Clone_api_Valve_api_Valve l = some l := by
 unfold slices_Clone_api_Valve_api_Valve
 rw [gd_t (fits_t (by omega)), List.nil_append]
 cases l with
 | nil => exact both_same _ _ rfl
 | cons a l => rfl
theorem cloneI (l : List Int) (h : l.length ≤ 100000) : slices_Clone_int_int l = some l := by
 unfold slices_Clone_int_int
 rw [gd_t (fits_t (by omega)), List.nil_append]
 cases l with
 | nil => exact both_same _ _ rfl
 | cons a l => rfl
theorem cloneB (l : List Bool) (h : l.length ≤ 100000) : slices_Clone_bool_bool l = some l := by
 unfold slices_Clone_bool_bool
 rw [gd_t (fits_t (by omega)), List.nil_append]
 cases l with
 | nil => exact both_same _ _ rfl
 | cons a l => rfl
theorem copy_eq {d : Dk} (h : DkS d) : step_Copy d = some d := by
 unfold step_Copy
 rw [cloneV _ h.v, Option.bind_some, cloneI _ h.r, Option.bind_some, cloneI _ h.p, Option.bind_some, cloneB _ h.b]; rfl
theorem cplan_eq {p : Pl} (h1 : p.1.length ≤ 100000) (h2 : p.2.1.length ≤ 100000) (h3 : p.2.2.length ≤ 100000) : ref25_CopyPlan p = some p := by
 unfold ref25_CopyPlan
 rw [gd_t (fits_t (by omega)), gd_t (fits_t (by omega)), gd_t (fits_t (by omega))]; rfl
theorem rcopy_eq {d : Dk} (h : DkS d) : ref26_Copy d = some d := by
 unfold ref26_Copy
 have := h.v
 rw [gd_t (fits_t (by omega)), show ((d.2.1, (d.2.2.1, d.2.2.2)) : Pl) = d.2 from rfl, cplan_eq h.r h.p h.b]; rfl

/-! ### Kinds -/
def bareP (x : Pth) : Bool := decide (x.1 = 0) && (decide (x.2.1 = 0) && (decide ((x.2.2.1.length : Int) = 0) && decide (x.2.2.2 = 0)))
def blankB (s : Stp) : Bool := bif decide (s.1 = 1) || (decide (s.1 = 2) || (decide (s.1 = 3) || decide (s.1 = 4))) then decide (s.2.2.1 = 0) && bareP s.2.2.2
 else bif decide (s.1 = 5) then decide (s.2.1 = 0) && decide (s.2.2.2.2.2.2 = 0) else bif decide (s.1 = 6) then decide (s.2.1 = 0) && bareP s.2.2.2 else false
theorem kinds_eq (k : Int) : Option.bind (α := Bool) (bif decide (k = 1) then some (decide (k = 1)) else (
  Option.bind (α := Bool) (bif decide (k = 2) then some (decide (k = 2)) else (
  Option.bind (α := Bool) (bif decide (k = 3) then some (decide (k = 3)) else some (decide (k = 4))) fun s2 => some s2)) fun s3 => some s3)) some = some (decide (k = 1) || (decide (k = 2) || (decide (k = 3) || decide (k = 4)))) := by
 cases decide (k = 1) <;> cases decide (k = 2) <;> cases decide (k = 3) <;> cases decide (k = 4) <;> rfl
theorem bareX (x : Pth) : (bif decide (x.1 = 0) then bif decide (x.2.1 = 0) then bif decide ((x.2.2.1.length : Int) = 0) then some (decide (x.2.2.2 = 0)) else some false else some false else some false) = some (bareP x) := by
 unfold bareP
 cases decide (x.1 = 0) <;> cases decide (x.2.1 = 0) <;> cases decide ((x.2.2.1.length : Int) = 0) <;> rfl
theorem bare_eq (x : Pth) : ref26_bare x = some (bareP x) := bareX x
theorem bind_id {A B : Type} {x : Option A} {a : A} {f : A → Option B} (h : Option.bind x some = some a) : Option.bind x f = f a := by
 rw [show x = some a by rw [← h]; cases x <;> rfl]; rfl
theorem blank_eq (s : Stp) : step_blank s = some (blankB s) := by
 unfold step_blank blankB
 have eb : (bif decide (s.2.2.2.1 = 0) then bif decide (s.2.2.2.2.1 = 0) then bif decide ((s.2.2.2.2.2.1.length : Int) = 0) then some (decide (s.2.2.2.2.2.2 = 0)) else some false else some false else some false) = some (bareP s.2.2.2) := bareX s.2.2.2
 rw [eb, Option.bind_some]
 refine (bind_id (kinds_eq s.1)).trans ?_
 cases decide (s.1 = 1) || (decide (s.1 = 2) || (decide (s.1 = 3) || decide (s.1 = 4))) <;> cases decide (s.2.2.1 = 0) <;> cases decide (s.1 = 5) <;> cases decide (s.2.1 = 0) <;> cases decide (s.1 = 6) <;> rfl
theorem shaped_eq (s : Stp) : ref26_shaped s = some (blankB s) := by
 unfold ref26_shaped blankB
 refine (bind_id (kinds_eq s.1)).trans ?_
 rw [show ((s.2.2.2.1, (s.2.2.2.2.1, (s.2.2.2.2.2.1, s.2.2.2.2.2.2))) : Pth) = s.2.2.2 from rfl, bare_eq, Option.bind_some]
 cases decide (s.1 = 1) || (decide (s.1 = 2) || (decide (s.1 = 3) || decide (s.1 = 4))) <;> cases decide (s.2.2.1 = 0) <;> cases decide (s.1 = 5) <;> cases decide (s.2.1 = 0) <;> cases decide (s.1 = 6) <;> rfl

/-! ### Paths -/
def sgH (n : Net) (h : Hop) : Seg := n.2.1.getD h.1.toNat sg0
def hopF (n : Net) (h : Hop) : Int := if h.2 = true then (sgH n h).2.2.1 else (sgH n h).2.1
def hopT (n : Net) (h : Hop) : Int := if h.2 = true then (sgH n h).2.1 else (sgH n h).2.2.1
def hopOk (n : Net) (h : Hop) : Bool := decide (0 ≤ h.1) && decide (h.1 < (n.2.1.length : Int))
def walk (n : Net) : List Hop → Int → List Int → Option Int
 | [], at', _ => some at'
 | h :: r, at', ps => bif hopOk n h && (decide (hopF n h = at') && !decide (hopT n h ∈ ps)) then walk n r (hopT n h) (ps ++ [hopT n h]) else none
def ptNode (n : Net) (i : Int) : Int := (n.2.2.1.getD i.toNat po0).2.1
def isPt (n : Net) (i : Int) : Bool := decide (0 ≤ i) && decide (i < (n.2.2.1.length : Int))
def pathB (n : Net) (x : Pth) : Bool := (isPt n x.1 && (isPt n x.2.1 && (!decide (x.1 = x.2.1) && (decide (1 ≤ x.2.2.2) && (decide (x.2.2.2 ≤ 1000) && decide (x.2.2.1.length ≤ 32)))))) &&
 (match walk n x.2.2.1 (ptNode n x.1) [ptNode n x.1] with
  | some a => decide (a = ptNode n x.2.1)
  | none => false)
section
variable {n : Net}
theorem hop_iff {h : Hop} : hopOk n h = true ↔ 0 ≤ h.1 ∧ h.1 < (n.2.1.length : Int) := by unfold hopOk; rw [Bool.and_eq_true, decide_eq_true_iff, decide_eq_true_iff]
theorem isPt_iff {i : Int} : isPt n i = true ↔ 0 ≤ i ∧ i < (n.2.2.1.length : Int) := by unfold isPt; rw [Bool.and_eq_true, decide_eq_true_iff, decide_eq_true_iff]
theorem pends_eq {h : Hop} (ho : hopOk n h = true) : paths_ends n h = some (hopF n h, hopT n h) := by
 have := hop_iff.1 ho
 unfold paths_ends
 rw [gd_t (inB_iff.2 (by omega))]
 unfold hopF hopT sgH
 cases h.2 <;> rfl
theorem rpends_eq {h : Hop} (ho : hopOk n h = true) : ref25_Ends n h = some (hopF n h, hopT n h) := pends_eq ho
theorem cont_eq (l : List Int) (v : Int) (hl : l.length ≤ 1000000) : slices_Contains_int_int l v = some (decide (v ∈ l)) := by
 unfold slices_Contains_int_int slices_Index_int_int
 have h : iter (fun x => slices_Index_int_int_L0 l v x) 0 = some (if l.findIdx (fun x => decide (v = x)) < l.length then .inr ((l.findIdx (fun x => decide (v = x)) : Nat) : Int) else .inl ()) := by
  refine iter_find (step := fun y => slices_Index_int_int_L0 l v y) (ε := Unit ⊕ Int) l 0 (fun x => decide (v = x)) (fin := .inl ()) (fun i => .inr (i : Int)) (fun i hi hq => ?_) (fun i hi hq => ?_) ?_
  ·unfold slices_Index_int_int_L0
   rw [dec_t (show (i : Int) < (l.length : Int) by omega), cond_true, gd_t (inB_t hi), Int.toNat_natCast, hq, cond_false, w1 hi (by omega)]
  ·unfold slices_Index_int_int_L0
   rw [dec_t (show (i : Int) < (l.length : Int) by omega), cond_true, gd_t (inB_t hi), Int.toNat_natCast, hq, cond_true]
  ·unfold slices_Index_int_int_L0
   rw [dec_f (by omega)]; rfl
 rw [h, Option.bind_some]
 by_cases hf : l.findIdx (fun x => decide (v = x)) < l.length
 ·have hm : v ∈ l := by
   obtain ⟨x, hx, he⟩ := List.findIdx_lt_length.1 hf
   rw [of_decide_eq_true he]; exact hx
  rw [if_pos hf, dec_t hm]
  show some (decide ((0 : Int) ≤ _)) = _
  rw [dec_t (by omega)]
 ·have hm : ¬ v ∈ l := fun hm => hf (List.findIdx_lt_length.2 ⟨v, hm, by simp⟩)
  rw [if_neg hf, dec_f hm]; rfl
theorem hopD (h : Hop) (ps : List Int) : (bif decide (h.1 < 0) then some (true, ps) else some (decide ((n.2.1.length : Int) ≤ h.1), ps)) = some (!hopOk n h, ps) := by
 unfold hopOk
 by_cases a : h.1 < 0
 ·rw [dec_t a, dec_f (show ¬ 0 ≤ h.1 by omega)]; rfl
 ·rw [dec_f a, dec_t (show 0 ≤ h.1 by omega), cond_false, Bool.true_and]
  by_cases b : (n.2.1.length : Int) ≤ h.1
  ·rw [dec_t b, dec_f (by omega)]; rfl
  ·rw [dec_f b, dec_t (by omega)]; rfl
theorem drop_cons {A : Type} {l : List A} {i : Nat} (d : A) (h : i < l.length) : l.drop i = l.getD i d :: l.drop (i + 1) := by
 rw [List.drop_eq_getElem_cons h, gD_eq h]
def wres (o : Option Int) : Int ⊕ Bool := match o with
 | some a => .inl a
 | none => .inr false
theorem valid_in (x : Pth) (hx : x.2.2.1.length ≤ 1000) : ∀ (m i : Nat) (a : Int) (ps : List Int), i + m = x.2.2.1.length → ps.length ≤ i + 1 →
  iter (fun y => paths_valid_L0 n x y.1 y.2.1 y.2.2) (a, (i : Int), ps) = some (wres (walk n (x.2.2.1.drop i) a ps)) := by
 intro m
 induction m with
 | zero =>
  intro i a ps hi hp
  rw [iter_inr (e := .inl a) (by show paths_valid_L0 n x a (i : Int) ps = _; unfold paths_valid_L0; rw [dec_f (by omega)]; rfl), List.drop_of_length_le (by omega)]; rfl
 | succ m ih =>
  intro i a ps hi hp
  have hi' : i < x.2.2.1.length := by omega
  have hstep : paths_valid_L0 n x a (i : Int) ps = (bif hopOk n (x.2.2.1.getD i (0, false)) && (decide (hopF n (x.2.2.1.getD i (0, false)) = a) && !decide (hopT n (x.2.2.1.getD i (0, false)) ∈ ps)) then some (.inl (hopT n (x.2.2.1.getD i (0, false)), ((i + 1 : Nat) : Int), ps ++ [hopT n (x.2.2.1.getD i (0, false))])) else some (.inr (.inr false))) := by
   unfold paths_valid_L0
   rw [dec_t (show (i : Int) < (x.2.2.1.length : Int) by omega), cond_true, gd_t (inB_t hi'), Int.toNat_natCast]
   generalize x.2.2.1.getD i (0, false) = h
   rw [hopD h ps, Option.bind_some]
   cases ho : hopOk n h with
   | false => rfl
   | true =>
    simp only [Bool.not_true, cond_false, Bool.true_and]
    rw [show ((h.1, h.2) : Hop) = h from rfl, pends_eq ho, Option.bind_some]
    cases hf : decide (hopF n h = a) with
    | false => rfl
    | true =>
     simp only [Bool.not_true, cond_false, Bool.true_and]
     rw [cont_eq ps _ (by omega), Option.bind_some, Option.bind_some]
     cases hm : decide (hopT n h ∈ ps) with
     | true => rfl
     | false =>
      simp only [cond_false, Bool.not_false, cond_true]
      rw [gd_t (fits_t (by omega)), w1 hi' (by omega)]
  rw [drop_cons (0, false) hi']
  unfold walk
  cases hc : (hopOk n (x.2.2.1.getD i (0, false)) && (decide (hopF n (x.2.2.1.getD i (0, false)) = a) && !decide (hopT n (x.2.2.1.getD i (0, false)) ∈ ps))) with
  | false => rw [hc] at hstep; rw [iter_inr hstep]; rfl
  | true =>
   rw [hc] at hstep
   rw [iter_inl hstep, ih (i + 1) _ _ (by omega) (by rw [List.length_append]; simp only [List.length_cons, List.length_nil]; omega)]; rfl
theorem rseen_in (r : Int × Int) (ps : List Int) (hp : ps.length ≤ 2000) : iter (fun y => ref25_valid_L1 r y.1 y.2) (0, ps) = some (bif decide (r.2 ∈ ps) then .inr false else .inl ps) := by
 have := iter_all (step := fun y : Int × List Int => ref25_valid_L1 r y.1 y.2) ps.length (fun i => ((i : Int), ps)) (fun i => !decide (ps.getD i 0 = r.2)) (fin := .inl ps) (bad := .inr false) (fun i hi _ hq => ?_) (fun i hi _ hq => ?_) (fun _ => ?_)
 ·refine Eq.trans this ?_
  have e : (List.range ps.length).all (fun i => !decide (ps.getD i 0 = r.2)) = !decide (r.2 ∈ ps) := by
   rw [Bool.eq_iff_iff, List.all_eq_true]
   simp only [Bool.not_eq_true', decide_eq_false_iff_not]
   constructor
   ·intro h hm
    obtain ⟨k, hk, e⟩ := mem_gD 0 hm
    exact h k (List.mem_range.2 hk) e
   ·intro h k hk e
    exact h (e ▸ gD_mem (List.mem_range.1 hk))
  rw [e]
  cases decide (r.2 ∈ ps) <;> rfl
 ·show ref25_valid_L1 r (i : Int) ps = _
  unfold ref25_valid_L1
  have hq : decide (ps.getD i 0 = r.2) = false := by simpa using hq
  rw [dec_t (show (i : Int) < (ps.length : Int) by omega), cond_true, gd_t (inB_t hi), Int.toNat_natCast, hq, w1 hi (by omega)]; rfl
 ·show ref25_valid_L1 r (i : Int) ps = _
  unfold ref25_valid_L1
  have hq : decide (ps.getD i 0 = r.2) = true := by simpa using hq
  rw [dec_t (show (i : Int) < (ps.length : Int) by omega), cond_true, gd_t (inB_t hi), Int.toNat_natCast, hq]; rfl
 ·show ref25_valid_L1 r ((ps.length : Nat) : Int) ps = _
  unfold ref25_valid_L1
  rw [dec_f (by omega)]; rfl
theorem rvalid_in (x : Pth) (hx : x.2.2.1.length ≤ 1000) : ∀ (m i : Nat) (a : Int) (ps : List Int), i + m = x.2.2.1.length → ps.length ≤ i + 1 →
  iter (fun y => ref25_valid_L0 n x y.1 y.2.1 y.2.2) (a, (i : Int), ps) = some (wres (walk n (x.2.2.1.drop i) a ps)) := by
 intro m
 induction m with
 | zero =>
  intro i a ps hi hp
  rw [iter_inr (e := .inl a) (by show ref25_valid_L0 n x a (i : Int) ps = _; unfold ref25_valid_L0; rw [dec_f (by omega)]; rfl), List.drop_of_length_le (by omega)]; rfl
 | succ m ih =>
  intro i a ps hi hp
  have hi' : i < x.2.2.1.length := by omega
  have hstep : ref25_valid_L0 n x a (i : Int) ps = (bif hopOk n (x.2.2.1.getD i (0, false)) && (decide (hopF n (x.2.2.1.getD i (0, false)) = a) && !decide (hopT n (x.2.2.1.getD i (0, false)) ∈ ps)) then some (.inl (hopT n (x.2.2.1.getD i (0, false)), ((i + 1 : Nat) : Int), ps ++ [hopT n (x.2.2.1.getD i (0, false))])) else some (.inr (.inr false))) := by
   unfold ref25_valid_L0
   have hB : inB (i : Int) x.2.2.1.length = true := inB_t hi'
   rw [dec_t (show (i : Int) < (x.2.2.1.length : Int) by omega), cond_true]
   simp only [gd_t hB, Int.toNat_natCast]
   rw [hopD (x.2.2.1.getD i (0, false)) ps, Option.bind_some]
   cases ho : hopOk n (x.2.2.1.getD i (0, false)) with
   | false => rfl
   | true =>
    simp only [Bool.not_true, cond_false, Bool.true_and]
    rw [net_eta, rpends_eq ho, Option.bind_some]
    cases hf : decide (hopF n (x.2.2.1.getD i (0, false)) = a) with
    | false => rfl
    | true =>
     simp only [Bool.not_true, cond_false, Bool.true_and]
     rw [rseen_in _ _ (by omega), Option.bind_some]
     simp only
     cases hm : decide (hopT n (x.2.2.1.getD i (0, false)) ∈ ps) with
     | true => rfl
     | false =>
      simp only [cond_false, Bool.not_false, cond_true, Sum.elim_inl]
      rw [gd_t (fits_t (by omega)), w1 hi' (by omega)]
  rw [drop_cons (0, false) hi']
  unfold walk
  cases hc : (hopOk n (x.2.2.1.getD i (0, false)) && (decide (hopF n (x.2.2.1.getD i (0, false)) = a) && !decide (hopT n (x.2.2.1.getD i (0, false)) ∈ ps))) with
  | false => rw [hc] at hstep; rw [iter_inr hstep]; rfl
  | true =>
   rw [hc] at hstep
   rw [iter_inl hstep, ih (i + 1) _ _ (by omega) (by rw [List.length_append]; simp only [List.length_cons, List.length_nil]; omega)]; rfl
theorem notlt (a b : Int) : decide (a < b) = !decide (b ≤ a) := by
 by_cases h : a < b
 ·rw [dec_t h, dec_f (by omega)]; rfl
 ·rw [dec_f h, dec_t (by omega)]; rfl
theorem pathv_eq (x : Pth) : paths_valid n x = some (pathB n x) := by
 unfold paths_valid pathB paths_valid_1
 have e0 : ∀ i : Int, (bif decide (0 ≤ i) then some (decide (i < (n.2.2.1.length : Int))) else some false) = some (isPt n i) := fun i => by unfold isPt; cases decide (0 ≤ i) <;> rfl
 rw [e0, Option.bind_some, e0, Option.bind_some, notlt x.2.2.2 1, notlt 1000 x.2.2.2, notlt 32 (x.2.2.1.length : Int), show decide ((x.2.2.1.length : Int) ≤ 32) = decide (x.2.2.1.length ≤ 32) by congr 1; rw [eq_iff_iff]; omega]
 cases h1 : isPt n x.1 with
 | false => rfl
 | true =>
 cases h2 : isPt n x.2.1 with
 | false => rfl
 | true =>
 cases h3 : decide (x.1 = x.2.1) with
 | true => rfl
 | false =>
 cases h4 : decide (1 ≤ x.2.2.2) with
 | false => rfl
 | true =>
 cases h5 : decide (x.2.2.2 ≤ 1000) with
 | false => rfl
 | true =>
 cases h6 : decide (x.2.2.1.length ≤ 32) with
 | false => rfl
 | true =>
  have h6 := of_decide_eq_true h6
  have a1 := isPt_iff.1 h1
  have a2 := isPt_iff.1 h2
  simp only [Bool.not_true, cond_false, Bool.true_and, Bool.not_false, Option.bind_some]
  rw [gd_t (inB_iff.2 (by omega))]
  have := valid_in (n := n) x (by omega) x.2.2.1.length 0 (ptNode n x.1) [ptNode n x.1] (by omega) (by simp)
  rw [show ((n.2.2.1.getD x.1.toNat ([], (0, 0))).2).1 = ptNode n x.1 from rfl, show ((n.2.2.1.getD x.2.1.toNat ([], (0, 0))).2).1 = ptNode n x.2.1 from rfl]
  have this : iter (fun y => paths_valid_L0 n x y.1 y.2.1 y.2.2) (ptNode n x.1, (0 : Int), [ptNode n x.1]) = some (wres (walk n x.2.2.1 (ptNode n x.1) [ptNode n x.1])) := this
  rw [this, Option.bind_some]
  cases walk n x.2.2.1 (ptNode n x.1) [ptNode n x.1] with
  | none => rfl
  | some a =>
   show gd _ _ = _
   rw [gd_t (inB_iff.2 (by omega))]
theorem rpathv_eq (x : Pth) : ref25_valid n x = some (pathB n x) := by
 unfold ref25_valid pathB
 have e0 : ∀ i : Int, decide (i < 0) = (decide (i < 0) && !isPt n i) := fun i => by
  unfold isPt
  by_cases a : i < 0
  ·rw [dec_t a, dec_f (show ¬ 0 ≤ i by omega)]; rfl
  ·rw [dec_f a]; rfl
 rw [notlt x.2.2.2 1, notlt 1000 x.2.2.2, notlt 32 (x.2.2.1.length : Int), show decide ((x.2.2.1.length : Int) ≤ 32) = decide (x.2.2.1.length ≤ 32) by congr 1; rw [eq_iff_iff]; omega, notlt x.1 0, notlt x.2.1 0,
  show decide ((n.2.2.1.length : Int) ≤ x.1) = !decide (x.1 < (n.2.2.1.length : Int)) by rw [notlt, Bool.not_not], show decide ((n.2.2.1.length : Int) ≤ x.2.1) = !decide (x.2.1 < (n.2.2.1.length : Int)) by rw [notlt, Bool.not_not]]
 have f1 : isPt n x.1 = (decide (0 ≤ x.1) && decide (x.1 < (n.2.2.1.length : Int))) := rfl
 have f2 : isPt n x.2.1 = (decide (0 ≤ x.2.1) && decide (x.2.1 < (n.2.2.1.length : Int))) := rfl
 rw [f1, f2]
 cases g1 : decide (0 ≤ x.1) with
 | false => rfl
 | true =>
 cases h1 : decide (x.1 < (n.2.2.1.length : Int)) with
 | false => rfl
 | true =>
 cases g2 : decide (0 ≤ x.2.1) with
 | false => rfl
 | true =>
 cases h2 : decide (x.2.1 < (n.2.2.1.length : Int)) with
 | false => rfl
 | true =>
 cases h3 : decide (x.1 = x.2.1) with
 | true => rfl
 | false =>
 cases h4 : decide (1 ≤ x.2.2.2) with
 | false => rfl
 | true =>
 cases h5 : decide (x.2.2.2 ≤ 1000) with
 | false => rfl
 | true =>
 cases h6 : decide (x.2.2.1.length ≤ 32) with
 | false => rfl
 | true =>
  have h6 := of_decide_eq_true h6
  have a1 := of_decide_eq_true g1
  have a2 := of_decide_eq_true g2
  have a3 := of_decide_eq_true h1
  have a4 := of_decide_eq_true h2
  simp only [Bool.not_true, cond_false, Bool.true_and, Bool.not_false, Option.bind_some]
  rw [gd_t (inB_iff.2 (by omega))]
  have := rvalid_in (n := n) x (by omega) x.2.2.1.length 0 (ptNode n x.1) [ptNode n x.1] (by omega) (by simp)
  rw [show ((n.2.2.1.getD x.1.toNat ([], (0, 0))).2).1 = ptNode n x.1 from rfl, show ((n.2.2.1.getD x.2.1.toNat ([], (0, 0))).2).1 = ptNode n x.2.1 from rfl]
  have this : iter (fun y => ref25_valid_L0 n x y.1 y.2.1 y.2.2) (ptNode n x.1, (0 : Int), [ptNode n x.1]) = some (wres (walk n x.2.2.1 (ptNode n x.1) [ptNode n x.1])) := this
  rw [this, Option.bind_some]
  cases walk n x.2.2.1 (ptNode n x.1) [ptNode n x.1] with
  | none => rfl
  | some a =>
   show gd _ _ = _
   rw [gd_t (inB_iff.2 (by omega))]
theorem pathV_eq (h0 : chkNet n = 0) (x : Pth) : paths_Valid n x = some (pathB n x) := by
 unfold paths_Valid
 rw [net_eta, netcheck_eq, Option.bind_some, dec_t h0, cond_true, show ((x.1, (x.2.1, (x.2.2.1, x.2.2.2))) : Pth) = x from rfl, pathv_eq]; rfl
theorem rpathV_eq (h0 : chkNet n = 0) (x : Pth) : ref25_Valid n x = some (pathB n x) := by
 unfold ref25_Valid
 rw [net_eta, refcheck_eq, Option.bind_some, dec_t h0, cond_true, show ((x.1, (x.2.1, (x.2.2.1, x.2.2.2))) : Pth) = x from rfl, rpathv_eq]; rfl
end
end Go.Proofs.YtbljipjemhbooaaGreat
