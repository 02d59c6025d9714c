/- Steps: a flow changes; a step is carried out. No condition. -/
import Derived.Test.YtnkfkceghbkkkaaGreatSp4
import Derived.Test.YtnkfkceghbkkkaaGreatLa2
namespace Go.Proofs.YtnkfkceghbkkkaaGreat
open Go Go.Sq
set_option linter.unusedVariables false
section
variable {n : Net}
end
end Go.Proofs.YtnkfkceghbkkkaaGreat

namespace Go.Proofs.YtnkfkceghbkkkaaGreat
open Go Go.Sq
set_option linter.unusedVariables false
section
variable {n : Net}
def Er (d : Dk) (r : Dk × Int) : Prop := r.2 = 0 ∨ r.1 = d
theorem Er.bif {d : Dk} {c : Bool} {x y : Dk × Int} (h : Er d x) (h' : Er d y) : Er d (bif c then x else y) := by cases c; exact h'; exact h
theorem Er.ite {d : Dk} {c : Prop} [Decidable c] {x y : Dk × Int} (h : Er d x) (h' : Er d y) : Er d (if c then x else y) := by split; exact h; exact h'
end
end Go.Proofs.YtnkfkceghbkkkaaGreat

namespace Go.Proofs.YtnkfkceghbkkkaaGreat
open Go Go.Sq
set_option linter.unusedVariables false
structure Ln (d e : Dk) : Prop where
 v : e.1.length = d.1.length
 r : e.2.1.length = d.2.1.length
 p : e.2.2.1.length = d.2.2.1.length
 b : e.2.2.2.length = d.2.2.2.length
theorem Ln.refl (d : Dk) : Ln d d := ⟨rfl, rfl, rfl, rfl⟩
theorem Ln.trans {a b c : Dk} (h : Ln a b) (h' : Ln b c) : Ln a c := ⟨h'.v.trans h.v, h'.r.trans h.r, h'.p.trans h.p, h'.b.trans h.b⟩
theorem Ln.bif {d : Dk} {c : Bool} {x y : Dk × Int} (h : Ln d x.1) (h' : Ln d y.1) : Ln d (bif c then x else y).1 := by cases c; exact h'; exact h
theorem Ln.ite {d : Dk} {c : Prop} [Decidable c] {x y : Dk × Int} (h : Ln d x.1) (h' : Ln d y.1) : Ln d (if c then x else y).1 := by split; exact h; exact h'
theorem DkS.ln {d e : Dk} (h : DkS d) (hl : Ln d e) : DkS e := ⟨by rw [hl.v]; exact h.v, by rw [hl.r]; exact h.r, by rw [hl.p]; exact h.p, by rw [hl.b]; exact h.b⟩
abbrev s0 : Stp := (0, (0, (0, (0, (0, ([], 0))))))
section
variable {n : Net}
def runL (n : Net) : Dk → Int → List Stp → Dk × Int × Int
 | d, i, [] => (d, i, 0)
 | d, i, s :: r => if (appS n d s).2 ≠ 0 then (d, i, (appS n d s).2) else runL n (appS n d s).1 (i + 1) r
/-! ### Ticks -/
def tk (s : Stp) : Int := bif decide (s.1 = 6) && rg 1 100 s.2.2.1 then s.2.2.1 else 0
theorem sameV (a : List Vl) (h : a.length ≤ 100000) : ref23_Same a a = some true := by
 unfold ref23_Same
 rw [dec_t rfl]
 have := iter_all (step := fun x => ref23_Same_L0 a a x) a.length (fun i => (i : Int)) (fun _ => true) (fin := .inl ()) (bad := .inr false) (fun i hi _ hq => ?_) (fun i hi _ hq => by cases hq) (fun _ => ?_)
 ·have e : (List.range a.length).all (fun _ => true) = true := by simp
  rw [e] at this
  have this : iter (fun x => ref23_Same_L0 a a x) 0 = some (.inl ()) := this
  rw [this]; rfl
 ·unfold ref23_Same_L0
  rw [dec_t (show (i : Int) < (a.length : Int) by omega), cond_true, gd_t (inB_t hi), gd_t (inB_t hi), dec_t rfl, dec_t rfl, w1 hi (by omega)]
  rw [beq_self_eq_true, beq_self_eq_true]; rfl
 ·unfold ref23_Same_L0
  rw [dec_f (by omega)]; rfl
theorem sameI (a : List Int) (h : a.length ≤ 100000) : ref23_SameInts a a = some true := by
 unfold ref23_SameInts
 rw [dec_t rfl]
 have := iter_all (step := fun x => ref23_SameInts_L0 a a x) a.length (fun i => (i : Int)) (fun _ => true) (fin := .inl ()) (bad := .inr false) (fun i hi _ hq => ?_) (fun i hi _ hq => by cases hq) (fun _ => ?_)
 ·have e : (List.range a.length).all (fun _ => true) = true := by simp
  rw [e] at this
  have this : iter (fun x => ref23_SameInts_L0 a a x) 0 = some (.inl ()) := this
  rw [this]; rfl
 ·unfold ref23_SameInts_L0
  rw [dec_t (show (i : Int) < (a.length : Int) by omega), cond_true, gd_t (inB_t hi), gd_t (inB_t hi), dec_t rfl, w1 hi (by omega)]; rfl
 ·unfold ref23_SameInts_L0
  rw [dec_f (by omega)]; rfl
theorem sameB (a : List Bool) (h : a.length ≤ 100000) : ref23_SameBools a a = some true := by
 unfold ref23_SameBools
 rw [dec_t rfl]
 have := iter_all (step := fun x => ref23_SameBools_L0 a a x) a.length (fun i => (i : Int)) (fun _ => true) (fin := .inl ()) (bad := .inr false) (fun i hi _ hq => ?_) (fun i hi _ hq => by cases hq) (fun _ => ?_)
 ·have e : (List.range a.length).all (fun _ => true) = true := by simp
  rw [e] at this
  have this : iter (fun x => ref23_SameBools_L0 a a x) 0 = some (.inl ()) := this
  rw [this]; rfl
 ·unfold ref23_SameBools_L0
  rw [dec_t (show (i : Int) < (a.length : Int) by omega), cond_true, gd_t (inB_t hi), gd_t (inB_t hi), beq_self_eq_true, w1 hi (by omega)]; rfl
 ·unfold ref23_SameBools_L0
  rw [dec_f (by omega)]; rfl
theorem sameP {p : Pl} (h1 : p.1.length ≤ 100000) (h2 : p.2.1.length ≤ 100000) (h3 : p.2.2.length ≤ 100000) : ref25_SamePlan p p = some true := by
 unfold ref25_SamePlan
 rw [sameI _ h1, Option.bind_some, sameI _ h2, Option.bind_some, sameB _ h3]; rfl
theorem sameD {d : Dk} (h : DkS d) : ref26_Same d d = some true := by
 unfold ref26_Same
 rw [sameV _ h.v, Option.bind_some, show ((d.2.1, (d.2.2.1, d.2.2.2)) : Pl) = d.2 from rfl, sameP h.r h.p h.b]; rfl
end
end Go.Proofs.YtnkfkceghbkkkaaGreat

namespace Go.Proofs.YtnkfkceghbkkkaaGreat
open Go Go.Sq
set_option linter.unusedVariables false
theorem sN {n : Int} {s : List Int} {p : Int} (h : SrcOk s p) (h1 : 1 ≤ n) (h2 : n ≤ 4611686018427387904) : Ok (keep_Src_N n s p) fun q => SrcOk q.2.1 q.2.2 ∧ 0 ≤ q.1 ∧ q.1 < n :=
 (srcN h h1 h2).mono fun q hq => ⟨hq.1 ▸ hq.2.1, hq.2.2⟩
theorem sP {l s : List Int} {p : Int} (h : SrcOk s p) (h1 : l ≠ []) (h2 : l.length ≤ 1000000) : Ok (keep_Src_Pick l s p) fun q => SrcOk q.2.1 q.2.2 ∧ q.1 ∈ l :=
 (srcP h h1 h2).mono fun q hq => ⟨hq.1 ▸ hq.2.1, hq.2.2⟩
structure GN (n : Net) : Prop where
 no : n.1.length ≤ 24
 sg : n.2.1.length ≤ 32
 p1 : 1 ≤ n.2.2.1.length
 po : n.2.2.1.length ≤ 24
 st : n.2.2.2.1.length ≤ 12
 kn : KnP n
theorem GN.of {k : Nat} {n : Net} (h : NetP k n) : GN n := by
 have h6 := h.k6
 have e : n.1.length = k := by rw [h.nodes, nms_len]
 refine ⟨by omega, by have := h.segs.len; omega, by have := h.some'; omega, by have := h.ports.len; omega, by have := h.stats.len; omega, ⟨fun i hi => ?_, fun i hi => ?_, fun i hi => ?_⟩⟩
 ·have := h.segs.rng _ (gD_mem (d := sg0) hi)
  exact ⟨⟨this.f0, by rw [e]; exact this.f1⟩, this.t0, by rw [e]; exact this.t1⟩
 ·have := h.ports.rng _ (gD_mem (d := po0) hi)
  exact ⟨this.1, by rw [e]; exact this.2.1⟩
 ·have := h.stats.rng _ (gD_mem (d := sta0) hi)
  exact ⟨this.1, by rw [e]; exact this.2.1⟩
structure PlS (n : Net) (p : Pl) : Prop where
 r : p.1.length = n.2.1.length
 q : p.2.1.length = n.2.2.1.length
 b : p.2.2.length = n.2.2.2.1.length
theorem PlS.small {n : Net} (hn : GN n) {p : Pl} (h : PlS n p) : p.1.length ≤ 32 ∧ p.2.1.length ≤ 24 ∧ p.2.2.length ≤ 12 := by
 have := h.r; have := h.q; have := h.b; have := hn.sg; have := hn.po; have := hn.st; omega
section
variable {n : Net}
def segsIn (n : Net) (l : List Int) : Prop := ∀ x ∈ l, 0 ≤ x ∧ x < (n.2.1.length : Int)
theorem segsIn.more {l : List Int} (h : segsIn n l) {x : Int} (hx : 0 ≤ x ∧ x < (n.2.1.length : Int)) : segsIn n (l ++ [x]) := fun y hy => by
 rcases List.mem_append.1 hy with hy | hy
 ·exact h y hy
 ·rw [List.mem_singleton.1 hy]; exact hx
def other (n : Net) (x a : Int) : Int := (n.2.1.getD x.toNat sg0).2.1 + (n.2.1.getD x.toNat sg0).2.2.1 - a
end
end Go.Proofs.YtnkfkceghbkkkaaGreat

namespace Go.Proofs.YtnkfkceghbkkkaaGreat
open Go Go.Sq
set_option linter.unusedVariables false
section
variable {n : Net}
structure DkN (n : Net) (d : Dk) : Prop where
 v : d.1.length = n.2.1.length + n.2.2.1.length
 p : PlS n d.2
theorem DkN.small (hn : GN n) {d : Dk} (h : DkN n d) : DkS d := by
 have := h.p.small hn; have := h.v; have := hn.sg; have := hn.po
 exact ⟨by omega, by omega, by omega, by omega⟩
theorem DkN.ln {d e : Dk} (h : DkN n d) (hl : Ln d e) : DkN n e := ⟨hl.v.trans h.v, ⟨hl.r.trans h.p.r, hl.p.trans h.p.q, hl.b.trans h.p.b⟩⟩
/-! ### Dividing a plan -/
def hopsIn (n : Net) (l : List Hop) : Prop := ∀ h ∈ l, hopOk n h = true
theorem hopsIn.more {l : List Hop} (h : hopsIn n l) {x : Hop} (hx : hopOk n x = true) : hopsIn n (l ++ [x]) := fun y hy => by
 rcases List.mem_append.1 hy with hy | hy
 ·exact h y hy
 ·rw [List.mem_singleton.1 hy]; exact hx
end
end Go.Proofs.YtnkfkceghbkkkaaGreat

namespace Go.Proofs.YtnkfkceghbkkkaaGreat
open Go Go.Sq
set_option linter.unusedVariables false
theorem mul_eq : ∀ k : Fin 100, math_bits_Mul (wu64 1) (wu64 ((k.val : Nat) : Int)) = some (0, ((k.val : Nat) : Int)) := by decide +kernel
theorem rep_in (v : Vl) (k : Nat) (hk : k ≤ 1000) : ∀ (f m : Nat) (l : List Vl), k ≤ m + f → 1 ≤ m → m ≤ k → l.length = k → (∀ i, i < m → l[i]? = some v) →
  iter (fun x2 => slices_Repeat_api_Valve_api_Valve_L0 x2.1 x2.2) ((m : Int), l) = some (List.replicate k v) := by
 have fin : ∀ (l : List Vl), l.length = k → (∀ i, i < k → l[i]? = some v) → l = List.replicate k v := fun l hl h => by
  refine List.ext_getElem? fun i => ?_
  by_cases hi : i < k
  ·rw [h i hi, List.getElem?_replicate, if_pos hi]
  ·rw [List.getElem?_eq_none (by omega), List.getElem?_eq_none (by simp; omega)]
 intro f
 induction f with
 | zero =>
  intro m l hf h1 hm hl h
  have : m = k := by omega
  subst this
  rw [← fin l hl h]
  exact iter_inr (by show slices_Repeat_api_Valve_api_Valve_L0 (m : Int) l = _; unfold slices_Repeat_api_Valve_api_Valve_L0; rw [dec_f (by omega)]; rfl)
 | succ f ih =>
  intro m l hf h1 hm hl h
  by_cases he : m = k
  ·subst he
   rw [← fin l hl h]
   exact iter_inr (by show slices_Repeat_api_Valve_api_Valve_L0 (m : Int) l = _; unfold slices_Repeat_api_Valve_api_Valve_L0; rw [dec_f (by omega)]; rfl)
  ·have hlt : (l.take m).length = m := by rw [List.length_take]; omega
   have hst : slices_Repeat_api_Valve_api_Valve_L0 (m : Int) l = some (.inl (((m + min m (k - m) : Nat) : Int), cpyD l m (l.take m))) := by
    unfold slices_Repeat_api_Valve_api_Valve_L0
    rw [dec_t (show (m : Int) < (l.length : Int) by omega), cond_true, gd_t (by rw [dec_t (by omega), inR_t (by omega) (by omega)]; rfl), gd_t (by rw [dec_t (by omega)]; exact inR_t (a := 0) (by omega) (by omega)), Int.toNat_natCast,
     gd_t (by rw [dec_t rfl, dec_t (show m ≤ l.length by omega), dec_t (show 0 < l.length by omega)]; rfl), hlt, hl]
    rw [show wi64 ((m : Int) + Int.ofNat (min m (k - m))) = ((m + min m (k - m) : Nat) : Int) by rw [show Int.ofNat (min m (k - m)) = ((min m (k - m) : Nat) : Int) from rfl, wi (by omega)]; omega]
   rw [iter_inl hst]
   refine ih _ _ (by omega) (by omega) (by omega) (by rw [cpyD_len _ _ (by omega)]; exact hl) fun i hi => ?_
   rw [cpyD_get _ _ (by omega), hlt]
   by_cases hc : m ≤ i ∧ i < m + min m (l.length - m)
   ·rw [if_pos hc, List.getElem?_take, if_pos (by omega)]
    exact h _ (by omega)
   ·rw [if_neg hc]
    rw [hl] at hc
    exact h i (by omega)
theorem rep_eq (v : Vl) {k : Nat} (h1 : 1 ≤ k) (h2 : k < 100) : slices_Repeat_api_Valve_api_Valve [v] (k : Int) = some (List.replicate k v) := by
 unfold slices_Repeat_api_Valve_api_Valve
 rw [dec_f (show ¬ (k : Int) < 0 by omega), cond_false, Option.bind_some, show (([v].length : Nat) : Int) = 1 from rfl, mul_eq ⟨k, h2⟩, Option.bind_some, dec_f (show ¬ (0 : Int) < 0 by omega), cond_false, dec_f (show ¬ 9223372036854775807 < (k : Int) by omega), Option.bind_some]
 simp only [cond_false, Option.bind_some]
 rw [wi (by omega), gd_t (makeG_t (by omega)), Int.toNat_natCast, List.length_replicate, gd_t (by rw [dec_t (by omega)]; rfl), show Int.ofNat (min [v].length (k - 0)) = ((1 : Nat) : Int) by simp only [List.length_cons, List.length_nil]; rw [Nat.min_eq_left (by omega)]; rfl]
 rw [rep_in v k (by omega) k 1 _ (by omega) (by omega) h1 (by rw [cpyD_len _ _ (by omega), List.length_replicate]) fun i hi => ?_]
 ·rfl
 ·rw [cpyD_get _ _ (by omega), if_pos (by simp; omega), show i - 0 = 0 by omega]; rfl
def idleS (n : Net) (t : Int) : Dk × Int := if chkNet n ≠ 0 then (([], ([], ([], []))), chkNet n) else
 bif rg 1 60 t then ((List.replicate (n.2.1.length + n.2.2.1.length) (t, (0, (false, false))), (List.replicate n.2.1.length 0, (List.replicate n.2.2.1.length 0, List.replicate n.2.2.2.1.length false))), 0) else (([], ([], ([], []))), 20)
theorem valid0 (t : Int) : validV (t, (0, (false, false))) = rg 1 60 t := by
 unfold validV rg
 simp only
 by_cases h : 1 ≤ t
 ·rw [dec_t h, dec_t (show (0 : Int) ≤ t by omega), Bool.true_and]; simp
 ·rw [dec_f h]; rfl
theorem idle_eq (n : Net) (t : Int) (h1 : chkNet n = 0 → 1 ≤ n.2.1.length + n.2.2.1.length) : step_Idle n t = some (idleS n t) := by
 unfold step_Idle idleS
 rw [net_eta, netcheck_eq, Option.bind_some, valid_eq, Option.bind_some, valid0]
 by_cases h0 : chkNet n = 0
 ·have hn := VNet.of h0
  have m1 := hn.small.sg
  have m2 := hn.small.po
  have m3 := hn.small.st
  have hh := h1 h0
  rw [dec_t h0, if_neg (fun e => e h0), Bool.not_true, cond_false]
  cases rg 1 60 t with
  | false => rfl
  | true =>
   simp only [Bool.not_true, cond_false, cond_true]
   rw [gd_t (makeG_t (by omega)), gd_t (makeG_t (by omega)), gd_t (makeG_t (by omega)), count_eq hn, Option.bind_some, rep_eq _ hh (by omega), Option.bind_some]
   simp only [Int.toNat_natCast]
 ·rw [dec_f h0, if_pos h0]; rfl

theorem few_eq (l : List Int) : second_Few l = some (decide ((l.length : Int) ≤ 400)) := rfl
end Go.Proofs.YtnkfkceghbkkkaaGreat
