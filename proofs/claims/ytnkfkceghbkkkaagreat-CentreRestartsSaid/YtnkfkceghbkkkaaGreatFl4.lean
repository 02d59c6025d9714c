/- Flows: what comes to the nodes and leaves them. No condition. -/
import Derived.Test.YtnkfkceghbkkkaaGreatNk5
namespace Go.Proofs.YtnkfkceghbkkkaaGreat
open Go Go.Sq
set_option linter.unusedVariables false
abbrev Pl := List Int × List Int × List Bool
def sumTo (f : Nat → Int) : Nat → Int
 | 0 => 0
 | n + 1 => sumTo f n + f n
theorem qdx {f : Nat → Int} {b : Int} (h : ∀ i, 0 ≤ f i ∧ f i ≤ b) : ∀ n : Nat, 0 ≤ sumTo f n ∧ sumTo f n ≤ b * n
 | 0 => ⟨Int.le_refl _, by simp [sumTo]⟩
 | n + 1 => by
  have h1 := qdx h n
  have h2 := h n
  have e : b * ((n + 1 : Nat) : Int) = b * n + b := by rw [Int.natCast_add, Int.mul_add]; simp
  rw [e]
  simp only [sumTo]; omega
theorem qdy {f : Nat → Int} : ∀ n : Nat, (∀ i, i < n → f i = 0) → sumTo f n = 0
 | 0, _ => rfl
 | n + 1, h => by simp only [sumTo]; rw [qdy n fun i hi => h i (by omega), h n (by omega)]; rfl
def rate (p : Pl) (i : Nat) : Int := p.1.getD i 0
def prate (p : Pl) (i : Nat) : Int := p.2.1.getD i 0
def frm (n : Net) (p : Pl) (i : Nat) : Int := if rate p i < 0 then (n.2.1.getD i sg0).2.2.1 else (n.2.1.getD i sg0).2.1
def tow (n : Net) (p : Pl) (i : Nat) : Int := if rate p i < 0 then (n.2.1.getD i sg0).2.1 else (n.2.1.getD i sg0).2.2.1
def amt (x : Int) : Int := max x (0 - x)
def segIn (n : Net) (p : Pl) (k : Int) (i : Nat) : Int := if tow n p i = k then amt (rate p i) else 0
def qbY (n : Net) (p : Pl) (k : Int) (i : Nat) : Int := if frm n p i = k then amt (rate p i) else 0
def qfP (n : Net) (p : Pl) (k : Int) (i : Nat) : Int := if (n.2.2.1.getD i po0).2.1 = k then max 0 (prate p i) else 0
def qdF (n : Net) (p : Pl) (k : Int) (i : Nat) : Int := if (n.2.2.1.getD i po0).2.1 = k then max 0 (0 - prate p i) else 0
def comeF (n : Net) (p : Pl) (k : Int) : Int := sumTo (segIn n p k) n.2.1.length + sumTo (qfP n p k) n.2.2.1.length
def qh4 (n : Net) (p : Pl) (k : Int) : Int := sumTo (qbY n p k) n.2.1.length + sumTo (qdF n p k) n.2.2.1.length
structure RB (p : Pl) : Prop where
 s : ∀ i, -1000 ≤ rate p i ∧ rate p i ≤ 1000
 q : ∀ i, -1000 ≤ prate p i ∧ prate p i ≤ 1000
section
variable {n : Net} {p : Pl}
theorem qmA (h : RB p) (k : Int) (i : Nat) : 0 ≤ segIn n p k i ∧ segIn n p k i ≤ 1000 := by
 have := h.s i; unfold segIn amt; split <;> omega
theorem qj3 (h : RB p) (k : Int) (i : Nat) : 0 ≤ qbY n p k i ∧ qbY n p k i ≤ 1000 := by
 have := h.s i; unfold qbY amt; split <;> omega
theorem qpg (h : RB p) (k : Int) (i : Nat) : 0 ≤ qfP n p k i ∧ qfP n p k i ≤ 1000 := by
 have := h.q i; unfold qfP; split <;> omega
theorem qm8 (h : RB p) (k : Int) (i : Nat) : 0 ≤ qdF n p k i ∧ qdF n p k i ≤ 1000 := by
 have := h.q i; unfold qdF; split <;> omega
end
structure KnP (n : Net) : Prop where
 s : ∀ i, i < n.2.1.length → (0 ≤ (n.2.1.getD i sg0).2.1 ∧ (n.2.1.getD i sg0).2.1 < n.1.length) ∧ (0 ≤ (n.2.1.getD i sg0).2.2.1 ∧ (n.2.1.getD i sg0).2.2.1 < n.1.length)
 p : ∀ i, i < n.2.2.1.length → 0 ≤ (n.2.2.1.getD i po0).2.1 ∧ (n.2.2.1.getD i po0).2.1 < n.1.length
 t : ∀ i, i < n.2.2.2.1.length → 0 ≤ (n.2.2.2.1.getD i sta0).2.1 ∧ (n.2.2.2.1.getD i sta0).2.1 < n.1.length
theorem qpX {n : Net} {k : Int} : kn n k = true ↔ 0 ≤ k ∧ k < n.1.length := by
 unfold kn; rw [Bool.and_eq_true, decide_eq_true_iff, decide_eq_true_iff]
theorem KnP.of {n : Net} (h : knB n = true) : KnP n := by
 unfold knB at h
 simp only [Bool.and_eq_true, List.all_eq_true] at h
 exact ⟨fun i hi => by have := h.1 _ (qbb (d := sg0) hi); rwa [qpX, qpX] at this, fun i hi => by have := h.2.1 _ (qbb (d := po0) hi); rwa [qpX] at this, fun i hi => by have := h.2.2 _ (qbb (d := sta0) hi); rwa [qpX] at this⟩
structure VNet (n : Net) : Prop where
 small : Small n
 kn : KnP n
 pr : prB n = true
theorem qnw {c : Bool} {a b : Int} (hb : b ≠ 0) (h : (bif c then a else b) = 0) : c = true ∧ a = 0 := by
 cases c
 ·exact absurd h hb
 ·exact ⟨rfl, h⟩
theorem VNet.of {n : Net} (h : qca n = 0) : VNet n := by
 unfold qca at h
 obtain ⟨h1, h⟩ := qnw (by decide) h
 obtain ⟨h2, h⟩ := qnw (by decide) h
 cases h3 : twB n with
 | true => rw [h3] at h; cases h
 | false =>
  rw [h3] at h; simp only [cond_false] at h
  obtain ⟨h4, h⟩ := qnw (by decide) h
  obtain ⟨h5, h⟩ := qnw (by decide) h
  exact ⟨(qn3 n).1 h1, KnP.of h4, h5⟩
theorem qt4 {n : Net} {p : Pl} (h : KnP n) {i : Nat} (hi : i < n.2.1.length) : 0 ≤ frm n p i ∧ frm n p i < n.1.length := by
 have := h.s i hi; unfold frm; split <;> omega
theorem qz2 {n : Net} {p : Pl} (h : KnP n) {i : Nat} (hi : i < n.2.1.length) : 0 ≤ tow n p i ∧ tow n p i < n.1.length := by
 have := h.s i hi; unfold tow; split <;> omega
/-! ### The program's sums -/
def m24 (f : Nat → Int) : List Int := (List.range 24).map f
theorem qtf (f : Nat → Int) : (m24 f).length = 24 := by simp [m24]
theorem qhB (f : Nat → Int) {k : Nat} (h : k < 24) : (m24 f).getD k 0 = f k := qxy f 24 k h
theorem qfF {f g : Nat → Int} (h : ∀ k, k < 24 → f k = g k) : m24 f = m24 g := List.map_congr_left fun k hk => h k (List.mem_range.1 hk)
theorem qzb (f : Nat → Int) {k : Nat} (hk : k < 24) (x : Int) : (m24 f).set k ((m24 f).getD k 0 + x) = m24 fun j => f j + (if k = j then x else 0) := by
 refine qyw 0 (by simp [qtf]) fun j hj => ?_
 rw [List.length_set, qtf] at hj
 rw [qkD, qhB _ hj, qtf]
 by_cases e : k = j
 ·subst e; rw [if_pos ⟨rfl, hk⟩, qhB _ hk, qhB _ hk, if_pos rfl]
 ·rw [if_neg (fun h => e h.1), qhB _ hj, if_neg e]; omega
def addF (f : Nat → Int) (k x : Int) : Nat → Int := fun j => f j + (if k = (j : Int) then x else 0)
theorem qt5 (f : Nat → Int) (x : Int) : m24 (addF f (-1) x) = m24 f := qfF fun k _ => by unfold addF; rw [if_neg (by omega)]; omega
theorem m24_set' (f : Nat → Int) {k : Int} (h0 : 0 ≤ k) (h1 : k < 24) {x : Int} (hb : ∀ j, j < 24 → -1000000 ≤ f j ∧ f j ≤ 1000000) (hx : -1000000 ≤ x ∧ x ≤ 1000000) : (m24 f).set k.toNat (wi64 ((m24 f).getD k.toNat 0 + x)) = m24 (addF f k x) := by
 obtain ⟨k', rfl⟩ : ∃ k' : Nat, k = (k' : Int) := ⟨k.toNat, by omega⟩
 rw [Int.toNat_natCast, show wi64 ((m24 f).getD k' 0 + x) = (m24 f).getD k' 0 + x by
  rw [qhB _ (by omega)]; have := hb k' (by omega); exact wi (by omega), qzb f (by omega)]
 refine qfF fun j hj => ?_
 unfold addF
 by_cases e : k' = j
 ·rw [if_pos e, if_pos (by omega)]
 ·rw [if_neg e, if_neg (by omega)]
def bd6 (f : Nat → Int) : Prop := ∀ j, j < 24 → -1000000 ≤ f j ∧ f j ≤ 1000000
theorem qyz {f g : Nat → Int} (hf : bd6 f) (hg : bd6 g) {a b r : Int} (ha : -1 ≤ a ∧ a < 24) (hb : 0 ≤ b ∧ b < 24) (hr : -1000 ≤ r ∧ r ≤ 1000) :
  qcQ a b r (m24 f, m24 g) = some (m24 (addF f (if r < 0 then a else b) (amt r)), m24 (addF g (if r < 0 then b else a) (amt r))) := by
 unfold qcQ
 by_cases h : r < 0
 ·rw [dec_t h, if_pos h, if_pos h, cond_true, show wi64 (0 - r) = amt r by unfold amt; rw [wi (by omega)]; omega]
  have hx : -1000000 ≤ amt r ∧ amt r ≤ 1000000 := by unfold amt; omega
  simp only [Option.bind_some]
  have hB : inB b 24 = true := qaA.2 (by omega)
  rw [dec_t hb.1, cond_true, gd_t hB, gd_t hB, m24_set' g hb.1 hb.2 hg hx, Option.bind_some]
  by_cases h0 : 0 ≤ a
  ·have hA : inB a 24 = true := qaA.2 (by omega)
   rw [dec_t h0, cond_true, gd_t hA, gd_t hA, m24_set' f h0 ha.2 hf hx]
  ·rw [dec_f h0, cond_false, show a = -1 by omega, qt5]
 ·rw [dec_f h, if_neg h, if_neg h, cond_false]
  have hx : -1000000 ≤ r ∧ r ≤ 1000000 := by omega
  rw [show amt r = r by unfold amt; omega]
  have hB : inB b 24 = true := qaA.2 (by omega)
  simp only [Option.bind_some]
  by_cases h0 : 0 ≤ a
  ·have hA : inB a 24 = true := qaA.2 (by omega)
   rw [dec_t h0, cond_true, gd_t hA, gd_t hA, m24_set' g h0 ha.2 hg hx, Option.bind_some, dec_t hb.1, cond_true, gd_t hB, gd_t hB, m24_set' f hb.1 hb.2 hf hx]
  ·rw [dec_f h0, cond_false, Option.bind_some, dec_t hb.1, cond_true, gd_t hB, gd_t hB, m24_set' f hb.1 hb.2 hf hx, show a = -1 by omega, qt5]
theorem pairE {A B C D E : Type} {i : A} {v : B} {a a' : C} {b b' : D} (h : a = a') (h' : b = b') : (some (Sum.inl (i, v, a, b)) : Option ((A × B × C × D) ⊕ E)) = some (Sum.inl (i, v, a', b')) := by rw [h, h']
theorem qt6 {n : Net} (hn : VNet n) {p : Pl} (hp : RB p) (h1 : p.1.length = n.2.1.length) (h2 : p.2.1.length = n.2.2.1.length) : qju n p = some (m24 fun k => comeF n p k, m24 fun k => qh4 n p k) := by
 obtain ⟨s1, s2, s3, s4, s5, s6⟩ := hn.small
 unfold qju
 have e1 : iter (fun x => qdc n p x.1 x.2.1 x.2.2) (0, ((List.replicate 24 0), (List.replicate 24 0)), ((List.replicate 24 0), (List.replicate 24 0))) =
   some (((List.replicate 24 0), (List.replicate 24 0)), (m24 fun k => sumTo (segIn n p k) n.2.1.length, m24 fun k => sumTo (qbY n p k) n.2.1.length)) := by
  refine qbe (step := fun x : Int × (List Int × List Int) × (List Int × List Int) => qdc n p x.1 x.2.1 x.2.2) n.2.1.length (fun i => ((i : Int), ((List.replicate 24 0), (List.replicate 24 0)), (m24 fun k => sumTo (segIn n p k) i, m24 fun k => sumTo (qbY n p k) i))) (fun i hi => ?_) ?_
  ·show qdc n p _ _ _ = _
   unfold qdc
   have k1 := hn.kn.s i hi
   have b1 : bd6 fun k => sumTo (segIn n p k) i := fun j _ => by have := qdx (qmA (n := n) hp (j : Int)) i; dsimp only; omega
   have b2 : bd6 fun k => sumTo (qbY n p k) i := fun j _ => by have := qdx (qj3 (n := n) hp (j : Int)) i; dsimp only; omega
   have hr := hp.s i
   unfold rate at hr
   rw [dec_t (show (i : Int) < (n.2.1.length : Int) by omega), cond_true, gd_t (inB_t hi), gd_t (inB_t (show i < p.1.length by omega)), Int.toNat_natCast,
    qyz b1 b2 (by have := k1.1; simp only [sg0] at this; omega) (by have := k1.2; simp only [sg0] at this; omega) hr, Option.bind_some, w1 hi (by omega)]
   refine pairE ?_ ?_
   ·refine qfF fun k hk => ?_
    simp only [addF, sumTo, segIn, tow, rate, sg0]; rfl
   ·refine qfF fun k hk => ?_
    simp only [addF, sumTo, qbY, frm, rate, sg0]; rfl
  ·show qdc n p _ _ _ = _
   unfold qdc
   rw [dec_f (by omega)]; rfl
 rw [e1, Option.bind_some]
 have e2 : iter (fun x2 => qdd n p x2.1 x2.2.1 x2.2.2) (0, ((List.replicate 24 0), (List.replicate 24 0)), (m24 fun k => sumTo (segIn n p k) n.2.1.length, m24 fun k => sumTo (qbY n p k) n.2.1.length)) =
   some (((List.replicate 24 0), (List.replicate 24 0)), (m24 fun k => comeF n p k, m24 fun k => qh4 n p k)) := by
  have := qbe (step := fun x2 : Int × (List Int × List Int) × (List Int × List Int) => qdd n p x2.1 x2.2.1 x2.2.2) (e := (((List.replicate 24 0), (List.replicate 24 0)), (m24 fun k => comeF n p k, m24 fun k => qh4 n p k))) n.2.2.1.length (fun i => ((i : Int), ((List.replicate 24 0), (List.replicate 24 0)), (m24 fun k => sumTo (segIn n p k) n.2.1.length + sumTo (qfP n p k) i, m24 fun k => sumTo (qbY n p k) n.2.1.length + sumTo (qdF n p k) i))) (fun i hi => ?_) ?_
  ·refine Eq.trans ?_ this
   rw [show (m24 fun k => sumTo (segIn n p k) n.2.1.length) = m24 fun k => sumTo (segIn n p k) n.2.1.length + sumTo (qfP n p k) 0 from qfF fun k _ => by simp only [sumTo]; omega,
    show (m24 fun k => sumTo (qbY n p k) n.2.1.length) = m24 fun k => sumTo (qbY n p k) n.2.1.length + sumTo (qdF n p k) 0 from qfF fun k _ => by simp only [sumTo]; omega]
   rfl
  ·show qdd n p _ _ _ = _
   unfold qdd
   have k1 := hn.kn.p i hi
   have b1 : bd6 fun k => sumTo (segIn n p k) n.2.1.length + sumTo (qfP n p k) i := fun j _ => by
    have := qdx (qmA (n := n) hp (j : Int)) n.2.1.length
    have := qdx (qpg (n := n) hp (j : Int)) i; dsimp only; omega
   have b2 : bd6 fun k => sumTo (qbY n p k) n.2.1.length + sumTo (qdF n p k) i := fun j _ => by
    have := qdx (qj3 (n := n) hp (j : Int)) n.2.1.length
    have := qdx (qm8 (n := n) hp (j : Int)) i; dsimp only; omega
   have hr := hp.q i
   unfold prate at hr
   rw [dec_t (show (i : Int) < (n.2.2.1.length : Int) by omega), cond_true, gd_t (inB_t hi), gd_t (inB_t (show i < p.2.1.length by omega)), Int.toNat_natCast,
    qyz b1 b2 (by omega) (by have := k1; simp only [po0] at this; omega) hr, Option.bind_some, w1 hi (by omega)]
   refine pairE ?_ ?_
   ·refine qfF fun k hk => ?_
    simp only [addF, sumTo, qfP, prate, amt]
    split <;> split <;> (try split) <;> omega
   ·refine qfF fun k hk => ?_
    simp only [addF, sumTo, qdF, prate, amt]
    split <;> split <;> (try split) <;> omega
  ·show qdd n p _ _ _ = _
   unfold qdd
   rw [dec_f (by omega)]; rfl
 rw [e2]; rfl
end Go.Proofs.YtnkfkceghbkkkaaGreat
namespace Go.Proofs.YtnkfkceghbkkkaaGreat
open Go Go.Sq
set_option linter.unusedVariables false
section
variable {n : Net} {p : Pl}
theorem qtg (s : Seg) (r : Int) : qlX s r = some (if r < 0 then s.2.2.1 else s.2.1, if r < 0 then s.2.1 else s.2.2.1) := by
 unfold qlX
 by_cases h : r < 0
 ·rw [dec_t h, cond_true, if_pos h, if_pos h]
 ·rw [dec_f h, cond_false, if_neg h, if_neg h]
theorem qt7 (s : Seg) (r : Int) : qkr s r = some (if r < 0 then s.2.2.1 else s.2.1, if r < 0 then s.2.1 else s.2.2.1) := qtg s r
theorem qzc {r : Int} (h : -1000 ≤ r ∧ r ≤ 1000) : qjQ r = some (amt r) := by
 unfold qjQ amt; rw [wi (by omega)]
theorem qq0 (hp : RB p) (hs : n.2.1.length ≤ 32) (hq : n.2.2.1.length ≤ 24) (h1 : p.1.length = n.2.1.length) (h2 : p.2.1.length = n.2.2.1.length) (k : Int) : qhZ n p k = some (comeF n p k, qh4 n p k) := by
 unfold qhZ
 have e1 : iter (fun x => qcH n p k x.1 x.2.1 x.2.2) (0, 0, 0) = some (sumTo (segIn n p k) n.2.1.length, sumTo (qbY n p k) n.2.1.length) := by
  refine qbe (step := fun x : Int × Int × Int => qcH n p k x.1 x.2.1 x.2.2) n.2.1.length (fun i => (sumTo (segIn n p k) i, sumTo (qbY n p k) i, (i : Int))) (fun i hi => ?_) ?_
  ·show qcH n p k (sumTo (segIn n p k) i) (sumTo (qbY n p k) i) (i : Int) = some (.inl (sumTo (segIn n p k) i + segIn n p k i, sumTo (qbY n p k) i + qbY n p k i, ((i + 1 : Nat) : Int)))
   have b1 := qdx (qmA (n := n) hp k) i
   have b2 := qdx (qj3 (n := n) hp k) i
   have b3 := qmA (n := n) hp k i
   have b4 := qj3 (n := n) hp k i
   have hr := hp.s i
   unfold qcH
   rw [dec_t (show (i : Int) < (n.2.1.length : Int) by omega), cond_true, gd_t (inB_t hi), gd_t (inB_t (show i < p.1.length by omega)), Int.toNat_natCast, qt7]
   have ef : frm n p i = if p.1.getD i 0 < 0 then (n.2.1.getD i ([], (0, (0, (0, (0, (0, []))))))).2.2.1 else (n.2.1.getD i ([], (0, (0, (0, (0, (0, []))))))).2.1 := rfl
   have et : tow n p i = if p.1.getD i 0 < 0 then (n.2.1.getD i ([], (0, (0, (0, (0, (0, []))))))).2.1 else (n.2.1.getD i ([], (0, (0, (0, (0, (0, []))))))).2.2.1 := rfl
   have er : rate p i = p.1.getD i 0 := rfl
   simp only [Option.bind_some]
   have hB : inB (i : Int) p.1.length = true := inB_t (by omega)
   rw [← ef, ← et, ← er, qzc hr]
   simp only [Option.bind_some, gd_t hB]
   by_cases h0 : rate p i = 0
   ·have z1 : segIn n p k i = 0 := by unfold segIn amt; split <;> omega
    have z2 : qbY n p k i = 0 := by unfold qbY amt; split <;> omega
    rw [dec_t h0, cond_true, Option.bind_some, z1, z2, w1 hi (by omega), Int.add_zero, Int.add_zero]
   ·rw [dec_f h0, cond_false]
    have s1 : (bif decide (frm n p i = k) then some (wi64 (sumTo (qbY n p k) i + amt (rate p i))) else some (sumTo (qbY n p k) i)) = some (sumTo (qbY n p k) i + qbY n p k i) := by
     by_cases hc : frm n p i = k
     ·have : qbY n p k i = amt (rate p i) := if_pos hc
      rw [dec_t hc, cond_true, ← this, wi (by omega)]
     ·have : qbY n p k i = 0 := if_neg hc
      rw [dec_f hc, cond_false, this, Int.add_zero]
    have s2 : (bif decide (tow n p i = k) then some (wi64 (sumTo (segIn n p k) i + amt (rate p i))) else some (sumTo (segIn n p k) i)) = some (sumTo (segIn n p k) i + segIn n p k i) := by
     by_cases hc : tow n p i = k
     ·have : segIn n p k i = amt (rate p i) := if_pos hc
      rw [dec_t hc, cond_true, ← this, wi (by omega)]
     ·have : segIn n p k i = 0 := if_neg hc
      rw [dec_f hc, cond_false, this, Int.add_zero]
    rw [s1, Option.bind_some, s2, Option.bind_some, Option.bind_some, w1 hi (by omega)]
  ·show qcH n p k _ _ ((n.2.1.length : Nat) : Int) = _
   unfold qcH
   rw [dec_f (by omega)]; rfl
 rw [e1, Option.bind_some]
 have e2 : iter (fun x2 => qcI n p k x2.1 x2.2.1 x2.2.2) (sumTo (segIn n p k) n.2.1.length, sumTo (qbY n p k) n.2.1.length, 0) = some (comeF n p k, qh4 n p k) := by
  have := qbe (step := fun x2 : Int × Int × Int => qcI n p k x2.1 x2.2.1 x2.2.2) (e := (comeF n p k, qh4 n p k)) n.2.2.1.length (fun i => (sumTo (segIn n p k) n.2.1.length + sumTo (qfP n p k) i, sumTo (qbY n p k) n.2.1.length + sumTo (qdF n p k) i, (i : Int))) (fun i hi => ?_) ?_
  ·refine Eq.trans ?_ this
   simp only [sumTo, Int.add_zero]; rfl
  ·have b1 := qdx (qmA (n := n) hp k) n.2.1.length
   have b2 := qdx (qj3 (n := n) hp k) n.2.1.length
   have b3 := qdx (qpg (n := n) hp k) i
   have b4 := qdx (qm8 (n := n) hp k) i
   have b5 := qpg (n := n) hp k i
   have b6 := qm8 (n := n) hp k i
   show qcI n p k (sumTo (segIn n p k) n.2.1.length + sumTo (qfP n p k) i) (sumTo (qbY n p k) n.2.1.length + sumTo (qdF n p k) i) (i : Int) = some (.inl (sumTo (segIn n p k) n.2.1.length + (sumTo (qfP n p k) i + qfP n p k i), sumTo (qbY n p k) n.2.1.length + (sumTo (qdF n p k) i + qdF n p k i), ((i + 1 : Nat) : Int)))
   have hr := hp.q i
   unfold qcI
   have hB : inB (i : Int) p.2.1.length = true := inB_t (by omega)
   have eq : prate p i = p.2.1.getD i 0 := rfl
   rw [dec_t (show (i : Int) < (n.2.2.1.length : Int) by omega), cond_true, gd_t (inB_t hi), Int.toNat_natCast, gd_t hB, gd_t hB, ← eq, w1 hi (by omega)]
   by_cases hc : (n.2.2.1.getD i po0).2.1 = k
   ·have z1 : qfP n p k i = max 0 (prate p i) := if_pos hc
    have z2 : qdF n p k i = max 0 (0 - prate p i) := if_pos hc
    have hc' : ((n.2.2.1.getD i ([], (0, 0))).2).1 = k := hc
    rw [dec_t hc', cond_true, Option.bind_some, wi (show -9223372036854775808 ≤ 0 - prate p i ∧ 0 - prate p i ≤ 9223372036854775807 by omega), ← z1, ← z2, wi (by omega), wi (by omega), Int.add_assoc, Int.add_assoc]
   ·have z1 : qfP n p k i = 0 := if_neg hc
    have z2 : qdF n p k i = 0 := if_neg hc
    have hc' : ¬ ((n.2.2.1.getD i ([], (0, 0))).2).1 = k := hc
    rw [dec_f hc', cond_false, Option.bind_some, z1, z2, Int.add_zero, Int.add_zero]
  ·show qcI n p k _ _ ((n.2.2.1.length : Nat) : Int) = _
   unfold qcI
   rw [dec_f (by omega)]; rfl
 rw [e2]; rfl
/-! ### The order -/
def blk (n : Net) (p : Pl) (there : List Bool) (k : Nat) (i : Nat) : Bool := !decide (rate p i = 0) && (decide (tow n p i = (k : Int)) && !there.getD (frm n p i).toNat false)
def freeB (n : Net) (p : Pl) (there : List Bool) (k : Nat) : Bool := !there.getD k false && !(List.range n.2.1.length).any (blk n p there k)
def nextF (n : Net) (p : Pl) (there : List Bool) : Option Nat := (List.range n.1.length).find? (freeB n p there)
def topo (n : Net) (p : Pl) : Nat → List Bool → List Int
 | 0, _ => []
 | f + 1, there => match nextF n p there with
  | none => []
  | some k => (k : Int) :: topo n p f (there.set k true)
def ordL (n : Net) (p : Pl) : List Int := topo n p n.1.length (List.replicate n.1.length false)
theorem qxK (f : Nat) : ∀ there, (topo n p f there).length ≤ f := by
 induction f with
 | zero => intro _; exact Nat.le_refl _
 | succ f ih =>
  intro there
  unfold topo
  split
  ·exact Nat.zero_le _
  ·rw [List.length_cons]; have := ih (there.set (by assumption) true); omega
theorem qr1 {there : List Bool} (h : ∀ j, j < n.1.length → freeB n p there j = false) : nextF n p there = none := by
 unfold nextF
 rw [List.find?_eq_none]
 intro x hx
 rw [h x (List.mem_range.1 hx)]; simp
theorem quR {q : Nat → Bool} {k m : Nat} (hk : k < m) (h : ∀ j, j < k → q j = false) (hq : q k = true) : (List.range m).find? q = some k := by
 rw [List.find?_range_eq_some]
 refine ⟨hq, List.mem_range.2 hk, fun j hj => ?_⟩
 rw [h j hj]; rfl
theorem qwg {there : List Bool} {k : Nat} (hk : k < n.1.length) (h : ∀ j, j < k → freeB n p there j = false) (hq : freeB n p there k = true) : nextF n p there = some k := quR hk h hq
theorem qmB {there : List Bool} (h : nextF n p there = none) : ∀ f, topo n p f there = []
 | 0 => rfl
 | f + 1 => by unfold topo; rw [h]
theorem count_set {l : List Bool} {k : Nat} (hk : k < l.length) (h : l.getD k false = false) : (l.set k true).count false + 1 = l.count false := by
 rw [gD_eq hk] at h
 have := List.count_set (l := l) (a := true) (b := false) hk
 rw [this, h]
 have : 0 < l.count false := List.count_pos_iff.2 (h ▸ List.getElem_mem hk)
 simp; omega
theorem qr2 {l : List Bool} {k : Nat} (hk : k < l.length) (h : l.getD k false = false) : 0 < l.count false := by
 have := count_set hk h; omega
theorem qt8 (hn : VNet n) (h1 : p.1.length = n.2.1.length) {there : List Bool} (ht : there.length = n.1.length) (k : Nat) (out : List Int) :
  iter (fun x => qbQ n p (k : Int) x.1 x.2.1 x.2.2) (0, out, there) = some (bif (List.range n.2.1.length).any (blk n p there k) then .inl (out, there) else .inr (out, there)) := by
 have hs := hn.small.sg
 have := qbf (step := fun x : Int × List Int × List Bool => qbQ n p (k : Int) x.1 x.2.1 x.2.2) n.2.1.length (fun i => ((i : Int), out, there)) (fun i => !blk n p there k i) (fin := .inr (out, there)) (bad := .inl (out, there)) (fun i hi _ hq => ?_) (fun i hi _ hq => ?_) (fun _ => ?_)
 ·have e : (List.range n.2.1.length).all (fun i => !blk n p there k i) = !(List.range n.2.1.length).any (blk n p there k) := by simp [List.all_eq_not_any_not]
  rw [e] at this
  refine Eq.trans this ?_
  cases (List.range n.2.1.length).any (blk n p there k) <;> rfl
 ·show qbQ n p (k : Int) (i : Int) out there = _
  unfold qbQ
  have hf := qt4 (p := p) hn.kn hi
  have ef : frm n p i = if p.1.getD i 0 < 0 then (n.2.1.getD i ([], (0, (0, (0, (0, (0, []))))))).2.2.1 else (n.2.1.getD i ([], (0, (0, (0, (0, (0, []))))))).2.1 := rfl
  have et : tow n p i = if p.1.getD i 0 < 0 then (n.2.1.getD i ([], (0, (0, (0, (0, (0, []))))))).2.1 else (n.2.1.getD i ([], (0, (0, (0, (0, (0, []))))))).2.2.1 := rfl
  have er : rate p i = p.1.getD i 0 := rfl
  have hB : inB (i : Int) p.1.length = true := inB_t (by omega)
  rw [dec_t (show (i : Int) < (n.2.1.length : Int) by omega), cond_true, gd_t (inB_t hi), gd_t hB, Int.toNat_natCast, qtg, Option.bind_some, gd_t hB, ← ef, ← et, ← er, w1 hi (by omega), gd_t (qaA.2 (by omega))]
  unfold blk at hq
  simp only [Bool.not_and, Bool.not_not] at hq
  cases hr : decide (rate p i = 0) with
  | true => simp only [Bool.not_true, cond_false, Option.bind_some]
  | false =>
   rw [hr] at hq
   simp only [Bool.not_false, cond_true]
   cases ht2 : decide (tow n p i = (k : Int)) with
   | false => simp only [cond_false, Option.bind_some]
   | true =>
    rw [ht2] at hq
    simp only [Bool.false_or, Bool.not_true] at hq
    simp only [cond_true, hq, Bool.not_true, Option.bind_some, cond_false]
 ·show qbQ n p (k : Int) (i : Int) out there = _
  unfold qbQ
  have hf := qt4 (p := p) hn.kn hi
  have ef : frm n p i = if p.1.getD i 0 < 0 then (n.2.1.getD i ([], (0, (0, (0, (0, (0, []))))))).2.2.1 else (n.2.1.getD i ([], (0, (0, (0, (0, (0, []))))))).2.1 := rfl
  have et : tow n p i = if p.1.getD i 0 < 0 then (n.2.1.getD i ([], (0, (0, (0, (0, (0, []))))))).2.1 else (n.2.1.getD i ([], (0, (0, (0, (0, (0, []))))))).2.2.1 := rfl
  have er : rate p i = p.1.getD i 0 := rfl
  have hB : inB (i : Int) p.1.length = true := inB_t (by omega)
  rw [dec_t (show (i : Int) < (n.2.1.length : Int) by omega), cond_true, gd_t (inB_t hi), gd_t hB, Int.toNat_natCast, qtg, Option.bind_some, gd_t hB, ← ef, ← et, ← er, gd_t (qaA.2 (by omega))]
  have hq' : blk n p there k i = true := by revert hq; cases blk n p there k i <;> simp
  unfold blk at hq'
  rw [Bool.and_eq_true, Bool.and_eq_true] at hq'
  obtain ⟨a, b, c⟩ := hq'
  rw [a, b, c]; rfl
 ·show qbQ n p (k : Int) ((n.2.1.length : Nat) : Int) out there = _
  unfold qbQ
  rw [dec_f (by omega)]; rfl
theorem qxL (hn : VNet n) (h1 : p.1.length = n.2.1.length) : ∀ (f : Nat) (there : List Bool) (out : List Int), there.length = n.1.length → there.count false ≤ f → out.length + f ≤ 100 → ∀ m k : Nat, k + m = n.1.length → (∀ j, j < k → freeB n p there j = false) →
  iter (fun x => qaR n p x.1 x.2.1 x.2.2) ((k : Int), out, there) = some (out ++ topo n p f there) := by
 have hN := hn.small.no
 intro f
 induction f with
 | zero =>
  intro there out ht hc ho m
  induction m with
  | zero =>
   intro k hk hf
   rw [qc3 (e := out) (by show qaR n p ((k : Nat) : Int) out there = _; unfold qaR; rw [dec_f (by omega)]; rfl), qmB (qr1 fun j hj => hf j (by omega)), List.append_nil]
  | succ m ih =>
   intro k hk hf
   have hk' : k < n.1.length := by omega
   have hth : there.getD k false = true := by
    cases hg : there.getD k false with
    | true => rfl
    | false => have := qr2 (by omega) hg; omega
   have hfk : freeB n p there k = false := by unfold freeB; rw [hth]; rfl
   rw [qdX (y := (((k + 1 : Nat) : Int), out, there)) (by
    show qaR n p ((k : Nat) : Int) out there = _; unfold qaR
    rw [dec_t (by omega), cond_true, gd_t (inB_t (by omega)), Int.toNat_natCast, hth, cond_true, Option.bind_some, w1 hk' (by omega)])]
   refine ih (k + 1) (by omega) fun j hj => ?_
   rcases Nat.lt_or_ge j k with h | h
   ·exact hf j h
   ·rw [show j = k by omega]; exact hfk
 | succ f ihf =>
  intro there out ht hc ho m
  induction m with
  | zero =>
   intro k hk hf
   rw [qc3 (e := out) (by show qaR n p ((k : Nat) : Int) out there = _; unfold qaR; rw [dec_f (by omega)]; rfl), qmB (qr1 fun j hj => hf j (by omega)), List.append_nil]
  | succ m ih =>
   intro k hk hf
   have hk' : k < n.1.length := by omega
   have go : freeB n p there k = false → ∀ j, j < k + 1 → freeB n p there j = false := fun hfk j hj => by
    rcases Nat.lt_or_ge j k with h | h
    ·exact hf j h
    ·rw [show j = k by omega]; exact hfk
   cases hth : there.getD k false with
   | true =>
    have hfk : freeB n p there k = false := by unfold freeB; rw [hth]; rfl
    rw [qdX (y := (((k + 1 : Nat) : Int), out, there)) (by
     show qaR n p ((k : Nat) : Int) out there = _; unfold qaR
     rw [dec_t (by omega), cond_true, gd_t (inB_t (by omega)), Int.toNat_natCast, hth, cond_true, Option.bind_some, w1 hk' (by omega)])]
    exact ih (k + 1) (by omega) (go hfk)
   | false =>
    cases hb : (List.range n.2.1.length).any (blk n p there k) with
    | true =>
     have hfk : freeB n p there k = false := by unfold freeB; rw [hth, hb]; rfl
     rw [qdX (y := (((k + 1 : Nat) : Int), out, there)) (by
      show qaR n p ((k : Nat) : Int) out there = _; unfold qaR
      rw [dec_t (by omega), cond_true, gd_t (inB_t (by omega)), Int.toNat_natCast, hth, cond_false, qt8 hn h1 ht k out, hb, Option.bind_some, cond_true, Sum.elim_inl, Option.bind_some, w1 hk' (by omega)])]
     exact ih (k + 1) (by omega) (go hfk)
    | false =>
     have hfk : freeB n p there k = true := by unfold freeB; rw [hth, hb]; rfl
     rw [qdX (y := ((0 : Int), out ++ [(k : Int)], there.set k true)) (by
      show qaR n p ((k : Nat) : Int) out there = _; unfold qaR
      rw [dec_t (by omega), cond_true, gd_t (inB_t (by omega)), Int.toNat_natCast, hth, cond_false, qt8 hn h1 ht k out, hb, Option.bind_some, cond_false, Sum.elim_inr, gd_t (inB_t (by show k < there.length; omega)), gd_t (qaz (by show (out.length + 1) * 8 ≤ _; omega))]; rfl)]
     have hcs := count_set (l := there) (k := k) (by omega) hth
     have := ihf (there.set k true) (out ++ [(k : Int)]) (by rw [List.length_set]; exact ht) (by omega) (by rw [List.length_append]; simp only [List.length_cons, List.length_nil]; omega) n.1.length 0 (by omega) (fun j hj => by omega)
     refine Eq.trans this ?_
     rw [topo, qwg hk' hf hfk, List.append_assoc]; rfl
theorem qwh (hn : VNet n) (h1 : p.1.length = n.2.1.length) : qkf n p = some (ordL n p) := by
 have hN := hn.small.no
 unfold qkf
 rw [gd_t (qjm (by omega)), Int.toNat_natCast]
 have := qxL hn h1 n.1.length (List.replicate n.1.length false) [] (by simp) (by simp) (by simp; omega) n.1.length 0 (by omega) (fun j hj => by omega)
 have this : iter (fun x => qaR n p x.1 x.2.1 x.2.2) ((0 : Int), [], List.replicate n.1.length false) = some (ordL n p) := this
 rw [this]; rfl
end
end Go.Proofs.YtnkfkceghbkkkaaGreat
namespace Go.Proofs.YtnkfkceghbkkkaaGreat
open Go Go.Sq
set_option linter.unusedVariables false
section
variable {n : Net} {p : Pl}
theorem qwi (hn : VNet n) (h1 : p.1.length = n.2.1.length) {there : List Bool} (ht : there.length = n.1.length) (k : Nat) (out : List Int) :
  iter (fun x => qcm n p (k : Int) x.1 x.2.1 x.2.2.1 x.2.2.2) (!there.getD k false, 0, out, there) = some (freeB n p there k, out, there) := by
 have hs := hn.small.sg
 have := qbe (step := fun x : Bool × Int × List Int × List Bool => qcm n p (k : Int) x.1 x.2.1 x.2.2.1 x.2.2.2) (e := (freeB n p there k, out, there)) n.2.1.length (fun i => (!there.getD k false && !(List.range i).any (blk n p there k), (i : Int), out, there)) (fun i hi => ?_) ?_
 ·refine Eq.trans ?_ this
  simp only [List.range_zero, List.any_nil, Bool.not_false, Bool.and_true]; rfl
 ·show qcm n p (k : Int) (!there.getD k false && !(List.range i).any (blk n p there k)) (i : Int) out there = some (.inl (!there.getD k false && !(List.range (i + 1)).any (blk n p there k), ((i + 1 : Nat) : Int), out, there))
  unfold qcm
  have hf := qt4 (p := p) hn.kn hi
  have ef : frm n p i = if p.1.getD i 0 < 0 then (n.2.1.getD i ([], (0, (0, (0, (0, (0, []))))))).2.2.1 else (n.2.1.getD i ([], (0, (0, (0, (0, (0, []))))))).2.1 := rfl
  have et : tow n p i = if p.1.getD i 0 < 0 then (n.2.1.getD i ([], (0, (0, (0, (0, (0, []))))))).2.1 else (n.2.1.getD i ([], (0, (0, (0, (0, (0, []))))))).2.2.1 := rfl
  have er : rate p i = p.1.getD i 0 := rfl
  have hB : inB (i : Int) p.1.length = true := inB_t (by omega)
  have hT : inB (frm n p i) there.length = true := qaA.2 (by omega)
  rw [dec_t (show (i : Int) < (n.2.1.length : Int) by omega), cond_true, gd_t (inB_t hi), gd_t hB, Int.toNat_natCast, qt7, w1 hi (by omega), List.range_succ, List.any_append]
  simp only [Option.bind_some, gd_t hB]
  rw [← ef, ← et, ← er]
  simp only [gd_t hT, List.any_cons, List.any_nil, Bool.or_false]
  generalize hz : (List.range i).any (blk n p there k) = Z
  rw [show blk n p there k i = (!decide (rate p i = 0) && (decide (tow n p i = (k : Int)) && !there.getD (frm n p i).toNat false)) from rfl]
  cases there.getD k false <;> cases Z <;> cases decide (rate p i = 0) <;> cases decide (tow n p i = (k : Int)) <;> cases there.getD (frm n p i).toNat false <;> rfl
 ·show qcm n p (k : Int) _ ((n.2.1.length : Nat) : Int) out there = _
  unfold qcm
  rw [dec_f (by omega)]; rfl
def nx (n : Net) (p : Pl) (there : List Bool) (v : Nat) : Int := match (List.range v).find? (freeB n p there) with
 | none => -1
 | some k => (k : Int)
theorem qzd {there : List Bool} {v : Nat} : nx n p there (v + 1) = if nx n p there v < 0 ∧ freeB n p there v = true then (v : Int) else nx n p there v := by
 unfold nx
 rw [List.range_succ, List.find?_append]
 cases h : (List.range v).find? (freeB n p there) with
 | some k => simp only [Option.some_or]; rw [if_neg (by omega)]
 | none =>
  simp only [Option.none_or]
  cases hf : freeB n p there v with
  | true => simp [List.find?_cons, hf]
  | false => simp [List.find?_cons, hf]
theorem qm9 (hn : VNet n) (h1 : p.1.length = n.2.1.length) {there : List Bool} (ht : there.length = n.1.length) (out : List Int) :
  iter (fun x => qcn n p x.1 x.2.1 x.2.2.1 x.2.2.2) (-1, 0, out, there) = some (nx n p there n.1.length, out, there) := by
 have hs := hn.small.no
 refine qbe (step := fun x : Int × Int × List Int × List Bool => qcn n p x.1 x.2.1 x.2.2.1 x.2.2.2) n.1.length (fun i => (nx n p there i, (i : Int), out, there)) (fun i hi => ?_) ?_
 ·show qcn n p (nx n p there i) (i : Int) out there = some (.inl (nx n p there (i + 1), ((i + 1 : Nat) : Int), out, there))
  unfold qcn
  rw [dec_t (show (i : Int) < (n.1.length : Int) by omega), cond_true, gd_t (inB_t (by omega)), Int.toNat_natCast, qwi hn h1 ht i out, Option.bind_some, w1 hi (by omega), qzd]
  simp only
  cases hf : freeB n p there i with
  | false => rw [if_neg (by simp)]; rfl
  | true =>
   simp only [cond_true, Option.bind_some]
   by_cases h : nx n p there i < 0
   ·rw [dec_t h, if_pos ⟨h, trivial⟩]; rfl
   ·rw [dec_f h, if_neg (fun hh => h hh.1)]; rfl
 ·show qcn n p (nx n p there n.1.length) ((n.1.length : Nat) : Int) out there = _
  unfold qcn
  rw [dec_f (by omega)]; rfl
theorem qr3 {there : List Bool} {k : Nat} (h : nextF n p there = some k) : k < n.1.length ∧ there.getD k false = false := by
 unfold nextF at h
 have h1 := List.mem_of_find?_eq_some h
 have h2 := List.find?_some h
 refine ⟨List.mem_range.1 h1, ?_⟩
 unfold freeB at h2
 cases hg : there.getD k false with
 | false => rfl
 | true => rw [hg] at h2; cases h2
theorem quS (hn : VNet n) (h1 : p.1.length = n.2.1.length) : ∀ (f : Nat) (there : List Bool) (out : List Int), there.length = n.1.length → there.count false ≤ f → out.length + f ≤ 100 →
  iter (fun x => qbX n p x.1 x.2) (out, there) = some (out ++ topo n p f there) := by
 intro f
 induction f with
 | zero =>
  intro there out ht hc ho
  have hnone : nextF n p there = none := by
   cases h : nextF n p there with
   | none => rfl
   | some k => have := qr3 h; have := qr2 (by omega) this.2; omega
  rw [qc3 (e := out) (by
   show qbX n p out there = _; unfold qbX
   rw [qm9 hn h1 ht out, Option.bind_some, show nx n p there n.1.length = -1 by unfold nx; unfold nextF at hnone; rw [hnone]]; rfl), qmB hnone, List.append_nil]
 | succ f ih =>
  intro there out ht hc ho
  cases h : nextF n p there with
  | none =>
   rw [qc3 (e := out) (by
    show qbX n p out there = _; unfold qbX
    rw [qm9 hn h1 ht out, Option.bind_some, show nx n p there n.1.length = -1 by unfold nx; unfold nextF at h; rw [h]]; rfl), qmB h, List.append_nil]
  | some k =>
   have hk := qr3 h
   rw [qdX (y := (out ++ [(k : Int)], there.set k true)) (by
    show qbX n p out there = _; unfold qbX
    rw [qm9 hn h1 ht out, Option.bind_some, show nx n p there n.1.length = (k : Int) by unfold nx; unfold nextF at h; rw [h]]
    simp only
    rw [dec_f (by omega), cond_false, gd_t (qaz (by omega)), gd_t (inB_t (by omega)), Int.toNat_natCast])]
   have hcs := count_set (l := there) (k := k) (by omega) hk.2
   rw [ih (there.set k true) (out ++ [(k : Int)]) (by rw [List.length_set]; exact ht) (by omega) (by rw [List.length_append]; simp only [List.length_cons, List.length_nil]; omega), topo, h, List.append_assoc]; rfl
theorem qwj (hn : VNet n) (h1 : p.1.length = n.2.1.length) : qix n p = some (ordL n p) := by
 have hN := hn.small.no
 unfold qix
 rw [gd_t (qjm (by omega)), Int.toNat_natCast]
 have := quS hn h1 n.1.length (List.replicate n.1.length false) [] (by simp) (by simp) (by simp; omega)
 rw [this]; rfl
/-! ### Checks -/
def szB (n : Net) (p : Pl) : Bool := decide (p.1.length = n.2.1.length) && (decide (p.2.1.length = n.2.2.1.length) && decide (p.2.2.length = n.2.2.2.1.length))
def rtB (n : Net) (p : Pl) (i : Nat) : Bool := rg (0 - min 1000 (n.2.1.getD i sg0).2.2.2.1) (min 1000 (n.2.1.getD i sg0).2.2.2.1) (rate p i)
def qk1 (n : Net) (p : Pl) : Bool := (List.range n.2.1.length).all (rtB n p)
def qhC (p : Pl) : Bool := p.2.1.all (rg (-1000) 1000)
def balB (n : Net) (p : Pl) : Bool := (List.range n.1.length).all fun k => decide (comeF n p (k : Int) = qh4 n p (k : Int))
def qaY (n : Net) (p : Pl) : Int := if qca n ≠ 0 then qca n else
 bif szB n p then (bif qk1 n p && qhC p then (bif balB n p then (bif Nat.beq (ordL n p).length n.1.length then 0 else 13) else 12) else 1) else 9
theorem qna : szB n p = true ↔ p.1.length = n.2.1.length ∧ p.2.1.length = n.2.2.1.length ∧ p.2.2.length = n.2.2.2.1.length := by
 unfold szB; simp only [Bool.and_eq_true, decide_eq_true_iff]
theorem qk2 {a b x : Int} : rg a b x = true ↔ a ≤ x ∧ x ≤ b := by unfold rg; rw [Bool.and_eq_true, decide_eq_true_iff, decide_eq_true_iff]
theorem qq1 (hn : VNet n) {i : Nat} (hi : i < n.2.1.length) : 1 ≤ (n.2.1.getD i sg0).2.2.2.1 ∧ (n.2.1.getD i sg0).2.2.2.1 ≤ 1000000 := by
 have h := hn.pr
 unfold prB at h
 rw [Bool.and_eq_true, List.all_eq_true] at h
 have := h.1 _ (qbb (d := sg0) hi)
 unfold pipeB at this
 simp only [Bool.and_eq_true] at this
 exact qk2.1 this.1.2.1
theorem RB.of (hs : szB n p = true) (h1 : qk1 n p = true) (h2 : qhC p = true) : RB p := by
 obtain ⟨s1, s2, s3⟩ := qna.1 hs
 refine ⟨fun i => ?_, fun i => ?_⟩
 ·rcases Nat.lt_or_ge i p.1.length with h | h
  ·have := List.all_eq_true.1 h1 i (List.mem_range.2 (by omega))
   unfold rtB at this
   rw [qk2] at this; omega
  ·unfold rate; rw [qpV h]; omega
 ·rcases Nat.lt_or_ge i p.2.1.length with h | h
  ·have := List.all_eq_true.1 h2 _ (qbb (d := 0) h)
   rw [qk2] at this; unfold prate; omega
  ·unfold prate; rw [qpV h]; omega
theorem qph (r m : Int) (h : 0 ≤ m ∧ m ≤ 1000000) : qgq r m = some (rg (0 - m) m r) := by
 unfold qgq rg
 rw [wi (by omega)]
 cases decide (0 - m ≤ r) <;> rfl
theorem qxM (hn : VNet n) {k : Int} (h : ¬ (0 ≤ k ∧ k < n.1.length)) : comeF n p k = 0 ∧ qh4 n p k = 0 := by
 have a1 : sumTo (segIn n p k) n.2.1.length = 0 := qdy _ fun i hi => if_neg fun (e : tow n p i = k) => h (e ▸ qz2 (p := p) hn.kn hi)
 have a2 : sumTo (qbY n p k) n.2.1.length = 0 := qdy _ fun i hi => if_neg fun (e : frm n p i = k) => h (e ▸ qt4 (p := p) hn.kn hi)
 have a3 : sumTo (qfP n p k) n.2.2.1.length = 0 := qdy _ fun i hi => if_neg fun (e : (n.2.2.1.getD i po0).2.1 = k) => h (e ▸ hn.kn.p i hi)
 have a4 : sumTo (qdF n p k) n.2.2.1.length = 0 := qdy _ fun i hi => if_neg fun (e : (n.2.2.1.getD i po0).2.1 = k) => h (e ▸ hn.kn.p i hi)
 unfold comeF qh4
 rw [a1, a2, a3, a4]; exact ⟨rfl, rfl⟩
theorem bal24 (hn : VNet n) : ((List.range 24).all fun i => decide (((m24 fun k => comeF n p k).getD i 0) = ((m24 fun k => qh4 n p k).getD i 0))) = balB n p := by
 unfold balB
 rw [Bool.eq_iff_iff, List.all_eq_true, List.all_eq_true]
 constructor
 ·intro h k hk
  have hk := List.mem_range.1 hk
  have := h k (List.mem_range.2 (by have := hn.small.no; omega))
  rwa [qhB _ (by have := hn.small.no; omega), qhB _ (by have := hn.small.no; omega)] at this
 ·intro h k hk
  have hk := List.mem_range.1 hk
  rw [qhB _ hk, qhB _ hk]
  by_cases hl : k < n.1.length
  ·exact h k (List.mem_range.2 hl)
  ·have := qxM (p := p) hn (k := (k : Int)) (by omega)
   rw [this.1, this.2]; rfl
theorem qa7 (n : Net) : (n.1, (n.2.1, (n.2.2.1, (n.2.2.2.1, (n.2.2.2.2.1, n.2.2.2.2.2))))) = n := rfl
theorem qz3 : (ordL n p).length ≤ n.1.length := qxK _ _
theorem qhl (n : Net) (p : Pl) : qeW n p = some (qaY n p) := by
 unfold qeW qaY
 rw [qgQ, Option.bind_some]
 by_cases h0 : qca n = 0
 ·rw [if_neg (fun h => h h0), dec_t h0, Bool.not_true, cond_false]
  have hn := VNet.of h0
  have es : (
    bif !decide ((p.1.length : Int) = (n.2.1.length : Int)) then some true
    else bif !decide ((p.2.1.length : Int) = (n.2.2.1.length : Int)) then some true
    else some (!decide ((p.2.2.length : Int) = (n.2.2.2.1.length : Int)))) = some (!szB n p) := by
   unfold szB
   rw [show decide ((p.1.length : Int) = (n.2.1.length : Int)) = decide (p.1.length = n.2.1.length) by congr 1; rw [Int.natCast_inj],
    show decide ((p.2.1.length : Int) = (n.2.2.1.length : Int)) = decide (p.2.1.length = n.2.2.1.length) by congr 1; rw [Int.natCast_inj],
    show decide ((p.2.2.length : Int) = (n.2.2.2.1.length : Int)) = decide (p.2.2.length = n.2.2.2.1.length) by congr 1; rw [Int.natCast_inj]]
   cases decide (p.1.length = n.2.1.length) <;> cases decide (p.2.1.length = n.2.2.1.length) <;> cases decide (p.2.2.length = n.2.2.2.1.length) <;> rfl
  rw [es, Option.bind_some]
  cases hz : szB n p with
  | false => rfl
  | true =>
   obtain ⟨s1, s2, s3⟩ := qna.1 hz
   have m1 := hn.small.sg
   have m2 := hn.small.po
   simp only [Bool.not_true, cond_false, cond_true]
   have e1 : iter (fun x => qfX n p x) 0 = some (bif qk1 n p then .inl () else .inr 1) := by
    refine qbf (step := fun x => qfX n p x) n.2.1.length (fun i => (i : Int)) (rtB n p) (fin := .inl ()) (bad := .inr 1) (fun i hi _ hq => ?_) (fun i hi _ hq => ?_) (fun _ => ?_)
    all_goals unfold qfX
    ·have hc := qq1 hn hi
     have e : ((((n.2.1.getD i ([], (0, (0, (0, (0, (0, []))))))).2).2).2).1 = (n.2.1.getD i sg0).2.2.2.1 := rfl
     have e' : p.1.getD i 0 = rate p i := rfl
     rw [dec_t (show (i : Int) < (n.2.1.length : Int) by omega), cond_true, gd_t (inB_t hi), gd_t (inB_t (show i < p.1.length by omega)), Int.toNat_natCast, e, e', qph _ _ (by omega), Option.bind_some]
     unfold rtB at hq
     rw [hq, w1 hi (by omega)]; rfl
    ·have hc := qq1 hn hi
     have e : ((((n.2.1.getD i ([], (0, (0, (0, (0, (0, []))))))).2).2).2).1 = (n.2.1.getD i sg0).2.2.2.1 := rfl
     have e' : p.1.getD i 0 = rate p i := rfl
     rw [dec_t (show (i : Int) < (n.2.1.length : Int) by omega), cond_true, gd_t (inB_t hi), gd_t (inB_t (show i < p.1.length by omega)), Int.toNat_natCast, e, e', qph _ _ (by omega), Option.bind_some]
     unfold rtB at hq
     rw [hq]; rfl
    ·rw [dec_f (by omega)]; rfl
   rw [e1, Option.bind_some]
   cases hr : qk1 n p with
   | false => rfl
   | true =>
    simp only [cond_true, Sum.elim_inl, Bool.true_and]
    rw [qlm p.2.1 (fun x => !rg (-1000) 1000 x) _ (fun x _ => by
     show (qg1 x).bind _ = _
     unfold qg1
     rw [qph _ _ (by omega)]; rfl) (by omega), Option.bind_some]
    have ep : (p.2.1.any fun x => !rg (-1000) 1000 x) = !qhC p := by unfold qhC; simp [List.all_eq_not_any_not]
    rw [ep]
    cases hq : qhC p with
    | false => rfl
    | true =>
     simp only [Bool.not_true, cond_false, cond_true]
     rw [show ((p.1, (p.2.1, p.2.2)) : Pl) = p from rfl, qa7, qt6 hn (RB.of hz hr hq) s1 s2, Option.bind_some, bal24 hn]
     cases hb : balB n p with
     | false => rfl
     | true =>
      simp only [Bool.not_true, cond_false, cond_true]
      rw [qwh hn s1, Option.bind_some]
      have := qz3 (n := n) (p := p)
      cases ho : Nat.beq (ordL n p).length n.1.length with
      | true => have := Nat.eq_of_beq_eq_true ho; rw [dec_f (by omega)]; rfl
      | false =>
       have : (ordL n p).length ≠ n.1.length := fun e => by rw [e, Nat.beq_refl] at ho; cases ho
       rw [dec_t (by omega)]; rfl
 ·rw [if_pos h0, dec_f h0]; rfl
end
end Go.Proofs.YtnkfkceghbkkkaaGreat
namespace Go.Proofs.YtnkfkceghbkkkaaGreat
open Go Go.Sq
set_option linter.unusedVariables false
section
variable {n : Net} {p : Pl}
theorem natdec (a b : Nat) : decide ((a : Int) = (b : Int)) = decide (a = b) := by congr 1; rw [Int.natCast_inj]
theorem qnb (n : Net) (p : Pl) : qe4 n p = some (qaY n p) := by
 unfold qe4 qaY
 rw [qa7, qpf, Option.bind_some]
 by_cases h0 : qca n = 0
 ·rw [if_neg (fun h => h h0), dec_t h0, Bool.not_true, cond_false]
  have hn := VNet.of h0
  have es : (
    bif !decide ((p.1.length : Int) = (n.2.1.length : Int)) then some true
    else bif !decide ((p.2.1.length : Int) = (n.2.2.1.length : Int)) then some true
    else some (!decide ((p.2.2.length : Int) = (n.2.2.2.1.length : Int)))) = some (!szB n p) := by
   unfold szB
   rw [natdec, natdec, natdec]
   cases decide (p.1.length = n.2.1.length) <;> cases decide (p.2.1.length = n.2.2.1.length) <;> cases decide (p.2.2.length = n.2.2.2.1.length) <;> rfl
  rw [es, Option.bind_some]
  cases hz : szB n p with
  | false => rfl
  | true =>
   obtain ⟨s1, s2, s3⟩ := qna.1 hz
   have m1 := hn.small.sg
   have m2 := hn.small.po
   simp only [Bool.not_true, cond_false, cond_true]
   have key : ∀ i, i < n.2.1.length → (bif decide (p.1.getD i 0 < wi64 (0 - (min 1000 (((((n.2.1.getD i ([], (0, (0, (0, (0, (0, []))))))).2).2).2).1)))) then some true
     else some (decide (min 1000 (((((n.2.1.getD i ([], (0, (0, (0, (0, (0, []))))))).2).2).2).1) < p.1.getD i 0))) = some (!rtB n p i) := by
    intro i hi
    have hc := qq1 hn hi
    have e : ((((n.2.1.getD i ([], (0, (0, (0, (0, (0, []))))))).2).2).2).1 = (n.2.1.getD i sg0).2.2.2.1 := rfl
    rw [e, wi (by omega)]
    unfold rtB rg rate
    by_cases a : p.1.getD i 0 < 0 - min 1000 (n.2.1.getD i sg0).2.2.2.1
    ·rw [dec_t a, dec_f (show ¬ (0 - min 1000 (n.2.1.getD i sg0).2.2.2.1 ≤ p.1.getD i 0) by omega)]; rfl
    ·rw [dec_f a, dec_t (show (0 - min 1000 (n.2.1.getD i sg0).2.2.2.1 ≤ p.1.getD i 0) by omega), cond_false, Bool.true_and]
     by_cases b : min 1000 (n.2.1.getD i sg0).2.2.2.1 < p.1.getD i 0
     ·rw [dec_t b, dec_f (by omega)]; rfl
     ·rw [dec_f b, dec_t (by omega)]; rfl
   have e1 : iter (fun x => qfj n p x) 0 = some (bif qk1 n p then .inl () else .inr 1) := by
    unfold qk1
    rw [← s1]
    refine qbf (step := fun x => qfj n p x) p.1.length (fun i => (i : Int)) (rtB n p) (fin := .inl ()) (bad := .inr 1) (fun i hi _ hq => ?_) (fun i hi _ hq => ?_) (fun _ => ?_)
    all_goals unfold qfj
    ·rw [dec_t (show (i : Int) < (p.1.length : Int) by omega), cond_true, gd_t (inB_t hi), gd_t (inB_t (show i < n.2.1.length by omega)), Int.toNat_natCast, key i (by omega), hq, Option.bind_some, w1 hi (by omega)]; rfl
    ·rw [dec_t (show (i : Int) < (p.1.length : Int) by omega), cond_true, gd_t (inB_t hi), gd_t (inB_t (show i < n.2.1.length by omega)), Int.toNat_natCast, key i (by omega), hq, Option.bind_some]; rfl
    ·rw [dec_f (by omega)]; rfl
   rw [e1, Option.bind_some]
   cases hr : qk1 n p with
   | false => rfl
   | true =>
    simp only [cond_true, Sum.elim_inl, Bool.true_and]
    have key2 : ∀ x : Int, (bif decide (x < -1000) then some true else some (decide (1000 < x))) = some (!rg (-1000) 1000 x) := by
     intro x
     unfold rg
     by_cases a : x < -1000
     ·rw [dec_t a, dec_f (show ¬ (-1000 ≤ x) by omega)]; rfl
     ·rw [dec_f a, dec_t (show -1000 ≤ x by omega), cond_false, Bool.true_and]
      by_cases b : 1000 < x
      ·rw [dec_t b, dec_f (by omega)]; rfl
      ·rw [dec_f b, dec_t (by omega)]; rfl
    have e2 : iter (fun x2 => qfk p x2) 0 = some (bif qhC p then .inl () else .inr 1) := by
     refine scanL (step := fun x2 => qfk p x2) p.2.1 0 (rg (-1000) 1000) (bad := 1) (fun i hi hq => ?_) (fun i hi hq => ?_) ?_
     all_goals unfold qfk
     ·rw [dec_t (show (i : Int) < (p.2.1.length : Int) by omega), cond_true, gd_t (inB_t hi), Int.toNat_natCast, key2, hq, Option.bind_some, w1 hi (by omega)]; rfl
     ·rw [dec_t (show (i : Int) < (p.2.1.length : Int) by omega), cond_true, gd_t (inB_t hi), Int.toNat_natCast, key2, hq, Option.bind_some]; rfl
     ·rw [dec_f (by omega)]; rfl
    rw [e2, Option.bind_some]
    cases hq : qhC p with
    | false => rfl
    | true =>
     simp only [cond_true, Sum.elim_inl]
     have hp := RB.of hz hr hq
     have e3 : iter (fun x3 => qfl n p x3) 0 = some (bif balB n p then .inl () else .inr 12) := by
      refine qbf (step := fun x => qfl n p x) n.1.length (fun i => (i : Int)) (fun k => decide (comeF n p (k : Int) = qh4 n p (k : Int))) (fin := .inl ()) (bad := .inr 12) (fun i hi _ hq => ?_) (fun i hi _ hq => ?_) (fun _ => ?_)
      all_goals unfold qfl
      ·rw [dec_t (show (i : Int) < (n.1.length : Int) by omega), cond_true, qa7, show ((p.1, (p.2.1, p.2.2)) : Pl) = p from rfl, qq0 hp m1 m2 s1 s2, Option.bind_some]
       simp only
       rw [hq, w1 hi (by have := hn.small.no; omega)]; rfl
      ·rw [dec_t (show (i : Int) < (n.1.length : Int) by omega), cond_true, qa7, show ((p.1, (p.2.1, p.2.2)) : Pl) = p from rfl, qq0 hp m1 m2 s1 s2, Option.bind_some]
       simp only
       rw [hq]; rfl
      ·rw [dec_f (by omega)]; rfl
     rw [e3, Option.bind_some]
     cases hb : balB n p with
     | false => rfl
     | true =>
      simp only [cond_true, Sum.elim_inl]
      rw [show ((p.1, (p.2.1, p.2.2)) : Pl) = p from rfl, qwj hn s1, Option.bind_some, natdec]
      cases ho : Nat.beq (ordL n p).length n.1.length with
      | true => have := Nat.eq_of_beq_eq_true ho; rw [dec_t this]; rfl
      | false =>
       have : (ordL n p).length ≠ n.1.length := fun e => by rw [e, Nat.beq_refl] at ho; cases ho
       rw [dec_f this]; rfl
 ·rw [if_pos h0, dec_f h0]; rfl
structure VPl (n : Net) (p : Pl) : Prop where
 net : qca n = 0
 sz : szB n p = true
 rt : qk1 n p = true
 pr : qhC p = true
theorem VPl.of (h : qaY n p = 0) : VPl n p := by
 unfold qaY at h
 by_cases h0 : qca n = 0
 ·rw [if_neg (fun h => h h0)] at h
  obtain ⟨h1, h⟩ := qnw (by decide) h
  obtain ⟨h2, h⟩ := qnw (by decide) h
  rw [Bool.and_eq_true] at h2
  exact ⟨h0, h1, h2.1, h2.2⟩
 ·rw [if_pos h0] at h; exact absurd h h0
theorem VPl.rb (h : VPl n p) : RB p := RB.of h.sz h.rt h.pr
theorem VPl.len (h : VPl n p) : p.1.length = n.2.1.length ∧ p.2.1.length = n.2.2.1.length ∧ p.2.2.length = n.2.2.2.1.length := qna.1 h.sz
def thr (n : Net) (p : Pl) (k : Int) : Int × Int := if qaY n p ≠ 0 then (0, qaY n p) else bif kn n k then (comeF n p k, 0) else (0, 8)
theorem knD (n : Net) (k : Int) : (bif decide (k < 0) then some true else some (decide ((n.1.length : Int) ≤ k))) = some (!kn n k) := by
 unfold kn
 by_cases a : k < 0
 ·rw [dec_t a, dec_f (show ¬ 0 ≤ k by omega)]; rfl
 ·rw [dec_f a, dec_t (show 0 ≤ k by omega), cond_false, Bool.true_and]
  by_cases b : (n.1.length : Int) ≤ k
  ·rw [dec_t b, dec_f (by omega)]; rfl
  ·rw [dec_f b, dec_t (by omega)]; rfl
theorem qz4 (n : Net) (p : Pl) (k : Int) : qg2 n p k = some (thr n p k) := by
 unfold qg2 thr
 rw [qa7, show ((p.1, (p.2.1, p.2.2)) : Pl) = p from rfl, qhl, Option.bind_some]
 by_cases h : qaY n p = 0
 ·rw [dec_t h, if_neg (fun e => e h), Bool.not_true, cond_false, knD, Option.bind_some]
  have hv := VPl.of h
  have hn := VNet.of hv.net
  cases hk : kn n k with
  | false => rfl
  | true =>
   have hk := qpX.1 hk
   have := hn.small.no
   obtain ⟨k', rfl⟩ : ∃ k' : Nat, k = (k' : Int) := ⟨k.toNat, by omega⟩
   simp only [Bool.not_true, cond_false, cond_true]
   rw [qt6 hn hv.rb hv.len.1 hv.len.2.1, Option.bind_some, gd_t (inB_t (by omega)), Int.toNat_natCast]
   simp only
   rw [qhB _ (by omega)]
 ·rw [dec_f h, if_pos h]; rfl
theorem qwk (n : Net) (p : Pl) (k : Int) : qf6 n p k = some (thr n p k) := by
 unfold qf6 thr
 rw [qa7, show ((p.1, (p.2.1, p.2.2)) : Pl) = p from rfl, qnb, Option.bind_some]
 by_cases h : qaY n p = 0
 ·rw [dec_t h, if_neg (fun e => e h), Bool.not_true, cond_false, knD, Option.bind_some]
  have hv := VPl.of h
  have hn := VNet.of hv.net
  cases hk : kn n k with
  | false => rfl
  | true =>
   simp only [Bool.not_true, cond_false, cond_true]
   rw [qq0 hv.rb hn.small.sg hn.small.po hv.len.1 hv.len.2.1, Option.bind_some]
 ·rw [dec_f h, if_pos h]; rfl
/-! ### Lineups -/
def nz (l : List Int) : List Bool := l.map fun r => !decide (r = 0)
theorem qhm (l : List Int) : (nz l).length = l.length := List.length_map ..
def need (p : Pl) : List Bool := nz p.1 ++ nz p.2.1
theorem qth {l : List Int} {i : Nat} (h : i < l.length) : nz (l.take (i + 1)) = nz (l.take i) ++ [!decide (l.getD i 0 = 0)] := by
 unfold nz; rw [qfu 0 h, List.map_append]; rfl
theorem qt9 (l : List Int) (h : l.length ≤ 1000000) : qfB l = some (nz l) := by
 unfold qfB
 have := qbe (step := fun x : Int × List Bool => qb6 l x.1 x.2) (e := nz l) l.length (fun i => ((i : Int), nz (l.take i))) (fun i hi => ?_) ?_
 ·have this : iter (fun x => qb6 l x.1 x.2) ((0 : Int), []) = some (nz l) := this
  rw [this]; rfl
 ·show qb6 l (i : Int) (nz (l.take i)) = some (.inl (((i + 1 : Nat) : Int), nz (l.take (i + 1))))
  unfold qb6
  rw [dec_t (show (i : Int) < (l.length : Int) by omega), cond_true, gd_t (inB_t hi), gd_t (qaz (by rw [qhm, List.length_take]; omega)), Int.toNat_natCast, w1 hi (by omega), qth hi]
 ·show qb6 l ((l.length : Nat) : Int) (nz (l.take l.length)) = _
  unfold qb6
  rw [dec_f (by omega), List.take_length]; rfl
theorem qxN (p : Pl) (h1 : p.1.length ≤ 1000000) (h2 : p.2.1.length ≤ 1000000) : qiC p = some (nz p.1, nz p.2.1) := by
 unfold qiC
 have e1 := qbe (step := fun x : Int × List Bool => qco p x.1 x.2) (e := nz p.1) p.1.length (fun i => ((i : Int), nz (p.1.take i))) (fun i hi => ?_) ?_
 ·have e1 : iter (fun x => qco p x.1 x.2) ((0 : Int), []) = some (nz p.1) := e1
  rw [e1, Option.bind_some]
  have e2 := qbe (step := fun x2 : Int × List Bool × List Bool => qcp p x2.1 x2.2.1 x2.2.2) (e := (nz p.1, nz p.2.1)) p.2.1.length (fun i => ((i : Int), nz p.1, nz (p.2.1.take i))) (fun i hi => ?_) ?_
  ·have e2 : iter (fun x2 => qcp p x2.1 x2.2.1 x2.2.2) ((0 : Int), nz p.1, []) = some (nz p.1, nz p.2.1) := e2
   rw [e2]; rfl
  ·show qcp p (i : Int) (nz p.1) (nz (p.2.1.take i)) = some (.inl (((i + 1 : Nat) : Int), nz p.1, nz (p.2.1.take (i + 1))))
   unfold qcp
   rw [dec_t (show (i : Int) < (p.2.1.length : Int) by omega), cond_true, gd_t (inB_t hi), gd_t (qaz (by rw [qhm, List.length_take]; omega)), Int.toNat_natCast, w1 hi (by omega), qth hi]
  ·show qcp p ((p.2.1.length : Nat) : Int) (nz p.1) (nz (p.2.1.take p.2.1.length)) = _
   unfold qcp
   rw [dec_f (by omega), List.take_length]; rfl
 ·show qco p (i : Int) (nz (p.1.take i)) = some (.inl (((i + 1 : Nat) : Int), nz (p.1.take (i + 1))))
  unfold qco
  rw [dec_t (show (i : Int) < (p.1.length : Int) by omega), cond_true, gd_t (inB_t hi), gd_t (qaz (by rw [qhm, List.length_take]; omega)), Int.toNat_natCast, w1 hi (by omega), qth hi]
 ·show qco p ((p.1.length : Nat) : Int) (nz (p.1.take p.1.length)) = _
  unfold qco
  rw [dec_f (by omega), List.take_length]; rfl
theorem qyA (a b : List Bool) (h1 : a.length ≤ 1000000) (h2 : b.length ≤ 1000000) : qmv (a, b) = some (a ++ b) := by
 unfold qmv
 rw [gd_t (qaz (by simp only; omega)), gd_t (qaz (by simp only [List.nil_append]; omega))]; rfl
theorem qpY (a b : List Bool) (h1 : a.length ≤ 1000000) (h2 : b.length ≤ 1000000) : qdM (a, b) = some (a ++ b) := qyA a b h1 h2
theorem qwl (n : Net) (p : Pl) : qeX n p = some (if qaY n p ≠ 0 then (qaY n p, [], []) else (0, nz p.1, nz p.2.1)) := by
 unfold qeX
 rw [qa7, qgQ, Option.bind_some, show ((p.1, (p.2.1, p.2.2)) : Pl) = p from rfl, qhl, Option.bind_some]
 by_cases h0 : qca n = 0
 ·rw [dec_t h0, Bool.not_true, cond_false]
  by_cases h : qaY n p = 0
  ·have hv := VPl.of h
   have hn := VNet.of h0
   have := hv.len
   have := hn.small.sg
   have := hn.small.po
   rw [dec_t h, if_neg (fun e => e h), Bool.not_true, cond_false, qt9 _ (by omega), Option.bind_some, qt9 _ (by omega)]; rfl
  ·rw [dec_f h, if_pos h]; rfl
 ·have e : qaY n p = qca n := by unfold qaY; rw [if_pos h0]
  rw [dec_f h0, e, if_pos h0]; rfl
end
end Go.Proofs.YtnkfkceghbkkkaaGreat
