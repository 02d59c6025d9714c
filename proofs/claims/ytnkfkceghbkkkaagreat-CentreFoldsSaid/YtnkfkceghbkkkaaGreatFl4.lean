/- Flows: what comes to the nodes and leaves them. No condition. -/
import Derived.Test.YtnkfkceghbkkkaaGreatNk5
namespace Go.Proofs.YtnkfkceghbkkkaaGreat
open Go Go.Sq
set_option linter.unusedVariables false
abbrev Pl := List Int × List Int × List Bool
def sumTo (f : Nat → Int) : Nat → Int
 | 0 => 0
 | n + 1 => sumTo f n + f n
theorem qdn {f : Nat → Int} {b : Int} (h : ∀ i, 0 ≤ f i ∧ f i ≤ b) : ∀ n : Nat, 0 ≤ sumTo f n ∧ sumTo f n ≤ b * n
 | 0 => ⟨Int.le_refl _, by simp [sumTo]⟩
 | n + 1 => by
  have h1 := qdn h n
  have h2 := h n
  have e : b * ((n + 1 : Nat) : Int) = b * n + b := by rw [Int.natCast_add, Int.mul_add]; simp
  rw [e]
  simp only [sumTo]; omega
theorem qhW {f : Nat → Int} : ∀ n : Nat, (∀ i, i < n → f i = 0) → sumTo f n = 0
 | 0, _ => rfl
 | n + 1, h => by simp only [sumTo]; rw [qhW n fun i hi => h i (by omega), h n (by omega)]; rfl
def rate (p : Pl) (i : Nat) : Int := p.1.getD i 0
def prate (p : Pl) (i : Nat) : Int := p.2.1.getD i 0
def frm (n : Net) (p : Pl) (i : Nat) : Int := if rate p i < 0 then (n.2.1.getD i sg0).2.2.1 else (n.2.1.getD i sg0).2.1
def tow (n : Net) (p : Pl) (i : Nat) : Int := if rate p i < 0 then (n.2.1.getD i sg0).2.1 else (n.2.1.getD i sg0).2.2.1
def amt (x : Int) : Int := max x (0 - x)
def segIn (n : Net) (p : Pl) (k : Int) (i : Nat) : Int := if tow n p i = k then amt (rate p i) else 0
def qb0 (n : Net) (p : Pl) (k : Int) (i : Nat) : Int := if frm n p i = k then amt (rate p i) else 0
def qgL (n : Net) (p : Pl) (k : Int) (i : Nat) : Int := if (n.2.2.1.getD i po0).2.1 = k then max 0 (prate p i) else 0
def qed (n : Net) (p : Pl) (k : Int) (i : Nat) : Int := if (n.2.2.1.getD i po0).2.1 = k then max 0 (0 - prate p i) else 0
def comeF (n : Net) (p : Pl) (k : Int) : Int := sumTo (segIn n p k) n.2.1.length + sumTo (qgL n p k) n.2.2.1.length
def qj1 (n : Net) (p : Pl) (k : Int) : Int := sumTo (qb0 n p k) n.2.1.length + sumTo (qed n p k) n.2.2.1.length
structure RB (p : Pl) : Prop where
 s : ∀ i, -1000 ≤ rate p i ∧ rate p i ≤ 1000
 q : ∀ i, -1000 ≤ prate p i ∧ prate p i ≤ 1000
section
variable {n : Net} {p : Pl}
theorem qmR (h : RB p) (k : Int) (i : Nat) : 0 ≤ segIn n p k i ∧ segIn n p k i ≤ 1000 := by
 have := h.s i; unfold segIn amt; split <;> omega
theorem qj2 (h : RB p) (k : Int) (i : Nat) : 0 ≤ qb0 n p k i ∧ qb0 n p k i ≤ 1000 := by
 have := h.s i; unfold qb0 amt; split <;> omega
theorem qpx (h : RB p) (k : Int) (i : Nat) : 0 ≤ qgL n p k i ∧ qgL n p k i ≤ 1000 := by
 have := h.q i; unfold qgL; split <;> omega
theorem qnn (h : RB p) (k : Int) (i : Nat) : 0 ≤ qed n p k i ∧ qed n p k i ≤ 1000 := by
 have := h.q i; unfold qed; split <;> omega
end
structure KnP (n : Net) : Prop where
 s : ∀ i, i < n.2.1.length → (0 ≤ (n.2.1.getD i sg0).2.1 ∧ (n.2.1.getD i sg0).2.1 < n.1.length) ∧ (0 ≤ (n.2.1.getD i sg0).2.2.1 ∧ (n.2.1.getD i sg0).2.2.1 < n.1.length)
 p : ∀ i, i < n.2.2.1.length → 0 ≤ (n.2.2.1.getD i po0).2.1 ∧ (n.2.2.1.getD i po0).2.1 < n.1.length
 t : ∀ i, i < n.2.2.2.1.length → 0 ≤ (n.2.2.2.1.getD i sta0).2.1 ∧ (n.2.2.2.1.getD i sta0).2.1 < n.1.length
theorem qqm {n : Net} {k : Int} : kn n k = true ↔ 0 ≤ k ∧ k < n.1.length := by
 unfold kn; rw [Bool.and_eq_true, decide_eq_true_iff, decide_eq_true_iff]
theorem KnP.of {n : Net} (h : knB n = true) : KnP n := by
 unfold knB at h
 simp only [Bool.and_eq_true, List.all_eq_true] at h
 exact ⟨fun i hi => by have := h.1 _ (qa4 (d := sg0) hi); rwa [qqm, qqm] at this, fun i hi => by have := h.2.1 _ (qa4 (d := po0) hi); rwa [qqm] at this, fun i hi => by have := h.2.2 _ (qa4 (d := sta0) hi); rwa [qqm] at this⟩
structure VNet (n : Net) : Prop where
 small : Small n
 kn : KnP n
 pr : prB n = true
theorem qnI {c : Bool} {a b : Int} (hb : b ≠ 0) (h : (bif c then a else b) = 0) : c = true ∧ a = 0 := by
 cases c
 ·exact absurd h hb
 ·exact ⟨rfl, h⟩
theorem VNet.of {n : Net} (h : qb3 n = 0) : VNet n := by
 unfold qb3 at h
 obtain ⟨h1, h⟩ := qnI (by decide) h
 obtain ⟨h2, h⟩ := qnI (by decide) h
 cases h3 : twB n with
 | true => rw [h3] at h; cases h
 | false =>
  rw [h3] at h; simp only [cond_false] at h
  obtain ⟨h4, h⟩ := qnI (by decide) h
  obtain ⟨h5, h⟩ := qnI (by decide) h
  exact ⟨(qom n).1 h1, KnP.of h4, h5⟩
theorem qt6 {n : Net} {p : Pl} (h : KnP n) {i : Nat} (hi : i < n.2.1.length) : 0 ≤ frm n p i ∧ frm n p i < n.1.length := by
 have := h.s i hi; unfold frm; split <;> omega
theorem qzp {n : Net} {p : Pl} (h : KnP n) {i : Nat} (hi : i < n.2.1.length) : 0 ≤ tow n p i ∧ tow n p i < n.1.length := by
 have := h.s i hi; unfold tow; split <;> omega
/-! ### The program's sums -/
def m24 (f : Nat → Int) : List Int := (List.range 24).map f
theorem qth (f : Nat → Int) : (m24 f).length = 24 := by simp [m24]
theorem qhp (f : Nat → Int) {k : Nat} (h : k < 24) : (m24 f).getD k 0 = f k := qxb f 24 k h
theorem qfw {f g : Nat → Int} (h : ∀ k, k < 24 → f k = g k) : m24 f = m24 g := List.map_congr_left fun k hk => h k (List.mem_range.1 hk)
theorem qyG (f : Nat → Int) {k : Nat} (hk : k < 24) (x : Int) : (m24 f).set k ((m24 f).getD k 0 + x) = m24 fun j => f j + (if k = j then x else 0) := by
 refine qye 0 (by simp [qth]) fun j hj => ?_
 rw [List.length_set, qth] at hj
 rw [qiI, qhp _ hj, qth]
 by_cases e : k = j
 ·subst e; rw [if_pos ⟨rfl, hk⟩, qhp _ hk, qhp _ hk, if_pos rfl]
 ·rw [if_neg (fun h => e h.1), qhp _ hj, if_neg e]; omega
def addF (f : Nat → Int) (k x : Int) : Nat → Int := fun j => f j + (if k = (j : Int) then x else 0)
theorem qt7 (f : Nat → Int) (x : Int) : m24 (addF f (-1) x) = m24 f := qfw fun k _ => by unfold addF; rw [if_neg (by omega)]; omega
theorem m24_set' (f : Nat → Int) {k : Int} (h0 : 0 ≤ k) (h1 : k < 24) {x : Int} (hb : ∀ j, j < 24 → -1000000 ≤ f j ∧ f j ≤ 1000000) (hx : -1000000 ≤ x ∧ x ≤ 1000000) : (m24 f).set k.toNat (wi64 ((m24 f).getD k.toNat 0 + x)) = m24 (addF f k x) := by
 obtain ⟨k', rfl⟩ : ∃ k' : Nat, k = (k' : Int) := ⟨k.toNat, by omega⟩
 rw [Int.toNat_natCast, show wi64 ((m24 f).getD k' 0 + x) = (m24 f).getD k' 0 + x by
  rw [qhp _ (by omega)]; have := hb k' (by omega); exact wi (by omega), qyG f (by omega)]
 refine qfw fun j hj => ?_
 unfold addF
 by_cases e : k' = j
 ·rw [if_pos e, if_pos (by omega)]
 ·rw [if_neg e, if_neg (by omega)]
def bd6 (f : Nat → Int) : Prop := ∀ j, j < 24 → -1000000 ≤ f j ∧ f j ≤ 1000000
theorem qyh {f g : Nat → Int} (hf : bd6 f) (hg : bd6 g) {a b r : Int} (ha : -1 ≤ a ∧ a < 24) (hb : 0 ≤ b ∧ b < 24) (hr : -1000 ≤ r ∧ r ≤ 1000) :
  qcM a b r (m24 f, m24 g) = some (m24 (addF f (if r < 0 then a else b) (amt r)), m24 (addF g (if r < 0 then b else a) (amt r))) := by
 unfold qcM
 by_cases h : r < 0
 ·rw [dec_t h, if_pos h, if_pos h, cond_true, show wi64 (0 - r) = amt r by unfold amt; rw [wi (by omega)]; omega]
  have hx : -1000000 ≤ amt r ∧ amt r ≤ 1000000 := by unfold amt; omega
  simp only [Option.bind_some]
  have hB : inB b 24 = true := qao.2 (by omega)
  rw [dec_t hb.1, cond_true, gd_t hB, gd_t hB, m24_set' g hb.1 hb.2 hg hx, Option.bind_some]
  by_cases h0 : 0 ≤ a
  ·have hA : inB a 24 = true := qao.2 (by omega)
   rw [dec_t h0, cond_true, gd_t hA, gd_t hA, m24_set' f h0 ha.2 hf hx]
  ·rw [dec_f h0, cond_false, show a = -1 by omega, qt7]
 ·rw [dec_f h, if_neg h, if_neg h, cond_false]
  have hx : -1000000 ≤ r ∧ r ≤ 1000000 := by omega
  rw [show amt r = r by unfold amt; omega]
  have hB : inB b 24 = true := qao.2 (by omega)
  simp only [Option.bind_some]
  by_cases h0 : 0 ≤ a
  ·have hA : inB a 24 = true := qao.2 (by omega)
   rw [dec_t h0, cond_true, gd_t hA, gd_t hA, m24_set' g h0 ha.2 hg hx, Option.bind_some, dec_t hb.1, cond_true, gd_t hB, gd_t hB, m24_set' f hb.1 hb.2 hf hx]
  ·rw [dec_f h0, cond_false, Option.bind_some, dec_t hb.1, cond_true, gd_t hB, gd_t hB, m24_set' f hb.1 hb.2 hf hx, show a = -1 by omega, qt7]
theorem pairE {A B C D E : Type} {i : A} {v : B} {a a' : C} {b b' : D} (h : a = a') (h' : b = b') : (some (Sum.inl (i, v, a, b)) : Option ((A × B × C × D) ⊕ E)) = some (Sum.inl (i, v, a', b')) := by rw [h, h']
theorem qt8 {n : Net} (hn : VNet n) {p : Pl} (hp : RB p) (h1 : p.1.length = n.2.1.length) (h2 : p.2.1.length = n.2.2.1.length) : qjr n p = some (m24 fun k => comeF n p k, m24 fun k => qj1 n p k) := by
 obtain ⟨s1, s2, s3, s4, s5, s6⟩ := hn.small
 unfold qjr
 have e1 : iter (fun x => qc6 n p x.1 x.2.1 x.2.2) (0, ((List.replicate 24 0), (List.replicate 24 0)), ((List.replicate 24 0), (List.replicate 24 0))) =
   some (((List.replicate 24 0), (List.replicate 24 0)), (m24 fun k => sumTo (segIn n p k) n.2.1.length, m24 fun k => sumTo (qb0 n p k) n.2.1.length)) := by
  refine qba (step := fun x : Int × (List Int × List Int) × (List Int × List Int) => qc6 n p x.1 x.2.1 x.2.2) n.2.1.length (fun i => ((i : Int), ((List.replicate 24 0), (List.replicate 24 0)), (m24 fun k => sumTo (segIn n p k) i, m24 fun k => sumTo (qb0 n p k) i))) (fun i hi => ?_) ?_
  ·show qc6 n p _ _ _ = _
   unfold qc6
   have k1 := hn.kn.s i hi
   have b1 : bd6 fun k => sumTo (segIn n p k) i := fun j _ => by have := qdn (qmR (n := n) hp (j : Int)) i; dsimp only; omega
   have b2 : bd6 fun k => sumTo (qb0 n p k) i := fun j _ => by have := qdn (qj2 (n := n) hp (j : Int)) i; dsimp only; omega
   have hr := hp.s i
   unfold rate at hr
   rw [dec_t (show (i : Int) < (n.2.1.length : Int) by omega), cond_true, gd_t (inB_t hi), gd_t (inB_t (show i < p.1.length by omega)), Int.toNat_natCast,
    qyh b1 b2 (by have := k1.1; simp only [sg0] at this; omega) (by have := k1.2; simp only [sg0] at this; omega) hr, Option.bind_some, w1 hi (by omega)]
   refine pairE ?_ ?_
   ·refine qfw fun k hk => ?_
    simp only [addF, sumTo, segIn, tow, rate, sg0]; rfl
   ·refine qfw fun k hk => ?_
    simp only [addF, sumTo, qb0, frm, rate, sg0]; rfl
  ·show qc6 n p _ _ _ = _
   unfold qc6
   rw [dec_f (by omega)]; rfl
 rw [e1, Option.bind_some]
 have e2 : iter (fun x2 => qc7 n p x2.1 x2.2.1 x2.2.2) (0, ((List.replicate 24 0), (List.replicate 24 0)), (m24 fun k => sumTo (segIn n p k) n.2.1.length, m24 fun k => sumTo (qb0 n p k) n.2.1.length)) =
   some (((List.replicate 24 0), (List.replicate 24 0)), (m24 fun k => comeF n p k, m24 fun k => qj1 n p k)) := by
  have := qba (step := fun x2 : Int × (List Int × List Int) × (List Int × List Int) => qc7 n p x2.1 x2.2.1 x2.2.2) (e := (((List.replicate 24 0), (List.replicate 24 0)), (m24 fun k => comeF n p k, m24 fun k => qj1 n p k))) n.2.2.1.length (fun i => ((i : Int), ((List.replicate 24 0), (List.replicate 24 0)), (m24 fun k => sumTo (segIn n p k) n.2.1.length + sumTo (qgL n p k) i, m24 fun k => sumTo (qb0 n p k) n.2.1.length + sumTo (qed n p k) i))) (fun i hi => ?_) ?_
  ·refine Eq.trans ?_ this
   rw [show (m24 fun k => sumTo (segIn n p k) n.2.1.length) = m24 fun k => sumTo (segIn n p k) n.2.1.length + sumTo (qgL n p k) 0 from qfw fun k _ => by simp only [sumTo]; omega,
    show (m24 fun k => sumTo (qb0 n p k) n.2.1.length) = m24 fun k => sumTo (qb0 n p k) n.2.1.length + sumTo (qed n p k) 0 from qfw fun k _ => by simp only [sumTo]; omega]
   rfl
  ·show qc7 n p _ _ _ = _
   unfold qc7
   have k1 := hn.kn.p i hi
   have b1 : bd6 fun k => sumTo (segIn n p k) n.2.1.length + sumTo (qgL n p k) i := fun j _ => by
    have := qdn (qmR (n := n) hp (j : Int)) n.2.1.length
    have := qdn (qpx (n := n) hp (j : Int)) i; dsimp only; omega
   have b2 : bd6 fun k => sumTo (qb0 n p k) n.2.1.length + sumTo (qed n p k) i := fun j _ => by
    have := qdn (qj2 (n := n) hp (j : Int)) n.2.1.length
    have := qdn (qnn (n := n) hp (j : Int)) i; dsimp only; omega
   have hr := hp.q i
   unfold prate at hr
   rw [dec_t (show (i : Int) < (n.2.2.1.length : Int) by omega), cond_true, gd_t (inB_t hi), gd_t (inB_t (show i < p.2.1.length by omega)), Int.toNat_natCast,
    qyh b1 b2 (by omega) (by have := k1; simp only [po0] at this; omega) hr, Option.bind_some, w1 hi (by omega)]
   refine pairE ?_ ?_
   ·refine qfw fun k hk => ?_
    simp only [addF, sumTo, qgL, prate, amt]
    split <;> split <;> (try split) <;> omega
   ·refine qfw fun k hk => ?_
    simp only [addF, sumTo, qed, prate, amt]
    split <;> split <;> (try split) <;> omega
  ·show qc7 n p _ _ _ = _
   unfold qc7
   rw [dec_f (by omega)]; rfl
 rw [e2]; rfl
end Go.Proofs.YtnkfkceghbkkkaaGreat
namespace Go.Proofs.YtnkfkceghbkkkaaGreat
open Go Go.Sq
set_option linter.unusedVariables false
section
variable {n : Net} {p : Pl}
theorem qti (s : Seg) (r : Int) : ql5 s r = some (if r < 0 then s.2.2.1 else s.2.1, if r < 0 then s.2.1 else s.2.2.1) := by
 unfold ql5
 by_cases h : r < 0
 ·rw [dec_t h, cond_true, if_pos h, if_pos h]
 ·rw [dec_f h, cond_false, if_neg h, if_neg h]
theorem qt9 (s : Seg) (r : Int) : qkr s r = some (if r < 0 then s.2.2.1 else s.2.1, if r < 0 then s.2.1 else s.2.2.1) := qti s r
theorem qyH {r : Int} (h : -1000 ≤ r ∧ r ≤ 1000) : qjO r = some (amt r) := by
 unfold qjO amt; rw [wi (by omega)]
theorem qrk (hp : RB p) (hs : n.2.1.length ≤ 32) (hq : n.2.2.1.length ≤ 24) (h1 : p.1.length = n.2.1.length) (h2 : p.2.1.length = n.2.2.1.length) (k : Int) : qhO n p k = some (comeF n p k, qj1 n p k) := by
 unfold qhO
 have e1 : iter (fun x => qcD n p k x.1 x.2.1 x.2.2) (0, 0, 0) = some (sumTo (segIn n p k) n.2.1.length, sumTo (qb0 n p k) n.2.1.length) := by
  refine qba (step := fun x : Int × Int × Int => qcD n p k x.1 x.2.1 x.2.2) n.2.1.length (fun i => (sumTo (segIn n p k) i, sumTo (qb0 n p k) i, (i : Int))) (fun i hi => ?_) ?_
  ·show qcD n p k (sumTo (segIn n p k) i) (sumTo (qb0 n p k) i) (i : Int) = some (.inl (sumTo (segIn n p k) i + segIn n p k i, sumTo (qb0 n p k) i + qb0 n p k i, ((i + 1 : Nat) : Int)))
   have b1 := qdn (qmR (n := n) hp k) i
   have b2 := qdn (qj2 (n := n) hp k) i
   have b3 := qmR (n := n) hp k i
   have b4 := qj2 (n := n) hp k i
   have hr := hp.s i
   unfold qcD
   rw [dec_t (show (i : Int) < (n.2.1.length : Int) by omega), cond_true, gd_t (inB_t hi), gd_t (inB_t (show i < p.1.length by omega)), Int.toNat_natCast, qt9]
   have ef : frm n p i = if p.1.getD i 0 < 0 then (n.2.1.getD i ([], (0, (0, (0, (0, (0, []))))))).2.2.1 else (n.2.1.getD i ([], (0, (0, (0, (0, (0, []))))))).2.1 := rfl
   have et : tow n p i = if p.1.getD i 0 < 0 then (n.2.1.getD i ([], (0, (0, (0, (0, (0, []))))))).2.1 else (n.2.1.getD i ([], (0, (0, (0, (0, (0, []))))))).2.2.1 := rfl
   have er : rate p i = p.1.getD i 0 := rfl
   simp only [Option.bind_some]
   have hB : inB (i : Int) p.1.length = true := inB_t (by omega)
   rw [← ef, ← et, ← er, qyH hr]
   simp only [Option.bind_some, gd_t hB]
   by_cases h0 : rate p i = 0
   ·have z1 : segIn n p k i = 0 := by unfold segIn amt; split <;> omega
    have z2 : qb0 n p k i = 0 := by unfold qb0 amt; split <;> omega
    rw [dec_t h0, cond_true, Option.bind_some, z1, z2, w1 hi (by omega), Int.add_zero, Int.add_zero]
   ·rw [dec_f h0, cond_false]
    have s1 : (bif decide (frm n p i = k) then some (wi64 (sumTo (qb0 n p k) i + amt (rate p i))) else some (sumTo (qb0 n p k) i)) = some (sumTo (qb0 n p k) i + qb0 n p k i) := by
     by_cases hc : frm n p i = k
     ·have : qb0 n p k i = amt (rate p i) := if_pos hc
      rw [dec_t hc, cond_true, ← this, wi (by omega)]
     ·have : qb0 n p k i = 0 := if_neg hc
      rw [dec_f hc, cond_false, this, Int.add_zero]
    have s2 : (bif decide (tow n p i = k) then some (wi64 (sumTo (segIn n p k) i + amt (rate p i))) else some (sumTo (segIn n p k) i)) = some (sumTo (segIn n p k) i + segIn n p k i) := by
     by_cases hc : tow n p i = k
     ·have : segIn n p k i = amt (rate p i) := if_pos hc
      rw [dec_t hc, cond_true, ← this, wi (by omega)]
     ·have : segIn n p k i = 0 := if_neg hc
      rw [dec_f hc, cond_false, this, Int.add_zero]
    rw [s1, Option.bind_some, s2, Option.bind_some, Option.bind_some, w1 hi (by omega)]
  ·show qcD n p k _ _ ((n.2.1.length : Nat) : Int) = _
   unfold qcD
   rw [dec_f (by omega)]; rfl
 rw [e1, Option.bind_some]
 have e2 : iter (fun x2 => qcE n p k x2.1 x2.2.1 x2.2.2) (sumTo (segIn n p k) n.2.1.length, sumTo (qb0 n p k) n.2.1.length, 0) = some (comeF n p k, qj1 n p k) := by
  have := qba (step := fun x2 : Int × Int × Int => qcE n p k x2.1 x2.2.1 x2.2.2) (e := (comeF n p k, qj1 n p k)) n.2.2.1.length (fun i => (sumTo (segIn n p k) n.2.1.length + sumTo (qgL n p k) i, sumTo (qb0 n p k) n.2.1.length + sumTo (qed n p k) i, (i : Int))) (fun i hi => ?_) ?_
  ·refine Eq.trans ?_ this
   simp only [sumTo, Int.add_zero]; rfl
  ·have b1 := qdn (qmR (n := n) hp k) n.2.1.length
   have b2 := qdn (qj2 (n := n) hp k) n.2.1.length
   have b3 := qdn (qpx (n := n) hp k) i
   have b4 := qdn (qnn (n := n) hp k) i
   have b5 := qpx (n := n) hp k i
   have b6 := qnn (n := n) hp k i
   show qcE n p k (sumTo (segIn n p k) n.2.1.length + sumTo (qgL n p k) i) (sumTo (qb0 n p k) n.2.1.length + sumTo (qed n p k) i) (i : Int) = some (.inl (sumTo (segIn n p k) n.2.1.length + (sumTo (qgL n p k) i + qgL n p k i), sumTo (qb0 n p k) n.2.1.length + (sumTo (qed n p k) i + qed n p k i), ((i + 1 : Nat) : Int)))
   have hr := hp.q i
   unfold qcE
   have hB : inB (i : Int) p.2.1.length = true := inB_t (by omega)
   have eq : prate p i = p.2.1.getD i 0 := rfl
   rw [dec_t (show (i : Int) < (n.2.2.1.length : Int) by omega), cond_true, gd_t (inB_t hi), Int.toNat_natCast, gd_t hB, gd_t hB, ← eq, w1 hi (by omega)]
   by_cases hc : (n.2.2.1.getD i po0).2.1 = k
   ·have z1 : qgL n p k i = max 0 (prate p i) := if_pos hc
    have z2 : qed n p k i = max 0 (0 - prate p i) := if_pos hc
    have hc' : ((n.2.2.1.getD i ([], (0, 0))).2).1 = k := hc
    rw [dec_t hc', cond_true, Option.bind_some, wi (show -9223372036854775808 ≤ 0 - prate p i ∧ 0 - prate p i ≤ 9223372036854775807 by omega), ← z1, ← z2, wi (by omega), wi (by omega), Int.add_assoc, Int.add_assoc]
   ·have z1 : qgL n p k i = 0 := if_neg hc
    have z2 : qed n p k i = 0 := if_neg hc
    have hc' : ¬ ((n.2.2.1.getD i ([], (0, 0))).2).1 = k := hc
    rw [dec_f hc', cond_false, Option.bind_some, z1, z2, Int.add_zero, Int.add_zero]
  ·show qcE n p k _ _ ((n.2.2.1.length : Nat) : Int) = _
   unfold qcE
   rw [dec_f (by omega)]; rfl
 rw [e2]; rfl
/-! ### The order -/
def blk (n : Net) (p : Pl) (there : List Bool) (k : Nat) (i : Nat) : Bool := !decide (rate p i = 0) && (decide (tow n p i = (k : Int)) && !there.getD (frm n p i).toNat false)
def freeB (n : Net) (p : Pl) (there : List Bool) (k : Nat) : Bool := !there.getD k false && !(List.range n.2.1.length).any (blk n p there k)
def nextF (n : Net) (p : Pl) (there : List Bool) : Option Nat := (List.range n.1.length).find? (freeB n p there)
def topo (n : Net) (p : Pl) : Nat → List Bool → List Int
 | 0, _ => []
 | f + 1, there => match nextF n p there with
  | none => []
  | some k => (k : Int) :: topo n p f (there.set k true)
def ordL (n : Net) (p : Pl) : List Int := topo n p n.1.length (List.replicate n.1.length false)
theorem qxn (f : Nat) : ∀ there, (topo n p f there).length ≤ f := by
 induction f with
 | zero => intro _; exact Nat.le_refl _
 | succ f ih =>
  intro there
  unfold topo
  split
  ·exact Nat.zero_le _
  ·rw [List.length_cons]; have := ih (there.set (by assumption) true); omega
theorem qsi {there : List Bool} (h : ∀ j, j < n.1.length → freeB n p there j = false) : nextF n p there = none := by
 unfold nextF
 rw [List.find?_eq_none]
 intro x hx
 rw [h x (List.mem_range.1 hx)]; simp
theorem quQ {q : Nat → Bool} {k m : Nat} (hk : k < m) (h : ∀ j, j < k → q j = false) (hq : q k = true) : (List.range m).find? q = some k := by
 rw [List.find?_range_eq_some]
 refine ⟨hq, List.mem_range.2 hk, fun j hj => ?_⟩
 rw [h j hj]; rfl
theorem qv9 {there : List Bool} {k : Nat} (hk : k < n.1.length) (h : ∀ j, j < k → freeB n p there j = false) (hq : freeB n p there k = true) : nextF n p there = some k := quQ hk h hq
theorem qmS {there : List Bool} (h : nextF n p there = none) : ∀ f, topo n p f there = []
 | 0 => rfl
 | f + 1 => by unfold topo; rw [h]
theorem count_set {l : List Bool} {k : Nat} (hk : k < l.length) (h : l.getD k false = false) : (l.set k true).count false + 1 = l.count false := by
 rw [gD_eq hk] at h
 have := List.count_set (l := l) (a := true) (b := false) hk
 rw [this, h]
 have : 0 < l.count false := List.count_pos_iff.2 (h ▸ List.getElem_mem hk)
 simp; omega
theorem qsj {l : List Bool} {k : Nat} (hk : k < l.length) (h : l.getD k false = false) : 0 < l.count false := by
 have := count_set hk h; omega
theorem qua (hn : VNet n) (h1 : p.1.length = n.2.1.length) {there : List Bool} (ht : there.length = n.1.length) (k : Nat) (out : List Int) :
  iter (fun x => qbG n p (k : Int) x.1 x.2.1 x.2.2) (0, out, there) = some (bif (List.range n.2.1.length).any (blk n p there k) then .inl (out, there) else .inr (out, there)) := by
 have hs := hn.small.sg
 have := qa0 (step := fun x : Int × List Int × List Bool => qbG n p (k : Int) x.1 x.2.1 x.2.2) n.2.1.length (fun i => ((i : Int), out, there)) (fun i => !blk n p there k i) (fin := .inr (out, there)) (bad := .inl (out, there)) (fun i hi _ hq => ?_) (fun i hi _ hq => ?_) (fun _ => ?_)
 ·have e : (List.range n.2.1.length).all (fun i => !blk n p there k i) = !(List.range n.2.1.length).any (blk n p there k) := by simp [List.all_eq_not_any_not]
  rw [e] at this
  refine Eq.trans this ?_
  cases (List.range n.2.1.length).any (blk n p there k) <;> rfl
 ·show qbG n p (k : Int) (i : Int) out there = _
  unfold qbG
  have hf := qt6 (p := p) hn.kn hi
  have ef : frm n p i = if p.1.getD i 0 < 0 then (n.2.1.getD i ([], (0, (0, (0, (0, (0, []))))))).2.2.1 else (n.2.1.getD i ([], (0, (0, (0, (0, (0, []))))))).2.1 := rfl
  have et : tow n p i = if p.1.getD i 0 < 0 then (n.2.1.getD i ([], (0, (0, (0, (0, (0, []))))))).2.1 else (n.2.1.getD i ([], (0, (0, (0, (0, (0, []))))))).2.2.1 := rfl
  have er : rate p i = p.1.getD i 0 := rfl
  have hB : inB (i : Int) p.1.length = true := inB_t (by omega)
  rw [dec_t (show (i : Int) < (n.2.1.length : Int) by omega), cond_true, gd_t (inB_t hi), gd_t hB, Int.toNat_natCast, qti, Option.bind_some, gd_t hB, ← ef, ← et, ← er, w1 hi (by omega), gd_t (qao.2 (by omega))]
  unfold blk at hq
  simp only [Bool.not_and, Bool.not_not] at hq
  cases hr : decide (rate p i = 0) with
  | true => simp only [Bool.not_true, cond_false, Option.bind_some]
  | false =>
   rw [hr] at hq
   simp only [Bool.not_false, cond_true]
   cases ht2 : decide (tow n p i = (k : Int)) with
   | false => simp only [cond_false, Option.bind_some]
   | true =>
    rw [ht2] at hq
    simp only [Bool.false_or, Bool.not_true] at hq
    simp only [cond_true, hq, Bool.not_true, Option.bind_some, cond_false]
 ·show qbG n p (k : Int) (i : Int) out there = _
  unfold qbG
  have hf := qt6 (p := p) hn.kn hi
  have ef : frm n p i = if p.1.getD i 0 < 0 then (n.2.1.getD i ([], (0, (0, (0, (0, (0, []))))))).2.2.1 else (n.2.1.getD i ([], (0, (0, (0, (0, (0, []))))))).2.1 := rfl
  have et : tow n p i = if p.1.getD i 0 < 0 then (n.2.1.getD i ([], (0, (0, (0, (0, (0, []))))))).2.1 else (n.2.1.getD i ([], (0, (0, (0, (0, (0, []))))))).2.2.1 := rfl
  have er : rate p i = p.1.getD i 0 := rfl
  have hB : inB (i : Int) p.1.length = true := inB_t (by omega)
  rw [dec_t (show (i : Int) < (n.2.1.length : Int) by omega), cond_true, gd_t (inB_t hi), gd_t hB, Int.toNat_natCast, qti, Option.bind_some, gd_t hB, ← ef, ← et, ← er, gd_t (qao.2 (by omega))]
  have hq' : blk n p there k i = true := by revert hq; cases blk n p there k i <;> simp
  unfold blk at hq'
  rw [Bool.and_eq_true, Bool.and_eq_true] at hq'
  obtain ⟨a, b, c⟩ := hq'
  rw [a, b, c]; rfl
 ·show qbG n p (k : Int) ((n.2.1.length : Nat) : Int) out there = _
  unfold qbG
  rw [dec_f (by omega)]; rfl
theorem qxo (hn : VNet n) (h1 : p.1.length = n.2.1.length) : ∀ (f : Nat) (there : List Bool) (out : List Int), there.length = n.1.length → there.count false ≤ f → out.length + f ≤ 100 → ∀ m k : Nat, k + m = n.1.length → (∀ j, j < k → freeB n p there j = false) →
  iter (fun x => qaO n p x.1 x.2.1 x.2.2) ((k : Int), out, there) = some (out ++ topo n p f there) := by
 have hN := hn.small.no
 intro f
 induction f with
 | zero =>
  intro there out ht hc ho m
  induction m with
  | zero =>
   intro k hk hf
   rw [qb9 (e := out) (by show qaO n p ((k : Nat) : Int) out there = _; unfold qaO; rw [dec_f (by omega)]; rfl), qmS (qsi fun j hj => hf j (by omega)), List.append_nil]
  | succ m ih =>
   intro k hk hf
   have hk' : k < n.1.length := by omega
   have hth : there.getD k false = true := by
    cases hg : there.getD k false with
    | true => rfl
    | false => have := qsj (by omega) hg; omega
   have hfk : freeB n p there k = false := by unfold freeB; rw [hth]; rfl
   rw [qdh (y := (((k + 1 : Nat) : Int), out, there)) (by
    show qaO n p ((k : Nat) : Int) out there = _; unfold qaO
    rw [dec_t (by omega), cond_true, gd_t (inB_t (by omega)), Int.toNat_natCast, hth, cond_true, Option.bind_some, w1 hk' (by omega)])]
   refine ih (k + 1) (by omega) fun j hj => ?_
   rcases Nat.lt_or_ge j k with h | h
   ·exact hf j h
   ·rw [show j = k by omega]; exact hfk
 | succ f ihf =>
  intro there out ht hc ho m
  induction m with
  | zero =>
   intro k hk hf
   rw [qb9 (e := out) (by show qaO n p ((k : Nat) : Int) out there = _; unfold qaO; rw [dec_f (by omega)]; rfl), qmS (qsi fun j hj => hf j (by omega)), List.append_nil]
  | succ m ih =>
   intro k hk hf
   have hk' : k < n.1.length := by omega
   have go : freeB n p there k = false → ∀ j, j < k + 1 → freeB n p there j = false := fun hfk j hj => by
    rcases Nat.lt_or_ge j k with h | h
    ·exact hf j h
    ·rw [show j = k by omega]; exact hfk
   cases hth : there.getD k false with
   | true =>
    have hfk : freeB n p there k = false := by unfold freeB; rw [hth]; rfl
    rw [qdh (y := (((k + 1 : Nat) : Int), out, there)) (by
     show qaO n p ((k : Nat) : Int) out there = _; unfold qaO
     rw [dec_t (by omega), cond_true, gd_t (inB_t (by omega)), Int.toNat_natCast, hth, cond_true, Option.bind_some, w1 hk' (by omega)])]
    exact ih (k + 1) (by omega) (go hfk)
   | false =>
    cases hb : (List.range n.2.1.length).any (blk n p there k) with
    | true =>
     have hfk : freeB n p there k = false := by unfold freeB; rw [hth, hb]; rfl
     rw [qdh (y := (((k + 1 : Nat) : Int), out, there)) (by
      show qaO n p ((k : Nat) : Int) out there = _; unfold qaO
      rw [dec_t (by omega), cond_true, gd_t (inB_t (by omega)), Int.toNat_natCast, hth, cond_false, qua hn h1 ht k out, hb, Option.bind_some, cond_true, Sum.elim_inl, Option.bind_some, w1 hk' (by omega)])]
     exact ih (k + 1) (by omega) (go hfk)
    | false =>
     have hfk : freeB n p there k = true := by unfold freeB; rw [hth, hb]; rfl
     rw [qdh (y := ((0 : Int), out ++ [(k : Int)], there.set k true)) (by
      show qaO n p ((k : Nat) : Int) out there = _; unfold qaO
      rw [dec_t (by omega), cond_true, gd_t (inB_t (by omega)), Int.toNat_natCast, hth, cond_false, qua hn h1 ht k out, hb, Option.bind_some, cond_false, Sum.elim_inr, gd_t (inB_t (by show k < there.length; omega)), gd_t (qaD (by show (out.length + 1) * 8 ≤ _; omega))]; rfl)]
     have hcs := count_set (l := there) (k := k) (by omega) hth
     have := ihf (there.set k true) (out ++ [(k : Int)]) (by rw [List.length_set]; exact ht) (by omega) (by rw [List.length_append]; simp only [List.length_cons, List.length_nil]; omega) n.1.length 0 (by omega) (fun j hj => by omega)
     refine Eq.trans this ?_
     rw [topo, qv9 hk' hf hfk, List.append_assoc]; rfl
theorem qwa (hn : VNet n) (h1 : p.1.length = n.2.1.length) : qke n p = some (ordL n p) := by
 have hN := hn.small.no
 unfold qke
 rw [gd_t (qf8 (by omega)), Int.toNat_natCast]
 have := qxo hn h1 n.1.length (List.replicate n.1.length false) [] (by simp) (by simp) (by simp; omega) n.1.length 0 (by omega) (fun j hj => by omega)
 have this : iter (fun x => qaO n p x.1 x.2.1 x.2.2) ((0 : Int), [], List.replicate n.1.length false) = some (ordL n p) := this
 rw [this]; rfl
end
end Go.Proofs.YtnkfkceghbkkkaaGreat
namespace Go.Proofs.YtnkfkceghbkkkaaGreat
open Go Go.Sq
set_option linter.unusedVariables false
section
variable {n : Net} {p : Pl}
theorem qwb (hn : VNet n) (h1 : p.1.length = n.2.1.length) {there : List Bool} (ht : there.length = n.1.length) (k : Nat) (out : List Int) :
  iter (fun x => qci n p (k : Int) x.1 x.2.1 x.2.2.1 x.2.2.2) (!there.getD k false, 0, out, there) = some (freeB n p there k, out, there) := by
 have hs := hn.small.sg
 have := qba (step := fun x : Bool × Int × List Int × List Bool => qci n p (k : Int) x.1 x.2.1 x.2.2.1 x.2.2.2) (e := (freeB n p there k, out, there)) n.2.1.length (fun i => (!there.getD k false && !(List.range i).any (blk n p there k), (i : Int), out, there)) (fun i hi => ?_) ?_
 ·refine Eq.trans ?_ this
  simp only [List.range_zero, List.any_nil, Bool.not_false, Bool.and_true]; rfl
 ·show qci n p (k : Int) (!there.getD k false && !(List.range i).any (blk n p there k)) (i : Int) out there = some (.inl (!there.getD k false && !(List.range (i + 1)).any (blk n p there k), ((i + 1 : Nat) : Int), out, there))
  unfold qci
  have hf := qt6 (p := p) hn.kn hi
  have ef : frm n p i = if p.1.getD i 0 < 0 then (n.2.1.getD i ([], (0, (0, (0, (0, (0, []))))))).2.2.1 else (n.2.1.getD i ([], (0, (0, (0, (0, (0, []))))))).2.1 := rfl
  have et : tow n p i = if p.1.getD i 0 < 0 then (n.2.1.getD i ([], (0, (0, (0, (0, (0, []))))))).2.1 else (n.2.1.getD i ([], (0, (0, (0, (0, (0, []))))))).2.2.1 := rfl
  have er : rate p i = p.1.getD i 0 := rfl
  have hB : inB (i : Int) p.1.length = true := inB_t (by omega)
  have hT : inB (frm n p i) there.length = true := qao.2 (by omega)
  rw [dec_t (show (i : Int) < (n.2.1.length : Int) by omega), cond_true, gd_t (inB_t hi), gd_t hB, Int.toNat_natCast, qt9, w1 hi (by omega), List.range_succ, List.any_append]
  simp only [Option.bind_some, gd_t hB]
  rw [← ef, ← et, ← er]
  simp only [gd_t hT, List.any_cons, List.any_nil, Bool.or_false]
  generalize hz : (List.range i).any (blk n p there k) = Z
  rw [show blk n p there k i = (!decide (rate p i = 0) && (decide (tow n p i = (k : Int)) && !there.getD (frm n p i).toNat false)) from rfl]
  cases there.getD k false <;> cases Z <;> cases decide (rate p i = 0) <;> cases decide (tow n p i = (k : Int)) <;> cases there.getD (frm n p i).toNat false <;> rfl
 ·show qci n p (k : Int) _ ((n.2.1.length : Nat) : Int) out there = _
  unfold qci
  rw [dec_f (by omega)]; rfl
def nx (n : Net) (p : Pl) (there : List Bool) (v : Nat) : Int := match (List.range v).find? (freeB n p there) with
 | none => -1
 | some k => (k : Int)
theorem qyI {there : List Bool} {v : Nat} : nx n p there (v + 1) = if nx n p there v < 0 ∧ freeB n p there v = true then (v : Int) else nx n p there v := by
 unfold nx
 rw [List.range_succ, List.find?_append]
 cases h : (List.range v).find? (freeB n p there) with
 | some k => simp only [Option.some_or]; rw [if_neg (by omega)]
 | none =>
  simp only [Option.none_or]
  cases hf : freeB n p there v with
  | true => simp [List.find?_cons, hf]
  | false => simp [List.find?_cons, hf]
theorem qno (hn : VNet n) (h1 : p.1.length = n.2.1.length) {there : List Bool} (ht : there.length = n.1.length) (out : List Int) :
  iter (fun x => qcj n p x.1 x.2.1 x.2.2.1 x.2.2.2) (-1, 0, out, there) = some (nx n p there n.1.length, out, there) := by
 have hs := hn.small.no
 refine qba (step := fun x : Int × Int × List Int × List Bool => qcj n p x.1 x.2.1 x.2.2.1 x.2.2.2) n.1.length (fun i => (nx n p there i, (i : Int), out, there)) (fun i hi => ?_) ?_
 ·show qcj n p (nx n p there i) (i : Int) out there = some (.inl (nx n p there (i + 1), ((i + 1 : Nat) : Int), out, there))
  unfold qcj
  rw [dec_t (show (i : Int) < (n.1.length : Int) by omega), cond_true, gd_t (inB_t (by omega)), Int.toNat_natCast, qwb hn h1 ht i out, Option.bind_some, w1 hi (by omega), qyI]
  simp only
  cases hf : freeB n p there i with
  | false => rw [if_neg (by simp)]; rfl
  | true =>
   simp only [cond_true, Option.bind_some]
   by_cases h : nx n p there i < 0
   ·rw [dec_t h, if_pos ⟨h, trivial⟩]; rfl
   ·rw [dec_f h, if_neg (fun hh => h hh.1)]; rfl
 ·show qcj n p (nx n p there n.1.length) ((n.1.length : Nat) : Int) out there = _
  unfold qcj
  rw [dec_f (by omega)]; rfl
theorem qsk {there : List Bool} {k : Nat} (h : nextF n p there = some k) : k < n.1.length ∧ there.getD k false = false := by
 unfold nextF at h
 have h1 := List.mem_of_find?_eq_some h
 have h2 := List.find?_some h
 refine ⟨List.mem_range.1 h1, ?_⟩
 unfold freeB at h2
 cases hg : there.getD k false with
 | false => rfl
 | true => rw [hg] at h2; cases h2
theorem quR (hn : VNet n) (h1 : p.1.length = n.2.1.length) : ∀ (f : Nat) (there : List Bool) (out : List Int), there.length = n.1.length → there.count false ≤ f → out.length + f ≤ 100 →
  iter (fun x => qbO n p x.1 x.2) (out, there) = some (out ++ topo n p f there) := by
 intro f
 induction f with
 | zero =>
  intro there out ht hc ho
  have hnone : nextF n p there = none := by
   cases h : nextF n p there with
   | none => rfl
   | some k => have := qsk h; have := qsj (by omega) this.2; omega
  rw [qb9 (e := out) (by
   show qbO n p out there = _; unfold qbO
   rw [qno hn h1 ht out, Option.bind_some, show nx n p there n.1.length = -1 by unfold nx; unfold nextF at hnone; rw [hnone]]; rfl), qmS hnone, List.append_nil]
 | succ f ih =>
  intro there out ht hc ho
  cases h : nextF n p there with
  | none =>
   rw [qb9 (e := out) (by
    show qbO n p out there = _; unfold qbO
    rw [qno hn h1 ht out, Option.bind_some, show nx n p there n.1.length = -1 by unfold nx; unfold nextF at h; rw [h]]; rfl), qmS h, List.append_nil]
  | some k =>
   have hk := qsk h
   rw [qdh (y := (out ++ [(k : Int)], there.set k true)) (by
    show qbO n p out there = _; unfold qbO
    rw [qno hn h1 ht out, Option.bind_some, show nx n p there n.1.length = (k : Int) by unfold nx; unfold nextF at h; rw [h]]
    simp only
    rw [dec_f (by omega), cond_false, gd_t (qaD (by omega)), gd_t (inB_t (by omega)), Int.toNat_natCast])]
   have hcs := count_set (l := there) (k := k) (by omega) hk.2
   rw [ih (there.set k true) (out ++ [(k : Int)]) (by rw [List.length_set]; exact ht) (by omega) (by rw [List.length_append]; simp only [List.length_cons, List.length_nil]; omega), topo, h, List.append_assoc]; rfl
theorem qwc (hn : VNet n) (h1 : p.1.length = n.2.1.length) : qiq n p = some (ordL n p) := by
 have hN := hn.small.no
 unfold qiq
 rw [gd_t (qf8 (by omega)), Int.toNat_natCast]
 have := quR hn h1 n.1.length (List.replicate n.1.length false) [] (by simp) (by simp) (by simp; omega)
 rw [this]; rfl
/-! ### Checks -/
def szB (n : Net) (p : Pl) : Bool := decide (p.1.length = n.2.1.length) && (decide (p.2.1.length = n.2.2.1.length) && decide (p.2.2.length = n.2.2.2.1.length))
def rtB (n : Net) (p : Pl) (i : Nat) : Bool := rg (0 - min 1000 (n.2.1.getD i sg0).2.2.2.1) (min 1000 (n.2.1.getD i sg0).2.2.2.1) (rate p i)
def qnJ (n : Net) (p : Pl) : Bool := (List.range n.2.1.length).all (rtB n p)
def qj3 (p : Pl) : Bool := p.2.1.all (rg (-1000) 1000)
def balB (n : Net) (p : Pl) : Bool := (List.range n.1.length).all fun k => decide (comeF n p (k : Int) = qj1 n p (k : Int))
def qa3 (n : Net) (p : Pl) : Int := if qb3 n ≠ 0 then qb3 n else
 bif szB n p then (bif qnJ n p && qj3 p then (bif balB n p then (bif Nat.beq (ordL n p).length n.1.length then 0 else 13) else 12) else 1) else 9
theorem qpy : szB n p = true ↔ p.1.length = n.2.1.length ∧ p.2.1.length = n.2.2.1.length ∧ p.2.2.length = n.2.2.2.1.length := by
 unfold szB; simp only [Bool.and_eq_true, decide_eq_true_iff]
theorem qmT {a b x : Int} : rg a b x = true ↔ a ≤ x ∧ x ≤ b := by unfold rg; rw [Bool.and_eq_true, decide_eq_true_iff, decide_eq_true_iff]
theorem qtj (hn : VNet n) {i : Nat} (hi : i < n.2.1.length) : 1 ≤ (n.2.1.getD i sg0).2.2.2.1 ∧ (n.2.1.getD i sg0).2.2.2.1 ≤ 1000000 := by
 have h := hn.pr
 unfold prB at h
 rw [Bool.and_eq_true, List.all_eq_true] at h
 have := h.1 _ (qa4 (d := sg0) hi)
 unfold pipeB at this
 simp only [Bool.and_eq_true] at this
 exact qmT.1 this.1.2.1
theorem RB.of (hs : szB n p = true) (h1 : qnJ n p = true) (h2 : qj3 p = true) : RB p := by
 obtain ⟨s1, s2, s3⟩ := qpy.1 hs
 refine ⟨fun i => ?_, fun i => ?_⟩
 ·rcases Nat.lt_or_ge i p.1.length with h | h
  ·have := List.all_eq_true.1 h1 i (List.mem_range.2 (by omega))
   unfold rtB at this
   rw [qmT] at this; omega
  ·unfold rate; rw [qqk h]; omega
 ·rcases Nat.lt_or_ge i p.2.1.length with h | h
  ·have := List.all_eq_true.1 h2 _ (qa4 (d := 0) h)
   rw [qmT] at this; unfold prate; omega
  ·unfold prate; rw [qqk h]; omega
theorem qpz (r m : Int) (h : 0 ≤ m ∧ m ≤ 1000000) : qgl r m = some (rg (0 - m) m r) := by
 unfold qgl rg
 rw [wi (by omega)]
 cases decide (0 - m ≤ r) <;> rfl
theorem qxp (hn : VNet n) {k : Int} (h : ¬ (0 ≤ k ∧ k < n.1.length)) : comeF n p k = 0 ∧ qj1 n p k = 0 := by
 have a1 : sumTo (segIn n p k) n.2.1.length = 0 := qhW _ fun i hi => if_neg fun (e : tow n p i = k) => h (e ▸ qzp (p := p) hn.kn hi)
 have a2 : sumTo (qb0 n p k) n.2.1.length = 0 := qhW _ fun i hi => if_neg fun (e : frm n p i = k) => h (e ▸ qt6 (p := p) hn.kn hi)
 have a3 : sumTo (qgL n p k) n.2.2.1.length = 0 := qhW _ fun i hi => if_neg fun (e : (n.2.2.1.getD i po0).2.1 = k) => h (e ▸ hn.kn.p i hi)
 have a4 : sumTo (qed n p k) n.2.2.1.length = 0 := qhW _ fun i hi => if_neg fun (e : (n.2.2.1.getD i po0).2.1 = k) => h (e ▸ hn.kn.p i hi)
 unfold comeF qj1
 rw [a1, a2, a3, a4]; exact ⟨rfl, rfl⟩
theorem bal24 (hn : VNet n) : ((List.range 24).all fun i => decide (((m24 fun k => comeF n p k).getD i 0) = ((m24 fun k => qj1 n p k).getD i 0))) = balB n p := by
 unfold balB
 rw [Bool.eq_iff_iff, List.all_eq_true, List.all_eq_true]
 constructor
 ·intro h k hk
  have hk := List.mem_range.1 hk
  have := h k (List.mem_range.2 (by have := hn.small.no; omega))
  rwa [qhp _ (by have := hn.small.no; omega), qhp _ (by have := hn.small.no; omega)] at this
 ·intro h k hk
  have hk := List.mem_range.1 hk
  rw [qhp _ hk, qhp _ hk]
  by_cases hl : k < n.1.length
  ·exact h k (List.mem_range.2 hl)
  ·have := qxp (p := p) hn (k := (k : Int)) (by omega)
   rw [this.1, this.2]; rfl
theorem qaV (n : Net) : (n.1, (n.2.1, (n.2.2.1, (n.2.2.2.1, (n.2.2.2.2.1, n.2.2.2.2.2))))) = n := rfl
theorem qzq : (ordL n p).length ≤ n.1.length := qxn _ _
theorem qhe (n : Net) (p : Pl) : qeP n p = some (qa3 n p) := by
 unfold qeP qa3
 rw [qgK, Option.bind_some]
 by_cases h0 : qb3 n = 0
 ·rw [if_neg (fun h => h h0), dec_t h0, Bool.not_true, cond_false]
  have hn := VNet.of h0
  have es : (
    bif !decide ((p.1.length : Int) = (n.2.1.length : Int)) then some true
    else bif !decide ((p.2.1.length : Int) = (n.2.2.1.length : Int)) then some true
    else some (!decide ((p.2.2.length : Int) = (n.2.2.2.1.length : Int)))) = some (!szB n p) := by
   unfold szB
   rw [show decide ((p.1.length : Int) = (n.2.1.length : Int)) = decide (p.1.length = n.2.1.length) by congr 1; rw [Int.natCast_inj],
    show decide ((p.2.1.length : Int) = (n.2.2.1.length : Int)) = decide (p.2.1.length = n.2.2.1.length) by congr 1; rw [Int.natCast_inj],
    show decide ((p.2.2.length : Int) = (n.2.2.2.1.length : Int)) = decide (p.2.2.length = n.2.2.2.1.length) by congr 1; rw [Int.natCast_inj]]
   cases decide (p.1.length = n.2.1.length) <;> cases decide (p.2.1.length = n.2.2.1.length) <;> cases decide (p.2.2.length = n.2.2.2.1.length) <;> rfl
  rw [es, Option.bind_some]
  cases hz : szB n p with
  | false => rfl
  | true =>
   obtain ⟨s1, s2, s3⟩ := qpy.1 hz
   have m1 := hn.small.sg
   have m2 := hn.small.po
   simp only [Bool.not_true, cond_false, cond_true]
   have e1 : iter (fun x => qfP n p x) 0 = some (bif qnJ n p then .inl () else .inr 1) := by
    refine qa0 (step := fun x => qfP n p x) n.2.1.length (fun i => (i : Int)) (rtB n p) (fin := .inl ()) (bad := .inr 1) (fun i hi _ hq => ?_) (fun i hi _ hq => ?_) (fun _ => ?_)
    all_goals unfold qfP
    ·have hc := qtj hn hi
     have e : ((((n.2.1.getD i ([], (0, (0, (0, (0, (0, []))))))).2).2).2).1 = (n.2.1.getD i sg0).2.2.2.1 := rfl
     have e' : p.1.getD i 0 = rate p i := rfl
     rw [dec_t (show (i : Int) < (n.2.1.length : Int) by omega), cond_true, gd_t (inB_t hi), gd_t (inB_t (show i < p.1.length by omega)), Int.toNat_natCast, e, e', qpz _ _ (by omega), Option.bind_some]
     unfold rtB at hq
     rw [hq, w1 hi (by omega)]; rfl
    ·have hc := qtj hn hi
     have e : ((((n.2.1.getD i ([], (0, (0, (0, (0, (0, []))))))).2).2).2).1 = (n.2.1.getD i sg0).2.2.2.1 := rfl
     have e' : p.1.getD i 0 = rate p i := rfl
     rw [dec_t (show (i : Int) < (n.2.1.length : Int) by omega), cond_true, gd_t (inB_t hi), gd_t (inB_t (show i < p.1.length by omega)), Int.toNat_natCast, e, e', qpz _ _ (by omega), Option.bind_some]
     unfold rtB at hq
     rw [hq]; rfl
    ·rw [dec_f (by omega)]; rfl
   rw [e1, Option.bind_some]
   cases hr : qnJ n p with
   | false => rfl
   | true =>
    simp only [cond_true, Sum.elim_inl, Bool.true_and]
    rw [qlu p.2.1 (fun x => !rg (-1000) 1000 x) _ (fun x _ => by
     show (qgW x).bind _ = _
     unfold qgW
     rw [qpz _ _ (by omega)]; rfl) (by omega), Option.bind_some]
    have ep : (p.2.1.any fun x => !rg (-1000) 1000 x) = !qj3 p := by unfold qj3; simp [List.all_eq_not_any_not]
    rw [ep]
    cases hq : qj3 p with
    | false => rfl
    | true =>
     simp only [Bool.not_true, cond_false, cond_true]
     rw [show ((p.1, (p.2.1, p.2.2)) : Pl) = p from rfl, qaV, qt8 hn (RB.of hz hr hq) s1 s2, Option.bind_some, bal24 hn]
     cases hb : balB n p with
     | false => rfl
     | true =>
      simp only [Bool.not_true, cond_false, cond_true]
      rw [qwa hn s1, Option.bind_some]
      have := qzq (n := n) (p := p)
      cases ho : Nat.beq (ordL n p).length n.1.length with
      | true => have := Nat.eq_of_beq_eq_true ho; rw [dec_f (by omega)]; rfl
      | false =>
       have : (ordL n p).length ≠ n.1.length := fun e => by rw [e, Nat.beq_refl] at ho; cases ho
       rw [dec_t (by omega)]; rfl
 ·rw [if_pos h0, dec_f h0]; rfl
end
end Go.Proofs.YtnkfkceghbkkkaaGreat
namespace Go.Proofs.YtnkfkceghbkkkaaGreat
open Go Go.Sq
set_option linter.unusedVariables false
section
variable {n : Net} {p : Pl}
theorem natdec (a b : Nat) : decide ((a : Int) = (b : Int)) = decide (a = b) := by congr 1; rw [Int.natCast_inj]
theorem qkA (n : Net) (p : Pl) : qea n p = some (qa3 n p) := by
 unfold qea qa3
 rw [qaV, qiE, Option.bind_some]
 by_cases h0 : qb3 n = 0
 ·rw [if_neg (fun h => h h0), dec_t h0, Bool.not_true, cond_false]
  have hn := VNet.of h0
  have es : (
    bif !decide ((p.1.length : Int) = (n.2.1.length : Int)) then some true
    else bif !decide ((p.2.1.length : Int) = (n.2.2.1.length : Int)) then some true
    else some (!decide ((p.2.2.length : Int) = (n.2.2.2.1.length : Int)))) = some (!szB n p) := by
   unfold szB
   rw [natdec, natdec, natdec]
   cases decide (p.1.length = n.2.1.length) <;> cases decide (p.2.1.length = n.2.2.1.length) <;> cases decide (p.2.2.length = n.2.2.2.1.length) <;> rfl
  rw [es, Option.bind_some]
  cases hz : szB n p with
  | false => rfl
  | true =>
   obtain ⟨s1, s2, s3⟩ := qpy.1 hz
   have m1 := hn.small.sg
   have m2 := hn.small.po
   simp only [Bool.not_true, cond_false, cond_true]
   have key : ∀ i, i < n.2.1.length → (bif decide (p.1.getD i 0 < wi64 (0 - (min 1000 (((((n.2.1.getD i ([], (0, (0, (0, (0, (0, []))))))).2).2).2).1)))) then some true
     else some (decide (min 1000 (((((n.2.1.getD i ([], (0, (0, (0, (0, (0, []))))))).2).2).2).1) < p.1.getD i 0))) = some (!rtB n p i) := by
    intro i hi
    have hc := qtj hn hi
    have e : ((((n.2.1.getD i ([], (0, (0, (0, (0, (0, []))))))).2).2).2).1 = (n.2.1.getD i sg0).2.2.2.1 := rfl
    rw [e, wi (by omega)]
    unfold rtB rg rate
    by_cases a : p.1.getD i 0 < 0 - min 1000 (n.2.1.getD i sg0).2.2.2.1
    ·rw [dec_t a, dec_f (show ¬ (0 - min 1000 (n.2.1.getD i sg0).2.2.2.1 ≤ p.1.getD i 0) by omega)]; rfl
    ·rw [dec_f a, dec_t (show (0 - min 1000 (n.2.1.getD i sg0).2.2.2.1 ≤ p.1.getD i 0) by omega), cond_false, Bool.true_and]
     by_cases b : min 1000 (n.2.1.getD i sg0).2.2.2.1 < p.1.getD i 0
     ·rw [dec_t b, dec_f (by omega)]; rfl
     ·rw [dec_f b, dec_t (by omega)]; rfl
   have e1 : iter (fun x => qfc n p x) 0 = some (bif qnJ n p then .inl () else .inr 1) := by
    unfold qnJ
    rw [← s1]
    refine qa0 (step := fun x => qfc n p x) p.1.length (fun i => (i : Int)) (rtB n p) (fin := .inl ()) (bad := .inr 1) (fun i hi _ hq => ?_) (fun i hi _ hq => ?_) (fun _ => ?_)
    all_goals unfold qfc
    ·rw [dec_t (show (i : Int) < (p.1.length : Int) by omega), cond_true, gd_t (inB_t hi), gd_t (inB_t (show i < n.2.1.length by omega)), Int.toNat_natCast, key i (by omega), hq, Option.bind_some, w1 hi (by omega)]; rfl
    ·rw [dec_t (show (i : Int) < (p.1.length : Int) by omega), cond_true, gd_t (inB_t hi), gd_t (inB_t (show i < n.2.1.length by omega)), Int.toNat_natCast, key i (by omega), hq, Option.bind_some]; rfl
    ·rw [dec_f (by omega)]; rfl
   rw [e1, Option.bind_some]
   cases hr : qnJ n p with
   | false => rfl
   | true =>
    simp only [cond_true, Sum.elim_inl, Bool.true_and]
    have key2 : ∀ x : Int, (bif decide (x < -1000) then some true else some (decide (1000 < x))) = some (!rg (-1000) 1000 x) := by
     intro x
     unfold rg
     by_cases a : x < -1000
     ·rw [dec_t a, dec_f (show ¬ (-1000 ≤ x) by omega)]; rfl
     ·rw [dec_f a, dec_t (show -1000 ≤ x by omega), cond_false, Bool.true_and]
      by_cases b : 1000 < x
      ·rw [dec_t b, dec_f (by omega)]; rfl
      ·rw [dec_f b, dec_t (by omega)]; rfl
    have e2 : iter (fun x2 => qfd p x2) 0 = some (bif qj3 p then .inl () else .inr 1) := by
     refine scanL (step := fun x2 => qfd p x2) p.2.1 0 (rg (-1000) 1000) (bad := 1) (fun i hi hq => ?_) (fun i hi hq => ?_) ?_
     all_goals unfold qfd
     ·rw [dec_t (show (i : Int) < (p.2.1.length : Int) by omega), cond_true, gd_t (inB_t hi), Int.toNat_natCast, key2, hq, Option.bind_some, w1 hi (by omega)]; rfl
     ·rw [dec_t (show (i : Int) < (p.2.1.length : Int) by omega), cond_true, gd_t (inB_t hi), Int.toNat_natCast, key2, hq, Option.bind_some]; rfl
     ·rw [dec_f (by omega)]; rfl
    rw [e2, Option.bind_some]
    cases hq : qj3 p with
    | false => rfl
    | true =>
     simp only [cond_true, Sum.elim_inl]
     have hp := RB.of hz hr hq
     have e3 : iter (fun x3 => qfe n p x3) 0 = some (bif balB n p then .inl () else .inr 12) := by
      refine qa0 (step := fun x => qfe n p x) n.1.length (fun i => (i : Int)) (fun k => decide (comeF n p (k : Int) = qj1 n p (k : Int))) (fin := .inl ()) (bad := .inr 12) (fun i hi _ hq => ?_) (fun i hi _ hq => ?_) (fun _ => ?_)
      all_goals unfold qfe
      ·rw [dec_t (show (i : Int) < (n.1.length : Int) by omega), cond_true, qaV, show ((p.1, (p.2.1, p.2.2)) : Pl) = p from rfl, qrk hp m1 m2 s1 s2, Option.bind_some]
       simp only
       rw [hq, w1 hi (by have := hn.small.no; omega)]; rfl
      ·rw [dec_t (show (i : Int) < (n.1.length : Int) by omega), cond_true, qaV, show ((p.1, (p.2.1, p.2.2)) : Pl) = p from rfl, qrk hp m1 m2 s1 s2, Option.bind_some]
       simp only
       rw [hq]; rfl
      ·rw [dec_f (by omega)]; rfl
     rw [e3, Option.bind_some]
     cases hb : balB n p with
     | false => rfl
     | true =>
      simp only [cond_true, Sum.elim_inl]
      rw [show ((p.1, (p.2.1, p.2.2)) : Pl) = p from rfl, qwc hn s1, Option.bind_some, natdec]
      cases ho : Nat.beq (ordL n p).length n.1.length with
      | true => have := Nat.eq_of_beq_eq_true ho; rw [dec_t this]; rfl
      | false =>
       have : (ordL n p).length ≠ n.1.length := fun e => by rw [e, Nat.beq_refl] at ho; cases ho
       rw [dec_f this]; rfl
 ·rw [if_pos h0, dec_f h0]; rfl
structure VPl (n : Net) (p : Pl) : Prop where
 net : qb3 n = 0
 sz : szB n p = true
 rt : qnJ n p = true
 pr : qj3 p = true
theorem VPl.of (h : qa3 n p = 0) : VPl n p := by
 unfold qa3 at h
 by_cases h0 : qb3 n = 0
 ·rw [if_neg (fun h => h h0)] at h
  obtain ⟨h1, h⟩ := qnI (by decide) h
  obtain ⟨h2, h⟩ := qnI (by decide) h
  rw [Bool.and_eq_true] at h2
  exact ⟨h0, h1, h2.1, h2.2⟩
 ·rw [if_pos h0] at h; exact absurd h h0
theorem VPl.rb (h : VPl n p) : RB p := RB.of h.sz h.rt h.pr
theorem VPl.len (h : VPl n p) : p.1.length = n.2.1.length ∧ p.2.1.length = n.2.2.1.length ∧ p.2.2.length = n.2.2.2.1.length := qpy.1 h.sz
def thr (n : Net) (p : Pl) (k : Int) : Int × Int := if qa3 n p ≠ 0 then (0, qa3 n p) else bif kn n k then (comeF n p k, 0) else (0, 8)
theorem knD (n : Net) (k : Int) : (bif decide (k < 0) then some true else some (decide ((n.1.length : Int) ≤ k))) = some (!kn n k) := by
 unfold kn
 by_cases a : k < 0
 ·rw [dec_t a, dec_f (show ¬ 0 ≤ k by omega)]; rfl
 ·rw [dec_f a, dec_t (show 0 ≤ k by omega), cond_false, Bool.true_and]
  by_cases b : (n.1.length : Int) ≤ k
  ·rw [dec_t b, dec_f (by omega)]; rfl
  ·rw [dec_f b, dec_t (by omega)]; rfl
theorem qzr (n : Net) (p : Pl) (k : Int) : qgX n p k = some (thr n p k) := by
 unfold qgX thr
 rw [qaV, show ((p.1, (p.2.1, p.2.2)) : Pl) = p from rfl, qhe, Option.bind_some]
 by_cases h : qa3 n p = 0
 ·rw [dec_t h, if_neg (fun e => e h), Bool.not_true, cond_false, knD, Option.bind_some]
  have hv := VPl.of h
  have hn := VNet.of hv.net
  cases hk : kn n k with
  | false => rfl
  | true =>
   have hk := qqm.1 hk
   have := hn.small.no
   obtain ⟨k', rfl⟩ : ∃ k' : Nat, k = (k' : Int) := ⟨k.toNat, by omega⟩
   simp only [Bool.not_true, cond_false, cond_true]
   rw [qt8 hn hv.rb hv.len.1 hv.len.2.1, Option.bind_some, gd_t (inB_t (by omega)), Int.toNat_natCast]
   simp only
   rw [qhp _ (by omega)]
 ·rw [dec_f h, if_pos h]; rfl
theorem qwd (n : Net) (p : Pl) (k : Int) : qfZ n p k = some (thr n p k) := by
 unfold qfZ thr
 rw [qaV, show ((p.1, (p.2.1, p.2.2)) : Pl) = p from rfl, qkA, Option.bind_some]
 by_cases h : qa3 n p = 0
 ·rw [dec_t h, if_neg (fun e => e h), Bool.not_true, cond_false, knD, Option.bind_some]
  have hv := VPl.of h
  have hn := VNet.of hv.net
  cases hk : kn n k with
  | false => rfl
  | true =>
   simp only [Bool.not_true, cond_false, cond_true]
   rw [qrk hv.rb hn.small.sg hn.small.po hv.len.1 hv.len.2.1, Option.bind_some]
 ·rw [dec_f h, if_pos h]; rfl
/-! ### Lineups -/
def nz (l : List Int) : List Bool := l.map fun r => !decide (r = 0)
theorem qhX (l : List Int) : (nz l).length = l.length := List.length_map ..
def need (p : Pl) : List Bool := nz p.1 ++ nz p.2.1
theorem qtk {l : List Int} {i : Nat} (h : i < l.length) : nz (l.take (i + 1)) = nz (l.take i) ++ [!decide (l.getD i 0 = 0)] := by
 unfold nz; rw [qek 0 h, List.map_append]; rfl
theorem qub (l : List Int) (h : l.length ≤ 1000000) : qft l = some (nz l) := by
 unfold qft
 have := qba (step := fun x : Int × List Bool => qbW l x.1 x.2) (e := nz l) l.length (fun i => ((i : Int), nz (l.take i))) (fun i hi => ?_) ?_
 ·have this : iter (fun x => qbW l x.1 x.2) ((0 : Int), []) = some (nz l) := this
  rw [this]; rfl
 ·show qbW l (i : Int) (nz (l.take i)) = some (.inl (((i + 1 : Nat) : Int), nz (l.take (i + 1))))
  unfold qbW
  rw [dec_t (show (i : Int) < (l.length : Int) by omega), cond_true, gd_t (inB_t hi), gd_t (qaD (by rw [qhX, List.length_take]; omega)), Int.toNat_natCast, w1 hi (by omega), qtk hi]
 ·show qbW l ((l.length : Nat) : Int) (nz (l.take l.length)) = _
  unfold qbW
  rw [dec_f (by omega), List.take_length]; rfl
theorem quc (p : Pl) (h1 : p.1.length ≤ 1000000) (h2 : p.2.1.length ≤ 1000000) : qeV p = some (nz p.1, nz p.2.1) := by
 unfold qeV
 have e1 := qba (step := fun x : Int × List Bool => qck p x.1 x.2) (e := nz p.1) p.1.length (fun i => ((i : Int), nz (p.1.take i))) (fun i hi => ?_) ?_
 ·have e1 : iter (fun x => qck p x.1 x.2) ((0 : Int), []) = some (nz p.1) := e1
  rw [e1, Option.bind_some]
  have e2 := qba (step := fun x2 : Int × List Bool × List Bool => qcl p x2.1 x2.2.1 x2.2.2) (e := (nz p.1, nz p.2.1)) p.2.1.length (fun i => ((i : Int), nz p.1, nz (p.2.1.take i))) (fun i hi => ?_) ?_
  ·have e2 : iter (fun x2 => qcl p x2.1 x2.2.1 x2.2.2) ((0 : Int), nz p.1, []) = some (nz p.1, nz p.2.1) := e2
   rw [e2]; rfl
  ·show qcl p (i : Int) (nz p.1) (nz (p.2.1.take i)) = some (.inl (((i + 1 : Nat) : Int), nz p.1, nz (p.2.1.take (i + 1))))
   unfold qcl
   rw [dec_t (show (i : Int) < (p.2.1.length : Int) by omega), cond_true, gd_t (inB_t hi), gd_t (qaD (by rw [qhX, List.length_take]; omega)), Int.toNat_natCast, w1 hi (by omega), qtk hi]
  ·show qcl p ((p.2.1.length : Nat) : Int) (nz p.1) (nz (p.2.1.take p.2.1.length)) = _
   unfold qcl
   rw [dec_f (by omega), List.take_length]; rfl
 ·show qck p (i : Int) (nz (p.1.take i)) = some (.inl (((i + 1 : Nat) : Int), nz (p.1.take (i + 1))))
  unfold qck
  rw [dec_t (show (i : Int) < (p.1.length : Int) by omega), cond_true, gd_t (inB_t hi), gd_t (qaD (by rw [qhX, List.length_take]; omega)), Int.toNat_natCast, w1 hi (by omega), qtk hi]
 ·show qck p ((p.1.length : Nat) : Int) (nz (p.1.take p.1.length)) = _
  unfold qck
  rw [dec_f (by omega), List.take_length]; rfl
theorem qwe (a b : List Bool) (h1 : a.length ≤ 1000000) (h2 : b.length ≤ 1000000) : qhQ (a, b) = some (a ++ b) := by
 unfold qhQ
 rw [gd_t (qaD (by simp only; omega)), gd_t (qaD (by simp only [List.nil_append]; omega))]; rfl
theorem qqn (a b : List Bool) (h1 : a.length ≤ 1000000) (h2 : b.length ≤ 1000000) : qdA (a, b) = some (a ++ b) := qwe a b h1 h2
theorem qwf (n : Net) (p : Pl) : qeQ n p = some (if qa3 n p ≠ 0 then (qa3 n p, [], []) else (0, nz p.1, nz p.2.1)) := by
 unfold qeQ
 rw [qaV, qgK, Option.bind_some, show ((p.1, (p.2.1, p.2.2)) : Pl) = p from rfl, qhe, Option.bind_some]
 by_cases h0 : qb3 n = 0
 ·rw [dec_t h0, Bool.not_true, cond_false]
  by_cases h : qa3 n p = 0
  ·have hv := VPl.of h
   have hn := VNet.of h0
   have := hv.len
   have := hn.small.sg
   have := hn.small.po
   rw [dec_t h, if_neg (fun e => e h), Bool.not_true, cond_false, qub _ (by omega), Option.bind_some, qub _ (by omega)]; rfl
  ·rw [dec_f h, if_pos h]; rfl
 ·have e : qa3 n p = qb3 n := by unfold qa3; rw [if_pos h0]
  rw [dec_f h0, e, if_pos h0]; rfl
end
end Go.Proofs.YtnkfkceghbkkkaaGreat
