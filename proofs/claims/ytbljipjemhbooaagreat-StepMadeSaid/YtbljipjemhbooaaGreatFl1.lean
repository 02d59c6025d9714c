/- Flows: what comes to the nodes and leaves them. No condition. -/
import Derived.Test.YtbljipjemhbooaaGreatNk4
namespace Go.Proofs.YtbljipjemhbooaaGreat
open Go Go.Sq
set_option linter.unusedVariables false
abbrev Pl := List Int × List Int × List Bool
def sumTo (f : Nat → Int) : Nat → Int
 | 0 => 0
 | n + 1 => sumTo f n + f n
theorem sumTo_bd {f : Nat → Int} {b : Int} (h : ∀ i, 0 ≤ f i ∧ f i ≤ b) : ∀ n : Nat, 0 ≤ sumTo f n ∧ sumTo f n ≤ b * n
 | 0 => ⟨Int.le_refl _, by simp [sumTo]⟩
 | n + 1 => by
  have h1 := sumTo_bd h n
  have h2 := h n
  have e : b * ((n + 1 : Nat) : Int) = b * n + b := by rw [Int.natCast_add, Int.mul_add]; simp
  rw [e]
  simp only [sumTo]; omega
theorem sumTo_zero {f : Nat → Int} : ∀ n : Nat, (∀ i, i < n → f i = 0) → sumTo f n = 0
 | 0, _ => rfl
 | n + 1, h => by simp only [sumTo]; rw [sumTo_zero n fun i hi => h i (by omega), h n (by omega)]; rfl
def rate (p : Pl) (i : Nat) : Int := p.1.getD i 0
def prate (p : Pl) (i : Nat) : Int := p.2.1.getD i 0
def frm (n : Net) (p : Pl) (i : Nat) : Int := if rate p i < 0 then (n.2.1.getD i sg0).2.2.1 else (n.2.1.getD i sg0).2.1
def tow (n : Net) (p : Pl) (i : Nat) : Int := if rate p i < 0 then (n.2.1.getD i sg0).2.1 else (n.2.1.getD i sg0).2.2.1
def amt (x : Int) : Int := max x (0 - x)
def segIn (n : Net) (p : Pl) (k : Int) (i : Nat) : Int := if tow n p i = k then amt (rate p i) else 0
def segOut (n : Net) (p : Pl) (k : Int) (i : Nat) : Int := if frm n p i = k then amt (rate p i) else 0
def portIn (n : Net) (p : Pl) (k : Int) (i : Nat) : Int := if (n.2.2.1.getD i po0).2.1 = k then max 0 (prate p i) else 0
def portOut (n : Net) (p : Pl) (k : Int) (i : Nat) : Int := if (n.2.2.1.getD i po0).2.1 = k then max 0 (0 - prate p i) else 0
def comeF (n : Net) (p : Pl) (k : Int) : Int := sumTo (segIn n p k) n.2.1.length + sumTo (portIn n p k) n.2.2.1.length
def leaveF (n : Net) (p : Pl) (k : Int) : Int := sumTo (segOut n p k) n.2.1.length + sumTo (portOut n p k) n.2.2.1.length
structure RB (p : Pl) : Prop where
 s : ∀ i, -1000 ≤ rate p i ∧ rate p i ≤ 1000
 q : ∀ i, -1000 ≤ prate p i ∧ prate p i ≤ 1000
section
variable {n : Net} {p : Pl}
theorem segIn_bd (h : RB p) (k : Int) (i : Nat) : 0 ≤ segIn n p k i ∧ segIn n p k i ≤ 1000 := by
 have := h.s i; unfold segIn amt; split <;> omega
theorem segOut_bd (h : RB p) (k : Int) (i : Nat) : 0 ≤ segOut n p k i ∧ segOut n p k i ≤ 1000 := by
 have := h.s i; unfold segOut amt; split <;> omega
theorem portIn_bd (h : RB p) (k : Int) (i : Nat) : 0 ≤ portIn n p k i ∧ portIn n p k i ≤ 1000 := by
 have := h.q i; unfold portIn; split <;> omega
theorem portOut_bd (h : RB p) (k : Int) (i : Nat) : 0 ≤ portOut n p k i ∧ portOut n p k i ≤ 1000 := by
 have := h.q i; unfold portOut; split <;> omega
end
structure KnP (n : Net) : Prop where
 s : ∀ i, i < n.2.1.length → (0 ≤ (n.2.1.getD i sg0).2.1 ∧ (n.2.1.getD i sg0).2.1 < n.1.length) ∧ (0 ≤ (n.2.1.getD i sg0).2.2.1 ∧ (n.2.1.getD i sg0).2.2.1 < n.1.length)
 p : ∀ i, i < n.2.2.1.length → 0 ≤ (n.2.2.1.getD i po0).2.1 ∧ (n.2.2.1.getD i po0).2.1 < n.1.length
 t : ∀ i, i < n.2.2.2.1.length → 0 ≤ (n.2.2.2.1.getD i sta0).2.1 ∧ (n.2.2.2.1.getD i sta0).2.1 < n.1.length
theorem kn_iff {n : Net} {k : Int} : kn n k = true ↔ 0 ≤ k ∧ k < n.1.length := by
 unfold kn; rw [Bool.and_eq_true, decide_eq_true_iff, decide_eq_true_iff]
theorem KnP.of {n : Net} (h : knB n = true) : KnP n := by
 unfold knB at h
 simp only [Bool.and_eq_true, List.all_eq_true] at h
 exact ⟨fun i hi => by have := h.1 _ (gD_mem (d := sg0) hi); rwa [kn_iff, kn_iff] at this, fun i hi => by have := h.2.1 _ (gD_mem (d := po0) hi); rwa [kn_iff] at this, fun i hi => by have := h.2.2 _ (gD_mem (d := sta0) hi); rwa [kn_iff] at this⟩
structure VNet (n : Net) : Prop where
 small : Small n
 kn : KnP n
 pr : prB n = true
theorem bif_ne {c : Bool} {a b : Int} (hb : b ≠ 0) (h : (bif c then a else b) = 0) : c = true ∧ a = 0 := by
 cases c
 ·exact absurd h hb
 ·exact ⟨rfl, h⟩
theorem VNet.of {n : Net} (h : chkNet n = 0) : VNet n := by
 unfold chkNet at h
 obtain ⟨h1, h⟩ := bif_ne (by decide) h
 obtain ⟨h2, h⟩ := bif_ne (by decide) h
 cases h3 : twB n with
 | true => rw [h3] at h; cases h
 | false =>
  rw [h3] at h; simp only [cond_false] at h
  obtain ⟨h4, h⟩ := bif_ne (by decide) h
  obtain ⟨h5, h⟩ := bif_ne (by decide) h
  exact ⟨(limB_iff n).1 h1, KnP.of h4, h5⟩
theorem frm_kn {n : Net} {p : Pl} (h : KnP n) {i : Nat} (hi : i < n.2.1.length) : 0 ≤ frm n p i ∧ frm n p i < n.1.length := by
 have := h.s i hi; unfold frm; split <;> omega
theorem tow_kn {n : Net} {p : Pl} (h : KnP n) {i : Nat} (hi : i < n.2.1.length) : 0 ≤ tow n p i ∧ tow n p i < n.1.length := by
 have := h.s i hi; unfold tow; split <;> omega

/-! ### The program's sums -/
def m24 (f : Nat → Int) : List Int := (List.range 24).map f
theorem m24_len (f : Nat → Int) : (m24 f).length = 24 := by simp [m24]
theorem m24_get (f : Nat → Int) {k : Nat} (h : k < 24) : (m24 f).getD k 0 = f k := gD_range f 24 k h
theorem m24_congr {f g : Nat → Int} (h : ∀ k, k < 24 → f k = g k) : m24 f = m24 g := List.map_congr_left fun k hk => h k (List.mem_range.1 hk)
theorem m24_set (f : Nat → Int) {k : Nat} (hk : k < 24) (x : Int) : (m24 f).set k ((m24 f).getD k 0 + x) = m24 fun j => f j + (if k = j then x else 0) := by
 refine ext_gD 0 (by simp [m24_len]) fun j hj => ?_
 rw [List.length_set, m24_len] at hj
 rw [gD_set, m24_get _ hj, m24_len]
 by_cases e : k = j
 ·subst e; rw [if_pos ⟨rfl, hk⟩, m24_get _ hk, m24_get _ hk, if_pos rfl]
 ·rw [if_neg (fun h => e h.1), m24_get _ hj, if_neg e]; omega
def addF (f : Nat → Int) (k x : Int) : Nat → Int := fun j => f j + (if k = (j : Int) then x else 0)
theorem addF_neg (f : Nat → Int) (x : Int) : m24 (addF f (-1) x) = m24 f := m24_congr fun k _ => by unfold addF; rw [if_neg (by omega)]; omega
theorem m24_set' (f : Nat → Int) {k : Int} (h0 : 0 ≤ k) (h1 : k < 24) {x : Int} (hb : ∀ j, j < 24 → -1000000 ≤ f j ∧ f j ≤ 1000000) (hx : -1000000 ≤ x ∧ x ≤ 1000000) : (m24 f).set k.toNat (wi64 ((m24 f).getD k.toNat 0 + x)) = m24 (addF f k x) := by
 obtain ⟨k', rfl⟩ : ∃ k' : Nat, k = (k' : Int) := ⟨k.toNat, by omega⟩
 rw [Int.toNat_natCast, show wi64 ((m24 f).getD k' 0 + x) = (m24 f).getD k' 0 + x by
  rw [m24_get _ (by omega)]; have := hb k' (by omega); exact wi (by omega), m24_set f (by omega)]
 refine m24_congr fun j hj => ?_
 unfold addF
 by_cases e : k' = j
 ·rw [if_pos e, if_pos (by omega)]
 ·rw [if_neg e, if_neg (by omega)]
def bd6 (f : Nat → Int) : Prop := ∀ j, j < 24 → -1000000 ≤ f j ∧ f j ≤ 1000000
theorem add_eq {f g : Nat → Int} (hf : bd6 f) (hg : bd6 g) {a b r : Int} (ha : -1 ≤ a ∧ a < 24) (hb : 0 ≤ b ∧ b < 24) (hr : -1000 ≤ r ∧ r ≤ 1000) :
  flow_streams_add a b r (m24 f, m24 g) = some (m24 (addF f (if r < 0 then a else b) (amt r)), m24 (addF g (if r < 0 then b else a) (amt r))) := by
 unfold flow_streams_add
 by_cases h : r < 0
 ·rw [dec_t h, if_pos h, if_pos h, cond_true, show wi64 (0 - r) = amt r by unfold amt; rw [wi (by omega)]; omega]
  have hx : -1000000 ≤ amt r ∧ amt r ≤ 1000000 := by unfold amt; omega
  simp only [Option.bind_some]
  have hB : inB b 24 = true := inB_iff.2 (by omega)
  rw [dec_t hb.1, cond_true, gd_t hB, gd_t hB, m24_set' g hb.1 hb.2 hg hx, Option.bind_some]
  by_cases h0 : 0 ≤ a
  ·have hA : inB a 24 = true := inB_iff.2 (by omega)
   rw [dec_t h0, cond_true, gd_t hA, gd_t hA, m24_set' f h0 ha.2 hf hx]
  ·rw [dec_f h0, cond_false, show a = -1 by omega, addF_neg]
 ·rw [dec_f h, if_neg h, if_neg h, cond_false]
  have hx : -1000000 ≤ r ∧ r ≤ 1000000 := by omega
  rw [show amt r = r by unfold amt; omega]
  have hB : inB b 24 = true := inB_iff.2 (by omega)
  simp only [Option.bind_some]
  by_cases h0 : 0 ≤ a
  ·have hA : inB a 24 = true := inB_iff.2 (by omega)
   rw [dec_t h0, cond_true, gd_t hA, gd_t hA, m24_set' g h0 ha.2 hg hx, Option.bind_some, dec_t hb.1, cond_true, gd_t hB, gd_t hB, m24_set' f hb.1 hb.2 hf hx]
  ·rw [dec_f h0, cond_false, Option.bind_some, dec_t hb.1, cond_true, gd_t hB, gd_t hB, m24_set' f hb.1 hb.2 hf hx, show a = -1 by omega, addF_neg]
theorem pairE {A B C D E : Type} {i : A} {v : B} {a a' : C} {b b' : D} (h : a = a') (h' : b = b') : (some (Sum.inl (i, v, a, b)) : Option ((A × B × C × D) ⊕ E)) = some (Sum.inl (i, v, a', b')) := by rw [h, h']
theorem fsums_eq {n : Net} (hn : VNet n) {p : Pl} (hp : RB p) (h1 : p.1.length = n.2.1.length) (h2 : p.2.1.length = n.2.2.1.length) : flow_sums n p = some (m24 fun k => comeF n p k, m24 fun k => leaveF n p k) := by
 obtain ⟨s1, s2, s3, s4, s5, s6⟩ := hn.small
 unfold flow_sums
 have e1 : iter (fun x => flow_sums_L0 n p x.1 x.2.1 x.2.2) (0, ((List.replicate 24 0), (List.replicate 24 0)), ((List.replicate 24 0), (List.replicate 24 0))) =
   some (((List.replicate 24 0), (List.replicate 24 0)), (m24 fun k => sumTo (segIn n p k) n.2.1.length, m24 fun k => sumTo (segOut n p k) n.2.1.length)) := by
  refine iter_for (step := fun x : Int × (List Int × List Int) × (List Int × List Int) => flow_sums_L0 n p x.1 x.2.1 x.2.2) n.2.1.length (fun i => ((i : Int), ((List.replicate 24 0), (List.replicate 24 0)), (m24 fun k => sumTo (segIn n p k) i, m24 fun k => sumTo (segOut n p k) i))) (fun i hi => ?_) ?_
  ·show flow_sums_L0 n p _ _ _ = _
   unfold flow_sums_L0
   have k1 := hn.kn.s i hi
   have b1 : bd6 fun k => sumTo (segIn n p k) i := fun j _ => by have := sumTo_bd (segIn_bd (n := n) hp (j : Int)) i; dsimp only; omega
   have b2 : bd6 fun k => sumTo (segOut n p k) i := fun j _ => by have := sumTo_bd (segOut_bd (n := n) hp (j : Int)) i; dsimp only; omega
   have hr := hp.s i
   unfold rate at hr
   rw [dec_t (show (i : Int) < (n.2.1.length : Int) by omega), cond_true, gd_t (inB_t hi), gd_t (inB_t (show i < p.1.length by omega)), Int.toNat_natCast,
    add_eq b1 b2 (by have := k1.1; simp only [sg0] at this; omega) (by have := k1.2; simp only [sg0] at this; omega) hr, Option.bind_some, w1 hi (by omega)]
   refine pairE ?_ ?_
   ·refine m24_congr fun k hk => ?_
    simp only [addF, sumTo, segIn, tow, rate, sg0]; rfl
   ·refine m24_congr fun k hk => ?_
    simp only [addF, sumTo, segOut, frm, rate, sg0]; rfl
  ·show flow_sums_L0 n p _ _ _ = _
   unfold flow_sums_L0
   rw [dec_f (by omega)]; rfl
 rw [e1, Option.bind_some]
 have e2 : iter (fun x2 => flow_sums_L1 n p x2.1 x2.2.1 x2.2.2) (0, ((List.replicate 24 0), (List.replicate 24 0)), (m24 fun k => sumTo (segIn n p k) n.2.1.length, m24 fun k => sumTo (segOut n p k) n.2.1.length)) =
   some (((List.replicate 24 0), (List.replicate 24 0)), (m24 fun k => comeF n p k, m24 fun k => leaveF n p k)) := by
  have := iter_for (step := fun x2 : Int × (List Int × List Int) × (List Int × List Int) => flow_sums_L1 n p x2.1 x2.2.1 x2.2.2) (e := (((List.replicate 24 0), (List.replicate 24 0)), (m24 fun k => comeF n p k, m24 fun k => leaveF n p k))) n.2.2.1.length (fun i => ((i : Int), ((List.replicate 24 0), (List.replicate 24 0)), (m24 fun k => sumTo (segIn n p k) n.2.1.length + sumTo (portIn n p k) i, m24 fun k => sumTo (segOut n p k) n.2.1.length + sumTo (portOut n p k) i))) (fun i hi => ?_) ?_
  ·refine Eq.trans ?_ this
   rw [show (m24 fun k => sumTo (segIn n p k) n.2.1.length) = m24 fun k => sumTo (segIn n p k) n.2.1.length + sumTo (portIn n p k) 0 from m24_congr fun k _ => by simp only [sumTo]; omega,
    show (m24 fun k => sumTo (segOut n p k) n.2.1.length) = m24 fun k => sumTo (segOut n p k) n.2.1.length + sumTo (portOut n p k) 0 from m24_congr fun k _ => by simp only [sumTo]; omega]
   rfl
  ·show flow_sums_L1 n p _ _ _ = _
   unfold flow_sums_L1
   have k1 := hn.kn.p i hi
   have b1 : bd6 fun k => sumTo (segIn n p k) n.2.1.length + sumTo (portIn n p k) i := fun j _ => by
    have := sumTo_bd (segIn_bd (n := n) hp (j : Int)) n.2.1.length
    have := sumTo_bd (portIn_bd (n := n) hp (j : Int)) i; dsimp only; omega
   have b2 : bd6 fun k => sumTo (segOut n p k) n.2.1.length + sumTo (portOut n p k) i := fun j _ => by
    have := sumTo_bd (segOut_bd (n := n) hp (j : Int)) n.2.1.length
    have := sumTo_bd (portOut_bd (n := n) hp (j : Int)) i; dsimp only; omega
   have hr := hp.q i
   unfold prate at hr
   rw [dec_t (show (i : Int) < (n.2.2.1.length : Int) by omega), cond_true, gd_t (inB_t hi), gd_t (inB_t (show i < p.2.1.length by omega)), Int.toNat_natCast,
    add_eq b1 b2 (by omega) (by have := k1; simp only [po0] at this; omega) hr, Option.bind_some, w1 hi (by omega)]
   refine pairE ?_ ?_
   ·refine m24_congr fun k hk => ?_
    simp only [addF, sumTo, portIn, prate, amt]
    split <;> split <;> (try split) <;> omega
   ·refine m24_congr fun k hk => ?_
    simp only [addF, sumTo, portOut, prate, amt]
    split <;> split <;> (try split) <;> omega
  ·show flow_sums_L1 n p _ _ _ = _
   unfold flow_sums_L1
   rw [dec_f (by omega)]; rfl
 rw [e2]; rfl
end Go.Proofs.YtbljipjemhbooaaGreat
