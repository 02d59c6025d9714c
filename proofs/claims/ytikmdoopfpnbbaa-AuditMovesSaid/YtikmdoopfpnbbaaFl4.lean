/- Flows: what comes to the nodes and leaves them. No condition. -/
import Derived.Test.YtikmdoopfpnbbaaNk4
namespace Go.Proofs.Ytikmdoopfpnbbaa
open Go Go.Sq
set_option linter.unusedVariables false
abbrev Pl := List Int × List Int × List Bool
def sumTo (f : Nat → Int) : Nat → Int
 | 0 => 0
 | n + 1 => sumTo f n + f n
theorem qdW {f : Nat → Int} {b : Int} (h : ∀ i, 0 ≤ f i ∧ f i ≤ b) : ∀ n : Nat, 0 ≤ sumTo f n ∧ sumTo f n ≤ b * n
 | 0 => ⟨Int.le_refl _, by simp [sumTo]⟩
 | n + 1 => by
  have h1 := qdW h n
  have h2 := h n
  have e : b * ((n + 1 : Nat) : Int) = b * n + b := by rw [Int.natCast_add, Int.mul_add]; simp
  rw [e]
  simp only [sumTo]; omega
theorem qas {f : Nat → Int} : ∀ n : Nat, (∀ i, i < n → f i = 0) → sumTo f n = 0
 | 0, _ => rfl
 | n + 1, h => by simp only [sumTo]; rw [qas n fun i hi => h i (by omega), h n (by omega)]; rfl
theorem qat {f g : Nat → Int} : ∀ n : Nat, (∀ i, i < n → f i = g i) → sumTo f n = sumTo g n
 | 0, _ => rfl
 | n + 1, h => by simp only [sumTo]; rw [qat n fun i hi => h i (by omega), h n (by omega)]
def rate (p : Pl) (i : Nat) : Int := p.1.getD i 0
def prate (p : Pl) (i : Nat) : Int := p.2.1.getD i 0
def frm (n : Net) (p : Pl) (i : Nat) : Int := if rate p i < 0 then (n.2.1.getD i sg0).2.2.1 else (n.2.1.getD i sg0).2.1
def tow (n : Net) (p : Pl) (i : Nat) : Int := if rate p i < 0 then (n.2.1.getD i sg0).2.1 else (n.2.1.getD i sg0).2.2.1
def amtR (x : Int) : Int := max x (0 - x)
def segIn (n : Net) (p : Pl) (k : Int) (i : Nat) : Int := if tow n p i = k then amtR (rate p i) else 0
def qa9 (n : Net) (p : Pl) (k : Int) (i : Nat) : Int := if frm n p i = k then amtR (rate p i) else 0
def qd6 (n : Net) (p : Pl) (k : Int) (i : Nat) : Int := if (n.2.2.1.getD i po0).2.1 = k then max 0 (prate p i) else 0
def qcr (n : Net) (p : Pl) (k : Int) (i : Nat) : Int := if (n.2.2.1.getD i po0).2.1 = k then max 0 (0 - prate p i) else 0
def comeF (n : Net) (p : Pl) (k : Int) : Int := sumTo (segIn n p k) n.2.1.length + sumTo (qd6 n p k) n.2.2.1.length
def qhM (n : Net) (p : Pl) (k : Int) : Int := sumTo (qa9 n p k) n.2.1.length + sumTo (qcr n p k) n.2.2.1.length
structure RB (p : Pl) : Prop where
 s : ∀ i, -1000 ≤ rate p i ∧ rate p i ≤ 1000
 q : ∀ i, -1000 ≤ prate p i ∧ prate p i ≤ 1000
section
variable {n : Net} {p : Pl}
theorem qjk (h : RB p) (k : Int) (i : Nat) : 0 ≤ segIn n p k i ∧ segIn n p k i ≤ 1000 := by
 have := h.s i; unfold segIn amtR; split <;> omega
theorem qhN (h : RB p) (k : Int) (i : Nat) : 0 ≤ qa9 n p k i ∧ qa9 n p k i ≤ 1000 := by
 have := h.s i; unfold qa9 amtR; split <;> omega
theorem qkg (h : RB p) (k : Int) (i : Nat) : 0 ≤ qd6 n p k i ∧ qd6 n p k i ≤ 1000 := by
 have := h.q i; unfold qd6; split <;> omega
theorem qin (h : RB p) (k : Int) (i : Nat) : 0 ≤ qcr n p k i ∧ qcr n p k i ≤ 1000 := by
 have := h.q i; unfold qcr; split <;> omega
end
structure KnP (n : Net) : Prop where
 s : ∀ i, i < n.2.1.length → (0 ≤ (n.2.1.getD i sg0).2.1 ∧ (n.2.1.getD i sg0).2.1 < n.1.length) ∧ (0 ≤ (n.2.1.getD i sg0).2.2.1 ∧ (n.2.1.getD i sg0).2.2.1 < n.1.length)
 p : ∀ i, i < n.2.2.1.length → 0 ≤ (n.2.2.1.getD i po0).2.1 ∧ (n.2.2.1.getD i po0).2.1 < n.1.length
 t : ∀ i, i < n.2.2.2.1.length → 0 ≤ (n.2.2.2.1.getD i sta0).2.1 ∧ (n.2.2.2.1.getD i sta0).2.1 < n.1.length
theorem qmq {n : Net} {k : Int} : kn n k = true ↔ 0 ≤ k ∧ k < n.1.length := by
 unfold kn; rw [Bool.and_eq_true, decide_eq_true_iff, decide_eq_true_iff]
theorem KnP.of {n : Net} (h : knB n = true) : KnP n := by
 unfold knB at h
 simp only [Bool.and_eq_true, List.all_eq_true] at h
 exact ⟨fun i hi => by have := h.1 _ (qaL (d := sg0) hi); rwa [qmq, qmq] at this, fun i hi => by have := h.2.1 _ (qaL (d := po0) hi); rwa [qmq] at this, fun i hi => by have := h.2.2 _ (qaL (d := sta0) hi); rwa [qmq] at this⟩
structure VNet (n : Net) : Prop where
 small : Small n
 kn : KnP n
 pr : prB n = true
theorem qe7 {c : Bool} {a b : Int} (hb : b ≠ 0) (h : (bif c then a else b) = 0) : c = true ∧ a = 0 := by
 cases c
 ·exact absurd h hb
 ·exact ⟨rfl, h⟩
theorem VNet.of {n : Net} (h : qdD n = 0) : VNet n := by
 unfold qdD at h
 obtain ⟨h1, h⟩ := qe7 (by decide) h
 obtain ⟨h2, h⟩ := qe7 (by decide) h
 cases h3 : twB n with
 | true => rw [h3] at h; cases h
 | false =>
  rw [h3] at h; simp only [cond_false] at h
  obtain ⟨h4, h⟩ := qe7 (by decide) h
  obtain ⟨h5, h⟩ := qe7 (by decide) h
  exact ⟨(qmp n).1 h1, KnP.of h4, h5⟩
theorem qqj {n : Net} {p : Pl} (h : KnP n) {i : Nat} (hi : i < n.2.1.length) : 0 ≤ frm n p i ∧ frm n p i < n.1.length := by
 have := h.s i hi; unfold frm; split <;> omega
theorem qra {n : Net} {p : Pl} (h : KnP n) {i : Nat} (hi : i < n.2.1.length) : 0 ≤ tow n p i ∧ tow n p i < n.1.length := by
 have := h.s i hi; unfold tow; split <;> omega
/-! ### The program's sums -/
end Go.Proofs.Ytikmdoopfpnbbaa
namespace Go.Proofs.Ytikmdoopfpnbbaa
open Go Go.Sq
set_option linter.unusedVariables false
section
variable {n : Net} {p : Pl}
theorem qjl (s : Seg) (r : Int) : qcP s r = some (if r < 0 then s.2.2.1 else s.2.1, if r < 0 then s.2.1 else s.2.2.1) := by
 unfold qcP
 by_cases h : r < 0
 ·rw [dec_t h, cond_true, if_pos h, if_pos h]
 ·rw [dec_f h, cond_false, if_neg h, if_neg h]
theorem qoO {r : Int} (h : -1000 ≤ r ∧ r ≤ 1000) : qc4 r = some (amtR r) := by
 unfold qc4 amtR; rw [wi (by omega)]
theorem qmr (hp : RB p) (hs : n.2.1.length ≤ 32) (hq : n.2.2.1.length ≤ 24) (h1 : p.1.length = n.2.1.length) (h2 : p.2.1.length = n.2.2.1.length) (k : Int) : qeI n p k = some (comeF n p k, qhM n p k) := by
 unfold qeI
 have e1 : iter (fun x => qaP n p k x.1 x.2.1 x.2.2) (0, 0, 0) = some (sumTo (segIn n p k) n.2.1.length, sumTo (qa9 n p k) n.2.1.length) := by
  refine qaB (step := fun x : Int × Int × Int => qaP n p k x.1 x.2.1 x.2.2) n.2.1.length (fun i => (sumTo (segIn n p k) i, sumTo (qa9 n p k) i, (i : Int))) (fun i hi => ?_) ?_
  ·show qaP n p k (sumTo (segIn n p k) i) (sumTo (qa9 n p k) i) (i : Int) = some (.inl (sumTo (segIn n p k) i + segIn n p k i, sumTo (qa9 n p k) i + qa9 n p k i, ((i + 1 : Nat) : Int)))
   have b1 := qdW (qjk (n := n) hp k) i
   have b2 := qdW (qhN (n := n) hp k) i
   have b3 := qjk (n := n) hp k i
   have b4 := qhN (n := n) hp k i
   have hr := hp.s i
   unfold qaP
   rw [dec_t (show (i : Int) < (n.2.1.length : Int) by omega), cond_true, gd_t (inB_t hi), gd_t (inB_t (show i < p.1.length by omega)), Int.toNat_natCast, qjl]
   have ef : frm n p i = if p.1.getD i 0 < 0 then (n.2.1.getD i ([], (0, (0, (0, (0, (0, []))))))).2.2.1 else (n.2.1.getD i ([], (0, (0, (0, (0, (0, []))))))).2.1 := rfl
   have et : tow n p i = if p.1.getD i 0 < 0 then (n.2.1.getD i ([], (0, (0, (0, (0, (0, []))))))).2.1 else (n.2.1.getD i ([], (0, (0, (0, (0, (0, []))))))).2.2.1 := rfl
   have er : rate p i = p.1.getD i 0 := rfl
   simp only [Option.bind_some]
   have hB : inB (i : Int) p.1.length = true := inB_t (by omega)
   rw [← ef, ← et, ← er, qoO hr]
   simp only [Option.bind_some, gd_t hB]
   by_cases h0 : rate p i = 0
   ·have z1 : segIn n p k i = 0 := by unfold segIn amtR; split <;> omega
    have z2 : qa9 n p k i = 0 := by unfold qa9 amtR; split <;> omega
    rw [dec_t h0, cond_true, Option.bind_some, z1, z2, w1 hi (by omega), Int.add_zero, Int.add_zero]
   ·rw [dec_f h0, cond_false]
    have s1 : (bif decide (frm n p i = k) then some (wi64 (sumTo (qa9 n p k) i + amtR (rate p i))) else some (sumTo (qa9 n p k) i)) = some (sumTo (qa9 n p k) i + qa9 n p k i) := by
     by_cases hc : frm n p i = k
     ·have : qa9 n p k i = amtR (rate p i) := if_pos hc
      rw [dec_t hc, cond_true, ← this, wi (by omega)]
     ·have : qa9 n p k i = 0 := if_neg hc
      rw [dec_f hc, cond_false, this, Int.add_zero]
    have s2 : (bif decide (tow n p i = k) then some (wi64 (sumTo (segIn n p k) i + amtR (rate p i))) else some (sumTo (segIn n p k) i)) = some (sumTo (segIn n p k) i + segIn n p k i) := by
     by_cases hc : tow n p i = k
     ·have : segIn n p k i = amtR (rate p i) := if_pos hc
      rw [dec_t hc, cond_true, ← this, wi (by omega)]
     ·have : segIn n p k i = 0 := if_neg hc
      rw [dec_f hc, cond_false, this, Int.add_zero]
    rw [s1, Option.bind_some, s2, Option.bind_some, Option.bind_some, w1 hi (by omega)]
  ·show qaP n p k _ _ ((n.2.1.length : Nat) : Int) = _
   unfold qaP
   rw [dec_f (by omega)]; rfl
 rw [e1, Option.bind_some]
 have e2 : iter (fun x2 => qaQ n p k x2.1 x2.2.1 x2.2.2) (sumTo (segIn n p k) n.2.1.length, sumTo (qa9 n p k) n.2.1.length, 0) = some (comeF n p k, qhM n p k) := by
  have := qaB (step := fun x2 : Int × Int × Int => qaQ n p k x2.1 x2.2.1 x2.2.2) (e := (comeF n p k, qhM n p k)) n.2.2.1.length (fun i => (sumTo (segIn n p k) n.2.1.length + sumTo (qd6 n p k) i, sumTo (qa9 n p k) n.2.1.length + sumTo (qcr n p k) i, (i : Int))) (fun i hi => ?_) ?_
  ·refine Eq.trans ?_ this
   simp only [sumTo, Int.add_zero]; rfl
  ·have b1 := qdW (qjk (n := n) hp k) n.2.1.length
   have b2 := qdW (qhN (n := n) hp k) n.2.1.length
   have b3 := qdW (qkg (n := n) hp k) i
   have b4 := qdW (qin (n := n) hp k) i
   have b5 := qkg (n := n) hp k i
   have b6 := qin (n := n) hp k i
   show qaQ n p k (sumTo (segIn n p k) n.2.1.length + sumTo (qd6 n p k) i) (sumTo (qa9 n p k) n.2.1.length + sumTo (qcr n p k) i) (i : Int) = some (.inl (sumTo (segIn n p k) n.2.1.length + (sumTo (qd6 n p k) i + qd6 n p k i), sumTo (qa9 n p k) n.2.1.length + (sumTo (qcr n p k) i + qcr n p k i), ((i + 1 : Nat) : Int)))
   have hr := hp.q i
   unfold qaQ
   have hB : inB (i : Int) p.2.1.length = true := inB_t (by omega)
   have eq : prate p i = p.2.1.getD i 0 := rfl
   rw [dec_t (show (i : Int) < (n.2.2.1.length : Int) by omega), cond_true, gd_t (inB_t hi), Int.toNat_natCast, gd_t hB, gd_t hB, ← eq, w1 hi (by omega)]
   by_cases hc : (n.2.2.1.getD i po0).2.1 = k
   ·have z1 : qd6 n p k i = max 0 (prate p i) := if_pos hc
    have z2 : qcr n p k i = max 0 (0 - prate p i) := if_pos hc
    have hc' : ((n.2.2.1.getD i ([], (0, 0))).2).1 = k := hc
    rw [dec_t hc', cond_true, Option.bind_some, wi (show -9223372036854775808 ≤ 0 - prate p i ∧ 0 - prate p i ≤ 9223372036854775807 by omega), ← z1, ← z2, wi (by omega), wi (by omega), Int.add_assoc, Int.add_assoc]
   ·have z1 : qd6 n p k i = 0 := if_neg hc
    have z2 : qcr n p k i = 0 := if_neg hc
    have hc' : ¬ ((n.2.2.1.getD i ([], (0, 0))).2).1 = k := hc
    rw [dec_f hc', cond_false, Option.bind_some, z1, z2, Int.add_zero, Int.add_zero]
  ·show qaQ n p k _ _ ((n.2.2.1.length : Nat) : Int) = _
   unfold qaQ
   rw [dec_f (by omega)]; rfl
 rw [e2]; rfl
/-! ### The order -/
def blk (n : Net) (p : Pl) (there : List Bool) (k : Nat) (i : Nat) : Bool := !decide (rate p i = 0) && (decide (tow n p i = (k : Int)) && !there.getD (frm n p i).toNat false)
def freeB (n : Net) (p : Pl) (there : List Bool) (k : Nat) : Bool := !there.getD k false && !(List.range n.2.1.length).any (blk n p there k)
def nextF (n : Net) (p : Pl) (there : List Bool) : Option Nat := (List.range n.1.length).find? (freeB n p there)
def topo (n : Net) (p : Pl) : Nat → List Bool → List Int
 | 0, _ => []
 | f + 1, there => match nextF n p there with
  | none => []
  | some k => (k : Int) :: topo n p f (there.set k true)
def ordL (n : Net) (p : Pl) : List Int := topo n p n.1.length (List.replicate n.1.length false)
theorem qkh {there : List Bool} (h : nextF n p there = none) : ∀ f, topo n p f there = []
 | 0 => rfl
 | f + 1 => by unfold topo; rw [h]
theorem count_set {l : List Bool} {k : Nat} (hk : k < l.length) (h : l.getD k false = false) : (l.set k true).count false + 1 = l.count false := by
 rw [gD_eq hk] at h
 have := List.count_set (l := l) (a := true) (b := false) hk
 rw [this, h]
 have : 0 < l.count false := List.count_pos_iff.2 (h ▸ List.getElem_mem hk)
 simp; omega
theorem qhO {l : List Bool} {k : Nat} (hk : k < l.length) (h : l.getD k false = false) : 0 < l.count false := by
 have := count_set hk h; omega
end
end Go.Proofs.Ytikmdoopfpnbbaa
namespace Go.Proofs.Ytikmdoopfpnbbaa
open Go Go.Sq
set_option linter.unusedVariables false
section
variable {n : Net} {p : Pl}
theorem qoP (hn : VNet n) (h1 : p.1.length = n.2.1.length) {there : List Bool} (ht : there.length = n.1.length) (k : Nat) (out : List Int) :
  iter (fun x => qaF n p (k : Int) x.1 x.2.1 x.2.2.1 x.2.2.2) (!there.getD k false, 0, out, there) = some (freeB n p there k, out, there) := by
 have hs := hn.small.sg
 have := qaB (step := fun x : Bool × Int × List Int × List Bool => qaF n p (k : Int) x.1 x.2.1 x.2.2.1 x.2.2.2) (e := (freeB n p there k, out, there)) n.2.1.length (fun i => (!there.getD k false && !(List.range i).any (blk n p there k), (i : Int), out, there)) (fun i hi => ?_) ?_
 ·refine Eq.trans ?_ this
  simp only [List.range_zero, List.any_nil, Bool.not_false, Bool.and_true]; rfl
 ·show qaF n p (k : Int) (!there.getD k false && !(List.range i).any (blk n p there k)) (i : Int) out there = some (.inl (!there.getD k false && !(List.range (i + 1)).any (blk n p there k), ((i + 1 : Nat) : Int), out, there))
  unfold qaF
  have hf := qqj (p := p) hn.kn hi
  have ef : frm n p i = if p.1.getD i 0 < 0 then (n.2.1.getD i ([], (0, (0, (0, (0, (0, []))))))).2.2.1 else (n.2.1.getD i ([], (0, (0, (0, (0, (0, []))))))).2.1 := rfl
  have et : tow n p i = if p.1.getD i 0 < 0 then (n.2.1.getD i ([], (0, (0, (0, (0, (0, []))))))).2.1 else (n.2.1.getD i ([], (0, (0, (0, (0, (0, []))))))).2.2.1 := rfl
  have er : rate p i = p.1.getD i 0 := rfl
  have hB : inB (i : Int) p.1.length = true := inB_t (by omega)
  have hT : inB (frm n p i) there.length = true := qa0.2 (by omega)
  rw [dec_t (show (i : Int) < (n.2.1.length : Int) by omega), cond_true, gd_t (inB_t hi), gd_t hB, Int.toNat_natCast, qjl, w1 hi (by omega), List.range_succ, List.any_append]
  simp only [Option.bind_some, gd_t hB]
  rw [← ef, ← et, ← er]
  simp only [gd_t hT, List.any_cons, List.any_nil, Bool.or_false]
  generalize hz : (List.range i).any (blk n p there k) = Z
  rw [show blk n p there k i = (!decide (rate p i = 0) && (decide (tow n p i = (k : Int)) && !there.getD (frm n p i).toNat false)) from rfl]
  cases there.getD k false <;> cases Z <;> cases decide (rate p i = 0) <;> cases decide (tow n p i = (k : Int)) <;> cases there.getD (frm n p i).toNat false <;> rfl
 ·show qaF n p (k : Int) _ ((n.2.1.length : Nat) : Int) out there = _
  unfold qaF
  rw [dec_f (by omega)]; rfl
def nx (n : Net) (p : Pl) (there : List Bool) (v : Nat) : Int := match (List.range v).find? (freeB n p there) with
 | none => -1
 | some k => (k : Int)
theorem qqM {there : List Bool} {v : Nat} : nx n p there (v + 1) = if nx n p there v < 0 ∧ freeB n p there v = true then (v : Int) else nx n p there v := by
 unfold nx
 rw [List.range_succ, List.find?_append]
 cases h : (List.range v).find? (freeB n p there) with
 | some k => simp only [Option.some_or]; rw [if_neg (by omega)]
 | none =>
  simp only [Option.none_or]
  cases hf : freeB n p there v with
  | true => simp [List.find?_cons, hf]
  | false => simp [List.find?_cons, hf]
theorem qga (hn : VNet n) (h1 : p.1.length = n.2.1.length) {there : List Bool} (ht : there.length = n.1.length) (out : List Int) :
  iter (fun x => qaG n p x.1 x.2.1 x.2.2.1 x.2.2.2) (-1, 0, out, there) = some (nx n p there n.1.length, out, there) := by
 have hs := hn.small.no
 refine qaB (step := fun x : Int × Int × List Int × List Bool => qaG n p x.1 x.2.1 x.2.2.1 x.2.2.2) n.1.length (fun i => (nx n p there i, (i : Int), out, there)) (fun i hi => ?_) ?_
 ·show qaG n p (nx n p there i) (i : Int) out there = some (.inl (nx n p there (i + 1), ((i + 1 : Nat) : Int), out, there))
  unfold qaG
  rw [dec_t (show (i : Int) < (n.1.length : Int) by omega), cond_true, gd_t (inB_t (by omega)), Int.toNat_natCast, qoP hn h1 ht i out, Option.bind_some, w1 hi (by omega), qqM]
  simp only
  cases hf : freeB n p there i with
  | false => rw [if_neg (by simp)]; rfl
  | true =>
   simp only [cond_true, Option.bind_some]
   by_cases h : nx n p there i < 0
   ·rw [dec_t h, if_pos ⟨h, trivial⟩]; rfl
   ·rw [dec_f h, if_neg (fun hh => h hh.1)]; rfl
 ·show qaG n p (nx n p there n.1.length) ((n.1.length : Nat) : Int) out there = _
  unfold qaG
  rw [dec_f (by omega)]; rfl
theorem qfT {there : List Bool} {k : Nat} (h : nextF n p there = some k) : k < n.1.length ∧ there.getD k false = false := by
 unfold nextF at h
 have h1 := List.mem_of_find?_eq_some h
 have h2 := List.find?_some h
 refine ⟨List.mem_range.1 h1, ?_⟩
 unfold freeB at h2
 cases hg : there.getD k false with
 | false => rfl
 | true => rw [hg] at h2; cases h2
theorem qnc (hn : VNet n) (h1 : p.1.length = n.2.1.length) : ∀ (f : Nat) (there : List Bool) (out : List Int), there.length = n.1.length → there.count false ≤ f → out.length + f ≤ 100 →
  iter (fun x => qax n p x.1 x.2) (out, there) = some (out ++ topo n p f there) := by
 intro f
 induction f with
 | zero =>
  intro there out ht hc ho
  have hnone : nextF n p there = none := by
   cases h : nextF n p there with
   | none => rfl
   | some k => have := qfT h; have := qhO (by omega) this.2; omega
  rw [qbl (e := out) (by
   show qax n p out there = _; unfold qax
   rw [qga hn h1 ht out, Option.bind_some, show nx n p there n.1.length = -1 by unfold nx; unfold nextF at hnone; rw [hnone]]; rfl), qkh hnone, List.append_nil]
 | succ f ih =>
  intro there out ht hc ho
  cases h : nextF n p there with
  | none =>
   rw [qbl (e := out) (by
    show qax n p out there = _; unfold qax
    rw [qga hn h1 ht out, Option.bind_some, show nx n p there n.1.length = -1 by unfold nx; unfold nextF at h; rw [h]]; rfl), qkh h, List.append_nil]
  | some k =>
   have hk := qfT h
   rw [qcz (y := (out ++ [(k : Int)], there.set k true)) (by
    show qax n p out there = _; unfold qax
    rw [qga hn h1 ht out, Option.bind_some, show nx n p there n.1.length = (k : Int) by unfold nx; unfold nextF at h; rw [h]]
    simp only
    rw [dec_f (by omega), cond_false, gd_t (qaj (by omega)), gd_t (inB_t (by omega)), Int.toNat_natCast])]
   have hcs := count_set (l := there) (k := k) (by omega) hk.2
   rw [ih (there.set k true) (out ++ [(k : Int)]) (by rw [List.length_set]; exact ht) (by omega) (by rw [List.length_append]; simp only [List.length_cons, List.length_nil]; omega), topo, h, List.append_assoc]; rfl
theorem qki (hn : VNet n) (h1 : p.1.length = n.2.1.length) : qc5 n p = some (ordL n p) := by
 have hN := hn.small.no
 unfold qc5
 rw [gd_t (qf3 (by omega)), Int.toNat_natCast]
 have := qnc hn h1 n.1.length (List.replicate n.1.length false) [] (by simp) (by simp) (by simp; omega)
 rw [this]; rfl
/-! ### Checks -/
def szB (n : Net) (p : Pl) : Bool := decide (p.1.length = n.2.1.length) && (decide (p.2.1.length = n.2.2.1.length) && decide (p.2.2.length = n.2.2.2.1.length))
def rtB (n : Net) (p : Pl) (i : Nat) : Bool := rg (0 - min 1000 (n.2.1.getD i sg0).2.2.2.1) (min 1000 (n.2.1.getD i sg0).2.2.2.1) (rate p i)
def qio (n : Net) (p : Pl) : Bool := (List.range n.2.1.length).all (rtB n p)
def qhP (p : Pl) : Bool := p.2.1.all (rg (-1000) 1000)
def balP (n : Net) (p : Pl) : Bool := (List.range n.1.length).all fun k => decide (comeF n p (k : Int) = qhM n p (k : Int))
def qdX (n : Net) (p : Pl) : Int := if qdD n ≠ 0 then qdD n else
 bif szB n p then (bif qio n p && qhP p then (bif balP n p then (bif Nat.beq (ordL n p).length n.1.length then 0 else 13) else 12) else 1) else 9
theorem qlq : szB n p = true ↔ p.1.length = n.2.1.length ∧ p.2.1.length = n.2.2.1.length ∧ p.2.2.length = n.2.2.2.1.length := by
 unfold szB; simp only [Bool.and_eq_true, decide_eq_true_iff]
theorem qms {a b x : Int} : rg a b x = true ↔ a ≤ x ∧ x ≤ b := by unfold rg; rw [Bool.and_eq_true, decide_eq_true_iff, decide_eq_true_iff]
theorem qqN (hn : VNet n) {i : Nat} (hi : i < n.2.1.length) : 1 ≤ (n.2.1.getD i sg0).2.2.2.1 ∧ (n.2.1.getD i sg0).2.2.2.1 ≤ 1000000 := by
 have h := hn.pr
 unfold prB at h
 rw [Bool.and_eq_true, List.all_eq_true] at h
 have := h.1 _ (qaL (d := sg0) hi)
 unfold pipeB at this
 simp only [Bool.and_eq_true] at this
 exact qms.1 this.1.2.1
theorem RB.of (hs : szB n p = true) (h1 : qio n p = true) (h2 : qhP p = true) : RB p := by
 obtain ⟨s1, s2, s3⟩ := qlq.1 hs
 refine ⟨fun i => ?_, fun i => ?_⟩
 ·rcases Nat.lt_or_ge i p.1.length with h | h
  ·have := List.all_eq_true.1 h1 i (List.mem_range.2 (by omega))
   unfold rtB at this
   rw [qms] at this; omega
  ·unfold rate; rw [qqc h]; omega
 ·rcases Nat.lt_or_ge i p.2.1.length with h | h
  ·have := List.all_eq_true.1 h2 _ (qaL (d := 0) h)
   rw [qms] at this; unfold prate; omega
  ·unfold prate; rw [qqc h]; omega
theorem qlr (n : Net) : (n.1, (n.2.1, (n.2.2.1, (n.2.2.2.1, (n.2.2.2.2.1, n.2.2.2.2.2))))) = n := rfl
end
end Go.Proofs.Ytikmdoopfpnbbaa
namespace Go.Proofs.Ytikmdoopfpnbbaa
open Go Go.Sq
set_option linter.unusedVariables false
section
variable {n : Net} {p : Pl}
theorem natdec (a b : Nat) : decide ((a : Int) = (b : Int)) = decide (a = b) := by congr 1; rw [Int.natCast_inj]
theorem qip (n : Net) (p : Pl) : qc6 n p = some (qdX n p) := by
 unfold qc6 qdX
 rw [qlr, qhL, Option.bind_some]
 by_cases h0 : qdD n = 0
 ·rw [if_neg (fun h => h h0), dec_t h0, Bool.not_true, cond_false]
  have hn := VNet.of h0
  have es : (
    bif !decide ((p.1.length : Int) = (n.2.1.length : Int)) then some true
    else bif !decide ((p.2.1.length : Int) = (n.2.2.1.length : Int)) then some true
    else some (!decide ((p.2.2.length : Int) = (n.2.2.2.1.length : Int)))) = some (!szB n p) := by
   unfold szB
   rw [natdec, natdec, natdec]
   cases decide (p.1.length = n.2.1.length) <;> cases decide (p.2.1.length = n.2.2.1.length) <;> cases decide (p.2.2.length = n.2.2.2.1.length) <;> rfl
  rw [es, Option.bind_some]
  cases hz : szB n p with
  | false => rfl
  | true =>
   obtain ⟨s1, s2, s3⟩ := qlq.1 hz
   have m1 := hn.small.sg
   have m2 := hn.small.po
   simp only [Bool.not_true, cond_false, cond_true]
   have key : ∀ i, i < n.2.1.length → (bif decide (p.1.getD i 0 < wi64 (0 - (min 1000 (((((n.2.1.getD i ([], (0, (0, (0, (0, (0, []))))))).2).2).2).1)))) then some true
     else some (decide (min 1000 (((((n.2.1.getD i ([], (0, (0, (0, (0, (0, []))))))).2).2).2).1) < p.1.getD i 0))) = some (!rtB n p i) := by
    intro i hi
    have hc := qqN hn hi
    have e : ((((n.2.1.getD i ([], (0, (0, (0, (0, (0, []))))))).2).2).2).1 = (n.2.1.getD i sg0).2.2.2.1 := rfl
    rw [e, wi (by omega)]
    unfold rtB rg rate
    by_cases a : p.1.getD i 0 < 0 - min 1000 (n.2.1.getD i sg0).2.2.2.1
    ·rw [dec_t a, dec_f (show ¬ (0 - min 1000 (n.2.1.getD i sg0).2.2.2.1 ≤ p.1.getD i 0) by omega)]; rfl
    ·rw [dec_f a, dec_t (show (0 - min 1000 (n.2.1.getD i sg0).2.2.2.1 ≤ p.1.getD i 0) by omega), cond_false, Bool.true_and]
     by_cases b : min 1000 (n.2.1.getD i sg0).2.2.2.1 < p.1.getD i 0
     ·rw [dec_t b, dec_f (by omega)]; rfl
     ·rw [dec_f b, dec_t (by omega)]; rfl
   have e1 : iter (fun x => qcb n p x) 0 = some (bif qio n p then .inl () else .inr 1) := by
    unfold qio
    rw [← s1]
    refine qbb (step := fun x => qcb n p x) p.1.length (fun i => (i : Int)) (rtB n p) (fin := .inl ()) (bad := .inr 1) (fun i hi _ hq => ?_) (fun i hi _ hq => ?_) (fun _ => ?_)
    all_goals unfold qcb
    ·rw [dec_t (show (i : Int) < (p.1.length : Int) by omega), cond_true, gd_t (inB_t hi), gd_t (inB_t (show i < n.2.1.length by omega)), Int.toNat_natCast, key i (by omega), hq, Option.bind_some, w1 hi (by omega)]; rfl
    ·rw [dec_t (show (i : Int) < (p.1.length : Int) by omega), cond_true, gd_t (inB_t hi), gd_t (inB_t (show i < n.2.1.length by omega)), Int.toNat_natCast, key i (by omega), hq, Option.bind_some]; rfl
    ·rw [dec_f (by omega)]; rfl
   rw [e1, Option.bind_some]
   cases hr : qio n p with
   | false => rfl
   | true =>
    simp only [cond_true, Sum.elim_inl, Bool.true_and]
    have key2 : ∀ x : Int, (bif decide (x < -1000) then some true else some (decide (1000 < x))) = some (!rg (-1000) 1000 x) := by
     intro x
     unfold rg
     by_cases a : x < -1000
     ·rw [dec_t a, dec_f (show ¬ (-1000 ≤ x) by omega)]; rfl
     ·rw [dec_f a, dec_t (show -1000 ≤ x by omega), cond_false, Bool.true_and]
      by_cases b : 1000 < x
      ·rw [dec_t b, dec_f (by omega)]; rfl
      ·rw [dec_f b, dec_t (by omega)]; rfl
    have e2 : iter (fun x2 => qcc p x2) 0 = some (bif qhP p then .inl () else .inr 1) := by
     refine scanL (step := fun x2 => qcc p x2) p.2.1 0 (rg (-1000) 1000) (bad := 1) (fun i hi hq => ?_) (fun i hi hq => ?_) ?_
     all_goals unfold qcc
     ·rw [dec_t (show (i : Int) < (p.2.1.length : Int) by omega), cond_true, gd_t (inB_t hi), Int.toNat_natCast, key2, hq, Option.bind_some, w1 hi (by omega)]; rfl
     ·rw [dec_t (show (i : Int) < (p.2.1.length : Int) by omega), cond_true, gd_t (inB_t hi), Int.toNat_natCast, key2, hq, Option.bind_some]; rfl
     ·rw [dec_f (by omega)]; rfl
    rw [e2, Option.bind_some]
    cases hq : qhP p with
    | false => rfl
    | true =>
     simp only [cond_true, Sum.elim_inl]
     have hp := RB.of hz hr hq
     have e3 : iter (fun x3 => qcd n p x3) 0 = some (bif balP n p then .inl () else .inr 12) := by
      refine qbb (step := fun x => qcd n p x) n.1.length (fun i => (i : Int)) (fun k => decide (comeF n p (k : Int) = qhM n p (k : Int))) (fin := .inl ()) (bad := .inr 12) (fun i hi _ hq => ?_) (fun i hi _ hq => ?_) (fun _ => ?_)
      all_goals unfold qcd
      ·rw [dec_t (show (i : Int) < (n.1.length : Int) by omega), cond_true, qlr, show ((p.1, (p.2.1, p.2.2)) : Pl) = p from rfl, qmr hp m1 m2 s1 s2, Option.bind_some]
       simp only
       rw [hq, w1 hi (by have := hn.small.no; omega)]; rfl
      ·rw [dec_t (show (i : Int) < (n.1.length : Int) by omega), cond_true, qlr, show ((p.1, (p.2.1, p.2.2)) : Pl) = p from rfl, qmr hp m1 m2 s1 s2, Option.bind_some]
       simp only
       rw [hq]; rfl
      ·rw [dec_f (by omega)]; rfl
     rw [e3, Option.bind_some]
     cases hb : balP n p with
     | false => rfl
     | true =>
      simp only [cond_true, Sum.elim_inl]
      rw [show ((p.1, (p.2.1, p.2.2)) : Pl) = p from rfl, qki hn s1, Option.bind_some, natdec]
      cases ho : Nat.beq (ordL n p).length n.1.length with
      | true => have := Nat.eq_of_beq_eq_true ho; rw [dec_t this]; rfl
      | false =>
       have : (ordL n p).length ≠ n.1.length := fun e => by rw [e, Nat.beq_refl] at ho; cases ho
       rw [dec_f this]; rfl
 ·rw [if_pos h0, dec_f h0]; rfl
structure VPl (n : Net) (p : Pl) : Prop where
 net : qdD n = 0
 sz : szB n p = true
 rt : qio n p = true
 pr : qhP p = true
theorem VPl.of (h : qdX n p = 0) : VPl n p := by
 unfold qdX at h
 by_cases h0 : qdD n = 0
 ·rw [if_neg (fun h => h h0)] at h
  obtain ⟨h1, h⟩ := qe7 (by decide) h
  obtain ⟨h2, h⟩ := qe7 (by decide) h
  rw [Bool.and_eq_true] at h2
  exact ⟨h0, h1, h2.1, h2.2⟩
 ·rw [if_pos h0] at h; exact absurd h h0
theorem VPl.rb (h : VPl n p) : RB p := RB.of h.sz h.rt h.pr
theorem VPl.len (h : VPl n p) : p.1.length = n.2.1.length ∧ p.2.1.length = n.2.2.1.length ∧ p.2.2.length = n.2.2.2.1.length := qlq.1 h.sz
end
end Go.Proofs.Ytikmdoopfpnbbaa
