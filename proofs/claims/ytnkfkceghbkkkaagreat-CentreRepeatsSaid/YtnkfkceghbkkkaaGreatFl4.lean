/- Flows: what comes to the nodes and leaves them. No condition. -/
import Derived.Test.YtnkfkceghbkkkaaGreatNk4
namespace Go.Proofs.YtnkfkceghbkkkaaGreat
open Go Go.Sq
set_option linter.unusedVariables false
abbrev Pl := List Int × List Int × List Bool
def sumTo (f : Nat → Int) : Nat → Int
 | 0 => 0
 | n + 1 => sumTo f n + f n
def rate (p : Pl) (i : Nat) : Int := p.1.getD i 0
def prate (p : Pl) (i : Nat) : Int := p.2.1.getD i 0
def frm (n : Net) (p : Pl) (i : Nat) : Int := if rate p i < 0 then (n.2.1.getD i sg0).2.2.1 else (n.2.1.getD i sg0).2.1
def tow (n : Net) (p : Pl) (i : Nat) : Int := if rate p i < 0 then (n.2.1.getD i sg0).2.1 else (n.2.1.getD i sg0).2.2.1
def amt (x : Int) : Int := max x (0 - x)
def segIn (n : Net) (p : Pl) (k : Int) (i : Nat) : Int := if tow n p i = k then amt (rate p i) else 0
def segOut (n : Net) (p : Pl) (k : Int) (i : Nat) : Int := if frm n p i = k then amt (rate p i) else 0
def portIn (n : Net) (p : Pl) (k : Int) (i : Nat) : Int := if (n.2.2.1.getD i po0).2.1 = k then max 0 (prate p i) else 0
def portOut (n : Net) (p : Pl) (k : Int) (i : Nat) : Int := if (n.2.2.1.getD i po0).2.1 = k then max 0 (0 - prate p i) else 0
def comeF (n : Net) (p : Pl) (k : Int) : Int := sumTo (segIn n p k) n.2.1.length + sumTo (portIn n p k) n.2.2.1.length
def leaveF (n : Net) (p : Pl) (k : Int) : Int := sumTo (segOut n p k) n.2.1.length + sumTo (portOut n p k) n.2.2.1.length
structure RB (p : Pl) : Prop where
 s : ∀ i, -1000 ≤ rate p i ∧ rate p i ≤ 1000
 q : ∀ i, -1000 ≤ prate p i ∧ prate p i ≤ 1000
section
variable {n : Net} {p : Pl}
end
structure KnP (n : Net) : Prop where
 s : ∀ i, i < n.2.1.length → (0 ≤ (n.2.1.getD i sg0).2.1 ∧ (n.2.1.getD i sg0).2.1 < n.1.length) ∧ (0 ≤ (n.2.1.getD i sg0).2.2.1 ∧ (n.2.1.getD i sg0).2.2.1 < n.1.length)
 p : ∀ i, i < n.2.2.1.length → 0 ≤ (n.2.2.1.getD i po0).2.1 ∧ (n.2.2.1.getD i po0).2.1 < n.1.length
 t : ∀ i, i < n.2.2.2.1.length → 0 ≤ (n.2.2.2.1.getD i sta0).2.1 ∧ (n.2.2.2.1.getD i sta0).2.1 < n.1.length
theorem kn_iff {n : Net} {k : Int} : kn n k = true ↔ 0 ≤ k ∧ k < n.1.length := by
 unfold kn; rw [Bool.and_eq_true, decide_eq_true_iff, decide_eq_true_iff]
theorem KnP.of {n : Net} (h : knB n = true) : KnP n := by
 unfold knB at h
 simp only [Bool.and_eq_true, List.all_eq_true] at h
 exact ⟨fun i hi => by have := h.1 _ (gD_mem (d := sg0) hi); rwa [kn_iff, kn_iff] at this, fun i hi => by have := h.2.1 _ (gD_mem (d := po0) hi); rwa [kn_iff] at this, fun i hi => by have := h.2.2 _ (gD_mem (d := sta0) hi); rwa [kn_iff] at this⟩
structure VNet (n : Net) : Prop where
 small : Small n
 kn : KnP n
 pr : prB n = true
theorem bif_ne {c : Bool} {a b : Int} (hb : b ≠ 0) (h : (bif c then a else b) = 0) : c = true ∧ a = 0 := by
 cases c
 ·exact absurd h hb
 ·exact ⟨rfl, h⟩
theorem VNet.of {n : Net} (h : chkNet n = 0) : VNet n := by
 unfold chkNet at h
 obtain ⟨h1, h⟩ := bif_ne (by decide) h
 obtain ⟨h2, h⟩ := bif_ne (by decide) h
 cases h3 : twB n with
 | true => rw [h3] at h; cases h
 | false =>
  rw [h3] at h; simp only [cond_false] at h
  obtain ⟨h4, h⟩ := bif_ne (by decide) h
  obtain ⟨h5, h⟩ := bif_ne (by decide) h
  exact ⟨(limB_iff n).1 h1, KnP.of h4, h5⟩
/-! ### The program's sums -/
end Go.Proofs.YtnkfkceghbkkkaaGreat

namespace Go.Proofs.YtnkfkceghbkkkaaGreat
open Go Go.Sq
set_option linter.unusedVariables false
section
variable {n : Net} {p : Pl}
/-! ### The order -/
def blk (n : Net) (p : Pl) (there : List Bool) (k : Nat) (i : Nat) : Bool := !decide (rate p i = 0) && (decide (tow n p i = (k : Int)) && !there.getD (frm n p i).toNat false)
def freeB (n : Net) (p : Pl) (there : List Bool) (k : Nat) : Bool := !there.getD k false && !(List.range n.2.1.length).any (blk n p there k)
def nextF (n : Net) (p : Pl) (there : List Bool) : Option Nat := (List.range n.1.length).find? (freeB n p there)
def topo (n : Net) (p : Pl) : Nat → List Bool → List Int
 | 0, _ => []
 | f + 1, there => match nextF n p there with
  | none => []
  | some k => (k : Int) :: topo n p f (there.set k true)
def ordL (n : Net) (p : Pl) : List Int := topo n p n.1.length (List.replicate n.1.length false)
end
end Go.Proofs.YtnkfkceghbkkkaaGreat

namespace Go.Proofs.YtnkfkceghbkkkaaGreat
open Go Go.Sq
set_option linter.unusedVariables false
section
variable {n : Net} {p : Pl}
/-! ### Checks -/
def szB (n : Net) (p : Pl) : Bool := decide (p.1.length = n.2.1.length) && (decide (p.2.1.length = n.2.2.1.length) && decide (p.2.2.length = n.2.2.2.1.length))
def rtB (n : Net) (p : Pl) (i : Nat) : Bool := rg (0 - min 1000 (n.2.1.getD i sg0).2.2.2.1) (min 1000 (n.2.1.getD i sg0).2.2.2.1) (rate p i)
def ratesB (n : Net) (p : Pl) : Bool := (List.range n.2.1.length).all (rtB n p)
def pratesB (p : Pl) : Bool := p.2.1.all (rg (-1000) 1000)
def balB (n : Net) (p : Pl) : Bool := (List.range n.1.length).all fun k => decide (comeF n p (k : Int) = leaveF n p (k : Int))
def chkPlan (n : Net) (p : Pl) : Int := if chkNet n ≠ 0 then chkNet n else
 bif szB n p then (bif ratesB n p && pratesB p then (bif balB n p then (bif Nat.beq (ordL n p).length n.1.length then 0 else 13) else 12) else 1) else 9
theorem szB_iff : szB n p = true ↔ p.1.length = n.2.1.length ∧ p.2.1.length = n.2.2.1.length ∧ p.2.2.length = n.2.2.2.1.length := by
 unfold szB; simp only [Bool.and_eq_true, decide_eq_true_iff]
theorem rg_iff {a b x : Int} : rg a b x = true ↔ a ≤ x ∧ x ≤ b := by unfold rg; rw [Bool.and_eq_true, decide_eq_true_iff, decide_eq_true_iff]
theorem RB.of (hs : szB n p = true) (h1 : ratesB n p = true) (h2 : pratesB p = true) : RB p := by
 obtain ⟨s1, s2, s3⟩ := szB_iff.1 hs
 refine ⟨fun i => ?_, fun i => ?_⟩
 ·rcases Nat.lt_or_ge i p.1.length with h | h
  ·have := List.all_eq_true.1 h1 i (List.mem_range.2 (by omega))
   unfold rtB at this
   rw [rg_iff] at this; omega
  ·unfold rate; rw [gD_out h]; omega
 ·rcases Nat.lt_or_ge i p.2.1.length with h | h
  ·have := List.all_eq_true.1 h2 _ (gD_mem (d := 0) h)
   rw [rg_iff] at this; unfold prate; omega
  ·unfold prate; rw [gD_out h]; omega
theorem net_eta (n : Net) : (n.1, (n.2.1, (n.2.2.1, (n.2.2.2.1, (n.2.2.2.2.1, n.2.2.2.2.2))))) = n := rfl
end
end Go.Proofs.YtnkfkceghbkkkaaGreat

namespace Go.Proofs.YtnkfkceghbkkkaaGreat
open Go Go.Sq
set_option linter.unusedVariables false
section
variable {n : Net} {p : Pl}
structure VPl (n : Net) (p : Pl) : Prop where
 net : chkNet n = 0
 sz : szB n p = true
 rt : ratesB n p = true
 pr : pratesB p = true
theorem VPl.of (h : chkPlan n p = 0) : VPl n p := by
 unfold chkPlan at h
 by_cases h0 : chkNet n = 0
 ·rw [if_neg (fun h => h h0)] at h
  obtain ⟨h1, h⟩ := bif_ne (by decide) h
  obtain ⟨h2, h⟩ := bif_ne (by decide) h
  rw [Bool.and_eq_true] at h2
  exact ⟨h0, h1, h2.1, h2.2⟩
 ·rw [if_pos h0] at h; exact absurd h h0
theorem VPl.rb (h : VPl n p) : RB p := RB.of h.sz h.rt h.pr
theorem VPl.len (h : VPl n p) : p.1.length = n.2.1.length ∧ p.2.1.length = n.2.2.1.length ∧ p.2.2.length = n.2.2.2.1.length := szB_iff.1 h.sz
/-! ### Lineups -/
def nz (l : List Int) : List Bool := l.map fun r => !decide (r = 0)
def need (p : Pl) : List Bool := nz p.1 ++ nz p.2.1
end
end Go.Proofs.YtnkfkceghbkkkaaGreat
