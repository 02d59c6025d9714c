/- Steps: desks, and what is checked of them. No condition. -/
import Derived.Test.YtnkfkceghbkkkaaGreatFl4
namespace Go.Proofs.YtnkfkceghbkkkaaGreat
open Go Go.Sq
set_option linter.unusedVariables false
abbrev Vl := Int × Int × Bool × Bool
abbrev Dk := List Vl × Pl
abbrev v0 : Vl := (0, (0, (false, false)))
def validV (v : Vl) : Bool := rg 1 60 v.1 && rg 0 v.1 v.2.1
def readyV (v : Vl) : Bool := validV v && (decide (v.2.1 = v.1) && v.2.2.1)
def vlB (n : Net) (l : List Vl) : Bool := decide (l.length = n.2.1.length + n.2.2.1.length) && l.all validV
def rdyB (d : Dk) : Bool := (List.range (need d.2).length).all fun i => !(need d.2).getD i false || readyV (d.1.getD i v0)
def idleAt (n : Net) (p : Pl) (i : Nat) : Bool := p.2.2.getD i false && decide (comeF n p (n.2.2.2.1.getD i sta0).2.1 = 0)
def idleB (n : Net) (p : Pl) : Bool := (List.range n.2.2.2.1.length).any (idleAt n p)
def chkDesk (n : Net) (d : Dk) : Int := if chkNet n ≠ 0 then chkNet n else
 bif vlB n d.1 then (if chkPlan n d.2 ≠ 0 then chkPlan n d.2 else bif rdyB d then (bif idleB n d.2 then 21 else 0) else 21) else 20
section
variable {n : Net} {p : Pl}
theorem valid_eq (v : Vl) : valve_Valid v = some (validV v) := by
 unfold valve_Valid validV rg
 cases decide (1 ≤ v.1) <;> cases decide (v.1 ≤ 60) <;> cases decide (0 ≤ v.2.1) <;> rfl
theorem count_eq (hn : VNet n) : lineup_Count n = some ((n.2.1.length + n.2.2.1.length : Nat) : Int) := by
 have := hn.small.sg
 have := hn.small.po
 unfold lineup_Count
 rw [wi (by omega)]; rfl
end
end Go.Proofs.YtnkfkceghbkkkaaGreat

namespace Go.Proofs.YtnkfkceghbkkkaaGreat
open Go Go.Sq
set_option linter.unusedVariables false
abbrev Hop := Int × Bool
abbrev Pth := Int × Int × List Hop × Int
abbrev Stp := Int × Int × Int × Pth
structure DkS (d : Dk) : Prop where
 v : d.1.length ≤ 100000
 r : d.2.1.length ≤ 100000
 p : d.2.2.1.length ≤ 100000
 b : d.2.2.2.length ≤ 100000
theorem both_same {A : Type} (a b : Option A) (h : a = b) : bothO a b = b := by unfold bothO; rw [if_pos h, h]
theorem cloneV (l : List Vl) (h : l.length ≤ 100000) : slices_Clone_api_Valve_api_Valve l = some l := by
 unfold slices_Clone_api_Valve_api_Valve
 rw [gd_t (fits_t (by omega)), List.nil_append]
 cases l with
 | nil => exact both_same _ _ rfl
 | cons a l => rfl
theorem cloneI (l : List Int) (h : l.length ≤ 100000) : slices_Clone_int_int l = some l := by
 unfold slices_Clone_int_int
 rw [gd_t (fits_t (by omega)), List.nil_append]
 cases l with
 | nil => exact both_same _ _ rfl
 | cons a l => rfl
theorem cloneB (l : List Bool) (h : l.length ≤ 100000) : slices_Clone_bool_bool l = some l := by
 unfold slices_Clone_bool_bool
 rw [gd_t (fits_t (by omega)), List.nil_append]
 cases l with
 | nil => exact both_same _ _ rfl
 | cons a l => rfl
theorem copy_eq {d : Dk} (h : DkS d) : step_Copy d = some d := by
 unfold step_Copy
 rw [cloneV _ h.v, Option.bind_some, cloneI _ h.r, Option.bind_some, cloneI _ h.p, Option.bind_some, cloneB _ h.b]; rfl
/-! ### Kinds -/
def bareP (x : Pth) : Bool := decide (x.1 = 0) && (decide (x.2.1 = 0) && (decide ((x.2.2.1.length : Int) = 0) && decide (x.2.2.2 = 0)))
def blankB (s : Stp) : Bool := bif decide (s.1 = 1) || (decide (s.1 = 2) || (decide (s.1 = 3) || decide (s.1 = 4))) then decide (s.2.2.1 = 0) && bareP s.2.2.2
 else bif decide (s.1 = 5) then decide (s.2.1 = 0) && decide (s.2.2.2.2.2.2 = 0) else bif decide (s.1 = 6) then decide (s.2.1 = 0) && bareP s.2.2.2 else false
/-! ### Paths -/
def sgH (n : Net) (h : Hop) : Seg := n.2.1.getD h.1.toNat sg0
def hopF (n : Net) (h : Hop) : Int := if h.2 = true then (sgH n h).2.2.1 else (sgH n h).2.1
def hopT (n : Net) (h : Hop) : Int := if h.2 = true then (sgH n h).2.1 else (sgH n h).2.2.1
def hopOk (n : Net) (h : Hop) : Bool := decide (0 ≤ h.1) && decide (h.1 < (n.2.1.length : Int))
def walk (n : Net) : List Hop → Int → List Int → Option Int
 | [], at', _ => some at'
 | h :: r, at', ps => bif hopOk n h && (decide (hopF n h = at') && !decide (hopT n h ∈ ps)) then walk n r (hopT n h) (ps ++ [hopT n h]) else none
def ptNode (n : Net) (i : Int) : Int := (n.2.2.1.getD i.toNat po0).2.1
def isPt (n : Net) (i : Int) : Bool := decide (0 ≤ i) && decide (i < (n.2.2.1.length : Int))
def pathB (n : Net) (x : Pth) : Bool := (isPt n x.1 && (isPt n x.2.1 && (!decide (x.1 = x.2.1) && (decide (1 ≤ x.2.2.2) && (decide (x.2.2.2 ≤ 1000) && decide (x.2.2.1.length ≤ 32)))))) &&
 (match walk n x.2.2.1 (ptNode n x.1) [ptNode n x.1] with
  | some a => decide (a = ptNode n x.2.1)
  | none => false)
section
variable {n : Net}
theorem hop_iff {h : Hop} : hopOk n h = true ↔ 0 ≤ h.1 ∧ h.1 < (n.2.1.length : Int) := by unfold hopOk; rw [Bool.and_eq_true, decide_eq_true_iff, decide_eq_true_iff]
theorem isPt_iff {i : Int} : isPt n i = true ↔ 0 ≤ i ∧ i < (n.2.2.1.length : Int) := by unfold isPt; rw [Bool.and_eq_true, decide_eq_true_iff, decide_eq_true_iff]
theorem drop_cons {A : Type} {l : List A} {i : Nat} (d : A) (h : i < l.length) : l.drop i = l.getD i d :: l.drop (i + 1) := by
 rw [List.drop_eq_getElem_cons h, gD_eq h]
end
end Go.Proofs.YtnkfkceghbkkkaaGreat

namespace Go.Proofs.YtnkfkceghbkkkaaGreat
open Go Go.Sq
set_option linter.unusedVariables false
structure VDk (n : Net) (d : Dk) : Prop where
 net : chkNet n = 0
 len : d.1.length = n.2.1.length + n.2.2.1.length
 val : d.1.all validV = true
 pl : chkPlan n d.2 = 0
 rdy : rdyB d = true
 idl : idleB n d.2 = false
def along (p : Pl) (h : Hop) : Int := if h.2 = true then 0 - p.1.getD h.1.toNat 0 else p.1.getD h.1.toNat 0
def sgn (h : Hop) (v : Int) : Int := if h.2 = true then 0 - v else v
def rdPath (n : Net) (d : Dk) (x : Pth) : Bool := readyV (d.1.getD (n.2.1.length + x.1.toNat) v0) && (readyV (d.1.getD (n.2.1.length + x.2.1.toNat) v0) && x.2.2.1.all fun h => readyV (d.1.getD h.1.toNat v0))
def ptOk (p : Pl) (x : Pth) (v : Int) : Bool := decide (0 ≤ p.2.1.getD x.1.toNat 0) && (decide (0 ≤ 0 - p.2.1.getD x.2.1.toNat 0) && (decide (0 ≤ p.2.1.getD x.1.toNat 0 + v) && decide (0 ≤ 0 - p.2.1.getD x.2.1.toNat 0 + v)))
def hpOk (p : Pl) (v : Int) (h : Hop) : Bool := decide (0 ≤ along p h) && decide (0 ≤ along p h + v)
def growB (n : Net) (d : Dk) (x : Pth) (v : Int) : Bool := rdPath n d x && (ptOk d.2 x v && x.2.2.1.all (hpOk d.2 v))
def growR (l : List Hop) (v : Int) (r : List Int) : List Int := l.foldl (fun r h => r.set h.1.toNat (r.getD h.1.toNat 0 + sgn h v)) r
def growQ (x : Pth) (v : Int) (q : List Int) : List Int := (q.set x.1.toNat (q.getD x.1.toNat 0 + v)).set x.2.1.toNat ((q.set x.1.toNat (q.getD x.1.toNat 0 + v)).getD x.2.1.toNat 0 - v)
def growP (x : Pth) (v : Int) (p : Pl) : Pl := (growR x.2.2.1 v p.1, growQ x v p.2.1, p.2.2)
section
variable {n : Net}
theorem VDk.of {d : Dk} (h : chkDesk n d = 0) : VDk n d := by
 unfold chkDesk at h
 by_cases h0 : chkNet n = 0
 ·rw [if_neg (fun e => e h0)] at h
  obtain ⟨h1, h⟩ := bif_ne (by decide) h
  unfold vlB at h1
  rw [Bool.and_eq_true, decide_eq_true_iff] at h1
  by_cases hp : chkPlan n d.2 = 0
  ·rw [if_neg (fun e => e hp)] at h
   obtain ⟨h2, h⟩ := bif_ne (by decide) h
   cases hi : idleB n d.2 with
   | true => rw [hi] at h; cases h
   | false => exact ⟨h0, h1.1, h1.2, hp, h2, hi⟩
  ·rw [if_pos hp] at h; exact absurd h hp
 ·rw [if_pos h0] at h; exact absurd h h0
theorem VDk.to {d : Dk} (h : VDk n d) : chkDesk n d = 0 := by
 unfold chkDesk vlB
 rw [if_neg (fun e => e h.net), dec_t h.len, h.val, if_neg (fun e => e h.pl), h.rdy, h.idl]; rfl
theorem VDk.sz {d : Dk} (h : VDk n d) : d.2.1.length = n.2.1.length ∧ d.2.2.1.length = n.2.2.1.length ∧ d.2.2.2.length = n.2.2.2.1.length := (VPl.of h.pl).len
theorem VDk.small {d : Dk} (h : VDk n d) : DkS d := by
 have hn := (VNet.of h.net).small
 have := h.len; have := h.sz; have := hn.sg; have := hn.po; have := hn.st
 exact ⟨by omega, by omega, by omega, by omega⟩
structure VPa (n : Net) (x : Pth) : Prop where
 i : 0 ≤ x.1 ∧ x.1 < (n.2.2.1.length : Int)
 o : 0 ≤ x.2.1 ∧ x.2.1 < (n.2.2.1.length : Int)
 ne : x.1 ≠ x.2.1
 hl : x.2.2.1.length ≤ 32
 h : ∀ h ∈ x.2.2.1, 0 ≤ h.1 ∧ h.1 < (n.2.1.length : Int)
 d : ∀ i j, i < j → j < x.2.2.1.length → (x.2.2.1.getD i (0, false)).1 ≠ (x.2.2.1.getD j (0, false)).1
theorem walk_ok : ∀ {l : List Hop} {a : Int} {ps : List Int} {b : Int}, walk n l a ps = some b → ∀ h ∈ l, (0 ≤ h.1 ∧ h.1 < (n.2.1.length : Int)) ∧ hopT n h ∉ ps
 | [], _, _, _, _ => fun h hh => by cases hh
 | h :: l, a, ps, b, hw => by
  unfold walk at hw
  cases hc : (hopOk n h && (decide (hopF n h = a) && !decide (hopT n h ∈ ps))) with
  | false => rw [hc] at hw; cases hw
  | true =>
   rw [hc, cond_true] at hw
   rw [Bool.and_eq_true, Bool.and_eq_true] at hc
   intro h' hh
   rcases List.mem_cons.1 hh with rfl | hh
   ·exact ⟨hop_iff.1 hc.1, by simpa using hc.2.2⟩
   ·have := walk_ok hw h' hh
    exact ⟨this.1, fun hm => this.2 (List.mem_append_left _ hm)⟩
theorem walk_ne : ∀ {l : List Hop} {a : Int} {ps : List Int} {b : Int}, a ∈ ps → walk n l a ps = some b → ∀ i j, i < j → j < l.length → (l.getD i (0, false)).1 ≠ (l.getD j (0, false)).1
 | [], _, _, _, _, _ => fun i j _ hj => by cases hj
 | h :: l, a, ps, b, ha, hw => by
  unfold walk at hw
  cases hc : (hopOk n h && (decide (hopF n h = a) && !decide (hopT n h ∈ ps))) with
  | false => rw [hc] at hw; cases hw
  | true =>
   rw [hc, cond_true] at hw
   rw [Bool.and_eq_true, Bool.and_eq_true, decide_eq_true_iff] at hc
   have hrec := walk_ne (List.mem_append_right ps (List.mem_singleton.2 rfl)) hw
   have all := walk_ok hw
   intro i j hij hj
   cases j with
   | zero => omega
   | succ j =>
    cases i with
    | succ i => exact hrec i j (by omega) (by simpa using hj)
    | zero =>
     show h.1 ≠ (l.getD j (0, false)).1
     intro e
     have hm : l.getD j (0, false) ∈ l := gD_mem (by simpa using hj)
     refine (all _ hm).2 ?_
     have es : sgH n (l.getD j (0, false)) = sgH n h := by unfold sgH; rw [e]
     have : hopT n (l.getD j (0, false)) = hopT n h ∨ hopT n (l.getD j (0, false)) = hopF n h := by
      unfold hopT hopF
      rw [es]
      cases (l.getD j (0, false)).2 <;> cases h.2 <;> simp
     rcases this with h1 | h1
     ·rw [h1]; exact List.mem_append_right _ (List.mem_singleton.2 rfl)
     ·rw [h1, hc.2.1]; exact List.mem_append_left _ ha
theorem VPa.of {x : Pth} (h : pathB n x = true) : VPa n x := by
 unfold pathB at h
 simp only [Bool.and_eq_true, Bool.not_eq_true', decide_eq_true_iff, decide_eq_false_iff_not] at h
 obtain ⟨⟨h1, h2, h3, h4, h5, h6⟩, hw⟩ := h
 split at hw
 ·rename_i a ha
  exact ⟨isPt_iff.1 h1, isPt_iff.1 h2, h3, h6, fun h hh => (walk_ok ha h hh).1, walk_ne (List.mem_singleton.2 rfl) ha⟩
 ·cases hw
theorem VDk.rate {d : Dk} (h : VDk n d) (k : Nat) : -1000 ≤ d.2.1.getD k 0 ∧ d.2.1.getD k 0 ≤ 1000 := (VPl.of h.pl).rb.s k
theorem VDk.prate {d : Dk} (h : VDk n d) (k : Nat) : -1000 ≤ d.2.2.1.getD k 0 ∧ d.2.2.1.getD k 0 ≤ 1000 := (VPl.of h.pl).rb.q k
end
end Go.Proofs.YtnkfkceghbkkkaaGreat

namespace Go.Proofs.YtnkfkceghbkkkaaGreat
open Go Go.Sq
set_option linter.unusedVariables false
def cmdV (v : Vl) (w : Bool) : Vl := (v.1, (v.2.1, (w, v.2.2.2)))
def movO (v : Vl) (t : Int) : Int := bif v.2.2.2 then v.2.1 else (if v.2.1 < (bif v.2.2.1 then v.1 else 0) then min (bif v.2.2.1 then v.1 else 0) (v.2.1 + t) else max (bif v.2.2.1 then v.1 else 0) (v.2.1 - t))
def movV (v : Vl) (t : Int) : Vl := (v.1, (movO v t, (v.2.2.1, v.2.2.2)))
def absP (s : Stp) : Pth := (s.2.2.2.1, (s.2.2.2.2.1, (s.2.2.2.2.2.1, max s.2.2.1 (0 - s.2.2.1))))
def turnS (n : Net) (d : Dk) (s : Stp) : Dk × Int := bif !(decide (0 ≤ s.2.1) && decide (s.2.1 < (d.1.length : Int))) then (d, 8) else
 bif decide (s.1 = 2) && (need d.2).getD s.2.1.toNat false then (d, 22) else ((d.1.set s.2.1.toNat (cmdV (d.1.getD s.2.1.toNat v0) (decide (s.1 = 1))), d.2), 0)
def setP (p : Pl) (i : Nat) (b : Bool) : Pl := (p.1, (p.2.1, p.2.2.set i b))
def runS (n : Net) (d : Dk) (s : Stp) : Dk × Int := bif !(decide (0 ≤ s.2.1) && decide (s.2.1 < (n.2.2.2.1.length : Int))) then (d, 8) else
 bif decide (s.1 = 3) && decide (comeF n d.2 (n.2.2.2.1.getD s.2.1.toNat sta0).2.1 = 0) then (d, 22) else ((d.1, setP d.2 s.2.1.toNat (decide (s.1 = 3))), 0)
def chgS (n : Net) (d : Dk) (s : Stp) : Dk × Int := bif !rg (-1000) 1000 s.2.2.1 then (d, 23) else
 bif !pathB n (absP s) then (d, 23) else bif !growB n d (absP s) s.2.2.1 then (d, 22) else
 (if chkPlan n (growP (absP s) s.2.2.1 d.2) ≠ 0 then (d, chkPlan n (growP (absP s) s.2.2.1 d.2)) else bif idleB n (growP (absP s) s.2.2.1 d.2) then (d, 22) else ((d.1, growP (absP s) s.2.2.1 d.2), 0))
def waitS (d : Dk) (s : Stp) : Dk × Int := bif !rg 1 100 s.2.2.1 then (d, 1) else ((d.1.map fun v => movV v s.2.2.1, d.2), 0)
def stepS (n : Net) (d : Dk) (s : Stp) : Dk × Int := bif !blankB s then (d, 22) else
 bif decide (s.1 = 1) || decide (s.1 = 2) then turnS n d s else bif decide (s.1 = 3) || decide (s.1 = 4) then runS n d s else bif decide (s.1 = 5) then chgS n d s else waitS d s
def appS (n : Net) (d : Dk) (s : Stp) : Dk × Int := if chkDesk n d ≠ 0 then (d, chkDesk n d) else stepS n d s
section
variable {n : Net}
/-! ### Waiting -/
end
end Go.Proofs.YtnkfkceghbkkkaaGreat
