/- Steps: desks, and what is checked of them. No condition. -/
import Derived.Test.YtnkfkceghbkkkaaGreatFl4
namespace Go.Proofs.YtnkfkceghbkkkaaGreat
open Go Go.Sq
set_option linter.unusedVariables false
abbrev Vl := Int × Int × Bool × Bool
abbrev Dk := List Vl × Pl
abbrev v0 : Vl := (0, (0, (false, false)))
def qcA (v : Vl) : Bool := rg 1 60 v.1 && rg 0 v.1 v.2.1
def qcB (v : Vl) : Bool := qcA v && (decide (v.2.1 = v.1) && v.2.2.1)
def vlB (n : Net) (l : List Vl) : Bool := decide (l.length = n.2.1.length + n.2.2.1.length) && l.all qcA
def rdyB (d : Dk) : Bool := (List.range (need d.2).length).all fun i => !(need d.2).getD i false || qcB (d.1.getD i v0)
def qi7 (n : Net) (p : Pl) (i : Nat) : Bool := p.2.2.getD i false && decide (comeF n p (n.2.2.2.1.getD i sta0).2.1 = 0)
def idleB (n : Net) (p : Pl) : Bool := (List.range n.2.2.2.1.length).any (qi7 n p)
def qc2 (n : Net) (d : Dk) : Int := if qca n ≠ 0 then qca n else
 bif vlB n d.1 then (if qaY n d.2 ≠ 0 then qaY n d.2 else bif rdyB d then (bif idleB n d.2 then 21 else 0) else 21) else 20
section
variable {n : Net} {p : Pl}
theorem valid_eq (v : Vl) : qc9 v = some (qcA v) := by
 unfold qc9 qcA rg
 cases decide (1 ≤ v.1) <;> cases decide (v.1 ≤ 60) <;> cases decide (0 ≤ v.2.1) <;> rfl
theorem qr4 (v : Vl) : qiB v = some (qcA v) := valid_eq v
theorem qwm (v : Vl) : qkg v = some (qcA v && decide (v.2.1 = v.1)) := by
 unfold qkg
 rw [show ((v.1, (v.2.1, (v.2.2.1, v.2.2.2))) : Vl) = v from rfl, valid_eq, Option.bind_some]
 cases qcA v <;> rfl
theorem qua (v : Vl) : qm5 v = some (qcA v && decide (v.2.1 = v.1)) := qwm v
theorem qq2 (v : Vl) : qhN v = some (qcB v) := by
 unfold qhN qcB
 rw [show ((v.1, (v.2.1, (v.2.2.1, v.2.2.2))) : Vl) = v from rfl, qwm, Option.bind_some]
 cases qcA v <;> cases decide (v.2.1 = v.1) <;> rfl
theorem qwn (h : qaY n p = 0) {i : Nat} (hi : i < n.2.2.2.1.length) : thr n p (n.2.2.2.1.getD i sta0).2.1 = (comeF n p (n.2.2.2.1.getD i sta0).2.1, 0) := by
 unfold thr
 have hn := VNet.of (VPl.of h).net
 rw [if_neg (fun e => e h), qpX.2 (hn.kn.t i hi)]; rfl
theorem qpi (h : qaY n p = 0) {i : Nat} (hi : i < n.2.2.2.1.length) : qgs n p (i : Int) = some (!decide (comeF n p (n.2.2.2.1.getD i sta0).2.1 = 0)) := by
 unfold qgs
 rw [gd_t (inB_t hi), Int.toNat_natCast, qa7, qz4, Option.bind_some, show ((n.2.2.2.1.getD i ([], (0, (0, (0, 0))))).2).1 = (n.2.2.2.1.getD i sta0).2.1 from rfl, show ((p.1, (p.2.1, p.2.2)) : Pl) = p from rfl, qwn h hi]; rfl
theorem qub (h : qaY n p = 0) : qhO n p = some (idleB n p) := by
 have hv := VPl.of h
 have hn := VNet.of hv.net
 have hl := hv.len.2.2
 have hs := hn.small.st
 unfold qhO
 have := scanN (ε := Unit ⊕ Bool) (step := fun x => qii n p x) n.2.2.2.1.length (qi7 n p) (fin := .inl ()) (bad := .inr true) (fun i hi hq => ?_) (fun i hi hq => ?_) ?_
 ·rw [this, Option.bind_some]; unfold idleB
  cases (List.range n.2.2.2.1.length).any (qi7 n p) <;> rfl
 all_goals unfold qii
 ·rw [dec_t (show (i : Int) < (p.2.2.length : Int) by omega), cond_true, gd_t (inB_t (by omega)), Int.toNat_natCast, dec_t (show (i : Int) < (n.2.2.2.1.length : Int) by omega), qa7, show ((p.1, (p.2.1, p.2.2)) : Pl) = p from rfl, qpi h hi, w1 hi (by omega)]
  unfold qi7 at hq
  cases hp : p.2.2.getD i false with
  | false => rfl
  | true =>
   rw [hp, Bool.true_and] at hq
   simp only [cond_true, Option.bind_some, hq, Bool.not_false, Bool.not_true, cond_false]
 ·rw [dec_t (show (i : Int) < (p.2.2.length : Int) by omega), cond_true, gd_t (inB_t (by omega)), Int.toNat_natCast, dec_t (show (i : Int) < (n.2.2.2.1.length : Int) by omega), qa7, show ((p.1, (p.2.1, p.2.2)) : Pl) = p from rfl, qpi h hi]
  unfold qi7 at hq
  rw [Bool.and_eq_true] at hq
  rw [hq.1]
  simp only [cond_true, Option.bind_some, hq.2, Bool.not_true, Bool.not_false]
 ·rw [dec_f (by omega)]; rfl
theorem qze (h : qaY n p = 0) : qmx n p = some (!idleB n p) := by
 have hv := VPl.of h
 have hn := VNet.of hv.net
 have hl := hv.len.2.2
 have hs := hn.small.st
 unfold qmx
 have := scanN (ε := Unit ⊕ Bool) (step := fun x => qj0 n p x) n.2.2.2.1.length (qi7 n p) (fin := .inl ()) (bad := .inr false) (fun i hi hq => ?_) (fun i hi hq => ?_) ?_
 ·rw [this, Option.bind_some]; unfold idleB
  cases (List.range n.2.2.2.1.length).any (qi7 n p) <;> rfl
 all_goals unfold qj0
 ·rw [dec_t (show (i : Int) < (n.2.2.2.1.length : Int) by omega), cond_true, gd_t (inB_t (by omega)), Int.toNat_natCast, gd_t (inB_t hi), qa7, show ((p.1, (p.2.1, p.2.2)) : Pl) = p from rfl, show ((n.2.2.2.1.getD i ([], (0, (0, (0, 0))))).2).1 = (n.2.2.2.1.getD i sta0).2.1 from rfl, qwk, qwn h hi, w1 hi (by omega)]
  unfold qi7 at hq
  cases hp : p.2.2.getD i false with
  | false => rfl
  | true =>
   rw [hp, Bool.true_and] at hq
   simp only [cond_true, Option.bind_some, hq, dec_t, Bool.not_true, cond_false, Sum.elim_inl]
 ·rw [dec_t (show (i : Int) < (n.2.2.2.1.length : Int) by omega), cond_true, gd_t (inB_t (by omega)), Int.toNat_natCast, gd_t (inB_t hi), qa7, show ((p.1, (p.2.1, p.2.2)) : Pl) = p from rfl, show ((n.2.2.2.1.getD i ([], (0, (0, (0, 0))))).2).1 = (n.2.2.2.1.getD i sta0).2.1 from rfl, qwk, qwn h hi]
  unfold qi7 at hq
  rw [Bool.and_eq_true] at hq
  rw [hq.1]
  simp only [cond_true, Option.bind_some, hq.2, dec_t, Bool.not_true, cond_false, Sum.elim_inr]
 ·rw [dec_f (by omega)]; rfl
theorem qmC (h : szB n p = true) : (need p).length = n.2.1.length + n.2.2.1.length := by
 have := qna.1 h
 unfold need; rw [List.length_append, qhm, qhm]; omega
theorem qz5 (d : Dk) (hl : (need d.2).length ≤ d.1.length) (hs : d.1.length ≤ 1000) : iter (fun x => qbR d (need d.2) x.1 x.2) (0, need d.2) = some (bif rdyB d then .inl () else .inr 21) := by
 refine qbf (step := fun x : Int × List Bool => qbR d (need d.2) x.1 x.2) (need d.2).length (fun i => ((i : Int), need d.2)) (fun i => !(need d.2).getD i false || qcB (d.1.getD i v0)) (fin := .inl ()) (bad := .inr 21) (fun i hi _ hq => ?_) (fun i hi _ hq => ?_) (fun _ => ?_)
 ·show qbR d (need d.2) (i : Int) (need d.2) = _
  unfold qbR
  rw [dec_t (show (i : Int) < ((need d.2).length : Int) by omega), cond_true, gd_t (inB_t hi), gd_t (inB_t (by omega)), Int.toNat_natCast, show (d.1.getD i (0, (0, (false, false)))) = d.1.getD i v0 from rfl, qq2, w1 hi (by omega)]
  cases hp : (need d.2).getD i false with
  | false => rfl
  | true =>
   rw [hp] at hq
   simp only [Bool.not_true, Bool.false_or] at hq
   rw [hq]; rfl
 ·show qbR d (need d.2) (i : Int) (need d.2) = _
  unfold qbR
  rw [dec_t (show (i : Int) < ((need d.2).length : Int) by omega), cond_true, gd_t (inB_t hi), gd_t (inB_t (by omega)), Int.toNat_natCast, show (d.1.getD i (0, (0, (false, false)))) = d.1.getD i v0 from rfl, qq2]
  rw [Bool.or_eq_false_iff] at hq
  have h1 : (need d.2).getD i false = true := by simpa using hq.1
  rw [h1, hq.2]; rfl
 ·show qbR d (need d.2) (((need d.2).length : Nat) : Int) (need d.2) = _
  unfold qbR
  rw [dec_f (by omega)]; rfl
theorem qzf (d : Dk) (hl : (need d.2).length ≤ d.1.length) (hs : d.1.length ≤ 1000) : iter (fun x => qbv d x.1 x.2) (0, need d.2) = some (bif rdyB d then .inl () else .inr 21) := by
 refine qbf (step := fun x : Int × List Bool => qbv d x.1 x.2) (need d.2).length (fun i => ((i : Int), need d.2)) (fun i => !(need d.2).getD i false || qcB (d.1.getD i v0)) (fin := .inl ()) (bad := .inr 21) (fun i hi _ hq => ?_) (fun i hi _ hq => ?_) (fun _ => ?_)
 ·show qbv d (i : Int) (need d.2) = _
  unfold qbv
  have hB : inB (i : Int) d.1.length = true := inB_t (by omega)
  rw [dec_t (show (i : Int) < ((need d.2).length : Int) by omega), cond_true, gd_t (inB_t hi)]
  simp only [gd_t hB, Int.toNat_natCast]
  rw [show (d.1.getD i (0, (0, (false, false)))) = d.1.getD i v0 from rfl, qua, w1 hi (by omega)]
  cases hp : (need d.2).getD i false with
  | false => rfl
  | true =>
   rw [hp] at hq
   simp only [Bool.not_true, Bool.false_or] at hq
   unfold qcB at hq
   rw [Bool.and_eq_true, Bool.and_eq_true] at hq
   rw [hq.1, hq.2.1, hq.2.2]; rfl
 ·show qbv d (i : Int) (need d.2) = _
  unfold qbv
  have hB : inB (i : Int) d.1.length = true := inB_t (by omega)
  rw [dec_t (show (i : Int) < ((need d.2).length : Int) by omega), cond_true, gd_t (inB_t hi)]
  simp only [gd_t hB, Int.toNat_natCast]
  rw [show (d.1.getD i (0, (0, (false, false)))) = d.1.getD i v0 from rfl, qua]
  rw [Bool.or_eq_false_iff] at hq
  have h1 : (need d.2).getD i false = true := by simpa using hq.1
  have h2 := hq.2
  unfold qcB at h2
  rw [h1]
  revert h2
  cases qcA (d.1.getD i v0) <;> cases decide ((d.1.getD i v0).2.1 = (d.1.getD i v0).1) <;> cases (d.1.getD i v0).2.2.1 <;> intro h2 <;> first | rfl | cases h2
 ·show qbv d (((need d.2).length : Nat) : Int) (need d.2) = _
  unfold qbv
  rw [dec_f (by omega)]; rfl
theorem qq3 (hn : VNet n) : qfy n = some ((n.2.1.length + n.2.2.1.length : Nat) : Int) := by
 have := hn.small.sg
 have := hn.small.po
 unfold qfy
 rw [wi (by omega)]; rfl
theorem qwo (hn : VNet n) : qiA n = some ((n.2.1.length + n.2.2.1.length : Nat) : Int) := qq3 hn
theorem qr5 (n : Net) (d : Dk) : qkh n d = some (qc2 n d) := by
 unfold qkh qc2
 rw [qa7, qgQ, Option.bind_some]
 by_cases h0 : qca n = 0
 ·have hn := VNet.of h0
  have m1 := hn.small.sg
  have m2 := hn.small.po
  rw [dec_t h0, if_neg (fun e => e h0), Bool.not_true, cond_false, qq3 hn, Option.bind_some, natdec]
  have e1 : (bif !decide (d.1.length = n.2.1.length + n.2.2.1.length) then some true
    else (qaq d.1 (fun h => (qfA h.1).bind fun y => some y)).bind fun r3 => some r3) = some (!vlB n d.1) := by
   unfold vlB
   by_cases hl : d.1.length = n.2.1.length + n.2.2.1.length
   ·rw [dec_t hl, Bool.not_true, cond_false, qiG d.1 (fun v => !qcA v) _ (fun v _ => by
     show (qfA v).bind _ = _
     unfold qfA
     rw [show ((v.1, (v.2.1, (v.2.2.1, v.2.2.2))) : Vl) = v from rfl, valid_eq]; rfl) (by omega), Option.bind_some, Bool.true_and]
    congr 1
    simp [List.all_eq_not_any_not]
   ·rw [dec_f hl]; rfl
  rw [e1, Option.bind_some]
  cases hv : vlB n d.1 with
  | false => rfl
  | true =>
   have hl : d.1.length = n.2.1.length + n.2.2.1.length := by
    unfold vlB at hv; rw [Bool.and_eq_true, decide_eq_true_iff] at hv; exact hv.1
   simp only [Bool.not_true, cond_false, cond_true]
   rw [show ((d.2.1, (d.2.2.1, d.2.2.2)) : Pl) = d.2 from rfl, qhl, Option.bind_some, qwl, Option.bind_some]
   by_cases hp : qaY n d.2 = 0
   ·have hz := (VPl.of hp).sz
    have hnl := qmC hz
    have hzl := (VPl.of hp).len
    rw [dec_t hp, if_neg (fun e => e hp), if_neg (fun e => e hp)]
    simp only [Bool.not_true, cond_false, decide_true]
    rw [qpY _ _ (by rw [qhm]; omega) (by rw [qhm]; omega), Option.bind_some, show nz d.2.1 ++ nz d.2.2.1 = need d.2 from rfl, qz5 d (by omega) (by omega), Option.bind_some]
    cases rdyB d with
    | false => rfl
    | true =>
     simp only [cond_true, Sum.elim_inl]
     rw [qub hp, Option.bind_some]
     cases idleB n d.2 <;> rfl
   ·rw [dec_f hp, if_pos hp, if_pos hp]; rfl
 ·rw [dec_f h0, if_pos h0]; rfl
theorem quT (n : Net) (d : Dk) : qiD n d = some (qc2 n d) := by
 unfold qiD qc2
 rw [qa7, qpf, Option.bind_some]
 by_cases h0 : qca n = 0
 ·have hn := VNet.of h0
  have m1 := hn.small.sg
  have m2 := hn.small.po
  rw [dec_t h0, if_neg (fun e => e h0), Bool.not_true, cond_false]
  have e1 : qhk n d.1 = some (bif vlB n d.1 then 0 else 20) := by
   unfold qhk vlB
   rw [qa7, qwo hn, Option.bind_some, natdec]
   by_cases hl : d.1.length = n.2.1.length + n.2.2.1.length
   ·rw [dec_t hl, Bool.not_true, cond_false, Bool.true_and]
    have := scanL (step := fun x => qgN d.1 x) d.1 v0 qcA (bad := (20 : Int)) (fun i hi hq => ?_) (fun i hi hq => ?_) ?_
    ·rw [this, Option.bind_some]
     cases d.1.all qcA <;> rfl
    all_goals unfold qgN
    ·rw [dec_t (show (i : Int) < (d.1.length : Int) by omega), cond_true, gd_t (inB_t hi), Int.toNat_natCast, qr4, Option.bind_some, hq, w1 hi (by omega)]; rfl
    ·rw [dec_t (show (i : Int) < (d.1.length : Int) by omega), cond_true, gd_t (inB_t hi), Int.toNat_natCast, qr4, Option.bind_some, hq]; rfl
    ·rw [dec_f (by omega)]; rfl
   ·rw [dec_f hl]; rfl
  rw [e1, Option.bind_some]
  cases hv : vlB n d.1 with
  | false => rfl
  | true =>
   have hl : d.1.length = n.2.1.length + n.2.2.1.length := by
    unfold vlB at hv; rw [Bool.and_eq_true, decide_eq_true_iff] at hv; exact hv.1
   simp only [cond_true, decide_true, Bool.not_true, cond_false]
   rw [show ((d.2.1, (d.2.2.1, d.2.2.2)) : Pl) = d.2 from rfl, qnb, Option.bind_some]
   by_cases hp : qaY n d.2 = 0
   ·have hz := (VPl.of hp).sz
    have hnl := qmC hz
    have hzl := (VPl.of hp).len
    rw [dec_t hp, if_neg (fun e => e hp)]
    simp only [Bool.not_true, cond_false]
    rw [qxN _ (by omega) (by omega), Option.bind_some, qyA _ _ (by rw [qhm]; omega) (by rw [qhm]; omega), Option.bind_some, show nz d.2.1 ++ nz d.2.2.1 = need d.2 from rfl, qzf d (by omega) (by omega), Option.bind_some]
    cases rdyB d with
    | false => rfl
    | true =>
     simp only [cond_true, Sum.elim_inl]
     rw [qze hp, Option.bind_some]
     cases idleB n d.2 <;> rfl
   ·rw [dec_f hp, if_pos hp]; rfl
 ·rw [dec_f h0, if_pos h0]; rfl
end
end Go.Proofs.YtnkfkceghbkkkaaGreat
namespace Go.Proofs.YtnkfkceghbkkkaaGreat
open Go Go.Sq
set_option linter.unusedVariables false
abbrev Hop := Int × Bool
abbrev Pth := Int × Int × List Hop × Int
abbrev Stp := Int × Int × Int × Pth
structure DkS (d : Dk) : Prop where
 v : d.1.length ≤ 100000
 r : d.2.1.length ≤ 100000
 p : d.2.2.1.length ≤ 100000
 b : d.2.2.2.length ≤ 100000
theorem qz6 (l : List Vl) (h : l.length ≤ 100000) : qaZ l = some l := by
 unfold qaZ
 rw [gd_t (qaz (by omega)), List.nil_append]
theorem qyB (l : List Int) (h : l.length ≤ 100000) : qbN l = some l := by
 unfold qbN
 rw [gd_t (qaz (by omega)), List.nil_append]
theorem qz7 (l : List Bool) (h : l.length ≤ 100000) : qb9 l = some l := by
 unfold qb9
 rw [gd_t (qaz (by omega)), List.nil_append]
theorem qwp {d : Dk} (h : DkS d) : qgm d = some d := by
 unfold qgm
 rw [qz6 _ h.v, Option.bind_some, qyB _ h.r, Option.bind_some, qyB _ h.p, Option.bind_some, qz7 _ h.b]; rfl
/-! ### Kinds -/
def bareP (x : Pth) : Bool := decide (x.1 = 0) && (decide (x.2.1 = 0) && (decide ((x.2.2.1.length : Int) = 0) && decide (x.2.2.2 = 0)))
def qk3 (s : Stp) : Bool := bif decide (s.1 = 1) || (decide (s.1 = 2) || (decide (s.1 = 3) || decide (s.1 = 4))) then decide (s.2.2.1 = 0) && bareP s.2.2.2
 else bif decide (s.1 = 5) then decide (s.2.1 = 0) && decide (s.2.2.2.2.2.2 = 0) else bif decide (s.1 = 6) then decide (s.2.1 = 0) && bareP s.2.2.2 else false
theorem qxO (k : Int) : Option.bind (α := Bool) (bif decide (k = 1) then some (decide (k = 1)) else (
  Option.bind (α := Bool) (bif decide (k = 2) then some (decide (k = 2)) else (
  Option.bind (α := Bool) (bif decide (k = 3) then some (decide (k = 3)) else some (decide (k = 4))) fun s2 => some s2)) fun s3 => some s3)) some = some (decide (k = 1) || (decide (k = 2) || (decide (k = 3) || decide (k = 4)))) := by
 cases decide (k = 1) <;> cases decide (k = 2) <;> cases decide (k = 3) <;> cases decide (k = 4) <;> rfl
theorem bareX (x : Pth) : (bif decide (x.1 = 0) then bif decide (x.2.1 = 0) then bif decide ((x.2.2.1.length : Int) = 0) then some (decide (x.2.2.2 = 0)) else some false else some false else some false) = some (bareP x) := by
 unfold bareP
 cases decide (x.1 = 0) <;> cases decide (x.2.1 = 0) <;> cases decide ((x.2.2.1.length : Int) = 0) <;> rfl
theorem qzg {A B : Type} {x : Option A} {a : A} {f : A → Option B} (h : Option.bind x some = some a) : Option.bind x f = f a := by
 rw [show x = some a by rw [← h]; cases x <;> rfl]; rfl
theorem qxP (s : Stp) : qki s = some (qk3 s) := by
 unfold qki qk3
 have eb : (bif decide (s.2.2.2.1 = 0) then bif decide (s.2.2.2.2.1 = 0) then bif decide ((s.2.2.2.2.2.1.length : Int) = 0) then some (decide (s.2.2.2.2.2.2 = 0)) else some false else some false else some false) = some (bareP s.2.2.2) := bareX s.2.2.2
 rw [eb, Option.bind_some]
 refine (qzg (qxO s.1)).trans ?_
 cases decide (s.1 = 1) || (decide (s.1 = 2) || (decide (s.1 = 3) || decide (s.1 = 4))) <;> cases decide (s.2.2.1 = 0) <;> cases decide (s.1 = 5) <;> cases decide (s.2.1 = 0) <;> cases decide (s.1 = 6) <;> rfl
/-! ### Paths -/
def sgH (n : Net) (h : Hop) : Seg := n.2.1.getD h.1.toNat sg0
def hopF (n : Net) (h : Hop) : Int := if h.2 = true then (sgH n h).2.2.1 else (sgH n h).2.1
def hopT (n : Net) (h : Hop) : Int := if h.2 = true then (sgH n h).2.1 else (sgH n h).2.2.1
def hopOk (n : Net) (h : Hop) : Bool := decide (0 ≤ h.1) && decide (h.1 < (n.2.1.length : Int))
def walk (n : Net) : List Hop → Int → List Int → Option Int
 | [], at', _ => some at'
 | h :: r, at', ps => bif hopOk n h && (decide (hopF n h = at') && !decide (hopT n h ∈ ps)) then walk n r (hopT n h) (ps ++ [hopT n h]) else none
def qh5 (n : Net) (i : Int) : Int := (n.2.2.1.getD i.toNat po0).2.1
def isPt (n : Net) (i : Int) : Bool := decide (0 ≤ i) && decide (i < (n.2.2.1.length : Int))
def pathB (n : Net) (x : Pth) : Bool := (isPt n x.1 && (isPt n x.2.1 && (!decide (x.1 = x.2.1) && (decide (1 ≤ x.2.2.2) && (decide (x.2.2.2 ≤ 1000) && decide (x.2.2.1.length ≤ 32)))))) &&
 (match walk n x.2.2.1 (qh5 n x.1) [qh5 n x.1] with
  | some a => decide (a = qh5 n x.2.1)
  | none => false)
section
variable {n : Net}
theorem qpj {h : Hop} : hopOk n h = true ↔ 0 ≤ h.1 ∧ h.1 < (n.2.1.length : Int) := by unfold hopOk; rw [Bool.and_eq_true, decide_eq_true_iff, decide_eq_true_iff]
theorem qn5 {i : Int} : isPt n i = true ↔ 0 ≤ i ∧ i < (n.2.2.1.length : Int) := by unfold isPt; rw [Bool.and_eq_true, decide_eq_true_iff, decide_eq_true_iff]
theorem quc {h : Hop} (ho : hopOk n h = true) : qkj n h = some (hopF n h, hopT n h) := by
 have := qpj.1 ho
 unfold qkj
 rw [gd_t (qaA.2 (by omega))]
 unfold hopF hopT sgH
 cases h.2 <;> rfl
theorem qwq {h : Hop} (ho : hopOk n h = true) : qm3 n h = some (hopF n h, hopT n h) := quc ho
theorem qzh (l : List Int) (v : Int) (hl : l.length ≤ 1000000) : qbS l v = some (decide (v ∈ l)) := by
 unfold qbS qdC
 have h : iter (fun x => qa4 l v x) 0 = some (if l.findIdx (fun x => decide (v = x)) < l.length then .inr ((l.findIdx (fun x => decide (v = x)) : Nat) : Int) else .inl ()) := by
  refine qeN (step := fun y => qa4 l v y) (ε := Unit ⊕ Int) l 0 (fun x => decide (v = x)) (fin := .inl ()) (fun i => .inr (i : Int)) (fun i hi hq => ?_) (fun i hi hq => ?_) ?_
  ·unfold qa4
   rw [dec_t (show (i : Int) < (l.length : Int) by omega), cond_true, gd_t (inB_t hi), Int.toNat_natCast, hq, cond_false, w1 hi (by omega)]
  ·unfold qa4
   rw [dec_t (show (i : Int) < (l.length : Int) by omega), cond_true, gd_t (inB_t hi), Int.toNat_natCast, hq, cond_true]
  ·unfold qa4
   rw [dec_f (by omega)]; rfl
 rw [h, Option.bind_some]
 by_cases hf : l.findIdx (fun x => decide (v = x)) < l.length
 ·have hm : v ∈ l := by
   obtain ⟨x, hx, he⟩ := List.findIdx_lt_length.1 hf
   rw [of_decide_eq_true he]; exact hx
  rw [if_pos hf, dec_t hm]
  show some (decide ((0 : Int) ≤ _)) = _
  rw [dec_t (by omega)]
 ·have hm : ¬ v ∈ l := fun hm => hf (List.findIdx_lt_length.2 ⟨v, hm, by simp⟩)
  rw [if_neg hf, dec_f hm]; rfl
theorem hopD (h : Hop) (ps : List Int) : (bif decide (h.1 < 0) then some (true, ps) else some (decide ((n.2.1.length : Int) ≤ h.1), ps)) = some (!hopOk n h, ps) := by
 unfold hopOk
 by_cases a : h.1 < 0
 ·rw [dec_t a, dec_f (show ¬ 0 ≤ h.1 by omega)]; rfl
 ·rw [dec_f a, dec_t (show 0 ≤ h.1 by omega), cond_false, Bool.true_and]
  by_cases b : (n.2.1.length : Int) ≤ h.1
  ·rw [dec_t b, dec_f (by omega)]; rfl
  ·rw [dec_f b, dec_t (by omega)]; rfl
theorem drop_cons {A : Type} {l : List A} {i : Nat} (d : A) (h : i < l.length) : l.drop i = l.getD i d :: l.drop (i + 1) := by
 rw [List.drop_eq_getElem_cons h, gD_eq h]
def wres (o : Option Int) : Int ⊕ Bool := match o with
 | some a => .inl a
 | none => .inr false
theorem qxQ (x : Pth) (hx : x.2.2.1.length ≤ 1000) : ∀ (m i : Nat) (a : Int) (ps : List Int), i + m = x.2.2.1.length → ps.length ≤ i + 1 →
  iter (fun y => qck n x y.1 y.2.1 y.2.2) (a, (i : Int), ps) = some (wres (walk n (x.2.2.1.drop i) a ps)) := by
 intro m
 induction m with
 | zero =>
  intro i a ps hi hp
  rw [qc3 (e := .inl a) (by show qck n x a (i : Int) ps = _; unfold qck; rw [dec_f (by omega)]; rfl), List.drop_of_length_le (by omega)]; rfl
 | succ m ih =>
  intro i a ps hi hp
  have hi' : i < x.2.2.1.length := by omega
  have hstep : qck n x a (i : Int) ps = (bif hopOk n (x.2.2.1.getD i (0, false)) && (decide (hopF n (x.2.2.1.getD i (0, false)) = a) && !decide (hopT n (x.2.2.1.getD i (0, false)) ∈ ps)) then some (.inl (hopT n (x.2.2.1.getD i (0, false)), ((i + 1 : Nat) : Int), ps ++ [hopT n (x.2.2.1.getD i (0, false))])) else some (.inr (.inr false))) := by
   unfold qck
   rw [dec_t (show (i : Int) < (x.2.2.1.length : Int) by omega), cond_true, gd_t (inB_t hi'), Int.toNat_natCast]
   generalize x.2.2.1.getD i (0, false) = h
   rw [hopD h ps, Option.bind_some]
   cases ho : hopOk n h with
   | false => rfl
   | true =>
    simp only [Bool.not_true, cond_false, Bool.true_and]
    rw [show ((h.1, h.2) : Hop) = h from rfl, quc ho, Option.bind_some]
    cases hf : decide (hopF n h = a) with
    | false => rfl
    | true =>
     simp only [Bool.not_true, cond_false, Bool.true_and]
     rw [qzh ps _ (by omega), Option.bind_some, Option.bind_some]
     cases hm : decide (hopT n h ∈ ps) with
     | true => rfl
     | false =>
      simp only [cond_false, Bool.not_false, cond_true]
      rw [gd_t (qaz (by omega)), w1 hi' (by omega)]
  rw [drop_cons (0, false) hi']
  unfold walk
  cases hc : (hopOk n (x.2.2.1.getD i (0, false)) && (decide (hopF n (x.2.2.1.getD i (0, false)) = a) && !decide (hopT n (x.2.2.1.getD i (0, false)) ∈ ps))) with
  | false => rw [hc] at hstep; rw [qc3 hstep]; rfl
  | true =>
   rw [hc] at hstep
   rw [qdX hstep, ih (i + 1) _ _ (by omega) (by rw [List.length_append]; simp only [List.length_cons, List.length_nil]; omega)]; rfl
theorem notlt (a b : Int) : decide (a < b) = !decide (b ≤ a) := by
 by_cases h : a < b
 ·rw [dec_t h, dec_f (by omega)]; rfl
 ·rw [dec_f h, dec_t (by omega)]; rfl
theorem qxR (x : Pth) : qil n x = some (pathB n x) := by
 unfold qil pathB qf0
 have e0 : ∀ i : Int, (bif decide (0 ≤ i) then some (decide (i < (n.2.2.1.length : Int))) else some false) = some (isPt n i) := fun i => by unfold isPt; cases decide (0 ≤ i) <;> rfl
 rw [e0, Option.bind_some, e0, Option.bind_some, notlt x.2.2.2 1, notlt 1000 x.2.2.2, notlt 32 (x.2.2.1.length : Int), show decide ((x.2.2.1.length : Int) ≤ 32) = decide (x.2.2.1.length ≤ 32) by congr 1; rw [eq_iff_iff]; omega]
 cases h1 : isPt n x.1 with
 | false => rfl
 | true =>
 cases h2 : isPt n x.2.1 with
 | false => rfl
 | true =>
 cases h3 : decide (x.1 = x.2.1) with
 | true => rfl
 | false =>
 cases h4 : decide (1 ≤ x.2.2.2) with
 | false => rfl
 | true =>
 cases h5 : decide (x.2.2.2 ≤ 1000) with
 | false => rfl
 | true =>
 cases h6 : decide (x.2.2.1.length ≤ 32) with
 | false => rfl
 | true =>
  have h6 := of_decide_eq_true h6
  have a1 := qn5.1 h1
  have a2 := qn5.1 h2
  simp only [Bool.not_true, cond_false, Bool.true_and, Bool.not_false, Option.bind_some]
  rw [gd_t (qaA.2 (by omega))]
  have := qxQ (n := n) x (by omega) x.2.2.1.length 0 (qh5 n x.1) [qh5 n x.1] (by omega) (by simp)
  rw [show ((n.2.2.1.getD x.1.toNat ([], (0, 0))).2).1 = qh5 n x.1 from rfl, show ((n.2.2.1.getD x.2.1.toNat ([], (0, 0))).2).1 = qh5 n x.2.1 from rfl]
  have this : iter (fun y => qck n x y.1 y.2.1 y.2.2) (qh5 n x.1, (0 : Int), [qh5 n x.1]) = some (wres (walk n x.2.2.1 (qh5 n x.1) [qh5 n x.1])) := this
  rw [this, Option.bind_some]
  cases walk n x.2.2.1 (qh5 n x.1) [qh5 n x.1] with
  | none => rfl
  | some a =>
   show gd _ _ = _
   rw [gd_t (qaA.2 (by omega))]
theorem qxS (h0 : qca n = 0) (x : Pth) : qim n x = some (pathB n x) := by
 unfold qim
 rw [qa7, qgQ, Option.bind_some, dec_t h0, cond_true, show ((x.1, (x.2.1, (x.2.2.1, x.2.2.2))) : Pth) = x from rfl, qxR]; rfl
end
end Go.Proofs.YtnkfkceghbkkkaaGreat
namespace Go.Proofs.YtnkfkceghbkkkaaGreat
open Go Go.Sq
set_option linter.unusedVariables false
structure VDk (n : Net) (d : Dk) : Prop where
 net : qca n = 0
 len : d.1.length = n.2.1.length + n.2.2.1.length
 val : d.1.all qcA = true
 pl : qaY n d.2 = 0
 rdy : rdyB d = true
 idl : idleB n d.2 = false
def along (p : Pl) (h : Hop) : Int := if h.2 = true then 0 - p.1.getD h.1.toNat 0 else p.1.getD h.1.toNat 0
def sgn (h : Hop) (v : Int) : Int := if h.2 = true then 0 - v else v
def qwr (n : Net) (d : Dk) (x : Pth) : Bool := qcB (d.1.getD (n.2.1.length + x.1.toNat) v0) && (qcB (d.1.getD (n.2.1.length + x.2.1.toNat) v0) && x.2.2.1.all fun h => qcB (d.1.getD h.1.toNat v0))
def ptOk (p : Pl) (x : Pth) (v : Int) : Bool := decide (0 ≤ p.2.1.getD x.1.toNat 0) && (decide (0 ≤ 0 - p.2.1.getD x.2.1.toNat 0) && (decide (0 ≤ p.2.1.getD x.1.toNat 0 + v) && decide (0 ≤ 0 - p.2.1.getD x.2.1.toNat 0 + v)))
def hpOk (p : Pl) (v : Int) (h : Hop) : Bool := decide (0 ≤ along p h) && decide (0 ≤ along p h + v)
def growB (n : Net) (d : Dk) (x : Pth) (v : Int) : Bool := qwr n d x && (ptOk d.2 x v && x.2.2.1.all (hpOk d.2 v))
def growR (l : List Hop) (v : Int) (r : List Int) : List Int := l.foldl (fun r h => r.set h.1.toNat (r.getD h.1.toNat 0 + sgn h v)) r
def growQ (x : Pth) (v : Int) (q : List Int) : List Int := (q.set x.1.toNat (q.getD x.1.toNat 0 + v)).set x.2.1.toNat ((q.set x.1.toNat (q.getD x.1.toNat 0 + v)).getD x.2.1.toNat 0 - v)
def growP (x : Pth) (v : Int) (p : Pl) : Pl := (growR x.2.2.1 v p.1, growQ x v p.2.1, p.2.2)
theorem qr6 (l : List Hop) (v : Int) : ∀ r, (growR l v r).length = r.length := by
 induction l with
 | nil => intro r; rfl
 | cons h l ih => intro r; exact (ih _).trans (List.length_set ..)
theorem quU {l : List Hop} {i : Nat} (hi : i < l.length) (v : Int) (r : List Int) : growR (l.take (i + 1)) v r = (growR (l.take i) v r).set (l.getD i (0, false)).1.toNat ((growR (l.take i) v r).getD (l.getD i (0, false)).1.toNat 0 + sgn (l.getD i (0, false)) v) := by
 unfold growR
 rw [qfu (0, false) hi, List.foldl_append]; rfl
theorem qpk {k : Nat} (v : Int) : ∀ (l : List Hop) (r : List Int), (∀ h ∈ l, h.1.toNat ≠ k) → (growR l v r).getD k 0 = r.getD k 0
 | [], _, _ => rfl
 | h :: l, r, hl => by
  show (growR l v _).getD k 0 = _
  rw [qpk v l _ fun h' hh => hl h' (by simp [hh]), qkD, if_neg (fun e => hl h (by simp) e.1)]
theorem qxT (v : Int) (hv : -1000 ≤ v ∧ v ≤ 1000) {b : Int} : ∀ (l : List Hop) (r : List Int), (∀ k, -b ≤ r.getD k 0 ∧ r.getD k 0 ≤ b) → ∀ k, -b - 1000 * l.length ≤ (growR l v r).getD k 0 ∧ (growR l v r).getD k 0 ≤ b + 1000 * l.length := by
 intro l
 induction l generalizing b with
 | nil => intro r h k; have := h k; simpa [growR] using this
 | cons h l ih =>
  intro r hr k
  have := ih (b := b + 1000) (r.set h.1.toNat (r.getD h.1.toNat 0 + sgn h v)) (fun j => by
   rw [qkD]
   have h1 := hr h.1.toNat
   have h2 := hr j
   split
   ·unfold sgn; split <;> omega
   ·omega) k
  rw [show growR (h :: l) v r = growR l v (r.set h.1.toNat (r.getD h.1.toNat 0 + sgn h v)) from rfl, List.length_cons]
  omega
theorem qpl {A : Type} (f g : A → Bool) : ∀ l : List A, (l.any fun h => !(f h && g h)) = !(l.all f && l.all g)
 | [] => rfl
 | a :: l => by
  rw [List.any_cons, List.all_cons, List.all_cons, qpl f g l]
  cases f a <;> cases g a <;> cases l.all f <;> cases l.all g <;> rfl
theorem qws (x : Pth) (v : Int) (q : List Int) : (growQ x v q).length = q.length := by unfold growQ; rw [List.length_set, List.length_set]
section
variable {n : Net}
theorem VDk.of {d : Dk} (h : qc2 n d = 0) : VDk n d := by
 unfold qc2 at h
 by_cases h0 : qca n = 0
 ·rw [if_neg (fun e => e h0)] at h
  obtain ⟨h1, h⟩ := qnw (by decide) h
  unfold vlB at h1
  rw [Bool.and_eq_true, decide_eq_true_iff] at h1
  by_cases hp : qaY n d.2 = 0
  ·rw [if_neg (fun e => e hp)] at h
   obtain ⟨h2, h⟩ := qnw (by decide) h
   cases hi : idleB n d.2 with
   | true => rw [hi] at h; cases h
   | false => exact ⟨h0, h1.1, h1.2, hp, h2, hi⟩
  ·rw [if_pos hp] at h; exact absurd h hp
 ·rw [if_pos h0] at h; exact absurd h h0
theorem VDk.to {d : Dk} (h : VDk n d) : qc2 n d = 0 := by
 unfold qc2 vlB
 rw [if_neg (fun e => e h.net), dec_t h.len, h.val, if_neg (fun e => e h.pl), h.rdy, h.idl]; rfl
theorem VDk.sz {d : Dk} (h : VDk n d) : d.2.1.length = n.2.1.length ∧ d.2.2.1.length = n.2.2.1.length ∧ d.2.2.2.length = n.2.2.2.1.length := (VPl.of h.pl).len
theorem VDk.small {d : Dk} (h : VDk n d) : DkS d := by
 have hn := (VNet.of h.net).small
 have := h.len; have := h.sz; have := hn.sg; have := hn.po; have := hn.st
 exact ⟨by omega, by omega, by omega, by omega⟩
structure VPa (n : Net) (x : Pth) : Prop where
 i : 0 ≤ x.1 ∧ x.1 < (n.2.2.1.length : Int)
 o : 0 ≤ x.2.1 ∧ x.2.1 < (n.2.2.1.length : Int)
 ne : x.1 ≠ x.2.1
 hl : x.2.2.1.length ≤ 32
 h : ∀ h ∈ x.2.2.1, 0 ≤ h.1 ∧ h.1 < (n.2.1.length : Int)
 d : ∀ i j, i < j → j < x.2.2.1.length → (x.2.2.1.getD i (0, false)).1 ≠ (x.2.2.1.getD j (0, false)).1
theorem qti : ∀ {l : List Hop} {a : Int} {ps : List Int} {b : Int}, walk n l a ps = some b → ∀ h ∈ l, (0 ≤ h.1 ∧ h.1 < (n.2.1.length : Int)) ∧ hopT n h ∉ ps
 | [], _, _, _, _ => fun h hh => by cases hh
 | h :: l, a, ps, b, hw => by
  unfold walk at hw
  cases hc : (hopOk n h && (decide (hopF n h = a) && !decide (hopT n h ∈ ps))) with
  | false => rw [hc] at hw; cases hw
  | true =>
   rw [hc, cond_true] at hw
   rw [Bool.and_eq_true, Bool.and_eq_true] at hc
   intro h' hh
   rcases List.mem_cons.1 hh with rfl | hh
   ·exact ⟨qpj.1 hc.1, by simpa using hc.2.2⟩
   ·have := qti hw h' hh
    exact ⟨this.1, fun hm => this.2 (List.mem_append_left _ hm)⟩
theorem qwt : ∀ {l : List Hop} {a : Int} {ps : List Int} {b : Int}, a ∈ ps → walk n l a ps = some b → ∀ i j, i < j → j < l.length → (l.getD i (0, false)).1 ≠ (l.getD j (0, false)).1
 | [], _, _, _, _, _ => fun i j _ hj => by cases hj
 | h :: l, a, ps, b, ha, hw => by
  unfold walk at hw
  cases hc : (hopOk n h && (decide (hopF n h = a) && !decide (hopT n h ∈ ps))) with
  | false => rw [hc] at hw; cases hw
  | true =>
   rw [hc, cond_true] at hw
   rw [Bool.and_eq_true, Bool.and_eq_true, decide_eq_true_iff] at hc
   have hrec := qwt (List.mem_append_right ps (List.mem_singleton.2 rfl)) hw
   have all := qti hw
   intro i j hij hj
   cases j with
   | zero => omega
   | succ j =>
    cases i with
    | succ i => exact hrec i j (by omega) (by simpa using hj)
    | zero =>
     show h.1 ≠ (l.getD j (0, false)).1
     intro e
     have hm : l.getD j (0, false) ∈ l := qbb (by simpa using hj)
     refine (all _ hm).2 ?_
     have es : sgH n (l.getD j (0, false)) = sgH n h := by unfold sgH; rw [e]
     have : hopT n (l.getD j (0, false)) = hopT n h ∨ hopT n (l.getD j (0, false)) = hopF n h := by
      unfold hopT hopF
      rw [es]
      cases (l.getD j (0, false)).2 <;> cases h.2 <;> simp
     rcases this with h1 | h1
     ·rw [h1]; exact List.mem_append_right _ (List.mem_singleton.2 rfl)
     ·rw [h1, hc.2.1]; exact List.mem_append_left _ ha
theorem VPa.of {x : Pth} (h : pathB n x = true) : VPa n x := by
 unfold pathB at h
 simp only [Bool.and_eq_true, Bool.not_eq_true', decide_eq_true_iff, decide_eq_false_iff_not] at h
 obtain ⟨⟨h1, h2, h3, h4, h5, h6⟩, hw⟩ := h
 split at hw
 ·rename_i a ha
  exact ⟨qn5.1 h1, qn5.1 h2, h3, h6, fun h hh => (qti ha h hh).1, qwt (List.mem_singleton.2 rfl) ha⟩
 ·cases hw
theorem qq4 {d : Dk} {i : Int} (h0 : 0 ≤ i) (h1 : i < (d.1.length : Int)) : qen i d = some (qcB (d.1.getD i.toNat v0)) := by
 unfold qen
 rw [gd_t (qaA.2 ⟨h0, h1⟩), show (d.1.getD i.toNat (0, (0, (false, false)))) = d.1.getD i.toNat v0 from rfl, qq2]; rfl
theorem VDk.rate {d : Dk} (h : VDk n d) (k : Nat) : -1000 ≤ d.2.1.getD k 0 ∧ d.2.1.getD k 0 ≤ 1000 := (VPl.of h.pl).rb.s k
theorem VDk.prate {d : Dk} (h : VDk n d) (k : Nat) : -1000 ≤ d.2.2.1.getD k 0 ∧ d.2.2.1.getD k 0 ≤ 1000 := (VPl.of h.pl).rb.q k
theorem qxU {d : Dk} (hd : VDk n d) {h : Hop} (hh : 0 ≤ h.1 ∧ h.1 < (n.2.1.length : Int)) : qkk d.2 h = some (along d.2 h) := by
 have := hd.sz
 have hr := hd.rate h.1.toNat
 unfold qkk along
 rw [gd_t (qaA.2 (by omega)), gd_t (qaA.2 (by omega)), wi (by omega)]
 cases h.2 <;> rfl
theorem qxV {d : Dk} (hd : VDk n d) {v : Int} (hv : -1000 ≤ v ∧ v ≤ 1000) {h : Hop} (hh : 0 ≤ h.1 ∧ h.1 < (n.2.1.length : Int)) : qeo h d d v = some (!(qcB (d.1.getD h.1.toNat v0) && hpOk d.2 v h)) := by
 have hr := hd.rate h.1.toNat
 have hb : -1000 ≤ along d.2 h ∧ along d.2 h ≤ 1000 := by unfold along; split <;> omega
 have hl := hd.len
 unfold qeo
 rw [show ((h.1, h.2) : Hop) = h from rfl, qxU hd hh, Option.bind_some, qq4 hh.1 (by omega), Option.bind_some, wi (by omega)]
 unfold hpOk
 rw [notlt (along d.2 h) 0, notlt (along d.2 h + v) 0]
 cases qcB (d.1.getD h.1.toNat v0) <;> cases decide (0 ≤ along d.2 h) <;> cases decide (0 ≤ along d.2 h + v) <;> rfl
theorem qxW {d : Dk} (hd : VDk n d) {x : Pth} (hx : VPa n x) {v : Int} (hv : -1000 ≤ v ∧ v ≤ 1000) : qkl n d x v = some (growB n d x v) := by
 have hz := hd.sz
 have hl := hd.len
 have hi := hx.i
 have ho := hx.o
 have b1 := hd.prate x.1.toNat
 have b2 := hd.prate x.2.1.toNat
 have hn := (VNet.of hd.net).small
 have m1 := hn.sg
 have m2 := hn.po
 unfold qkl
 rw [gd_t (qaA.2 (by omega)), gd_t (qaA.2 (by omega)), wi (by omega), wi (by omega), show ((d.1, (d.2.1, (d.2.2.1, d.2.2.2))) : Dk) = d from rfl,
  qq4 (by omega) (by omega), qq4 (by omega) (by omega), Option.bind_some, Option.bind_some, show (((n.2.1.length : Int) + x.1).toNat) = n.2.1.length + x.1.toNat by omega, show (((n.2.1.length : Int) + x.2.1).toNat) = n.2.1.length + x.2.1.toNat by omega,
  wi (show -9223372036854775808 ≤ 0 - d.2.2.1.getD x.2.1.toNat 0 ∧ 0 - d.2.2.1.getD x.2.1.toNat 0 ≤ 9223372036854775807 by omega), wi (by omega), wi (by omega)]
 have eh := qlo x.2.2.1 (fun h => !(qcB (d.1.getD h.1.toNat v0) && hpOk d.2 v h)) (fun h => (qeo h.1 d d v).bind fun y => some y) (fun h hh => by
  show (qeo h d d v).bind _ = _
  rw [qxV hd hv (hx.h h hh)]; rfl) (by have := hx.hl; omega)
 unfold growB qwr ptOk
 have el : (x.2.2.1.any fun h => !(qcB (d.1.getD h.1.toNat v0) && hpOk d.2 v h)) = !((x.2.2.1.all fun h => qcB (d.1.getD h.1.toNat v0)) && x.2.2.1.all (hpOk d.2 v)) := by
  exact qpl _ _ _
 rw [notlt (d.2.2.1.getD x.1.toNat 0) 0, notlt (0 - d.2.2.1.getD x.2.1.toNat 0) 0, notlt (d.2.2.1.getD x.1.toNat 0 + v) 0, notlt (0 - d.2.2.1.getD x.2.1.toNat 0 + v) 0]
 cases qcB (d.1.getD (n.2.1.length + x.1.toNat) v0) with
 | false => rfl
 | true =>
 cases qcB (d.1.getD (n.2.1.length + x.2.1.toNat) v0) with
 | false => rfl
 | true =>
 cases decide (0 ≤ d.2.2.1.getD x.1.toNat 0) with
 | false => simp
 | true =>
 cases decide (0 ≤ 0 - d.2.2.1.getD x.2.1.toNat 0) with
 | false => simp
 | true =>
 cases decide (0 ≤ d.2.2.1.getD x.1.toNat 0 + v) with
 | false => simp
 | true =>
 cases decide (0 ≤ 0 - d.2.2.1.getD x.2.1.toNat 0 + v) with
 | false => simp
 | true =>
  simp only [Bool.not_true, cond_false, Option.bind_some, Bool.true_and]
  rw [eh, Option.bind_some, el, Bool.not_not]
theorem qzi {x : Pth} {v : Int} (hv : -1000 ≤ v ∧ v ≤ 1000) {p : Pl} (hr : ∀ k, -1000 ≤ p.1.getD k 0 ∧ p.1.getD k 0 ≤ 1000) (hq : ∀ k, -1000 ≤ p.2.1.getD k 0 ∧ p.2.1.getD k 0 ≤ 1000) (hx : VPa n x) (l1 : p.1.length = n.2.1.length) (l2 : p.2.1.length = n.2.2.1.length) (d : List Vl) :
  qkm x v d p.1 p.2.1 p.2.2 = some (d, growP x v p) := by
 have hi := hx.i
 have ho := hx.o
 have b1 := hq x.1.toNat
 unfold qkm
 have hB : inB x.1 p.2.1.length = true := qaA.2 (by omega)
 have hC : inB x.2.1 (p.2.1.set x.1.toNat (wi64 ((p.2.1.getD x.1.toNat 0) + v))).length = true := qaA.2 (by rw [List.length_set]; omega)
 rw [gd_t hB, gd_t hB, gd_t hC, gd_t hC, wi (by omega)]
 have b2 : -2000 ≤ (p.2.1.set x.1.toNat (p.2.1.getD x.1.toNat 0 + v)).getD x.2.1.toNat 0 ∧ (p.2.1.set x.1.toNat (p.2.1.getD x.1.toNat 0 + v)).getD x.2.1.toNat 0 ≤ 2000 := by
  rw [qkD]; have := hq x.2.1.toNat; split <;> omega
 rw [wi (by omega), show ((p.2.1.set x.1.toNat (p.2.1.getD x.1.toNat 0 + v)).set x.2.1.toNat ((p.2.1.set x.1.toNat (p.2.1.getD x.1.toNat 0 + v)).getD x.2.1.toNat 0 - v)) = growQ x v p.2.1 from rfl]
 have := qbe (step := fun x2 : Int × List Vl × List Int × List Int × List Bool => qcF x v x2.1 x2.2.1 x2.2.2.1 x2.2.2.2.1 x2.2.2.2.2) (e := (d, growP x v p)) x.2.2.1.length (fun i => ((i : Int), d, growR (x.2.2.1.take i) v p.1, growQ x v p.2.1, p.2.2)) (fun i hi' => ?_) ?_
 ·have this : iter (fun x2 => qcF x v x2.1 x2.2.1 x2.2.2.1 x2.2.2.2.1 x2.2.2.2.2) ((0 : Int), d, p.1, growQ x v p.2.1, p.2.2) = some (d, growP x v p) := this
  rw [this]; rfl
 ·show qcF x v (i : Int) d (growR (x.2.2.1.take i) v p.1) (growQ x v p.2.1) p.2.2 = some (.inl (((i + 1 : Nat) : Int), d, growR (x.2.2.1.take (i + 1)) v p.1, growQ x v p.2.1, p.2.2))
  unfold qcF
  have hl := hx.hl
  have hh := hx.h _ (qbb (d := (0, false)) hi')
  have hb := qxT v hv (b := 1000) (x.2.2.1.take i) p.1 hr (x.2.2.1.getD i (0, false)).1.toNat
  rw [List.length_take] at hb
  have hD : inB (x.2.2.1.getD i (0, false)).1 (growR (x.2.2.1.take i) v p.1).length = true := qaA.2 (by rw [qr6]; omega)
  have es : qg3 ((x.2.2.1.getD i (0, false)).1, (x.2.2.1.getD i (0, false)).2) v = some (sgn (x.2.2.1.getD i (0, false)) v) := by
   unfold qg3 sgn; rw [wi (by omega)]; simp only; cases (x.2.2.1.getD i (0, false)).2 <;> rfl
  have hs : -1000 ≤ sgn (x.2.2.1.getD i (0, false)) v ∧ sgn (x.2.2.1.getD i (0, false)) v ≤ 1000 := by unfold sgn; split <;> omega
  rw [dec_t (show (i : Int) < (x.2.2.1.length : Int) by omega), cond_true, gd_t (inB_t hi'), Int.toNat_natCast, gd_t hD, es, Option.bind_some, gd_t hD, w1 hi' (by omega), wi (by omega), quU hi']
 ·show qcF x v ((x.2.2.1.length : Nat) : Int) d (growR (x.2.2.1.take x.2.2.1.length) v p.1) (growQ x v p.2.1) p.2.2 = _
  unfold qcF
  rw [dec_f (by omega), List.take_length]; rfl
end
end Go.Proofs.YtnkfkceghbkkkaaGreat
namespace Go.Proofs.YtnkfkceghbkkkaaGreat
open Go Go.Sq
set_option linter.unusedVariables false
def cmdV (v : Vl) (w : Bool) : Vl := (v.1, (v.2.1, (w, v.2.2.2)))
def movO (v : Vl) (t : Int) : Int := bif v.2.2.2 then v.2.1 else (if v.2.1 < (bif v.2.2.1 then v.1 else 0) then min (bif v.2.2.1 then v.1 else 0) (v.2.1 + t) else max (bif v.2.2.1 then v.1 else 0) (v.2.1 - t))
def movV (v : Vl) (t : Int) : Vl := (v.1, (movO v t, (v.2.2.1, v.2.2.2)))
def absP (s : Stp) : Pth := (s.2.2.2.1, (s.2.2.2.2.1, (s.2.2.2.2.2.1, max s.2.2.1 (0 - s.2.2.1))))
def turnS (n : Net) (d : Dk) (s : Stp) : Dk × Int := bif !(decide (0 ≤ s.2.1) && decide (s.2.1 < (d.1.length : Int))) then (d, 8) else
 bif decide (s.1 = 2) && (need d.2).getD s.2.1.toNat false then (d, 22) else ((d.1.set s.2.1.toNat (cmdV (d.1.getD s.2.1.toNat v0) (decide (s.1 = 1))), d.2), 0)
def setP (p : Pl) (i : Nat) (b : Bool) : Pl := (p.1, (p.2.1, p.2.2.set i b))
def runS (n : Net) (d : Dk) (s : Stp) : Dk × Int := bif !(decide (0 ≤ s.2.1) && decide (s.2.1 < (n.2.2.2.1.length : Int))) then (d, 8) else
 bif decide (s.1 = 3) && decide (comeF n d.2 (n.2.2.2.1.getD s.2.1.toNat sta0).2.1 = 0) then (d, 22) else ((d.1, setP d.2 s.2.1.toNat (decide (s.1 = 3))), 0)
def chgS (n : Net) (d : Dk) (s : Stp) : Dk × Int := bif !rg (-1000) 1000 s.2.2.1 then (d, 23) else
 bif !pathB n (absP s) then (d, 23) else bif !growB n d (absP s) s.2.2.1 then (d, 22) else
 (if qaY n (growP (absP s) s.2.2.1 d.2) ≠ 0 then (d, qaY n (growP (absP s) s.2.2.1 d.2)) else bif idleB n (growP (absP s) s.2.2.1 d.2) then (d, 22) else ((d.1, growP (absP s) s.2.2.1 d.2), 0))
def waitS (d : Dk) (s : Stp) : Dk × Int := bif !rg 1 100 s.2.2.1 then (d, 1) else ((d.1.map fun v => movV v s.2.2.1, d.2), 0)
def stepS (n : Net) (d : Dk) (s : Stp) : Dk × Int := bif !qk3 s then (d, 22) else
 bif decide (s.1 = 1) || decide (s.1 = 2) then turnS n d s else bif decide (s.1 = 3) || decide (s.1 = 4) then runS n d s else bif decide (s.1 = 5) then chgS n d s else waitS d s
def appS (n : Net) (d : Dk) (s : Stp) : Dk × Int := if qc2 n d ≠ 0 then (d, qc2 n d) else stepS n d s
section
variable {n : Net}
theorem oob4 {A : Type} (a b : Int) (x : A) : (bif decide (a < 0) then some (true, x) else some (decide (b ≤ a), x)) = some (!(decide (0 ≤ a) && decide (a < b)), x) := by
 rw [notlt a 0, notlt a b]
 cases decide (0 ≤ a) <;> cases decide (b ≤ a) <;> rfl
theorem qq5 {a b : Int} : (decide (0 ≤ a) && decide (a < b)) = true ↔ 0 ≤ a ∧ a < b := by rw [Bool.and_eq_true, decide_eq_true_iff, decide_eq_true_iff]
theorem qz8 {v : Vl} (h : qcA v = true) (w : Bool) : qfZ v w = some (cmdV v w, 0) := by
 unfold qfZ
 rw [show ((v.1, (v.2.1, (v.2.2.1, v.2.2.2))) : Vl) = v from rfl, valid_eq, Option.bind_some, h]; rfl
theorem VDk.val1 {d : Dk} (hd : VDk n d) {i : Nat} (hi : i < d.1.length) : qcA (d.1.getD i v0) = true := List.all_eq_true.1 hd.val _ (qbb hi)
theorem VDk.needl {d : Dk} (hd : VDk n d) : (need d.2).length = d.1.length := by rw [qmC (VPl.of hd.pl).sz, hd.len]
def inner (r : Dk × Int) (o : Option (Int × List Vl × List Int × List Int × List Bool)) : Prop := ∃ y, o = some y ∧ y.1 = r.2 ∧ (r.2 = 0 → y.2 = r.1)
theorem qwu {d : Dk} (hd : VDk n d) (s : Stp) : inner (turnS n d s) (qjy n s d.1 d.2.1 d.2.2.1 d.2.2.2) := by
 unfold turnS qjy
 rw [oob4, Option.bind_some]
 simp only
 cases hb : (decide (0 ≤ s.2.1) && decide (s.2.1 < (d.1.length : Int))) with
 | false => exact ⟨_, rfl, rfl, fun e => by cases e⟩
 | true =>
  have hb := qq5.1 hb
  have hz := hd.sz
  have hs := (VNet.of hd.net).small
  have m1 := hs.sg
  have m2 := hs.po
  have hl := hd.len
  simp only [Bool.not_true, cond_false]
  have e1 : ∀ (q : Bool), (bif decide (s.1 = 2) then
    (qeX (n.1, (n.2.1, (n.2.2.1, (n.2.2.2.1, (n.2.2.2.2.1, n.2.2.2.2.2))))) (d.2.1, (d.2.2.1, d.2.2.2))).bind fun r =>
     bif !decide (r.1 = 0) then some (.inr (r.1, d.1, d.2.1, d.2.2.1, d.2.2.2))
     else (qdM (r.2.1, r.2.2)).bind fun r2 =>
      gd (inB s.2.1 r2.length) (bif r2.getD s.2.1.toNat false then some (.inr (22, d.1, d.2.1, d.2.2.1, d.2.2.2)) else some (.inl (d.1, d.2.1, d.2.2.1, d.2.2.2)))
    else (some (.inl (d.1, d.2.1, d.2.2.1, d.2.2.2)) : Option (Dk ⊕ (Int × Dk)))) = some (bif decide (s.1 = 2) && (need d.2).getD s.2.1.toNat false then .inr (22, d) else .inl d) := by
   intro q
   cases decide (s.1 = 2) with
   | false => rfl
   | true =>
    rw [cond_true, qa7, show ((d.2.1, (d.2.2.1, d.2.2.2)) : Pl) = d.2 from rfl, qwl, Option.bind_some, if_neg (fun e => e hd.pl)]
    simp only [decide_true, Bool.not_true, cond_false, Bool.true_and]
    rw [qpY _ _ (by rw [qhm]; omega) (by rw [qhm]; omega), Option.bind_some, show nz d.2.1 ++ nz d.2.2.1 = need d.2 from rfl, gd_t (qaA.2 (by rw [hd.needl]; omega))]
    cases (need d.2).getD s.2.1.toNat false <;> rfl
  rw [e1 true, Option.bind_some]
  cases (decide (s.1 = 2) && (need d.2).getD s.2.1.toNat false) with
  | true => exact ⟨_, rfl, rfl, fun e => by cases e⟩
  | false =>
   simp only [cond_false, Sum.elim_inl]
   rw [gd_t (qaA.2 (by omega)), show (d.1.getD s.2.1.toNat (0, (0, (false, false)))) = d.1.getD s.2.1.toNat v0 from rfl, qz8 (hd.val1 (by omega)), Option.bind_some, gd_t (qaA.2 (by omega))]
   exact ⟨_, rfl, rfl, fun _ => rfl⟩
theorem qxX (p : Pl) (i : Nat) (b : Bool) : qaY n (setP p i b) = qaY n p := by
 have e1 : szB n (setP p i b) = szB n p := by unfold szB setP; rw [List.length_set]
 have e2 : ∀ f th, topo n (setP p i b) f th = topo n p f th := by
  intro f
  induction f with
  | zero => intro _; rfl
  | succ f ih =>
   intro th
   unfold topo
   rw [show nextF n (setP p i b) th = nextF n p th from rfl]
   cases nextF n p th with
   | none => rfl
   | some k => exact congrArg _ (ih _)
 unfold qaY
 rw [e1, show ordL n (setP p i b) = ordL n p from e2 _ _]; rfl
theorem qwv {d : Dk} (hd : VDk n d) {i : Nat} (hi : i < n.2.2.2.1.length) (b : Bool) : idleB n (setP d.2 i b) = (b && decide (comeF n d.2 (n.2.2.2.1.getD i sta0).2.1 = 0)) := by
 have hn := hd.idl
 unfold idleB at hn ⊢
 have hz := hd.sz
 rw [List.any_eq_false] at hn
 have key : ∀ j, j < n.2.2.2.1.length → qi7 n (setP d.2 i b) j = (decide (j = i) && (b && decide (comeF n d.2 (n.2.2.2.1.getD i sta0).2.1 = 0))) := by
  intro j hj
  have h1 := hn j (List.mem_range.2 hj)
  unfold qi7 at h1 ⊢
  have e : comeF n (setP d.2 i b) (n.2.2.2.1.getD j sta0).2.1 = comeF n d.2 (n.2.2.2.1.getD j sta0).2.1 := rfl
  rw [e, show (setP d.2 i b).2.2 = d.2.2.2.set i b from rfl, qkD]
  by_cases hji : i = j
  ·subst hji; rw [if_pos ⟨rfl, by omega⟩, dec_t rfl]; rfl
  ·rw [if_neg (fun h => hji h.1), dec_f (show ¬ j = i from fun h => hji h.symm)]
   revert h1; cases (d.2.2.2.getD j false && decide (comeF n d.2 (n.2.2.2.1.getD j sta0).2.1 = 0)) <;> simp
 rw [Bool.eq_iff_iff, List.any_eq_true]
 constructor
 ·rintro ⟨j, hj, h⟩
  rw [key j (List.mem_range.1 hj), Bool.and_eq_true] at h
  exact h.2
 ·intro h
  exact ⟨i, List.mem_range.2 hi, by rw [key i hi, h, dec_t rfl]; rfl⟩
theorem qyC {d : Dk} (hd : VDk n d) (s : Stp) : inner (runS n d s) (ql4 n s d.1 d.2.1 d.2.2.1 d.2.2.2) := by
 unfold runS ql4
 rw [oob4, Option.bind_some]
 simp only
 cases hb : (decide (0 ≤ s.2.1) && decide (s.2.1 < (n.2.2.2.1.length : Int))) with
 | false => exact ⟨_, rfl, rfl, fun e => by cases e⟩
 | true =>
  have hb := qq5.1 hb
  have hz := hd.sz
  obtain ⟨i, hi⟩ : ∃ i : Nat, s.2.1 = (i : Int) := ⟨s.2.1.toNat, by omega⟩
  simp only [Bool.not_true, cond_false]
  rw [hi, Int.toNat_natCast, qa7, show ((d.2.1, (d.2.2.1, d.2.2.2)) : Pl) = d.2 from rfl, qpi hd.pl (by omega), Option.bind_some, Bool.not_not]
  cases hk : decide (s.1 = 3) with
  | false =>
   simp only [cond_false, Option.bind_some, Bool.false_and]
   rw [gd_t (inB_t (by omega))]
   exact ⟨_, rfl, rfl, fun _ => rfl⟩
  | true =>
   simp only [cond_true, Option.bind_some, Bool.true_and]
   cases decide (comeF n d.2 (n.2.2.2.1.getD i sta0).2.1 = 0) with
   | true => exact ⟨_, rfl, rfl, fun e => by cases e⟩
   | false =>
    simp only [cond_false]
    rw [gd_t (inB_t (by omega))]
    exact ⟨_, rfl, rfl, fun _ => rfl⟩
/-! ### Waiting -/
theorem qpm {v : Vl} : qcA v = true ↔ 1 ≤ v.1 ∧ v.1 ≤ 60 ∧ 0 ≤ v.2.1 ∧ v.2.1 ≤ v.1 := by
 unfold qcA; rw [Bool.and_eq_true, qk2, qk2, and_assoc]
theorem qxY {A : Type} (c : Bool) (x : A) : (bif c then x else x) = x := by cases c <;> rfl
theorem qzj {v : Vl} (h : qcA v = true) {t : Int} (ht : 1 ≤ t ∧ t ≤ 100) : qkn v t = some (movV v t, 0) := by
 have hv := qpm.1 h
 unfold qkn
 rw [show ((v.1, (v.2.1, (v.2.2.1, v.2.2.2))) : Vl) = v from rfl, valid_eq, Option.bind_some, h, dec_f (show ¬ t < 0 by omega), dec_f (show ¬ 400 < t by omega)]
 simp only [Bool.not_true, cond_false, Option.bind_some]
 have e : qio v t = some (movV v t) := by
  unfold qio qmU
  rw [wi (by omega), wi (by omega)]
  have eg : (bif v.2.2.1 then some v.1 else some 0) = some (bif v.2.2.1 then v.1 else 0) := by cases v.2.2.1 <;> rfl
  simp only
  rw [eg, Option.bind_some]
  have em : (bif v.2.2.2 then some v.2.1 else Option.bind (α := Int) (bif decide (v.2.1 < (bif v.2.2.1 then v.1 else 0)) then some (min (bif v.2.2.1 then v.1 else 0) (v.2.1 + t)) else some (max (bif v.2.2.1 then v.1 else 0) (v.2.1 - t))) fun s => some s) = some (movO v t) := by
   unfold movO
   cases v.2.2.2 with
   | true => rfl
   | false =>
    simp only [cond_false]
    by_cases hc : v.2.1 < (bif v.2.2.1 then v.1 else 0)
    ·rw [dec_t hc, if_pos hc]; rfl
    ·rw [dec_f hc, if_neg hc]; rfl
  rw [em, Option.bind_some]
  by_cases hc : movO v t = v.2.1
  ·rw [show movV v t = v by unfold movV; rw [hc], hc]; exact qxY _ _
  ·rw [dec_f hc, Bool.false_and, Bool.and_false]; rfl
 rw [e]; rfl
theorem qww {v : Vl} (h : qcA v = true) {t : Int} (ht : 0 ≤ t) : qcA (movV v t) = true := by
 rw [qpm] at h ⊢
 unfold movV movO
 simp only
 cases v.2.2.2 <;> cases v.2.2.1 <;> simp only [cond_true, cond_false] <;> (try split) <;> omega
theorem rg14 {A : Type} (v : Int) (x : A) : (bif decide (v < 1) then some (true, x) else some (decide (100 < v), x)) = some (!rg 1 100 v, x) := by
 unfold rg; rw [notlt v 1, notlt 100 v]
 cases decide (1 ≤ v) <;> cases decide (v ≤ 100) <;> rfl
theorem qzk {d : Dk} (hd : VDk n d) (s : Stp) (m : Net) : inner (waitS d s) (qmb m s d.1 d.2.1 d.2.2.1 d.2.2.2) := by
 unfold waitS qmb
 rw [rg14, Option.bind_some]
 simp only
 cases hr : rg 1 100 s.2.2.1 with
 | false => exact ⟨_, rfl, rfl, fun e => by cases e⟩
 | true =>
  have ht := qk2.1 hr
  have hl := hd.small.v
  simp only [Bool.not_true, cond_false]
  have := qbe (step := fun x : Int × List Vl × List Int × List Int × List Bool => qde s (false, d) x.1 x.2.1 x.2.2.1 x.2.2.2.1 x.2.2.2.2) (e := .inl (d.1.map fun v => movV v s.2.2.1, d.2)) d.1.length (fun i => ((i : Int), mix (d.1.map fun v => movV v s.2.2.1) d.1 i, d.2)) (fun i hi => ?_) ?_
  ·have this : iter (fun x => qde s (false, d.1, d.2.1, d.2.2.1, d.2.2.2) x.1 x.2.1 x.2.2.1 x.2.2.2.1 x.2.2.2.2) ((0 : Int), mix (d.1.map fun v => movV v s.2.2.1) d.1 0, d.2) = some (.inl (d.1.map fun v => movV v s.2.2.1, d.2)) := this
   rw [mix_0] at this
   rw [show ((0, d.1, d.2.1, d.2.2.1, d.2.2.2) : Int × Dk) = (0, d.1, d.2) from rfl, this]
   exact ⟨_, rfl, rfl, fun _ => rfl⟩
  ·show qde s (false, d) (i : Int) (mix (d.1.map fun v => movV v s.2.2.1) d.1 i) d.2.1 d.2.2.1 d.2.2.2 = _
   unfold qde
   have hm : (d.1.map fun v => movV v s.2.2.1).length = d.1.length := List.length_map ..
   have hg : (mix (d.1.map fun v => movV v s.2.2.1) d.1 i).getD i (0, (0, (false, false))) = d.1.getD i v0 := by rw [qwb hm rfl, if_neg (by omega)]
   have hB : inB (i : Int) (mix (d.1.map fun v => movV v s.2.2.1) d.1 i).length = true := inB_t (by rw [qqA hm rfl]; exact hi)
   rw [dec_t (show (i : Int) < (d.1.length : Int) by omega), cond_true, gd_t hB, Int.toNat_natCast, hg,
    show (((d.1.getD i v0).1, (((d.1.getD i v0).2).1, ((((d.1.getD i v0).2).2).1, (((d.1.getD i v0).2).2).2))) : Vl) = d.1.getD i v0 from rfl, qzj (hd.val1 hi) ht, Option.bind_some, gd_t hB]
   simp only [decide_true, Bool.not_true, cond_false]
   rw [w1 hi (by omega), show (((movV (d.1.getD i v0) s.2.2.1).1, ((movV (d.1.getD i v0) s.2.2.1).2.1, ((movV (d.1.getD i v0) s.2.2.1).2.2.1, (movV (d.1.getD i v0) s.2.2.1).2.2.2))) : Vl) = movV (d.1.getD i v0) s.2.2.1 from rfl,
    qy4 hm rfl v0 hi (by rw [qkE _ _ _ v0 _ hi])]
  ·show qde s (false, d) ((d.1.length : Nat) : Int) (mix (d.1.map fun v => movV v s.2.2.1) d.1 d.1.length) d.2.1 d.2.2.1 d.2.2.2 = _
   unfold qde
   have hm : (d.1.map fun v => movV v s.2.2.1).length = d.1.length := List.length_map ..
   rw [dec_f (show ¬ ((d.1.length : Nat) : Int) < (d.1.length : Int) by omega), mix_n hm rfl]; rfl
end
end Go.Proofs.YtnkfkceghbkkkaaGreat
