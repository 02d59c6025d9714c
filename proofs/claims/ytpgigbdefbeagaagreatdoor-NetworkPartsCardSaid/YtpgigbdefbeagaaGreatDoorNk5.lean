/- slices.IndexFunc and slices.ContainsFunc as findIdx and any. No condition. -/
import Derived.Test.YtpgigbdefbeagaaGreatDoorNk0
import Derived.Test.YtpgigbdefbeagaaGreatDoorLa1
import Derived.Test.YtpgigbdefbeagaaGreatDoorLa2
namespace Go.Proofs.YtpgigbdefbeagaaGreatDoor
open Go Go.Sq
theorem qd3 (s : List (List UInt8 × Int × Int × Int × Int × Int × List (Int × Int × Int))) (p : (List UInt8 × Int × Int × Int × Int × Int × List (Int × Int × Int)) → Bool) (f : (List UInt8 × Int × Int × Int × Int × Int × List (Int × Int × Int)) × Unit → Option Bool) (hf : ∀ x ∈ s, f (x, ()) = some (p x)) (hl : s.length ≤ 1000000) : qap s f = some (if s.findIdx p < s.length then ((s.findIdx p : Nat) : Int) else -1) := by
 unfold qap
 have h : iter (fun x => qab s f x) 0 = some (if s.findIdx p < s.length then .inr ((s.findIdx p : Nat) : Int) else .inl ()) := by
  refine qeB (step := fun y => qab s f y) (ε := Unit ⊕ Int) s ([], 0, 0, 0, 0, 0, []) p (fin := .inl ()) (fun i => .inr (i : Int)) (fun i hi hq => ?_) (fun i hi hq => ?_) ?_
  ·unfold qab
   rw [dec_t (show (i : Int) < (s.length : Int) by omega), cond_true, gd_t (inB_t hi), Int.toNat_natCast, hf _ (qaV hi), Option.bind_some, hq, cond_false, w1 hi (by omega)]
  ·unfold qab
   rw [dec_t (show (i : Int) < (s.length : Int) by omega), cond_true, gd_t (inB_t hi), Int.toNat_natCast, hf _ (qaV hi), Option.bind_some, hq, cond_true]
  ·unfold qab
   rw [dec_f (by omega)]; rfl
 rw [h, Option.bind_some]
 by_cases hf : s.findIdx p < s.length
 ·rw [if_pos hf, if_pos hf]; rfl
 ·rw [if_neg hf, if_neg hf]; rfl
theorem qbK (s : List (List UInt8 × Int × Int × Int × Int × Int × List (Int × Int × Int))) (p : (List UInt8 × Int × Int × Int × Int × Int × List (Int × Int × Int)) → Bool) (f : (List UInt8 × Int × Int × Int × Int × Int × List (Int × Int × Int)) × Unit → Option Bool) (hf : ∀ x ∈ s, f (x, ()) = some (p x)) (hl : s.length ≤ 1000000) : qaf s f = some (s.any p) := by
 unfold qaf
 rw [qd3 s p f hf hl, Option.bind_some, ← qd2]
 by_cases hf : s.findIdx p < s.length
 ·rw [if_pos hf, dec_t hf, dec_t (by omega)]
 ·rw [if_neg hf, dec_f hf, dec_f (by omega)]
theorem qgZ (s : List (List UInt8)) (p : (List UInt8) → Bool) (f : (List UInt8) × Unit → Option Bool) (hf : ∀ x ∈ s, f (x, ()) = some (p x)) (hl : s.length ≤ 1000000) : qay s f = some (if s.findIdx p < s.length then ((s.findIdx p : Nat) : Int) else -1) := by
 unfold qay
 have h : iter (fun x => qai s f x) 0 = some (if s.findIdx p < s.length then .inr ((s.findIdx p : Nat) : Int) else .inl ()) := by
  refine qeB (step := fun y => qai s f y) (ε := Unit ⊕ Int) s [] p (fin := .inl ()) (fun i => .inr (i : Int)) (fun i hi hq => ?_) (fun i hi hq => ?_) ?_
  ·unfold qai
   rw [dec_t (show (i : Int) < (s.length : Int) by omega), cond_true, gd_t (inB_t hi), Int.toNat_natCast, hf _ (qaV hi), Option.bind_some, hq, cond_false, w1 hi (by omega)]
  ·unfold qai
   rw [dec_t (show (i : Int) < (s.length : Int) by omega), cond_true, gd_t (inB_t hi), Int.toNat_natCast, hf _ (qaV hi), Option.bind_some, hq, cond_true]
  ·unfold qai
   rw [dec_f (by omega)]; rfl
 rw [h, Option.bind_some]
 by_cases hf : s.findIdx p < s.length
 ·rw [if_pos hf, if_pos hf]; rfl
 ·rw [if_neg hf, if_neg hf]; rfl
theorem qeC (s : List (List UInt8)) (p : (List UInt8) → Bool) (f : (List UInt8) × Unit → Option Bool) (hf : ∀ x ∈ s, f (x, ()) = some (p x)) (hl : s.length ≤ 1000000) : qaj s f = some (s.any p) := by
 unfold qaj
 rw [qgZ s p f hf hl, Option.bind_some, ← qd2]
 by_cases hf : s.findIdx p < s.length
 ·rw [if_pos hf, dec_t hf, dec_t (by omega)]
 ·rw [if_neg hf, dec_f hf, dec_f (by omega)]
theorem qbL (s : List (List UInt8 × Int × Int × Int × Int)) (p : (List UInt8 × Int × Int × Int × Int) → Bool) (f : (List UInt8 × Int × Int × Int × Int) × Unit → Option Bool) (hf : ∀ x ∈ s, f (x, ()) = some (p x)) (hl : s.length ≤ 1000000) : qad s f = some (if s.findIdx p < s.length then ((s.findIdx p : Nat) : Int) else -1) := by
 unfold qad
 have h : iter (fun x => qac s f x) 0 = some (if s.findIdx p < s.length then .inr ((s.findIdx p : Nat) : Int) else .inl ()) := by
  refine qeB (step := fun y => qac s f y) (ε := Unit ⊕ Int) s ([], 0, 0, 0, 0) p (fin := .inl ()) (fun i => .inr (i : Int)) (fun i hi hq => ?_) (fun i hi hq => ?_) ?_
  ·unfold qac
   rw [dec_t (show (i : Int) < (s.length : Int) by omega), cond_true, gd_t (inB_t hi), Int.toNat_natCast, hf _ (qaV hi), Option.bind_some, hq, cond_false, w1 hi (by omega)]
  ·unfold qac
   rw [dec_t (show (i : Int) < (s.length : Int) by omega), cond_true, gd_t (inB_t hi), Int.toNat_natCast, hf _ (qaV hi), Option.bind_some, hq, cond_true]
  ·unfold qac
   rw [dec_f (by omega)]; rfl
 rw [h, Option.bind_some]
 by_cases hf : s.findIdx p < s.length
 ·rw [if_pos hf, if_pos hf]; rfl
 ·rw [if_neg hf, if_neg hf]; rfl
theorem qd4 (s : List (List UInt8 × Int × Int × Int × Int)) (p : (List UInt8 × Int × Int × Int × Int) → Bool) (f : (List UInt8 × Int × Int × Int × Int) × Unit → Option Bool) (hf : ∀ x ∈ s, f (x, ()) = some (p x)) (hl : s.length ≤ 1000000) : qam s f = some (s.any p) := by
 unfold qam
 rw [qbL s p f hf hl, Option.bind_some, ← qd2]
 by_cases hf : s.findIdx p < s.length
 ·rw [if_pos hf, dec_t hf, dec_t (by omega)]
 ·rw [if_neg hf, dec_f hf, dec_f (by omega)]
theorem qlj (s : List (Int)) (p : (Int) → Bool) (f : (Int) × Unit → Option Bool) (hf : ∀ x ∈ s, f (x, ()) = some (p x)) (hl : s.length ≤ 1000000) : qaP s f = some (if s.findIdx p < s.length then ((s.findIdx p : Nat) : Int) else -1) := by
 unfold qaP
 have h : iter (fun x => qat s f x) 0 = some (if s.findIdx p < s.length then .inr ((s.findIdx p : Nat) : Int) else .inl ()) := by
  refine qeB (step := fun y => qat s f y) (ε := Unit ⊕ Int) s 0 p (fin := .inl ()) (fun i => .inr (i : Int)) (fun i hi hq => ?_) (fun i hi hq => ?_) ?_
  ·unfold qat
   rw [dec_t (show (i : Int) < (s.length : Int) by omega), cond_true, gd_t (inB_t hi), Int.toNat_natCast, hf _ (qaV hi), Option.bind_some, hq, cond_false, w1 hi (by omega)]
  ·unfold qat
   rw [dec_t (show (i : Int) < (s.length : Int) by omega), cond_true, gd_t (inB_t hi), Int.toNat_natCast, hf _ (qaV hi), Option.bind_some, hq, cond_true]
  ·unfold qat
   rw [dec_f (by omega)]; rfl
 rw [h, Option.bind_some]
 by_cases hf : s.findIdx p < s.length
 ·rw [if_pos hf, if_pos hf]; rfl
 ·rw [if_neg hf, if_neg hf]; rfl
theorem qlk (s : List (Int)) (p : (Int) → Bool) (f : (Int) × Unit → Option Bool) (hf : ∀ x ∈ s, f (x, ()) = some (p x)) (hl : s.length ≤ 1000000) : qaH s f = some (s.any p) := by
 unfold qaH
 rw [qlj s p f hf hl, Option.bind_some, ← qd2]
 by_cases hf : s.findIdx p < s.length
 ·rw [if_pos hf, dec_t hf, dec_t (by omega)]
 ·rw [if_neg hf, dec_f hf, dec_f (by omega)]
theorem qdc (s : List (List UInt8 × Int × Int)) (p : (List UInt8 × Int × Int) → Bool) (f : (List UInt8 × Int × Int) × Unit → Option Bool) (hf : ∀ x ∈ s, f (x, ()) = some (p x)) (hl : s.length ≤ 1000000) : qao s f = some (if s.findIdx p < s.length then ((s.findIdx p : Nat) : Int) else -1) := by
 unfold qao
 have h : iter (fun x => qag s f x) 0 = some (if s.findIdx p < s.length then .inr ((s.findIdx p : Nat) : Int) else .inl ()) := by
  refine qeB (step := fun y => qag s f y) (ε := Unit ⊕ Int) s ([], 0, 0) p (fin := .inl ()) (fun i => .inr (i : Int)) (fun i hi hq => ?_) (fun i hi hq => ?_) ?_
  ·unfold qag
   rw [dec_t (show (i : Int) < (s.length : Int) by omega), cond_true, gd_t (inB_t hi), Int.toNat_natCast, hf _ (qaV hi), Option.bind_some, hq, cond_false, w1 hi (by omega)]
  ·unfold qag
   rw [dec_t (show (i : Int) < (s.length : Int) by omega), cond_true, gd_t (inB_t hi), Int.toNat_natCast, hf _ (qaV hi), Option.bind_some, hq, cond_true]
  ·unfold qag
   rw [dec_f (by omega)]; rfl
 rw [h, Option.bind_some]
 by_cases hf : s.findIdx p < s.length
 ·rw [if_pos hf, if_pos hf]; rfl
 ·rw [if_neg hf, if_neg hf]; rfl
theorem qfC (s : List (List UInt8 × Int × Int)) (p : (List UInt8 × Int × Int) → Bool) (f : (List UInt8 × Int × Int) × Unit → Option Bool) (hf : ∀ x ∈ s, f (x, ()) = some (p x)) (hl : s.length ≤ 1000000) : qas s f = some (s.any p) := by
 unfold qas
 rw [qdc s p f hf hl, Option.bind_some, ← qd2]
 by_cases hf : s.findIdx p < s.length
 ·rw [if_pos hf, dec_t hf, dec_t (by omega)]
 ·rw [if_neg hf, dec_f hf, dec_f (by omega)]
end Go.Proofs.YtpgigbdefbeagaaGreatDoor
namespace Go.Proofs.YtpgigbdefbeagaaGreatDoor
open Go Go.Sq
set_option linter.unusedVariables false
abbrev pt0 : Pt := (0, (0, 0))
abbrev sg0 : Seg := ([], (0, (0, (0, (0, (0, []))))))
abbrev po0 : Port := ([], (0, 0))
abbrev sta0 : Stat := ([], (0, (0, (0, 0))))
def rg (lo hi n : Int) : Bool := decide (lo ≤ n) && decide (n ≤ hi)
def limB (n : Net) : Bool := Nat.ble 1 n.1.length && (Nat.ble n.1.length 24 && (Nat.ble n.2.1.length 32 && (Nat.ble n.2.2.1.length 24 && Nat.ble n.2.2.2.1.length 12))) && n.2.1.all fun s => Nat.ble 2 s.2.2.2.2.2.2.length && Nat.ble s.2.2.2.2.2.2.length 8
def nmsOf (n : Net) : List (List Str) := [n.1, n.2.1.map (·.1), n.2.2.1.map (·.1), n.2.2.2.1.map (·.1)]
def formB (n : Net) : Bool := (nmsOf n).all fun l => l.all nameB
def twL (l : List Str) : Bool := (List.range l.length).any fun i => (List.range i).any fun k => decide (l.getD i [] = l.getD k [])
def twS (l : List Stat) : Bool := (List.range l.length).any fun i => (List.range i).any fun k => decide ((l.getD k sta0).2.1 = (l.getD i sta0).2.1)
def twB (n : Net) : Bool := (nmsOf n).any twL || twS n.2.2.2.1
def kn (n : Net) (k : Int) : Bool := decide (0 ≤ k) && decide (k < (n.1.length : Int))
def knB (n : Net) : Bool := n.2.1.all (fun s => kn n s.2.1 && kn n s.2.2.1) && (n.2.2.1.all (fun p => kn n p.2.1) && n.2.2.2.1.all (fun s => kn n s.2.1))
def ptB (l : List Pt) (i : Nat) : Bool := rg (-500) 5000 (l.getD i pt0).2.1 && (rg 0 100000000 (l.getD i pt0).2.2 && (Nat.beq i 0 || decide ((l.getD (i - 1) pt0).1 < (l.getD i pt0).1)))
def pipeB (s : Seg) : Bool := !decide (s.2.1 = s.2.2.1) && (rg 1 1000000 s.2.2.2.1 && (rg 0 1000 s.2.2.2.2.1 && rg 0 100000 s.2.2.2.2.2.1)) && ((List.range s.2.2.2.2.2.2.length).all (ptB s.2.2.2.2.2.2) && (decide ((s.2.2.2.2.2.2.getD 0 pt0).1 = 0) && decide ((s.2.2.2.2.2.2.getD (s.2.2.2.2.2.2.length - 1) pt0).1 = s.2.2.2.1)))
def stB (s : Stat) : Bool := rg 0 100000000 s.2.2.1 && (rg 0 100000 s.2.2.2.1 && rg 0 100000000 s.2.2.2.2)
def prB (n : Net) : Bool := n.2.1.all pipeB && (n.2.2.1.all (fun p => rg 0 100000000 p.2.2) && (n.2.2.2.1.all stB && (rg (-100000) 100000000 n.2.2.2.2.1 && rg 0 100 n.2.2.2.2.2)))
def qe5 (n : Net) : Int := bif limB n then (bif formB n then (bif twB n then 7 else bif knB n then (bif prB n then 0 else 9) else 8) else 3) else 4
structure Small (n : Net) : Prop where
 no1 : 1 ≤ n.1.length
 no : n.1.length ≤ 24
 sg : n.2.1.length ≤ 32
 po : n.2.2.1.length ≤ 24
 st : n.2.2.2.1.length ≤ 12
 pt : ∀ s ∈ n.2.1, 2 ≤ s.2.2.2.2.2.2.length ∧ s.2.2.2.2.2.2.length ≤ 8
theorem qhv (n : Net) : limB n = true ↔ Small n := by
 unfold limB
 simp only [Bool.and_eq_true, Nat.ble_eq, List.all_eq_true]
 constructor
 ·rintro ⟨⟨h1, h2, h3, h4, h5⟩, h6⟩; exact ⟨h1, h2, h3, h4, h5, h6⟩
 ·rintro ⟨h1, h2, h3, h4, h5, h6⟩; exact ⟨⟨h1, h2, h3, h4, h5⟩, h6⟩
theorem qeD (n lo hi : Int) : qaQ n lo hi = some (rg lo hi n) := by
 unfold qaQ rg
 cases decide (lo ≤ n) <;> rfl
theorem dlt {a b : Nat} : decide ((a : Int) < (b : Int)) = Nat.blt a b := by
 rw [Bool.eq_iff_iff, decide_eq_true_iff, Nat.blt_eq]; omega
theorem bltn (a b : Nat) : Nat.blt a b = !Nat.ble b a := by
 rw [Bool.eq_iff_iff, Nat.blt_eq, Bool.not_eq_true']
 constructor
 ·intro h; exact Bool.eq_false_iff.2 fun hh => by have := Nat.le_of_ble_eq_true hh; omega
 ·intro h; rcases Nat.lt_or_ge a b with h' | h'
  ·exact h'
  ·rw [Nat.ble_eq_true_of_le h'] at h; cases h
theorem qoj (n : Net) : qbV n = some (limB n) := by
 unfold qbV limB
 have e1 : decide ((n.1.length : Int) < 1) = !Nat.ble 1 n.1.length := by rw [← bltn]; exact dlt (b := 1)
 have e2 : decide (24 < (n.1.length : Int)) = !Nat.ble n.1.length 24 := by rw [← bltn]; exact dlt (a := 24)
 have e3 : decide (32 < (n.2.1.length : Int)) = !Nat.ble n.2.1.length 32 := by rw [← bltn]; exact dlt (a := 32)
 have e4 : decide (24 < (n.2.2.1.length : Int)) = !Nat.ble n.2.2.1.length 24 := by rw [← bltn]; exact dlt (a := 24)
 have e5 : decide (12 < (n.2.2.2.1.length : Int)) = !Nat.ble n.2.2.2.1.length 12 := by rw [← bltn]; exact dlt (a := 12)
 rw [e1, e2, e3, e4, e5]
 cases h1 : Nat.ble 1 n.1.length
 ·rfl
 cases h2 : Nat.ble n.1.length 24
 ·rfl
 cases h3 : Nat.ble n.2.1.length 32
 ·rfl
 cases h4 : Nat.ble n.2.2.1.length 24
 ·rfl
 cases h5 : Nat.ble n.2.2.2.1.length 12
 ·rfl
 have h3 := Nat.le_of_ble_eq_true h3
 simp only [Bool.not_true, cond_false, Option.bind_some, Bool.and_true, Bool.true_and]
 rw [qbK n.2.1 (fun s => !(Nat.ble 2 s.2.2.2.2.2.2.length && Nat.ble s.2.2.2.2.2.2.length 8)) _ (fun x _ => by
  unfold qdh
  have f1 : decide ((x.2.2.2.2.2.2.length : Int) < 2) = !Nat.ble 2 x.2.2.2.2.2.2.length := by rw [← bltn]; exact dlt (b := 2)
  have f2 : decide (8 < (x.2.2.2.2.2.2.length : Int)) = !Nat.ble x.2.2.2.2.2.2.length 8 := by rw [← bltn]; exact dlt (a := 8)
  simp only [f1, f2]
  cases Nat.ble 2 x.2.2.2.2.2.2.length <;> cases Nat.ble x.2.2.2.2.2.2.length 8 <;> rfl) (by omega), Option.bind_some]
 congr 1
 simp [List.all_eq_not_any_not]
theorem ql3 {n : Net} (h1 : n.2.1.length ≤ 1000) (h2 : n.2.2.1.length ≤ 1000) (h3 : n.2.2.2.1.length ≤ 1000) : qbr n = some (n.1, (n.2.1.map (·.1), (n.2.2.1.map (·.1), n.2.2.2.1.map (·.1)))) := by
 unfold qbr
 have k1 := qc0 (step := fun x : Int × List (List UInt8) => qb5 n x.1 x.2) n.2.1.length (fun i => ((i : Int), (n.2.1.map (·.1)).take i)) (e := n.2.1.map (·.1)) (fun i hi => by
  unfold qb5
  simp only [dec_t (show (i : Int) < (n.2.1.length : Int) by omega), cond_true, gd_t (inB_t hi), Int.toNat_natCast]
  rw [gd_t (qbG (by rw [List.length_take]; omega)), w1 hi (by omega), qbu ([] : List UInt8) (by simpa using hi), qki (·.1) n.2.1 i sg0 [] hi]) (by
  unfold qb5
  simp only [dec_f (show ¬ (n.2.1.length : Int) < (n.2.1.length : Int) by omega), cond_false]
  rw [List.take_of_length_le (by simp)])
 rw [show ((((0 : Nat) : Int), (n.2.1.map (·.1)).take 0) : Int × List (List UInt8)) = (0, []) from rfl] at k1
 rw [k1, Option.bind_some]
 generalize n.2.1.map (·.1) = A
 have k2 := qc0 (step := fun x : Int × List (List UInt8) × List (List UInt8) => qb6 n x.1 x.2.1 x.2.2) n.2.2.1.length (fun i => ((i : Int), A, (n.2.2.1.map (·.1)).take i)) (e := (A, n.2.2.1.map (·.1))) (fun i hi => by
  unfold qb6
  simp only [dec_t (show (i : Int) < (n.2.2.1.length : Int) by omega), cond_true, gd_t (inB_t hi), Int.toNat_natCast]
  rw [gd_t (qbG (by rw [List.length_take]; omega)), w1 hi (by omega), qbu ([] : List UInt8) (by simpa using hi), qki (·.1) n.2.2.1 i po0 [] hi]) (by
  unfold qb6
  simp only [dec_f (show ¬ (n.2.2.1.length : Int) < (n.2.2.1.length : Int) by omega), cond_false]
  rw [List.take_of_length_le (by simp)])
 rw [show ((((0 : Nat) : Int), A, (n.2.2.1.map (·.1)).take 0) : Int × List (List UInt8) × List (List UInt8)) = (0, A, []) from rfl] at k2
 rw [k2, Option.bind_some]
 simp only
 generalize n.2.2.1.map (·.1) = B
 have k3 := qc0 (step := fun x : Int × List (List UInt8) × List (List UInt8) × List (List UInt8) => qb7 n x.1 x.2.1 x.2.2.1 x.2.2.2) n.2.2.2.1.length (fun i => ((i : Int), A, B, (n.2.2.2.1.map (·.1)).take i)) (e := (A, B, n.2.2.2.1.map (·.1))) (fun i hi => by
  unfold qb7
  simp only [dec_t (show (i : Int) < (n.2.2.2.1.length : Int) by omega), cond_true, gd_t (inB_t hi), Int.toNat_natCast]
  rw [gd_t (qbG (by rw [List.length_take]; omega)), w1 hi (by omega), qbu ([] : List UInt8) (by simpa using hi), qki (·.1) n.2.2.2.1 i sta0 [] hi]) (by
  unfold qb7
  simp only [dec_f (show ¬ (n.2.2.2.1.length : Int) < (n.2.2.2.1.length : Int) by omega), cond_false]
  rw [List.take_of_length_le (by simp)])
 rw [show ((((0 : Nat) : Int), A, B, (n.2.2.2.1.map (·.1)).take 0) : Int × List (List UInt8) × List (List UInt8) × List (List UInt8)) = (0, A, B, []) from rfl] at k3
 rw [k3]; rfl
theorem sidx (s : List Str) (v : Str) (hl : s.length ≤ 1000000) : qak s v = some (if s.findIdx (fun x => decide (v = x)) < s.length then ((s.findIdx (fun x => decide (v = x)) : Nat) : Int) else -1) := by
 unfold qak
 have h : iter (fun x => qaq s v x) 0 = some (if s.findIdx (fun x => decide (v = x)) < s.length then .inr ((s.findIdx (fun x => decide (v = x)) : Nat) : Int) else .inl ()) := by
  refine qeB (step := fun y => qaq s v y) (ε := Unit ⊕ Int) s [] (fun x => decide (v = x)) (fin := .inl ()) (fun i => .inr (i : Int)) (fun i hi hq => ?_) (fun i hi hq => ?_) ?_
  ·unfold qaq
   rw [dec_t (show (i : Int) < (s.length : Int) by omega), cond_true, gd_t (inB_t hi), Int.toNat_natCast, hq, cond_false, w1 hi (by omega)]
  ·unfold qaq
   rw [dec_t (show (i : Int) < (s.length : Int) by omega), cond_true, gd_t (inB_t hi), Int.toNat_natCast, hq, cond_true]
  ·unfold qaq
   rw [dec_f (by omega)]; rfl
 rw [h, Option.bind_some]
 by_cases hf : s.findIdx (fun x => decide (v = x)) < s.length
 ·rw [if_pos hf, if_pos hf]; rfl
 ·rw [if_neg hf, if_neg hf]; rfl
theorem ql4 {A : Type} (l : List A) (d : A) (p : A → Bool) (i : Nat) (hi : i < l.length) (hp : p (l.getD i d) = true) :
  decide ((if l.findIdx p < l.length then ((l.findIdx p : Nat) : Int) else -1) < (i : Int)) = (List.range i).any fun k => p (l.getD k d) := by
 have h1 : l.findIdx p < l.length := List.findIdx_lt_length.2 ⟨_, qaV hi, hp⟩
 rw [if_pos h1, ← qmK l d p i (by omega)]
 rw [Bool.eq_iff_iff, decide_eq_true_iff, decide_eq_true_iff]; omega
abbrev nm4 (a b c d : List Str) : List (List Str) := [a, b, c, d]
theorem range4 {q : List Str → Bool} (a b c d : List Str) : (List.range 4).all (fun i => q ((nm4 a b c d).getD i [])) = (nm4 a b c d).all q := qoh (nm4 a b c d) [] q
theorem range4n {q : List Str → Bool} (a b c d : List Str) : (List.range 4).all (fun i => !q ((nm4 a b c d).getD i [])) = !(nm4 a b c d).any q := by
 rw [range4 (q := fun l => !q l)]; simp [List.all_eq_not_any_not]
theorem len4 {a b c d : List Str} {m : Nat} (ha : a.length ≤ m) (hb : b.length ≤ m) (hc : c.length ≤ m) (hd : d.length ≤ m) (i : Nat) : ((nm4 a b c d).getD i []).length ≤ m := by
 rcases i with _ | _ | _ | _ | i
 ·exact ha
 ·exact hb
 ·exact hc
 ·exact hd
 ·show ([] : List Str).length ≤ m; simp
noncomputable def qok (l : List Str) (x : Int) : Option (Int ⊕ (Unit ⊕ Bool)) :=
 bif decide (x < (l.length : Int)) then (gd (inB x l.length) <| (qak l (l.getD x.toNat [])).bind fun r2 => bif decide (r2 < x) then (some (.inr (.inr true))) else (some (.inl (wi64 (x + 1))))) else (some (.inr (.inl ())))
section
variable {a b c d : List Str} (ha : a.length ≤ 100) (hb : b.length ≤ 100) (hc : c.length ≤ 100) (hd : d.length ≤ 100)
include ha hb hc hd
theorem qo0 : iter (fun x : Int => qch (a, (b, (c, d))) x) 0 = some (bif (nm4 a b c d).all (fun l => l.all nameB) then .inl () else .inr 3) := by
 have := qfL (step := fun x : Int => qch (a, (b, (c, d))) x) 4 (fun i => (i : Int)) (fun i => ((nm4 a b c d).getD i []).all nameB) (fin := .inl ()) (bad := .inr 3) (fun i hi _ hq => ?_) (fun i hi _ hq => ?_) (fun _ => ?_)
 ·rw [range4 (q := fun l => l.all nameB)] at this; exact this
 all_goals unfold qch
 ·rw [dec_t (show (i : Int) < 4 by omega), cond_true, gd_t (inB_t hi), Int.toNat_natCast]
  show (qaj ((nm4 a b c d).getD i []) _).bind _ = _
  rw [qeC _ (fun s => !nameB s) _ (fun x _ => by show (qbh x).bind _ = _; unfold qbh; rw [qkl]; rfl) (Nat.le_trans (len4 ha hb hc hd i) (by omega)), Option.bind_some]
  rw [List.all_eq_not_any_not] at hq
  simp only [Bool.not_eq_true', Bool.not_eq_eq_eq_not, Bool.not_true] at hq
  rw [hq, cond_false, w1 hi (by omega)]
 ·rw [dec_t (show (i : Int) < 4 by omega), cond_true, gd_t (inB_t hi), Int.toNat_natCast]
  show (qaj ((nm4 a b c d).getD i []) _).bind _ = _
  rw [qeC _ (fun s => !nameB s) _ (fun x _ => by show (qbh x).bind _ = _; unfold qbh; rw [qkl]; rfl) (Nat.le_trans (len4 ha hb hc hd i) (by omega)), Option.bind_some]
  rw [List.all_eq_not_any_not] at hq
  simp only [Bool.not_eq_true', Bool.not_eq_eq_eq_not, Bool.not_false] at hq
  rw [hq, cond_true]
 ·rw [dec_f (by omega)]; rfl
theorem qqm : iter (fun x : Int => qb9 (a, (b, (c, d))) x) 0 = some (bif (nm4 a b c d).any twL then .inr true else .inl ()) := by
 have hin : ∀ i : Nat, i < 4 → iter (fun x => qb8 (a, (b, (c, d))) (i : Int) x) 0 = some (bif twL ((nm4 a b c d).getD i []) then .inr true else .inl ()) := by
  intro i hi
  have hl := len4 ha hb hc hd i
  have e : ∀ x : Int, qb8 (a, (b, (c, d))) (i : Int) x = qok ((nm4 a b c d).getD i []) x := by
   intro x; unfold qb8; rw [Int.toNat_natCast]; rfl
  simp only [e]
  generalize (nm4 a b c d).getD i [] = l at hl ⊢
  have hidx : ∀ k, k < l.length → qak l (l.getD k []) = some (if l.findIdx (fun x => decide (l.getD k [] = x)) < l.length then ((l.findIdx (fun x => decide (l.getD k [] = x)) : Nat) : Int) else -1) := fun k _ => sidx l _ (by omega)
  have := scanN (ε := Unit ⊕ Bool) (step := fun x => qok l x) l.length (fun i => (List.range i).any fun k => decide (l.getD i [] = l.getD k [])) (fin := .inl ()) (bad := .inr true) (fun k hk hq => ?_) (fun k hk hq => ?_) ?_
  ·exact this
  all_goals unfold qok
  ·rw [dec_t (show (k : Int) < (l.length : Int) by omega), cond_true, gd_t (inB_t hk), Int.toNat_natCast, hidx k hk, Option.bind_some, ql4 l [] _ k hk (by simp), hq, cond_false, w1 hk (by omega)]
  ·rw [dec_t (show (k : Int) < (l.length : Int) by omega), cond_true, gd_t (inB_t hk), Int.toNat_natCast, hidx k hk, Option.bind_some, ql4 l [] _ k hk (by simp), hq, cond_true]
  ·rw [dec_f (by omega)]; rfl
 have := qfL (step := fun x : Int => qb9 (a, (b, (c, d))) x) 4 (fun i => (i : Int)) (fun i => !twL ((nm4 a b c d).getD i [])) (fin := .inl ()) (bad := .inr true) (fun i hi _ hq => ?_) (fun i hi _ hq => ?_) (fun _ => ?_)
 ·rw [range4n] at this
  refine this.trans ?_
  cases (nm4 a b c d).any twL <;> rfl
 all_goals unfold qb9
 ·rw [dec_t (show (i : Int) < 4 by omega), cond_true, gd_t (inB_t hi), hin i hi, Option.bind_some]
  simp only [Bool.not_eq_true'] at hq
  rw [hq, w1 hi (by omega)]; rfl
 ·rw [dec_t (show (i : Int) < 4 by omega), cond_true, gd_t (inB_t hi), hin i hi, Option.bind_some]
  simp only [Bool.not_eq_false'] at hq
  rw [hq]; rfl
 ·rw [dec_f (by omega)]; rfl
end
theorem qqn (n : Net) (hs : n.2.2.2.1.length ≤ 100) : iter (fun x => qca n x) 0 = some (bif twS n.2.2.2.1 then .inr true else .inl ()) := by
 generalize hl : n.2.2.2.1 = l at hs
 have hidx : ∀ k, k < l.length → ∀ f : Stat × Unit → Option Bool, (∀ x, f (x, ()) = some (decide (x.2.1 = (l.getD k sta0).2.1))) → qad l f = some (if l.findIdx (fun x => decide (x.2.1 = (l.getD k sta0).2.1)) < l.length then ((l.findIdx (fun x => decide (x.2.1 = (l.getD k sta0).2.1)) : Nat) : Int) else -1) := fun k _ f hf => qbL l _ f (fun x _ => hf x) (by omega)
 have := scanN (ε := Unit ⊕ Bool) (step := fun x => qca n x) l.length (fun i => (List.range i).any fun k => decide ((l.getD k sta0).2.1 = (l.getD i sta0).2.1)) (fin := .inl ()) (bad := .inr true) (fun k hk hq => ?_) (fun k hk hq => ?_) ?_
 ·exact this
 all_goals unfold qca; simp only [hl]
 ·rw [dec_t (show (k : Int) < (l.length : Int) by omega), cond_true, gd_t (inB_t hk), Int.toNat_natCast, hidx k hk _ (fun x => rfl), Option.bind_some, ql4 l sta0 _ k hk (by simp), hq, cond_false, w1 hk (by omega)]
 ·rw [dec_t (show (k : Int) < (l.length : Int) by omega), cond_true, gd_t (inB_t hk), Int.toNat_natCast, hidx k hk _ (fun x => rfl), Option.bind_some, ql4 l sta0 _ k hk (by simp), hq, cond_true]
 ·rw [dec_f (by omega)]; rfl
theorem qo1 {n : Net} (h : Small n) : qct n = some (twB n) := by
 obtain ⟨h1, h2, h3, h4, h5, h6⟩ := h
 unfold qct
 show (qbr n).bind _ = _
 rw [ql3 (by omega) (by omega) (by omega), Option.bind_some]
 rw [qqm (by omega) (by simp; omega) (by simp; omega) (by simp; omega), Option.bind_some]
 unfold twB
 show Sum.elim _ _ (bif (nmsOf n).any twL then _ else _) = _
 cases (nmsOf n).any twL with
 | true => rfl
 | false =>
  simp only [cond_false, Sum.elim_inl, Bool.false_or]
  rw [qqn n (by omega), Option.bind_some]
  cases twS n.2.2.2.1 <;> rfl
end Go.Proofs.YtpgigbdefbeagaaGreatDoor
namespace Go.Proofs.YtpgigbdefbeagaaGreatDoor
open Go Go.Sq
set_option linter.unusedVariables false
theorem qo2 {n : Net} (h : Small n) : qcv n = some (knB n) := by
 obtain ⟨h1, h2, h3, h4, h5, h6⟩ := h
 unfold qcv
 have a1 : ∀ i, (((n.2.1.take i).flatMap fun s => [s.2.1, s.2.2.1]) : List Int).length ≤ 2 * i := by
  intro i
  rw [List.length_flatMap]
  have : ∀ l : List Seg, (l.map fun s => ([s.2.1, s.2.2.1] : List Int).length).sum = 2 * l.length := by
   intro l; induction l with
   | nil => rfl
   | cons x l ih => rw [List.map_cons, List.sum_cons, ih]; show 2 + 2 * l.length = 2 * (l.length + 1); omega
  rw [this, List.length_take]; omega
 have k1 := qc0 (step := fun x : Int × List Int => qcb n x.1 x.2) n.2.1.length (fun i => ((i : Int), (n.2.1.take i).flatMap fun s => [s.2.1, s.2.2.1])) (e := n.2.1.flatMap fun s => [s.2.1, s.2.2.1]) (fun i hi => by
  unfold qcb
  have := a1 i
  simp only [dec_t (show (i : Int) < (n.2.1.length : Int) by omega), cond_true, gd_t (inB_t hi), Int.toNat_natCast]
  rw [gd_t (qbG (by omega)), w1 hi (by omega), qbu sg0 hi, List.flatMap_append]; simp) (by
  unfold qcb
  simp only [dec_f (show ¬ (n.2.1.length : Int) < (n.2.1.length : Int) by omega), cond_false]
  rw [List.take_of_length_le (by simp)])
 rw [show ((((0 : Nat) : Int), (n.2.1.take 0).flatMap fun s => [s.2.1, s.2.2.1]) : Int × List Int) = (0, []) from rfl] at k1
 rw [k1, Option.bind_some]
 have a2 := a1 n.2.1.length
 rw [List.take_of_length_le (Nat.le_refl _)] at a2
 generalize hA : (n.2.1.flatMap fun s => [s.2.1, s.2.2.1]) = A at a2
 have k2 := qc0 (step := fun x : Int × List Int => qcc n x.1 x.2) n.2.2.1.length (fun i => ((i : Int), A ++ (n.2.2.1.map (·.2.1)).take i)) (e := A ++ n.2.2.1.map (·.2.1)) (fun i hi => by
  unfold qcc
  simp only [dec_t (show (i : Int) < (n.2.2.1.length : Int) by omega), cond_true, gd_t (inB_t hi), Int.toNat_natCast]
  rw [gd_t (qbG (by simp; omega)), w1 hi (by omega), qbu (0 : Int) (by simpa using hi), qki (·.2.1) n.2.2.1 i po0 0 hi, List.append_assoc]) (by
  unfold qcc
  simp only [dec_f (show ¬ (n.2.2.1.length : Int) < (n.2.2.1.length : Int) by omega), cond_false]
  rw [List.take_of_length_le (by simp)])
 rw [show ((((0 : Nat) : Int), A ++ (n.2.2.1.map (·.2.1)).take 0) : Int × List Int) = (0, A) by simp] at k2
 rw [k2, Option.bind_some]
 have a3 : (A ++ n.2.2.1.map (·.2.1)).length ≤ 200 := by simp; omega
 generalize hB : A ++ n.2.2.1.map (·.2.1) = B at a3
 have k3 := qc0 (step := fun x : Int × List Int => qcd n x.1 x.2) n.2.2.2.1.length (fun i => ((i : Int), B ++ (n.2.2.2.1.map (·.2.1)).take i)) (e := B ++ n.2.2.2.1.map (·.2.1)) (fun i hi => by
  unfold qcd
  simp only [dec_t (show (i : Int) < (n.2.2.2.1.length : Int) by omega), cond_true, gd_t (inB_t hi), Int.toNat_natCast]
  rw [gd_t (qbG (by simp; omega)), w1 hi (by omega), qbu (0 : Int) (by simpa using hi), qki (·.2.1) n.2.2.2.1 i sta0 0 hi, List.append_assoc]) (by
  unfold qcd
  simp only [dec_f (show ¬ (n.2.2.2.1.length : Int) < (n.2.2.2.1.length : Int) by omega), cond_false]
  rw [List.take_of_length_le (by simp)])
 rw [show ((((0 : Nat) : Int), B ++ (n.2.2.2.1.map (·.2.1)).take 0) : Int × List Int) = (0, B) by simp] at k3
 rw [k3, Option.bind_some]
 rw [qlk _ (fun k => !kn n k) _ (fun x _ => by
  show (qcu x n).bind _ = _
  unfold qcu kn
  have e1 : decide (x < 0) = !decide (0 ≤ x) := by rw [Bool.eq_iff_iff]; simp
  have e2 : decide ((n.1.length : Int) ≤ x) = !decide (x < (n.1.length : Int)) := by rw [Bool.eq_iff_iff]; simp
  rw [e1, e2]
  cases decide (0 ≤ x) <;> cases decide (x < (n.1.length : Int)) <;> rfl) (by simp; omega), Option.bind_some]
 congr 1
 subst hB hA
 unfold knB
 rw [List.all_eq_not_any_not, List.all_eq_not_any_not, List.all_eq_not_any_not]
 rw [List.any_append, List.any_append, List.any_flatMap, List.any_map, List.any_map]
 simp [Function.comp_def, Bool.and_assoc]
theorem qpS {s : Seg} (h1 : 2 ≤ s.2.2.2.2.2.2.length) (h2 : s.2.2.2.2.2.2.length ≤ 8) : qc7 s = some (pipeB s) := by
 unfold qc7 pipeB
 have hl : iter (fun x => qcx s x) 0 = some (bif (List.range s.2.2.2.2.2.2.length).all (ptB s.2.2.2.2.2.2) then .inl () else .inr false) := by
  have := qfL (step := fun x => qcx s x) s.2.2.2.2.2.2.length (fun i => (i : Int)) (ptB s.2.2.2.2.2.2) (fin := .inl ()) (bad := .inr false) (fun i hi _ hq => ?_) (fun i hi _ hq => ?_) (fun _ => ?_)
  ·exact this
  all_goals unfold qcx
  ·rw [dec_t (show (i : Int) < (s.2.2.2.2.2.2.length : Int) by omega), cond_true, gd_t (inB_t hi), qeD, Option.bind_some, qeD, Option.bind_some, Int.toNat_natCast]
   unfold ptB at hq
   simp only [Bool.and_eq_true] at hq
   rw [hq.1, hq.2.1]
   simp only [Bool.not_true, cond_false]
   rcases Nat.eq_zero_or_pos i with rfl | hp
   ·rfl
   ·rw [dec_t (show (0 : Int) < (i : Int) by omega), cond_true, show wi64 ((i : Int) - 1) = ((i - 1 : Nat) : Int) by rw [wi (by omega)]; omega, gd_t (inB_t (show i - 1 < _ by omega)), Int.toNat_natCast, Option.bind_some]
    have h3 := hq.2.2
    simp only [Bool.or_eq_true, decide_eq_true_eq] at h3
    have h3 := h3.resolve_left (fun e => by have := Nat.eq_of_beq_eq_true e; omega)
    rw [dec_f (Int.not_le.2 h3), cond_false, w1 hi (by omega)]
  ·rw [dec_t (show (i : Int) < (s.2.2.2.2.2.2.length : Int) by omega), cond_true, gd_t (inB_t hi), qeD, Option.bind_some, qeD, Option.bind_some, Int.toNat_natCast]
   unfold ptB at hq
   cases e1 : rg (-500) 5000 (s.2.2.2.2.2.2.getD i pt0).2.1 with
   | false => rfl
   | true =>
    cases e2 : rg 0 100000000 (s.2.2.2.2.2.2.getD i pt0).2.2 with
    | false => rfl
    | true =>
     rw [e1, e2] at hq
     simp only [Bool.true_and, Bool.or_eq_false_iff, decide_eq_false_iff_not] at hq
     have hp : i ≠ 0 := fun e => by rw [e] at hq; cases hq.1
     simp only [Bool.not_true, cond_false]
     rw [dec_t (show (0 : Int) < (i : Int) by omega), cond_true, show wi64 ((i : Int) - 1) = ((i - 1 : Nat) : Int) by rw [wi (by omega)]; omega, gd_t (inB_t (show i - 1 < _ by omega)), Int.toNat_natCast, Option.bind_some, dec_t (Int.not_lt.1 hq.2)]
     rfl
  ·rw [dec_f (by omega)]; rfl
 rw [hl, qeD, qeD, qeD]
 simp only [Option.bind_some]
 cases decide (s.2.1 = s.2.2.1) with
 | true => rfl
 | false =>
 cases rg 1 1000000 s.2.2.2.1 with
 | false => rfl
 | true =>
 cases rg 0 1000 s.2.2.2.2.1 with
 | false => rfl
 | true =>
 cases rg 0 100000 s.2.2.2.2.2.1 with
 | false => rfl
 | true =>
 cases (List.range s.2.2.2.2.2.2.length).all (ptB s.2.2.2.2.2.2) with
 | false => rfl
 | true =>
  show (gd (inB 0 s.2.2.2.2.2.2.length) _) = _
  rw [gd_t (inB0 (by omega)), show wi64 ((s.2.2.2.2.2.2.length : Int) - 1) = ((s.2.2.2.2.2.2.length - 1 : Nat) : Int) by rw [wi (by omega)]; omega, gd_t (inB_t (show s.2.2.2.2.2.2.length - 1 < _ by omega)), Int.toNat_natCast]
  cases decide ((s.2.2.2.2.2.2.getD 0 (0, (0, 0))).1 = 0) <;> rfl
theorem qol {n : Net} (h : Small n) : qbX n = some (prB n) := by
 obtain ⟨h1, h2, h3, h4, h5, h6⟩ := h
 unfold qbX prB
 rw [qbK n.2.1 (fun s => !pipeB s) _ (fun x hx => by show (qce x).bind _ = _; unfold qce; show ((qc7 x).bind _).bind _ = _; rw [qpS (h6 x hx).1 (h6 x hx).2]; rfl) (by omega), Option.bind_some]
 rw [qfC n.2.2.1 (fun p => !rg 0 100000000 p.2.2) _ (fun x hx => by show (qcf x).bind _ = _; unfold qcf; rw [qeD]; rfl) (by omega), Option.bind_some]
 rw [qd4 n.2.2.2.1 (fun p => !stB p) _ (fun x hx => by
  show (qcg x).bind _ = _; unfold qcg stB; rw [qeD, qeD, qeD]
  cases rg 0 100000000 x.2.2.1 <;> cases rg 0 100000 x.2.2.2.1 <;> cases rg 0 100000000 x.2.2.2.2 <;> rfl) (by omega), Option.bind_some, qeD, qeD]
 rw [List.all_eq_not_any_not, List.all_eq_not_any_not, List.all_eq_not_any_not]
 cases n.2.1.any (fun s => !pipeB s) <;> cases n.2.2.1.any (fun p => !rg 0 100000000 p.2.2) <;> cases n.2.2.2.1.any (fun p => !stB p) <;> cases rg (-100000) 100000000 n.2.2.2.2.1 <;> rfl
theorem qll (n : Net) : qbO n = some (qe5 n) := by
 unfold qbO qe5
 show (qbV n).bind _ = _
 rw [qoj, Option.bind_some]
 cases hl : limB n with
 | false => rfl
 | true =>
  have hs := (qhv n).1 hl
  show (qbr n).bind _ = _
  rw [ql3 (by have := hs.sg; omega) (by have := hs.po; omega) (by have := hs.st; omega), Option.bind_some]
  rw [qo0 (by have := hs.no; omega) (by have := hs.sg; simp; omega) (by have := hs.po; simp; omega) (by have := hs.st; simp; omega), Option.bind_some]
  show Sum.elim _ _ (bif formB n then _ else _) = _
  cases formB n with
  | false => rfl
  | true =>
   show (qct n).bind _ = _
   rw [qo1 hs, Option.bind_some]
   cases twB n with
   | true => rfl
   | false =>
    show (qcv n).bind _ = _
    rw [qo2 hs, Option.bind_some]
    cases knB n with
    | false => rfl
    | true =>
     show (qbX n).bind _ = _
     rw [qol hs, Option.bind_some]
     cases prB n <;> rfl
end Go.Proofs.YtpgigbdefbeagaaGreatDoor
namespace Go.Proofs.YtpgigbdefbeagaaGreatDoor
open Go Go.Sq
set_option linter.unusedVariables false
section
variable {a b c d : List Str} (ha : a.length ≤ 100) (hb : b.length ≤ 100) (hc : c.length ≤ 100) (hd : d.length ≤ 100)
include ha hb hc hd
end
end Go.Proofs.YtpgigbdefbeagaaGreatDoor
namespace Go.Proofs.YtpgigbdefbeagaaGreatDoor
open Go Go.Sq
theorem qdC (c : UInt8) (hc : c ∈ [(110 : UInt8), 103, 113, 115, 112]) {m : Nat} (hm : m ≤ 26) : (nms c m).all nameB = true := by
 have key : ∀ c ∈ [(110 : UInt8), 103, 113, 115, 112], ∀ i ∈ List.range 26, nameB (nm c i) = true := by decide +kernel
 rw [List.all_eq_true]
 intro x hx
 obtain ⟨j, hj, rfl⟩ := qoi hx
 exact key c hc j (List.mem_range.2 (by omega))
theorem qdd {l : List Str} (h : l.Nodup) : twL l = false := by
 unfold twL
 rw [List.any_eq_false]
 intro i hi
 rw [Bool.not_eq_true, List.any_eq_false]
 intro k hk
 have hi := List.mem_range.1 hi
 have hk := List.mem_range.1 hk
 rw [decide_eq_true_eq]
 intro he
 rw [List.getD_eq_getElem?_getD, List.getD_eq_getElem?_getD, List.getElem?_eq_getElem (by omega), List.getElem?_eq_getElem (by omega)] at he
 have := (List.getElem_inj h (h₀ := hi) (h₁ := (by omega : k < l.length))).1 he
 omega
theorem rg_t {lo hi x : Int} (h : lo ≤ x ∧ x ≤ hi) : rg lo hi x = true := by
 unfold rg
 rw [decide_eq_true h.1, decide_eq_true h.2]; rfl
theorem qpy {k : Nat} {s : Seg} (h : SegP k s) : pipeB s = true := by
 have a1 := h.pts.l2
 unfold pipeB
 rw [decide_eq_false h.ne, rg_t h.cap, rg_t h.res, rg_t h.wav]
 have e1 : (s.2.2.2.2.2.2.getD 0 pt0).1 = 0 := h.pts.fst
 have e2 : (s.2.2.2.2.2.2.getD (s.2.2.2.2.2.2.length - 1) pt0).1 = s.2.2.2.1 := h.pts.lst
 rw [decide_eq_true e1, decide_eq_true e2]
 simp only [Bool.not_false, Bool.and_self, Bool.true_and, Bool.and_true]
 rw [List.all_eq_true]
 intro i hi
 have hi := List.mem_range.1 hi
 have hr := h.pts.rng _ (qaV (d := pt0) hi)
 unfold ptB
 rw [rg_t ⟨hr.1, hr.2.1⟩, rg_t ⟨hr.2.2.1, hr.2.2.2⟩]
 simp only [Bool.true_and]
 cases i with
 | zero => rfl
 | succ j =>
  have := h.pts.inc j hi
  have e3 : (s.2.2.2.2.2.2.getD (j + 1 - 1) pt0).1 < (s.2.2.2.2.2.2.getD (j + 1) pt0).1 := this
  rw [decide_eq_true e3, Bool.or_true]
theorem chk0 {k : Nat} {n : Net} (h : NetP k n) : qe5 n = 0 := by
 have a1 := h.k2; have a2 := h.k6; have a3 := h.segs.len; have a4 := h.ports.len; have a5 := h.stats.len; have a6 := h.some'
 have e : n.1.length = k := by rw [h.nodes, qfB]
 have hl : limB n = true := (qhv n).2 ⟨by omega, by omega, by omega, by omega, by omega, fun s hs => ⟨(h.segs.rng s hs).pts.l2, (h.segs.rng s hs).pts.l8⟩⟩
 have hf : formB n = true := by
  unfold formB nmsOf
  rw [h.nodes, h.segs.nam, h.ports.nam, h.stats.nam]
  simp only [List.all_cons, List.all_nil]
  rw [qdC 110 (by decide) (by omega), qdC 103 (by decide) (by omega), qdC 113 (by decide) (by omega), qdC 115 (by decide) (by omega)]; rfl
 have ht : twB n = false := by
  unfold twB nmsOf
  rw [h.nodes, h.segs.nam, h.ports.nam, h.stats.nam]
  simp only [List.any_cons, List.any_nil]
  rw [qdd (qdb 110 (by omega)), qdd (qdb 103 (by omega)), qdd (qdb 113 (by omega)), qdd (qdb 115 (by omega))]
  simp only [Bool.or_self, Bool.false_or]
  unfold twS
  rw [List.any_eq_false]
  intro i hi
  rw [Bool.not_eq_true, List.any_eq_false]
  intro q hq
  have hi := List.mem_range.1 hi
  have hq := List.mem_range.1 hq
  rw [decide_eq_true_eq]
  intro he
  have hd := h.stats.dif
  have e1 : ∀ j (hj : j < n.2.2.2.1.length), (n.2.2.2.1.getD j sta0).2.1 = (n.2.2.2.1.map (·.2.1))[j]'(by simpa using hj) := fun j hj => by
   rw [List.getElem_map, List.getD_eq_getElem?_getD, List.getElem?_eq_getElem hj]; rfl
  rw [e1 q (by omega), e1 i hi] at he
  have := (List.getElem_inj hd).1 he
  omega
 have hk : knB n = true := by
  unfold knB kn
  rw [Bool.and_eq_true, Bool.and_eq_true, List.all_eq_true, List.all_eq_true, List.all_eq_true]
  refine ⟨fun s hs => ?_, fun s hs => ?_, fun s hs => ?_⟩
  ·have := h.segs.rng s hs
   have b1 := this.f0; have b2 := this.f1; have b3 := this.t0; have b4 := this.t1
   rw [decide_eq_true b1, decide_eq_true b3, decide_eq_true (by omega), decide_eq_true (by omega)]; rfl
  ·have := h.ports.rng s hs
   rw [decide_eq_true this.1, decide_eq_true (by omega)]; rfl
  ·have := h.stats.rng s hs
   rw [decide_eq_true this.1, decide_eq_true (by omega)]; rfl
 have hp : prB n = true := by
  unfold prB
  rw [rg_t h.vap, rg_t h.set, List.all_eq_true.2 fun s hs => qpy (h.segs.rng s hs), List.all_eq_true.2 fun s hs => rg_t (h.ports.rng s hs).2.2, List.all_eq_true.2 fun s hs => ?_]
  ·rfl
  ·have := h.stats.rng s hs
   unfold stB
   rw [rg_t this.2.2.1, rg_t this.2.2.2.1, rg_t this.2.2.2.2]; rfl
 unfold qe5
 rw [hl, hf, ht, hk, hp]; rfl
end Go.Proofs.YtpgigbdefbeagaaGreatDoor
