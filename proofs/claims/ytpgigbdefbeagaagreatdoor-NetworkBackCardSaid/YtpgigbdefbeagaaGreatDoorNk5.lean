/- slices.IndexFunc and slices.ContainsFunc as findIdx and any. No condition. -/
import Derived.Test.YtpgigbdefbeagaaGreatDoorNk0
import Derived.Test.YtpgigbdefbeagaaGreatDoorLa1
import Derived.Test.YtpgigbdefbeagaaGreatDoorLa2
namespace Go.Proofs.YtpgigbdefbeagaaGreatDoor
open Go Go.Sq
theorem qcf (s : List (List UInt8 × Int × Int × Int × Int × Int × List (Int × Int × Int))) (p : (List UInt8 × Int × Int × Int × Int × Int × List (Int × Int × Int)) → Bool) (f : (List UInt8 × Int × Int × Int × Int × Int × List (Int × Int × Int)) × Unit → Option Bool) (hf : ∀ x ∈ s, f (x, ()) = some (p x)) (hl : s.length ≤ 1000000) : qai s f = some (if s.findIdx p < s.length then ((s.findIdx p : Nat) : Int) else -1) := by
 unfold qai
 have h : iter (fun x => qab s f x) 0 = some (if s.findIdx p < s.length then .inr ((s.findIdx p : Nat) : Int) else .inl ()) := by
  refine qeA (step := fun y => qab s f y) (ε := Unit ⊕ Int) s ([], 0, 0, 0, 0, 0, []) p (fin := .inl ()) (fun i => .inr (i : Int)) (fun i hi hq => ?_) (fun i hi hq => ?_) ?_
  ·unfold qab
   rw [dec_t (show (i : Int) < (s.length : Int) by omega), cond_true, gd_t (inB_t hi), Int.toNat_natCast, hf _ (qa0 hi), Option.bind_some, hq, cond_false, w1 hi (by omega)]
  ·unfold qab
   rw [dec_t (show (i : Int) < (s.length : Int) by omega), cond_true, gd_t (inB_t hi), Int.toNat_natCast, hf _ (qa0 hi), Option.bind_some, hq, cond_true]
  ·unfold qab
   rw [dec_f (by omega)]; rfl
 rw [h, Option.bind_some]
 by_cases hf : s.findIdx p < s.length
 ·rw [if_pos hf, if_pos hf]; rfl
 ·rw [if_neg hf, if_neg hf]; rfl
theorem qcg (s : List (List UInt8 × Int × Int × Int × Int × Int × List (Int × Int × Int))) (p : (List UInt8 × Int × Int × Int × Int × Int × List (Int × Int × Int)) → Bool) (f : (List UInt8 × Int × Int × Int × Int × Int × List (Int × Int × Int)) × Unit → Option Bool) (hf : ∀ x ∈ s, f (x, ()) = some (p x)) (hl : s.length ≤ 1000000) : qag s f = some (s.any p) := by
 unfold qag
 rw [qcf s p f hf hl, Option.bind_some, ← qdv]
 by_cases hf : s.findIdx p < s.length
 ·rw [if_pos hf, dec_t hf, dec_t (by omega)]
 ·rw [if_neg hf, dec_f hf, dec_f (by omega)]
theorem qhI (s : List (List UInt8)) (p : (List UInt8) → Bool) (f : (List UInt8) × Unit → Option Bool) (hf : ∀ x ∈ s, f (x, ()) = some (p x)) (hl : s.length ≤ 1000000) : qaF s f = some (if s.findIdx p < s.length then ((s.findIdx p : Nat) : Int) else -1) := by
 unfold qaF
 have h : iter (fun x => qaj s f x) 0 = some (if s.findIdx p < s.length then .inr ((s.findIdx p : Nat) : Int) else .inl ()) := by
  refine qeA (step := fun y => qaj s f y) (ε := Unit ⊕ Int) s [] p (fin := .inl ()) (fun i => .inr (i : Int)) (fun i hi hq => ?_) (fun i hi hq => ?_) ?_
  ·unfold qaj
   rw [dec_t (show (i : Int) < (s.length : Int) by omega), cond_true, gd_t (inB_t hi), Int.toNat_natCast, hf _ (qa0 hi), Option.bind_some, hq, cond_false, w1 hi (by omega)]
  ·unfold qaj
   rw [dec_t (show (i : Int) < (s.length : Int) by omega), cond_true, gd_t (inB_t hi), Int.toNat_natCast, hf _ (qa0 hi), Option.bind_some, hq, cond_true]
  ·unfold qaj
   rw [dec_f (by omega)]; rfl
 rw [h, Option.bind_some]
 by_cases hf : s.findIdx p < s.length
 ·rw [if_pos hf, if_pos hf]; rfl
 ·rw [if_neg hf, if_neg hf]; rfl
theorem qfb (s : List (List UInt8)) (p : (List UInt8) → Bool) (f : (List UInt8) × Unit → Option Bool) (hf : ∀ x ∈ s, f (x, ()) = some (p x)) (hl : s.length ≤ 1000000) : qak s f = some (s.any p) := by
 unfold qak
 rw [qhI s p f hf hl, Option.bind_some, ← qdv]
 by_cases hf : s.findIdx p < s.length
 ·rw [if_pos hf, dec_t hf, dec_t (by omega)]
 ·rw [if_neg hf, dec_f hf, dec_f (by omega)]
theorem qch (s : List (List UInt8 × Int × Int × Int × Int)) (p : (List UInt8 × Int × Int × Int × Int) → Bool) (f : (List UInt8 × Int × Int × Int × Int) × Unit → Option Bool) (hf : ∀ x ∈ s, f (x, ()) = some (p x)) (hl : s.length ≤ 1000000) : qae s f = some (if s.findIdx p < s.length then ((s.findIdx p : Nat) : Int) else -1) := by
 unfold qae
 have h : iter (fun x => qac s f x) 0 = some (if s.findIdx p < s.length then .inr ((s.findIdx p : Nat) : Int) else .inl ()) := by
  refine qeA (step := fun y => qac s f y) (ε := Unit ⊕ Int) s ([], 0, 0, 0, 0) p (fin := .inl ()) (fun i => .inr (i : Int)) (fun i hi hq => ?_) (fun i hi hq => ?_) ?_
  ·unfold qac
   rw [dec_t (show (i : Int) < (s.length : Int) by omega), cond_true, gd_t (inB_t hi), Int.toNat_natCast, hf _ (qa0 hi), Option.bind_some, hq, cond_false, w1 hi (by omega)]
  ·unfold qac
   rw [dec_t (show (i : Int) < (s.length : Int) by omega), cond_true, gd_t (inB_t hi), Int.toNat_natCast, hf _ (qa0 hi), Option.bind_some, hq, cond_true]
  ·unfold qac
   rw [dec_f (by omega)]; rfl
 rw [h, Option.bind_some]
 by_cases hf : s.findIdx p < s.length
 ·rw [if_pos hf, if_pos hf]; rfl
 ·rw [if_neg hf, if_neg hf]; rfl
theorem qeC (s : List (List UInt8 × Int × Int × Int × Int)) (p : (List UInt8 × Int × Int × Int × Int) → Bool) (f : (List UInt8 × Int × Int × Int × Int) × Unit → Option Bool) (hf : ∀ x ∈ s, f (x, ()) = some (p x)) (hl : s.length ≤ 1000000) : qan s f = some (s.any p) := by
 unfold qan
 rw [qch s p f hf hl, Option.bind_some, ← qdv]
 by_cases hf : s.findIdx p < s.length
 ·rw [if_pos hf, dec_t hf, dec_t (by omega)]
 ·rw [if_neg hf, dec_f hf, dec_f (by omega)]
theorem qmg (s : List (Int)) (p : (Int) → Bool) (f : (Int) × Unit → Option Bool) (hf : ∀ x ∈ s, f (x, ()) = some (p x)) (hl : s.length ≤ 1000000) : qba s f = some (if s.findIdx p < s.length then ((s.findIdx p : Nat) : Int) else -1) := by
 unfold qba
 have h : iter (fun x => qau s f x) 0 = some (if s.findIdx p < s.length then .inr ((s.findIdx p : Nat) : Int) else .inl ()) := by
  refine qeA (step := fun y => qau s f y) (ε := Unit ⊕ Int) s 0 p (fin := .inl ()) (fun i => .inr (i : Int)) (fun i hi hq => ?_) (fun i hi hq => ?_) ?_
  ·unfold qau
   rw [dec_t (show (i : Int) < (s.length : Int) by omega), cond_true, gd_t (inB_t hi), Int.toNat_natCast, hf _ (qa0 hi), Option.bind_some, hq, cond_false, w1 hi (by omega)]
  ·unfold qau
   rw [dec_t (show (i : Int) < (s.length : Int) by omega), cond_true, gd_t (inB_t hi), Int.toNat_natCast, hf _ (qa0 hi), Option.bind_some, hq, cond_true]
  ·unfold qau
   rw [dec_f (by omega)]; rfl
 rw [h, Option.bind_some]
 by_cases hf : s.findIdx p < s.length
 ·rw [if_pos hf, if_pos hf]; rfl
 ·rw [if_neg hf, if_neg hf]; rfl
theorem qmh (s : List (Int)) (p : (Int) → Bool) (f : (Int) × Unit → Option Bool) (hf : ∀ x ∈ s, f (x, ()) = some (p x)) (hl : s.length ≤ 1000000) : qaR s f = some (s.any p) := by
 unfold qaR
 rw [qmg s p f hf hl, Option.bind_some, ← qdv]
 by_cases hf : s.findIdx p < s.length
 ·rw [if_pos hf, dec_t hf, dec_t (by omega)]
 ·rw [if_neg hf, dec_f hf, dec_f (by omega)]
theorem qdJ (s : List (List UInt8 × Int × Int)) (p : (List UInt8 × Int × Int) → Bool) (f : (List UInt8 × Int × Int) × Unit → Option Bool) (hf : ∀ x ∈ s, f (x, ()) = some (p x)) (hl : s.length ≤ 1000000) : qaq s f = some (if s.findIdx p < s.length then ((s.findIdx p : Nat) : Int) else -1) := by
 unfold qaq
 have h : iter (fun x => qah s f x) 0 = some (if s.findIdx p < s.length then .inr ((s.findIdx p : Nat) : Int) else .inl ()) := by
  refine qeA (step := fun y => qah s f y) (ε := Unit ⊕ Int) s ([], 0, 0) p (fin := .inl ()) (fun i => .inr (i : Int)) (fun i hi hq => ?_) (fun i hi hq => ?_) ?_
  ·unfold qah
   rw [dec_t (show (i : Int) < (s.length : Int) by omega), cond_true, gd_t (inB_t hi), Int.toNat_natCast, hf _ (qa0 hi), Option.bind_some, hq, cond_false, w1 hi (by omega)]
  ·unfold qah
   rw [dec_t (show (i : Int) < (s.length : Int) by omega), cond_true, gd_t (inB_t hi), Int.toNat_natCast, hf _ (qa0 hi), Option.bind_some, hq, cond_true]
  ·unfold qah
   rw [dec_f (by omega)]; rfl
 rw [h, Option.bind_some]
 by_cases hf : s.findIdx p < s.length
 ·rw [if_pos hf, if_pos hf]; rfl
 ·rw [if_neg hf, if_neg hf]; rfl
theorem qf8 (s : List (List UInt8 × Int × Int)) (p : (List UInt8 × Int × Int) → Bool) (f : (List UInt8 × Int × Int) × Unit → Option Bool) (hf : ∀ x ∈ s, f (x, ()) = some (p x)) (hl : s.length ≤ 1000000) : qat s f = some (s.any p) := by
 unfold qat
 rw [qdJ s p f hf hl, Option.bind_some, ← qdv]
 by_cases hf : s.findIdx p < s.length
 ·rw [if_pos hf, dec_t hf, dec_t (by omega)]
 ·rw [if_neg hf, dec_f hf, dec_f (by omega)]
end Go.Proofs.YtpgigbdefbeagaaGreatDoor
namespace Go.Proofs.YtpgigbdefbeagaaGreatDoor
open Go Go.Sq
set_option linter.unusedVariables false
abbrev pt0 : Pt := (0, (0, 0))
abbrev sg0 : Seg := ([], (0, (0, (0, (0, (0, []))))))
abbrev po0 : Port := ([], (0, 0))
abbrev sta0 : Stat := ([], (0, (0, (0, 0))))
def rg (lo hi n : Int) : Bool := decide (lo ≤ n) && decide (n ≤ hi)
def limB (n : Net) : Bool := Nat.ble 1 n.1.length && (Nat.ble n.1.length 24 && (Nat.ble n.2.1.length 32 && (Nat.ble n.2.2.1.length 24 && Nat.ble n.2.2.2.1.length 12))) && n.2.1.all fun s => Nat.ble 2 s.2.2.2.2.2.2.length && Nat.ble s.2.2.2.2.2.2.length 8
def nmsOf (n : Net) : List (List Str) := [n.1, n.2.1.map (·.1), n.2.2.1.map (·.1), n.2.2.2.1.map (·.1)]
def formB (n : Net) : Bool := (nmsOf n).all fun l => l.all nameB
def twL (l : List Str) : Bool := (List.range l.length).any fun i => (List.range i).any fun k => decide (l.getD i [] = l.getD k [])
def twS (l : List Stat) : Bool := (List.range l.length).any fun i => (List.range i).any fun k => decide ((l.getD k sta0).2.1 = (l.getD i sta0).2.1)
def twB (n : Net) : Bool := (nmsOf n).any twL || twS n.2.2.2.1
def kn (n : Net) (k : Int) : Bool := decide (0 ≤ k) && decide (k < (n.1.length : Int))
def knB (n : Net) : Bool := n.2.1.all (fun s => kn n s.2.1 && kn n s.2.2.1) && (n.2.2.1.all (fun p => kn n p.2.1) && n.2.2.2.1.all (fun s => kn n s.2.1))
def ptB (l : List Pt) (i : Nat) : Bool := rg (-500) 5000 (l.getD i pt0).2.1 && (rg 0 100000000 (l.getD i pt0).2.2 && (Nat.beq i 0 || decide ((l.getD (i - 1) pt0).1 < (l.getD i pt0).1)))
def pipeB (s : Seg) : Bool := !decide (s.2.1 = s.2.2.1) && (rg 1 1000000 s.2.2.2.1 && (rg 0 1000 s.2.2.2.2.1 && rg 0 100000 s.2.2.2.2.2.1)) && ((List.range s.2.2.2.2.2.2.length).all (ptB s.2.2.2.2.2.2) && (decide ((s.2.2.2.2.2.2.getD 0 pt0).1 = 0) && decide ((s.2.2.2.2.2.2.getD (s.2.2.2.2.2.2.length - 1) pt0).1 = s.2.2.2.1)))
def stB (s : Stat) : Bool := rg 0 100000000 s.2.2.1 && (rg 0 100000 s.2.2.2.1 && rg 0 100000000 s.2.2.2.2)
def prB (n : Net) : Bool := n.2.1.all pipeB && (n.2.2.1.all (fun p => rg 0 100000000 p.2.2) && (n.2.2.2.1.all stB && (rg (-100000) 100000000 n.2.2.2.2.1 && rg 0 100 n.2.2.2.2.2)))
def qfc (n : Net) : Int := bif limB n then (bif formB n then (bif twB n then 7 else bif knB n then (bif prB n then 0 else 9) else 8) else 3) else 4
structure Small (n : Net) : Prop where
 no1 : 1 ≤ n.1.length
 no : n.1.length ≤ 24
 sg : n.2.1.length ≤ 32
 po : n.2.2.1.length ≤ 24
 st : n.2.2.2.1.length ≤ 12
 pt : ∀ s ∈ n.2.1, 2 ≤ s.2.2.2.2.2.2.length ∧ s.2.2.2.2.2.2.length ≤ 8
theorem qkj (n : Net) : limB n = true ↔ Small n := by
 unfold limB
 simp only [Bool.and_eq_true, Nat.ble_eq, List.all_eq_true]
 constructor
 ·rintro ⟨⟨h1, h2, h3, h4, h5⟩, h6⟩; exact ⟨h1, h2, h3, h4, h5, h6⟩
 ·rintro ⟨h1, h2, h3, h4, h5, h6⟩; exact ⟨⟨h1, h2, h3, h4, h5⟩, h6⟩
theorem qfd (n lo hi : Int) : qbb n lo hi = some (rg lo hi n) := by
 unfold qbb rg
 cases decide (lo ≤ n) <;> rfl
theorem dlt {a b : Nat} : decide ((a : Int) < (b : Int)) = Nat.blt a b := by
 rw [Bool.eq_iff_iff, decide_eq_true_iff, Nat.blt_eq]; omega
theorem bltn (a b : Nat) : Nat.blt a b = !Nat.ble b a := by
 rw [Bool.eq_iff_iff, Nat.blt_eq, Bool.not_eq_true']
 constructor
 ·intro h; exact Bool.eq_false_iff.2 fun hh => by have := Nat.le_of_ble_eq_true hh; omega
 ·intro h; rcases Nat.lt_or_ge a b with h' | h'
  ·exact h'
  ·rw [Nat.ble_eq_true_of_le h'] at h; cases h
theorem qpo (n : Net) : qcr n = some (limB n) := by
 unfold qcr limB
 have e1 : decide ((n.1.length : Int) < 1) = !Nat.ble 1 n.1.length := by rw [← bltn]; exact dlt (b := 1)
 have e2 : decide (24 < (n.1.length : Int)) = !Nat.ble n.1.length 24 := by rw [← bltn]; exact dlt (a := 24)
 have e3 : decide (32 < (n.2.1.length : Int)) = !Nat.ble n.2.1.length 32 := by rw [← bltn]; exact dlt (a := 32)
 have e4 : decide (24 < (n.2.2.1.length : Int)) = !Nat.ble n.2.2.1.length 24 := by rw [← bltn]; exact dlt (a := 24)
 have e5 : decide (12 < (n.2.2.2.1.length : Int)) = !Nat.ble n.2.2.2.1.length 12 := by rw [← bltn]; exact dlt (a := 12)
 rw [e1, e2, e3, e4, e5]
 cases h1 : Nat.ble 1 n.1.length
 ·rfl
 cases h2 : Nat.ble n.1.length 24
 ·rfl
 cases h3 : Nat.ble n.2.1.length 32
 ·rfl
 cases h4 : Nat.ble n.2.2.1.length 24
 ·rfl
 cases h5 : Nat.ble n.2.2.2.1.length 12
 ·rfl
 have h3 := Nat.le_of_ble_eq_true h3
 simp only [Bool.not_true, cond_false, Option.bind_some, Bool.and_true, Bool.true_and]
 rw [qcg n.2.1 (fun s => !(Nat.ble 2 s.2.2.2.2.2.2.length && Nat.ble s.2.2.2.2.2.2.length 8)) _ (fun x _ => by
  unfold qdO
  have f1 : decide ((x.2.2.2.2.2.2.length : Int) < 2) = !Nat.ble 2 x.2.2.2.2.2.2.length := by rw [← bltn]; exact dlt (b := 2)
  have f2 : decide (8 < (x.2.2.2.2.2.2.length : Int)) = !Nat.ble x.2.2.2.2.2.2.length 8 := by rw [← bltn]; exact dlt (a := 8)
  simp only [f1, f2]
  cases Nat.ble 2 x.2.2.2.2.2.2.length <;> cases Nat.ble x.2.2.2.2.2.2.length 8 <;> rfl) (by omega), Option.bind_some]
 congr 1
 simp [List.all_eq_not_any_not]
theorem qm1 {n : Net} (h1 : n.2.1.length ≤ 1000) (h2 : n.2.2.1.length ≤ 1000) (h3 : n.2.2.2.1.length ≤ 1000) : qbO n = some (n.1, (n.2.1.map (·.1), (n.2.2.1.map (·.1), n.2.2.2.1.map (·.1)))) := by
 unfold qbO
 have k1 := qbt (step := fun x : Int × List (List UInt8) => qcB n x.1 x.2) n.2.1.length (fun i => ((i : Int), (n.2.1.map (·.1)).take i)) (e := n.2.1.map (·.1)) (fun i hi => by
  unfold qcB
  simp only [dec_t (show (i : Int) < (n.2.1.length : Int) by omega), cond_true, gd_t (inB_t hi), Int.toNat_natCast]
  rw [gd_t (qbx (by rw [List.length_take]; omega)), w1 hi (by omega), qbI ([] : List UInt8) (by simpa using hi), qk8 (·.1) n.2.1 i sg0 [] hi]) (by
  unfold qcB
  simp only [dec_f (show ¬ (n.2.1.length : Int) < (n.2.1.length : Int) by omega), cond_false]
  rw [List.take_of_length_le (by simp)])
 rw [show ((((0 : Nat) : Int), (n.2.1.map (·.1)).take 0) : Int × List (List UInt8)) = (0, []) from rfl] at k1
 rw [k1, Option.bind_some]
 generalize n.2.1.map (·.1) = A
 have k2 := qbt (step := fun x : Int × List (List UInt8) × List (List UInt8) => qcC n x.1 x.2.1 x.2.2) n.2.2.1.length (fun i => ((i : Int), A, (n.2.2.1.map (·.1)).take i)) (e := (A, n.2.2.1.map (·.1))) (fun i hi => by
  unfold qcC
  simp only [dec_t (show (i : Int) < (n.2.2.1.length : Int) by omega), cond_true, gd_t (inB_t hi), Int.toNat_natCast]
  rw [gd_t (qbx (by rw [List.length_take]; omega)), w1 hi (by omega), qbI ([] : List UInt8) (by simpa using hi), qk8 (·.1) n.2.2.1 i po0 [] hi]) (by
  unfold qcC
  simp only [dec_f (show ¬ (n.2.2.1.length : Int) < (n.2.2.1.length : Int) by omega), cond_false]
  rw [List.take_of_length_le (by simp)])
 rw [show ((((0 : Nat) : Int), A, (n.2.2.1.map (·.1)).take 0) : Int × List (List UInt8) × List (List UInt8)) = (0, A, []) from rfl] at k2
 rw [k2, Option.bind_some]
 simp only
 generalize n.2.2.1.map (·.1) = B
 have k3 := qbt (step := fun x : Int × List (List UInt8) × List (List UInt8) × List (List UInt8) => qcD n x.1 x.2.1 x.2.2.1 x.2.2.2) n.2.2.2.1.length (fun i => ((i : Int), A, B, (n.2.2.2.1.map (·.1)).take i)) (e := (A, B, n.2.2.2.1.map (·.1))) (fun i hi => by
  unfold qcD
  simp only [dec_t (show (i : Int) < (n.2.2.2.1.length : Int) by omega), cond_true, gd_t (inB_t hi), Int.toNat_natCast]
  rw [gd_t (qbx (by rw [List.length_take]; omega)), w1 hi (by omega), qbI ([] : List UInt8) (by simpa using hi), qk8 (·.1) n.2.2.2.1 i sta0 [] hi]) (by
  unfold qcD
  simp only [dec_f (show ¬ (n.2.2.2.1.length : Int) < (n.2.2.2.1.length : Int) by omega), cond_false]
  rw [List.take_of_length_le (by simp)])
 rw [show ((((0 : Nat) : Int), A, B, (n.2.2.2.1.map (·.1)).take 0) : Int × List (List UInt8) × List (List UInt8) × List (List UInt8)) = (0, A, B, []) from rfl] at k3
 rw [k3]; rfl
theorem sidx (s : List Str) (v : Str) (hl : s.length ≤ 1000000) : qal s v = some (if s.findIdx (fun x => decide (v = x)) < s.length then ((s.findIdx (fun x => decide (v = x)) : Nat) : Int) else -1) := by
 unfold qal
 have h : iter (fun x => qar s v x) 0 = some (if s.findIdx (fun x => decide (v = x)) < s.length then .inr ((s.findIdx (fun x => decide (v = x)) : Nat) : Int) else .inl ()) := by
  refine qeA (step := fun y => qar s v y) (ε := Unit ⊕ Int) s [] (fun x => decide (v = x)) (fin := .inl ()) (fun i => .inr (i : Int)) (fun i hi hq => ?_) (fun i hi hq => ?_) ?_
  ·unfold qar
   rw [dec_t (show (i : Int) < (s.length : Int) by omega), cond_true, gd_t (inB_t hi), Int.toNat_natCast, hq, cond_false, w1 hi (by omega)]
  ·unfold qar
   rw [dec_t (show (i : Int) < (s.length : Int) by omega), cond_true, gd_t (inB_t hi), Int.toNat_natCast, hq, cond_true]
  ·unfold qar
   rw [dec_f (by omega)]; rfl
 rw [h, Option.bind_some]
 by_cases hf : s.findIdx (fun x => decide (v = x)) < s.length
 ·rw [if_pos hf, if_pos hf]; rfl
 ·rw [if_neg hf, if_neg hf]; rfl
theorem qm2 {A : Type} (l : List A) (d : A) (p : A → Bool) (i : Nat) (hi : i < l.length) (hp : p (l.getD i d) = true) :
  decide ((if l.findIdx p < l.length then ((l.findIdx p : Nat) : Int) else -1) < (i : Int)) = (List.range i).any fun k => p (l.getD k d) := by
 have h1 : l.findIdx p < l.length := List.findIdx_lt_length.2 ⟨_, qa0 hi, hp⟩
 rw [if_pos h1, ← qnO l d p i (by omega)]
 rw [Bool.eq_iff_iff, decide_eq_true_iff, decide_eq_true_iff]; omega
abbrev nm4 (a b c d : List Str) : List (List Str) := [a, b, c, d]
theorem range4 {q : List Str → Bool} (a b c d : List Str) : (List.range 4).all (fun i => q ((nm4 a b c d).getD i [])) = (nm4 a b c d).all q := qmX (nm4 a b c d) [] q
theorem range4n {q : List Str → Bool} (a b c d : List Str) : (List.range 4).all (fun i => !q ((nm4 a b c d).getD i [])) = !(nm4 a b c d).any q := by
 rw [range4 (q := fun l => !q l)]; simp [List.all_eq_not_any_not]
theorem len4 {a b c d : List Str} {m : Nat} (ha : a.length ≤ m) (hb : b.length ≤ m) (hc : c.length ≤ m) (hd : d.length ≤ m) (i : Nat) : ((nm4 a b c d).getD i []).length ≤ m := by
 rcases i with _ | _ | _ | _ | i
 ·exact ha
 ·exact hb
 ·exact hc
 ·exact hd
 ·show ([] : List Str).length ≤ m; simp
noncomputable def qpp (l : List Str) (x : Int) : Option (Int ⊕ (Unit ⊕ Bool)) :=
 bif decide (x < (l.length : Int)) then (gd (inB x l.length) <| (qal l (l.getD x.toNat [])).bind fun r2 => bif decide (r2 < x) then (some (.inr (.inr true))) else (some (.inl (wi64 (x + 1))))) else (some (.inr (.inl ())))
section
variable {a b c d : List Str} (ha : a.length ≤ 100) (hb : b.length ≤ 100) (hc : c.length ≤ 100) (hd : d.length ≤ 100)
include ha hb hc hd
theorem qql : iter (fun x : Int => qcN (a, (b, (c, d))) x) 0 = some (bif (nm4 a b c d).all (fun l => l.all nameB) then .inl () else .inr 3) := by
 have := qfl (step := fun x : Int => qcN (a, (b, (c, d))) x) 4 (fun i => (i : Int)) (fun i => ((nm4 a b c d).getD i []).all nameB) (fin := .inl ()) (bad := .inr 3) (fun i hi _ hq => ?_) (fun i hi _ hq => ?_) (fun _ => ?_)
 ·rw [range4 (q := fun l => l.all nameB)] at this; exact this
 all_goals unfold qcN
 ·rw [dec_t (show (i : Int) < 4 by omega), cond_true, gd_t (inB_t hi), Int.toNat_natCast]
  show (qak ((nm4 a b c d).getD i []) _).bind _ = _
  rw [qfb _ (fun s => !nameB s) _ (fun x _ => by show (qbJ x).bind _ = _; unfold qbJ; rw [qlb]; rfl) (Nat.le_trans (len4 ha hb hc hd i) (by omega)), Option.bind_some]
  rw [List.all_eq_not_any_not] at hq
  simp only [Bool.not_eq_true', Bool.not_eq_eq_eq_not, Bool.not_true] at hq
  rw [hq, cond_false, w1 hi (by omega)]
 ·rw [dec_t (show (i : Int) < 4 by omega), cond_true, gd_t (inB_t hi), Int.toNat_natCast]
  show (qak ((nm4 a b c d).getD i []) _).bind _ = _
  rw [qfb _ (fun s => !nameB s) _ (fun x _ => by show (qbJ x).bind _ = _; unfold qbJ; rw [qlb]; rfl) (Nat.le_trans (len4 ha hb hc hd i) (by omega)), Option.bind_some]
  rw [List.all_eq_not_any_not] at hq
  simp only [Bool.not_eq_true', Bool.not_eq_eq_eq_not, Bool.not_false] at hq
  rw [hq, cond_true]
 ·rw [dec_f (by omega)]; rfl
theorem qr9 : iter (fun x : Int => qcF (a, (b, (c, d))) x) 0 = some (bif (nm4 a b c d).any twL then .inr true else .inl ()) := by
 have hin : ∀ i : Nat, i < 4 → iter (fun x => qcE (a, (b, (c, d))) (i : Int) x) 0 = some (bif twL ((nm4 a b c d).getD i []) then .inr true else .inl ()) := by
  intro i hi
  have hl := len4 ha hb hc hd i
  have e : ∀ x : Int, qcE (a, (b, (c, d))) (i : Int) x = qpp ((nm4 a b c d).getD i []) x := by
   intro x; unfold qcE; rw [Int.toNat_natCast]; rfl
  simp only [e]
  generalize (nm4 a b c d).getD i [] = l at hl ⊢
  have hidx : ∀ k, k < l.length → qal l (l.getD k []) = some (if l.findIdx (fun x => decide (l.getD k [] = x)) < l.length then ((l.findIdx (fun x => decide (l.getD k [] = x)) : Nat) : Int) else -1) := fun k _ => sidx l _ (by omega)
  have := scanN (ε := Unit ⊕ Bool) (step := fun x => qpp l x) l.length (fun i => (List.range i).any fun k => decide (l.getD i [] = l.getD k [])) (fin := .inl ()) (bad := .inr true) (fun k hk hq => ?_) (fun k hk hq => ?_) ?_
  ·exact this
  all_goals unfold qpp
  ·rw [dec_t (show (k : Int) < (l.length : Int) by omega), cond_true, gd_t (inB_t hk), Int.toNat_natCast, hidx k hk, Option.bind_some, qm2 l [] _ k hk (by simp), hq, cond_false, w1 hk (by omega)]
  ·rw [dec_t (show (k : Int) < (l.length : Int) by omega), cond_true, gd_t (inB_t hk), Int.toNat_natCast, hidx k hk, Option.bind_some, qm2 l [] _ k hk (by simp), hq, cond_true]
  ·rw [dec_f (by omega)]; rfl
 have := qfl (step := fun x : Int => qcF (a, (b, (c, d))) x) 4 (fun i => (i : Int)) (fun i => !twL ((nm4 a b c d).getD i [])) (fin := .inl ()) (bad := .inr true) (fun i hi _ hq => ?_) (fun i hi _ hq => ?_) (fun _ => ?_)
 ·rw [range4n] at this
  refine this.trans ?_
  cases (nm4 a b c d).any twL <;> rfl
 all_goals unfold qcF
 ·rw [dec_t (show (i : Int) < 4 by omega), cond_true, gd_t (inB_t hi), hin i hi, Option.bind_some]
  simp only [Bool.not_eq_true'] at hq
  rw [hq, w1 hi (by omega)]; rfl
 ·rw [dec_t (show (i : Int) < 4 by omega), cond_true, gd_t (inB_t hi), hin i hi, Option.bind_some]
  simp only [Bool.not_eq_false'] at hq
  rw [hq]; rfl
 ·rw [dec_f (by omega)]; rfl
end
theorem qsa (n : Net) (hs : n.2.2.2.1.length ≤ 100) : iter (fun x => qcG n x) 0 = some (bif twS n.2.2.2.1 then .inr true else .inl ()) := by
 generalize hl : n.2.2.2.1 = l at hs
 have hidx : ∀ k, k < l.length → ∀ f : Stat × Unit → Option Bool, (∀ x, f (x, ()) = some (decide (x.2.1 = (l.getD k sta0).2.1))) → qae l f = some (if l.findIdx (fun x => decide (x.2.1 = (l.getD k sta0).2.1)) < l.length then ((l.findIdx (fun x => decide (x.2.1 = (l.getD k sta0).2.1)) : Nat) : Int) else -1) := fun k _ f hf => qch l _ f (fun x _ => hf x) (by omega)
 have := scanN (ε := Unit ⊕ Bool) (step := fun x => qcG n x) l.length (fun i => (List.range i).any fun k => decide ((l.getD k sta0).2.1 = (l.getD i sta0).2.1)) (fin := .inl ()) (bad := .inr true) (fun k hk hq => ?_) (fun k hk hq => ?_) ?_
 ·exact this
 all_goals unfold qcG; simp only [hl]
 ·rw [dec_t (show (k : Int) < (l.length : Int) by omega), cond_true, gd_t (inB_t hk), Int.toNat_natCast, hidx k hk _ (fun x => rfl), Option.bind_some, qm2 l sta0 _ k hk (by simp), hq, cond_false, w1 hk (by omega)]
 ·rw [dec_t (show (k : Int) < (l.length : Int) by omega), cond_true, gd_t (inB_t hk), Int.toNat_natCast, hidx k hk _ (fun x => rfl), Option.bind_some, qm2 l sta0 _ k hk (by simp), hq, cond_true]
 ·rw [dec_f (by omega)]; rfl
theorem qqm {n : Net} (h : Small n) : qc3 n = some (twB n) := by
 obtain ⟨h1, h2, h3, h4, h5, h6⟩ := h
 unfold qc3
 show (qbO n).bind _ = _
 rw [qm1 (by omega) (by omega) (by omega), Option.bind_some]
 rw [qr9 (by omega) (by simp; omega) (by simp; omega) (by simp; omega), Option.bind_some]
 unfold twB
 show Sum.elim _ _ (bif (nmsOf n).any twL then _ else _) = _
 cases (nmsOf n).any twL with
 | true => rfl
 | false =>
  simp only [cond_false, Sum.elim_inl, Bool.false_or]
  rw [qsa n (by omega), Option.bind_some]
  cases twS n.2.2.2.1 <;> rfl
end Go.Proofs.YtpgigbdefbeagaaGreatDoor
namespace Go.Proofs.YtpgigbdefbeagaaGreatDoor
open Go Go.Sq
set_option linter.unusedVariables false
theorem qqn {n : Net} (h : Small n) : qc5 n = some (knB n) := by
 obtain ⟨h1, h2, h3, h4, h5, h6⟩ := h
 unfold qc5
 have a1 : ∀ i, (((n.2.1.take i).flatMap fun s => [s.2.1, s.2.2.1]) : List Int).length ≤ 2 * i := by
  intro i
  rw [List.length_flatMap]
  have : ∀ l : List Seg, (l.map fun s => ([s.2.1, s.2.2.1] : List Int).length).sum = 2 * l.length := by
   intro l; induction l with
   | nil => rfl
   | cons x l ih => rw [List.map_cons, List.sum_cons, ih]; show 2 + 2 * l.length = 2 * (l.length + 1); omega
  rw [this, List.length_take]; omega
 have k1 := qbt (step := fun x : Int × List Int => qcH n x.1 x.2) n.2.1.length (fun i => ((i : Int), (n.2.1.take i).flatMap fun s => [s.2.1, s.2.2.1])) (e := n.2.1.flatMap fun s => [s.2.1, s.2.2.1]) (fun i hi => by
  unfold qcH
  have := a1 i
  simp only [dec_t (show (i : Int) < (n.2.1.length : Int) by omega), cond_true, gd_t (inB_t hi), Int.toNat_natCast]
  rw [gd_t (qbx (by omega)), w1 hi (by omega), qbI sg0 hi, List.flatMap_append]; simp) (by
  unfold qcH
  simp only [dec_f (show ¬ (n.2.1.length : Int) < (n.2.1.length : Int) by omega), cond_false]
  rw [List.take_of_length_le (by simp)])
 rw [show ((((0 : Nat) : Int), (n.2.1.take 0).flatMap fun s => [s.2.1, s.2.2.1]) : Int × List Int) = (0, []) from rfl] at k1
 rw [k1, Option.bind_some]
 have a2 := a1 n.2.1.length
 rw [List.take_of_length_le (Nat.le_refl _)] at a2
 generalize hA : (n.2.1.flatMap fun s => [s.2.1, s.2.2.1]) = A at a2
 have k2 := qbt (step := fun x : Int × List Int => qcI n x.1 x.2) n.2.2.1.length (fun i => ((i : Int), A ++ (n.2.2.1.map (·.2.1)).take i)) (e := A ++ n.2.2.1.map (·.2.1)) (fun i hi => by
  unfold qcI
  simp only [dec_t (show (i : Int) < (n.2.2.1.length : Int) by omega), cond_true, gd_t (inB_t hi), Int.toNat_natCast]
  rw [gd_t (qbx (by simp; omega)), w1 hi (by omega), qbI (0 : Int) (by simpa using hi), qk8 (·.2.1) n.2.2.1 i po0 0 hi, List.append_assoc]) (by
  unfold qcI
  simp only [dec_f (show ¬ (n.2.2.1.length : Int) < (n.2.2.1.length : Int) by omega), cond_false]
  rw [List.take_of_length_le (by simp)])
 rw [show ((((0 : Nat) : Int), A ++ (n.2.2.1.map (·.2.1)).take 0) : Int × List Int) = (0, A) by simp] at k2
 rw [k2, Option.bind_some]
 have a3 : (A ++ n.2.2.1.map (·.2.1)).length ≤ 200 := by simp; omega
 generalize hB : A ++ n.2.2.1.map (·.2.1) = B at a3
 have k3 := qbt (step := fun x : Int × List Int => qcJ n x.1 x.2) n.2.2.2.1.length (fun i => ((i : Int), B ++ (n.2.2.2.1.map (·.2.1)).take i)) (e := B ++ n.2.2.2.1.map (·.2.1)) (fun i hi => by
  unfold qcJ
  simp only [dec_t (show (i : Int) < (n.2.2.2.1.length : Int) by omega), cond_true, gd_t (inB_t hi), Int.toNat_natCast]
  rw [gd_t (qbx (by simp; omega)), w1 hi (by omega), qbI (0 : Int) (by simpa using hi), qk8 (·.2.1) n.2.2.2.1 i sta0 0 hi, List.append_assoc]) (by
  unfold qcJ
  simp only [dec_f (show ¬ (n.2.2.2.1.length : Int) < (n.2.2.2.1.length : Int) by omega), cond_false]
  rw [List.take_of_length_le (by simp)])
 rw [show ((((0 : Nat) : Int), B ++ (n.2.2.2.1.map (·.2.1)).take 0) : Int × List Int) = (0, B) by simp] at k3
 rw [k3, Option.bind_some]
 rw [qmh _ (fun k => !kn n k) _ (fun x _ => by
  show (qc4 x n).bind _ = _
  unfold qc4 kn
  have e1 : decide (x < 0) = !decide (0 ≤ x) := by rw [Bool.eq_iff_iff]; simp
  have e2 : decide ((n.1.length : Int) ≤ x) = !decide (x < (n.1.length : Int)) := by rw [Bool.eq_iff_iff]; simp
  rw [e1, e2]
  cases decide (0 ≤ x) <;> cases decide (x < (n.1.length : Int)) <;> rfl) (by simp; omega), Option.bind_some]
 congr 1
 subst hB hA
 unfold knB
 rw [List.all_eq_not_any_not, List.all_eq_not_any_not, List.all_eq_not_any_not]
 rw [List.any_append, List.any_append, List.any_flatMap, List.any_map, List.any_map]
 simp [Function.comp_def, Bool.and_assoc]
theorem qrt {s : Seg} (h1 : 2 ≤ s.2.2.2.2.2.2.length) (h2 : s.2.2.2.2.2.2.length ≤ 8) : qdF s = some (pipeB s) := by
 unfold qdF pipeB
 have hl : iter (fun x => qc7 s x) 0 = some (bif (List.range s.2.2.2.2.2.2.length).all (ptB s.2.2.2.2.2.2) then .inl () else .inr false) := by
  have := qfl (step := fun x => qc7 s x) s.2.2.2.2.2.2.length (fun i => (i : Int)) (ptB s.2.2.2.2.2.2) (fin := .inl ()) (bad := .inr false) (fun i hi _ hq => ?_) (fun i hi _ hq => ?_) (fun _ => ?_)
  ·exact this
  all_goals unfold qc7
  ·rw [dec_t (show (i : Int) < (s.2.2.2.2.2.2.length : Int) by omega), cond_true, gd_t (inB_t hi), qfd, Option.bind_some, qfd, Option.bind_some, Int.toNat_natCast]
   unfold ptB at hq
   simp only [Bool.and_eq_true] at hq
   rw [hq.1, hq.2.1]
   simp only [Bool.not_true, cond_false]
   rcases Nat.eq_zero_or_pos i with rfl | hp
   ·rfl
   ·rw [dec_t (show (0 : Int) < (i : Int) by omega), cond_true, show wi64 ((i : Int) - 1) = ((i - 1 : Nat) : Int) by rw [wi (by omega)]; omega, gd_t (inB_t (show i - 1 < _ by omega)), Int.toNat_natCast, Option.bind_some]
    have h3 := hq.2.2
    simp only [Bool.or_eq_true, decide_eq_true_eq] at h3
    have h3 := h3.resolve_left (fun e => by have := Nat.eq_of_beq_eq_true e; omega)
    rw [dec_f (Int.not_le.2 h3), cond_false, w1 hi (by omega)]
  ·rw [dec_t (show (i : Int) < (s.2.2.2.2.2.2.length : Int) by omega), cond_true, gd_t (inB_t hi), qfd, Option.bind_some, qfd, Option.bind_some, Int.toNat_natCast]
   unfold ptB at hq
   cases e1 : rg (-500) 5000 (s.2.2.2.2.2.2.getD i pt0).2.1 with
   | false => rfl
   | true =>
    cases e2 : rg 0 100000000 (s.2.2.2.2.2.2.getD i pt0).2.2 with
    | false => rfl
    | true =>
     rw [e1, e2] at hq
     simp only [Bool.true_and, Bool.or_eq_false_iff, decide_eq_false_iff_not] at hq
     have hp : i ≠ 0 := fun e => by rw [e] at hq; cases hq.1
     simp only [Bool.not_true, cond_false]
     rw [dec_t (show (0 : Int) < (i : Int) by omega), cond_true, show wi64 ((i : Int) - 1) = ((i - 1 : Nat) : Int) by rw [wi (by omega)]; omega, gd_t (inB_t (show i - 1 < _ by omega)), Int.toNat_natCast, Option.bind_some, dec_t (Int.not_lt.1 hq.2)]
     rfl
  ·rw [dec_f (by omega)]; rfl
 rw [hl, qfd, qfd, qfd]
 simp only [Option.bind_some]
 cases decide (s.2.1 = s.2.2.1) with
 | true => rfl
 | false =>
 cases rg 1 1000000 s.2.2.2.1 with
 | false => rfl
 | true =>
 cases rg 0 1000 s.2.2.2.2.1 with
 | false => rfl
 | true =>
 cases rg 0 100000 s.2.2.2.2.2.1 with
 | false => rfl
 | true =>
 cases (List.range s.2.2.2.2.2.2.length).all (ptB s.2.2.2.2.2.2) with
 | false => rfl
 | true =>
  show (gd (inB 0 s.2.2.2.2.2.2.length) _) = _
  rw [gd_t (inB0 (by omega)), show wi64 ((s.2.2.2.2.2.2.length : Int) - 1) = ((s.2.2.2.2.2.2.length - 1 : Nat) : Int) by rw [wi (by omega)]; omega, gd_t (inB_t (show s.2.2.2.2.2.2.length - 1 < _ by omega)), Int.toNat_natCast]
  cases decide ((s.2.2.2.2.2.2.getD 0 (0, (0, 0))).1 = 0) <;> rfl
theorem qpq {n : Net} (h : Small n) : qct n = some (prB n) := by
 obtain ⟨h1, h2, h3, h4, h5, h6⟩ := h
 unfold qct prB
 rw [qcg n.2.1 (fun s => !pipeB s) _ (fun x hx => by show (qcK x).bind _ = _; unfold qcK; show ((qdF x).bind _).bind _ = _; rw [qrt (h6 x hx).1 (h6 x hx).2]; rfl) (by omega), Option.bind_some]
 rw [qf8 n.2.2.1 (fun p => !rg 0 100000000 p.2.2) _ (fun x hx => by show (qcL x).bind _ = _; unfold qcL; rw [qfd]; rfl) (by omega), Option.bind_some]
 rw [qeC n.2.2.2.1 (fun p => !stB p) _ (fun x hx => by
  show (qcM x).bind _ = _; unfold qcM stB; rw [qfd, qfd, qfd]
  cases rg 0 100000000 x.2.2.1 <;> cases rg 0 100000 x.2.2.2.1 <;> cases rg 0 100000000 x.2.2.2.2 <;> rfl) (by omega), Option.bind_some, qfd, qfd]
 rw [List.all_eq_not_any_not, List.all_eq_not_any_not, List.all_eq_not_any_not]
 cases n.2.1.any (fun s => !pipeB s) <;> cases n.2.2.1.any (fun p => !rg 0 100000000 p.2.2) <;> cases n.2.2.2.1.any (fun p => !stB p) <;> cases rg (-100000) 100000000 n.2.2.2.2.1 <;> rfl
theorem qgW (n : Net) : qa3 n = some (qfc n) := by
 unfold qa3 qfc
 show (qcr n).bind _ = _
 rw [qpo, Option.bind_some]
 cases hl : limB n with
 | false => rfl
 | true =>
  have hs := (qkj n).1 hl
  show (qbO n).bind _ = _
  rw [qm1 (by have := hs.sg; omega) (by have := hs.po; omega) (by have := hs.st; omega), Option.bind_some]
  rw [qql (by have := hs.no; omega) (by have := hs.sg; simp; omega) (by have := hs.po; simp; omega) (by have := hs.st; simp; omega), Option.bind_some]
  show Sum.elim _ _ (bif formB n then _ else _) = _
  cases formB n with
  | false => rfl
  | true =>
   show (qc3 n).bind _ = _
   rw [qqm hs, Option.bind_some]
   cases twB n with
   | true => rfl
   | false =>
    show (qc5 n).bind _ = _
    rw [qqn hs, Option.bind_some]
    cases knB n with
    | false => rfl
    | true =>
     show (qct n).bind _ = _
     rw [qpq hs, Option.bind_some]
     cases prB n <;> rfl
end Go.Proofs.YtpgigbdefbeagaaGreatDoor
namespace Go.Proofs.YtpgigbdefbeagaaGreatDoor
open Go Go.Sq
set_option linter.unusedVariables false
section
variable {a b c d : List Str} (ha : a.length ≤ 100) (hb : b.length ≤ 100) (hc : c.length ≤ 100) (hd : d.length ≤ 100)
include ha hb hc hd
end
end Go.Proofs.YtpgigbdefbeagaaGreatDoor
namespace Go.Proofs.YtpgigbdefbeagaaGreatDoor
open Go Go.Sq
theorem qh8 (c : UInt8) (hc : c ∈ [(110 : UInt8), 103, 113, 115, 112]) {m : Nat} (hm : m ≤ 26) : (nms c m).all nameB = true := by
 have key : ∀ c ∈ [(110 : UInt8), 103, 113, 115, 112], ∀ i ∈ List.range 26, nameB (nm c i) = true := by decide +kernel
 rw [List.all_eq_true]
 intro x hx
 obtain ⟨j, hj, rfl⟩ := qrs hx
 exact key c hc j (List.mem_range.2 (by omega))
theorem qf9 {l : List Str} (h : l.Nodup) : twL l = false := by
 unfold twL
 rw [List.any_eq_false]
 intro i hi
 rw [Bool.not_eq_true, List.any_eq_false]
 intro k hk
 have hi := List.mem_range.1 hi
 have hk := List.mem_range.1 hk
 rw [decide_eq_true_eq]
 intro he
 rw [List.getD_eq_getElem?_getD, List.getD_eq_getElem?_getD, List.getElem?_eq_getElem (by omega), List.getElem?_eq_getElem (by omega)] at he
 have := (List.getElem_inj h (h₀ := hi) (h₁ := (by omega : k < l.length))).1 he
 omega
theorem rg_t {lo hi x : Int} (h : lo ≤ x ∧ x ≤ hi) : rg lo hi x = true := by
 unfold rg
 rw [decide_eq_true h.1, decide_eq_true h.2]; rfl
theorem qsb {k : Nat} {s : Seg} (h : SegP k s) : pipeB s = true := by
 have a1 := h.pts.l2
 unfold pipeB
 rw [decide_eq_false h.ne, rg_t h.cap, rg_t h.res, rg_t h.wav]
 have e1 : (s.2.2.2.2.2.2.getD 0 pt0).1 = 0 := h.pts.fst
 have e2 : (s.2.2.2.2.2.2.getD (s.2.2.2.2.2.2.length - 1) pt0).1 = s.2.2.2.1 := h.pts.lst
 rw [decide_eq_true e1, decide_eq_true e2]
 simp only [Bool.not_false, Bool.and_self, Bool.true_and, Bool.and_true]
 rw [List.all_eq_true]
 intro i hi
 have hi := List.mem_range.1 hi
 have hr := h.pts.rng _ (qa0 (d := pt0) hi)
 unfold ptB
 rw [rg_t ⟨hr.1, hr.2.1⟩, rg_t ⟨hr.2.2.1, hr.2.2.2⟩]
 simp only [Bool.true_and]
 cases i with
 | zero => rfl
 | succ j =>
  have := h.pts.inc j hi
  have e3 : (s.2.2.2.2.2.2.getD (j + 1 - 1) pt0).1 < (s.2.2.2.2.2.2.getD (j + 1) pt0).1 := this
  rw [decide_eq_true e3, Bool.or_true]
theorem chk0 {k : Nat} {n : Net} (h : NetP k n) : qfc n = 0 := by
 have a1 := h.k2; have a2 := h.k6; have a3 := h.segs.len; have a4 := h.ports.len; have a5 := h.stats.len; have a6 := h.some'
 have e : n.1.length = k := by rw [h.nodes, qgV]
 have hl : limB n = true := (qkj n).2 ⟨by omega, by omega, by omega, by omega, by omega, fun s hs => ⟨(h.segs.rng s hs).pts.l2, (h.segs.rng s hs).pts.l8⟩⟩
 have hf : formB n = true := by
  unfold formB nmsOf
  rw [h.nodes, h.segs.nam, h.ports.nam, h.stats.nam]
  simp only [List.all_cons, List.all_nil]
  rw [qh8 110 (by decide) (by omega), qh8 103 (by decide) (by omega), qh8 113 (by decide) (by omega), qh8 115 (by decide) (by omega)]; rfl
 have ht : twB n = false := by
  unfold twB nmsOf
  rw [h.nodes, h.segs.nam, h.ports.nam, h.stats.nam]
  simp only [List.any_cons, List.any_nil]
  rw [qf9 (qeB 110 (by omega)), qf9 (qeB 103 (by omega)), qf9 (qeB 113 (by omega)), qf9 (qeB 115 (by omega))]
  simp only [Bool.or_self, Bool.false_or]
  unfold twS
  rw [List.any_eq_false]
  intro i hi
  rw [Bool.not_eq_true, List.any_eq_false]
  intro q hq
  have hi := List.mem_range.1 hi
  have hq := List.mem_range.1 hq
  rw [decide_eq_true_eq]
  intro he
  have hd := h.stats.dif
  have e1 : ∀ j (hj : j < n.2.2.2.1.length), (n.2.2.2.1.getD j sta0).2.1 = (n.2.2.2.1.map (·.2.1))[j]'(by simpa using hj) := fun j hj => by
   rw [List.getElem_map, List.getD_eq_getElem?_getD, List.getElem?_eq_getElem hj]; rfl
  rw [e1 q (by omega), e1 i hi] at he
  have := (List.getElem_inj hd).1 he
  omega
 have hk : knB n = true := by
  unfold knB kn
  rw [Bool.and_eq_true, Bool.and_eq_true, List.all_eq_true, List.all_eq_true, List.all_eq_true]
  refine ⟨fun s hs => ?_, fun s hs => ?_, fun s hs => ?_⟩
  ·have := h.segs.rng s hs
   have b1 := this.f0; have b2 := this.f1; have b3 := this.t0; have b4 := this.t1
   rw [decide_eq_true b1, decide_eq_true b3, decide_eq_true (by omega), decide_eq_true (by omega)]; rfl
  ·have := h.ports.rng s hs
   rw [decide_eq_true this.1, decide_eq_true (by omega)]; rfl
  ·have := h.stats.rng s hs
   rw [decide_eq_true this.1, decide_eq_true (by omega)]; rfl
 have hp : prB n = true := by
  unfold prB
  rw [rg_t h.vap, rg_t h.set, List.all_eq_true.2 fun s hs => qsb (h.segs.rng s hs), List.all_eq_true.2 fun s hs => rg_t (h.ports.rng s hs).2.2, List.all_eq_true.2 fun s hs => ?_]
  ·rfl
  ·have := h.stats.rng s hs
   unfold stB
   rw [rg_t this.2.2.1, rg_t this.2.2.2.1, rg_t this.2.2.2.2]; rfl
 unfold qfc
 rw [hl, hf, ht, hk, hp]; rfl
end Go.Proofs.YtpgigbdefbeagaaGreatDoor
