/- slices.IndexFunc and slices.ContainsFunc as findIdx and any. No condition. -/
import Derived.Test.YtpgigbdefbeagaaGreatDoorNk0
import Derived.Test.YtpgigbdefbeagaaGreatDoorLa1
import Derived.Test.YtpgigbdefbeagaaGreatDoorLa2
namespace Go.Proofs.YtpgigbdefbeagaaGreatDoor
open Go Go.Sq
theorem qeK (s : List (List UInt8 × Int × Int × Int × Int × Int × List (Int × Int × Int))) (p : (List UInt8 × Int × Int × Int × Int × Int × List (Int × Int × Int)) → Bool) (f : (List UInt8 × Int × Int × Int × Int × Int × List (Int × Int × Int)) × Unit → Option Bool) (hf : ∀ x ∈ s, f (x, ()) = some (p x)) (hl : s.length ≤ 1000000) : qaq s f = some (if s.findIdx p < s.length then ((s.findIdx p : Nat) : Int) else -1) := by
 unfold qaq
 have h : iter (fun x => qad s f x) 0 = some (if s.findIdx p < s.length then .inr ((s.findIdx p : Nat) : Int) else .inl ()) := by
  refine qdU (step := fun y => qad s f y) (ε := Unit ⊕ Int) s ([], 0, 0, 0, 0, 0, []) p (fin := .inl ()) (fun i => .inr (i : Int)) (fun i hi hq => ?_) (fun i hi hq => ?_) ?_
  ·unfold qad
   rw [dec_t (show (i : Int) < (s.length : Int) by omega), cond_true, gd_t (inB_t hi), Int.toNat_natCast, hf _ (qaC hi), Option.bind_some, hq, cond_false, w1 hi (by omega)]
  ·unfold qad
   rw [dec_t (show (i : Int) < (s.length : Int) by omega), cond_true, gd_t (inB_t hi), Int.toNat_natCast, hf _ (qaC hi), Option.bind_some, hq, cond_true]
  ·unfold qad
   rw [dec_f (by omega)]; rfl
 rw [h, Option.bind_some]
 by_cases hf : s.findIdx p < s.length
 ·rw [if_pos hf, if_pos hf]; rfl
 ·rw [if_neg hf, if_neg hf]; rfl
theorem qcf (s : List (List UInt8 × Int × Int × Int × Int × Int × List (Int × Int × Int))) (p : (List UInt8 × Int × Int × Int × Int × Int × List (Int × Int × Int)) → Bool) (f : (List UInt8 × Int × Int × Int × Int × Int × List (Int × Int × Int)) × Unit → Option Bool) (hf : ∀ x ∈ s, f (x, ()) = some (p x)) (hl : s.length ≤ 1000000) : qah s f = some (s.any p) := by
 unfold qah
 rw [qeK s p f hf hl, Option.bind_some, ← qdA]
 by_cases hf : s.findIdx p < s.length
 ·rw [if_pos hf, dec_t hf, dec_t (by omega)]
 ·rw [if_neg hf, dec_f hf, dec_f (by omega)]
theorem qic (s : List (List UInt8)) (p : (List UInt8) → Bool) (f : (List UInt8) × Unit → Option Bool) (hf : ∀ x ∈ s, f (x, ()) = some (p x)) (hl : s.length ≤ 1000000) : qaE s f = some (if s.findIdx p < s.length then ((s.findIdx p : Nat) : Int) else -1) := by
 unfold qaE
 have h : iter (fun x => qaj s f x) 0 = some (if s.findIdx p < s.length then .inr ((s.findIdx p : Nat) : Int) else .inl ()) := by
  refine qdU (step := fun y => qaj s f y) (ε := Unit ⊕ Int) s [] p (fin := .inl ()) (fun i => .inr (i : Int)) (fun i hi hq => ?_) (fun i hi hq => ?_) ?_
  ·unfold qaj
   rw [dec_t (show (i : Int) < (s.length : Int) by omega), cond_true, gd_t (inB_t hi), Int.toNat_natCast, hf _ (qaC hi), Option.bind_some, hq, cond_false, w1 hi (by omega)]
  ·unfold qaj
   rw [dec_t (show (i : Int) < (s.length : Int) by omega), cond_true, gd_t (inB_t hi), Int.toNat_natCast, hf _ (qaC hi), Option.bind_some, hq, cond_true]
  ·unfold qaj
   rw [dec_f (by omega)]; rfl
 rw [h, Option.bind_some]
 by_cases hf : s.findIdx p < s.length
 ·rw [if_pos hf, if_pos hf]; rfl
 ·rw [if_neg hf, if_neg hf]; rfl
theorem qfl (s : List (List UInt8)) (p : (List UInt8) → Bool) (f : (List UInt8) × Unit → Option Bool) (hf : ∀ x ∈ s, f (x, ()) = some (p x)) (hl : s.length ≤ 1000000) : qak s f = some (s.any p) := by
 unfold qak
 rw [qic s p f hf hl, Option.bind_some, ← qdA]
 by_cases hf : s.findIdx p < s.length
 ·rw [if_pos hf, dec_t hf, dec_t (by omega)]
 ·rw [if_neg hf, dec_f hf, dec_f (by omega)]
theorem qcg (s : List (List UInt8 × Int × Int × Int × Int)) (p : (List UInt8 × Int × Int × Int × Int) → Bool) (f : (List UInt8 × Int × Int × Int × Int) × Unit → Option Bool) (hf : ∀ x ∈ s, f (x, ()) = some (p x)) (hl : s.length ≤ 1000000) : qaf s f = some (if s.findIdx p < s.length then ((s.findIdx p : Nat) : Int) else -1) := by
 unfold qaf
 have h : iter (fun x => qae s f x) 0 = some (if s.findIdx p < s.length then .inr ((s.findIdx p : Nat) : Int) else .inl ()) := by
  refine qdU (step := fun y => qae s f y) (ε := Unit ⊕ Int) s ([], 0, 0, 0, 0) p (fin := .inl ()) (fun i => .inr (i : Int)) (fun i hi hq => ?_) (fun i hi hq => ?_) ?_
  ·unfold qae
   rw [dec_t (show (i : Int) < (s.length : Int) by omega), cond_true, gd_t (inB_t hi), Int.toNat_natCast, hf _ (qaC hi), Option.bind_some, hq, cond_false, w1 hi (by omega)]
  ·unfold qae
   rw [dec_t (show (i : Int) < (s.length : Int) by omega), cond_true, gd_t (inB_t hi), Int.toNat_natCast, hf _ (qaC hi), Option.bind_some, hq, cond_true]
  ·unfold qae
   rw [dec_f (by omega)]; rfl
 rw [h, Option.bind_some]
 by_cases hf : s.findIdx p < s.length
 ·rw [if_pos hf, if_pos hf]; rfl
 ·rw [if_neg hf, if_neg hf]; rfl
theorem qeL (s : List (List UInt8 × Int × Int × Int × Int)) (p : (List UInt8 × Int × Int × Int × Int) → Bool) (f : (List UInt8 × Int × Int × Int × Int) × Unit → Option Bool) (hf : ∀ x ∈ s, f (x, ()) = some (p x)) (hl : s.length ≤ 1000000) : qan s f = some (s.any p) := by
 unfold qan
 rw [qcg s p f hf hl, Option.bind_some, ← qdA]
 by_cases hf : s.findIdx p < s.length
 ·rw [if_pos hf, dec_t hf, dec_t (by omega)]
 ·rw [if_neg hf, dec_f hf, dec_f (by omega)]
theorem qm8 (s : List (Int)) (p : (Int) → Bool) (f : (Int) × Unit → Option Bool) (hf : ∀ x ∈ s, f (x, ()) = some (p x)) (hl : s.length ≤ 1000000) : qba s f = some (if s.findIdx p < s.length then ((s.findIdx p : Nat) : Int) else -1) := by
 unfold qba
 have h : iter (fun x => qav s f x) 0 = some (if s.findIdx p < s.length then .inr ((s.findIdx p : Nat) : Int) else .inl ()) := by
  refine qdU (step := fun y => qav s f y) (ε := Unit ⊕ Int) s 0 p (fin := .inl ()) (fun i => .inr (i : Int)) (fun i hi hq => ?_) (fun i hi hq => ?_) ?_
  ·unfold qav
   rw [dec_t (show (i : Int) < (s.length : Int) by omega), cond_true, gd_t (inB_t hi), Int.toNat_natCast, hf _ (qaC hi), Option.bind_some, hq, cond_false, w1 hi (by omega)]
  ·unfold qav
   rw [dec_t (show (i : Int) < (s.length : Int) by omega), cond_true, gd_t (inB_t hi), Int.toNat_natCast, hf _ (qaC hi), Option.bind_some, hq, cond_true]
  ·unfold qav
   rw [dec_f (by omega)]; rfl
 rw [h, Option.bind_some]
 by_cases hf : s.findIdx p < s.length
 ·rw [if_pos hf, if_pos hf]; rfl
 ·rw [if_neg hf, if_neg hf]; rfl
theorem qm9 (s : List (Int)) (p : (Int) → Bool) (f : (Int) × Unit → Option Bool) (hf : ∀ x ∈ s, f (x, ()) = some (p x)) (hl : s.length ≤ 1000000) : qaP s f = some (s.any p) := by
 unfold qaP
 rw [qm8 s p f hf hl, Option.bind_some, ← qdA]
 by_cases hf : s.findIdx p < s.length
 ·rw [if_pos hf, dec_t hf, dec_t (by omega)]
 ·rw [if_neg hf, dec_f hf, dec_f (by omega)]
theorem qgp (s : List (List UInt8 × Int × Int)) (p : (List UInt8 × Int × Int) → Bool) (f : (List UInt8 × Int × Int) × Unit → Option Bool) (hf : ∀ x ∈ s, f (x, ()) = some (p x)) (hl : s.length ≤ 1000000) : qay s f = some (if s.findIdx p < s.length then ((s.findIdx p : Nat) : Int) else -1) := by
 unfold qay
 have h : iter (fun x => qai s f x) 0 = some (if s.findIdx p < s.length then .inr ((s.findIdx p : Nat) : Int) else .inl ()) := by
  refine qdU (step := fun y => qai s f y) (ε := Unit ⊕ Int) s ([], 0, 0) p (fin := .inl ()) (fun i => .inr (i : Int)) (fun i hi hq => ?_) (fun i hi hq => ?_) ?_
  ·unfold qai
   rw [dec_t (show (i : Int) < (s.length : Int) by omega), cond_true, gd_t (inB_t hi), Int.toNat_natCast, hf _ (qaC hi), Option.bind_some, hq, cond_false, w1 hi (by omega)]
  ·unfold qai
   rw [dec_t (show (i : Int) < (s.length : Int) by omega), cond_true, gd_t (inB_t hi), Int.toNat_natCast, hf _ (qaC hi), Option.bind_some, hq, cond_true]
  ·unfold qai
   rw [dec_f (by omega)]; rfl
 rw [h, Option.bind_some]
 by_cases hf : s.findIdx p < s.length
 ·rw [if_pos hf, if_pos hf]; rfl
 ·rw [if_neg hf, if_neg hf]; rfl
theorem qgq (s : List (List UInt8 × Int × Int)) (p : (List UInt8 × Int × Int) → Bool) (f : (List UInt8 × Int × Int) × Unit → Option Bool) (hf : ∀ x ∈ s, f (x, ()) = some (p x)) (hl : s.length ≤ 1000000) : qau s f = some (s.any p) := by
 unfold qau
 rw [qgp s p f hf hl, Option.bind_some, ← qdA]
 by_cases hf : s.findIdx p < s.length
 ·rw [if_pos hf, dec_t hf, dec_t (by omega)]
 ·rw [if_neg hf, dec_f hf, dec_f (by omega)]
end Go.Proofs.YtpgigbdefbeagaaGreatDoor
namespace Go.Proofs.YtpgigbdefbeagaaGreatDoor
open Go Go.Sq
set_option linter.unusedVariables false
abbrev pt0 : Pt := (0, (0, 0))
abbrev sg0 : Seg := ([], (0, (0, (0, (0, (0, []))))))
abbrev po0 : Port := ([], (0, 0))
abbrev sta0 : Stat := ([], (0, (0, (0, 0))))
def rg (lo hi n : Int) : Bool := decide (lo ≤ n) && decide (n ≤ hi)
def limB (n : Net) : Bool := Nat.ble 1 n.1.length && (Nat.ble n.1.length 24 && (Nat.ble n.2.1.length 32 && (Nat.ble n.2.2.1.length 24 && Nat.ble n.2.2.2.1.length 12))) && n.2.1.all fun s => Nat.ble 2 s.2.2.2.2.2.2.length && Nat.ble s.2.2.2.2.2.2.length 8
def nmsOf (n : Net) : List (List Str) := [n.1, n.2.1.map (·.1), n.2.2.1.map (·.1), n.2.2.2.1.map (·.1)]
def formB (n : Net) : Bool := (nmsOf n).all fun l => l.all nameB
def twL (l : List Str) : Bool := (List.range l.length).any fun i => (List.range i).any fun k => decide (l.getD i [] = l.getD k [])
def twS (l : List Stat) : Bool := (List.range l.length).any fun i => (List.range i).any fun k => decide ((l.getD k sta0).2.1 = (l.getD i sta0).2.1)
def twB (n : Net) : Bool := (nmsOf n).any twL || twS n.2.2.2.1
def kn (n : Net) (k : Int) : Bool := decide (0 ≤ k) && decide (k < (n.1.length : Int))
def knB (n : Net) : Bool := n.2.1.all (fun s => kn n s.2.1 && kn n s.2.2.1) && (n.2.2.1.all (fun p => kn n p.2.1) && n.2.2.2.1.all (fun s => kn n s.2.1))
def ptB (l : List Pt) (i : Nat) : Bool := rg (-500) 5000 (l.getD i pt0).2.1 && (rg 0 100000000 (l.getD i pt0).2.2 && (Nat.beq i 0 || decide ((l.getD (i - 1) pt0).1 < (l.getD i pt0).1)))
def pipeB (s : Seg) : Bool := !decide (s.2.1 = s.2.2.1) && (rg 1 1000000 s.2.2.2.1 && (rg 0 1000 s.2.2.2.2.1 && rg 0 100000 s.2.2.2.2.2.1)) && ((List.range s.2.2.2.2.2.2.length).all (ptB s.2.2.2.2.2.2) && (decide ((s.2.2.2.2.2.2.getD 0 pt0).1 = 0) && decide ((s.2.2.2.2.2.2.getD (s.2.2.2.2.2.2.length - 1) pt0).1 = s.2.2.2.1)))
def stB (s : Stat) : Bool := rg 0 100000000 s.2.2.1 && (rg 0 100000 s.2.2.2.1 && rg 0 100000000 s.2.2.2.2)
def prB (n : Net) : Bool := n.2.1.all pipeB && (n.2.2.1.all (fun p => rg 0 100000000 p.2.2) && (n.2.2.2.1.all stB && (rg (-100000) 100000000 n.2.2.2.2.1 && rg 0 100 n.2.2.2.2.2)))
def qcF (n : Net) : Int := bif limB n then (bif formB n then (bif twB n then 7 else bif knB n then (bif prB n then 0 else 9) else 8) else 3) else 4
structure Small (n : Net) : Prop where
 no1 : 1 ≤ n.1.length
 no : n.1.length ≤ 24
 sg : n.2.1.length ≤ 32
 po : n.2.2.1.length ≤ 24
 st : n.2.2.2.1.length ≤ 12
 pt : ∀ s ∈ n.2.1, 2 ≤ s.2.2.2.2.2.2.length ∧ s.2.2.2.2.2.2.length ≤ 8
theorem qiE (n : Net) : limB n = true ↔ Small n := by
 unfold limB
 simp only [Bool.and_eq_true, Nat.ble_eq, List.all_eq_true]
 constructor
 ·rintro ⟨⟨h1, h2, h3, h4, h5⟩, h6⟩; exact ⟨h1, h2, h3, h4, h5, h6⟩
 ·rintro ⟨h1, h2, h3, h4, h5, h6⟩; exact ⟨⟨h1, h2, h3, h4, h5⟩, h6⟩
theorem qfm (n lo hi : Int) : qbb n lo hi = some (rg lo hi n) := by
 unfold qbb rg
 cases decide (lo ≤ n) <;> rfl
theorem qdv (n lo hi : Int) : qaR n lo hi = some (rg lo hi n) := by
 unfold qaR rg
 cases decide (lo ≤ n) <;> rfl
theorem dlt {a b : Nat} : decide ((a : Int) < (b : Int)) = Nat.blt a b := by
 rw [Bool.eq_iff_iff, decide_eq_true_iff, Nat.blt_eq]; omega
theorem bltn (a b : Nat) : Nat.blt a b = !Nat.ble b a := by
 rw [Bool.eq_iff_iff, Nat.blt_eq, Bool.not_eq_true']
 constructor
 ·intro h; exact Bool.eq_false_iff.2 fun hh => by have := Nat.le_of_ble_eq_true hh; omega
 ·intro h; rcases Nat.lt_or_ge a b with h' | h'
  ·exact h'
  ·rw [Nat.ble_eq_true_of_le h'] at h; cases h
theorem qqb (n : Net) : qcx n = some (limB n) := by
 unfold qcx limB
 have e1 : decide ((n.1.length : Int) < 1) = !Nat.ble 1 n.1.length := by rw [← bltn]; exact dlt (b := 1)
 have e2 : decide (24 < (n.1.length : Int)) = !Nat.ble n.1.length 24 := by rw [← bltn]; exact dlt (a := 24)
 have e3 : decide (32 < (n.2.1.length : Int)) = !Nat.ble n.2.1.length 32 := by rw [← bltn]; exact dlt (a := 32)
 have e4 : decide (24 < (n.2.2.1.length : Int)) = !Nat.ble n.2.2.1.length 24 := by rw [← bltn]; exact dlt (a := 24)
 have e5 : decide (12 < (n.2.2.2.1.length : Int)) = !Nat.ble n.2.2.2.1.length 12 := by rw [← bltn]; exact dlt (a := 12)
 rw [e1, e2, e3, e4, e5]
 cases h1 : Nat.ble 1 n.1.length
 ·rfl
 cases h2 : Nat.ble n.1.length 24
 ·rfl
 cases h3 : Nat.ble n.2.1.length 32
 ·rfl
 cases h4 : Nat.ble n.2.2.1.length 24
 ·rfl
 cases h5 : Nat.ble n.2.2.2.1.length 12
 ·rfl
 have h3 := Nat.le_of_ble_eq_true h3
 simp only [Bool.not_true, cond_false, Option.bind_some, Bool.and_true, Bool.true_and]
 rw [qcf n.2.1 (fun s => !(Nat.ble 2 s.2.2.2.2.2.2.length && Nat.ble s.2.2.2.2.2.2.length 8)) _ (fun x _ => by
  unfold qd3
  have f1 : decide ((x.2.2.2.2.2.2.length : Int) < 2) = !Nat.ble 2 x.2.2.2.2.2.2.length := by rw [← bltn]; exact dlt (b := 2)
  have f2 : decide (8 < (x.2.2.2.2.2.2.length : Int)) = !Nat.ble x.2.2.2.2.2.2.length 8 := by rw [← bltn]; exact dlt (a := 8)
  simp only [f1, f2]
  cases Nat.ble 2 x.2.2.2.2.2.2.length <;> cases Nat.ble x.2.2.2.2.2.2.length 8 <;> rfl) (by omega), Option.bind_some]
 congr 1
 simp [List.all_eq_not_any_not]
theorem qk3 {n : Net} (h1 : n.2.1.length ≤ 1000) (h2 : n.2.2.1.length ≤ 1000) (h3 : n.2.2.2.1.length ≤ 1000) : qbh n = some (n.1, (n.2.1.map (·.1), (n.2.2.1.map (·.1), n.2.2.2.1.map (·.1)))) := by
 unfold qbh
 have k1 := qb0 (step := fun x : Int × List (List UInt8) => qcH n x.1 x.2) n.2.1.length (fun i => ((i : Int), (n.2.1.map (·.1)).take i)) (e := n.2.1.map (·.1)) (fun i hi => by
  unfold qcH
  simp only [dec_t (show (i : Int) < (n.2.1.length : Int) by omega), cond_true, gd_t (inB_t hi), Int.toNat_natCast]
  rw [gd_t (qaz (by rw [List.length_take]; omega)), w1 hi (by omega), qbe ([] : List UInt8) (by simpa using hi), qlS (·.1) n.2.1 i sg0 [] hi]) (by
  unfold qcH
  simp only [dec_f (show ¬ (n.2.1.length : Int) < (n.2.1.length : Int) by omega), cond_false]
  rw [List.take_of_length_le (by simp)])
 rw [show ((((0 : Nat) : Int), (n.2.1.map (·.1)).take 0) : Int × List (List UInt8)) = (0, []) from rfl] at k1
 rw [k1, Option.bind_some]
 generalize n.2.1.map (·.1) = A
 have k2 := qb0 (step := fun x : Int × List (List UInt8) × List (List UInt8) => qcI n x.1 x.2.1 x.2.2) n.2.2.1.length (fun i => ((i : Int), A, (n.2.2.1.map (·.1)).take i)) (e := (A, n.2.2.1.map (·.1))) (fun i hi => by
  unfold qcI
  simp only [dec_t (show (i : Int) < (n.2.2.1.length : Int) by omega), cond_true, gd_t (inB_t hi), Int.toNat_natCast]
  rw [gd_t (qaz (by rw [List.length_take]; omega)), w1 hi (by omega), qbe ([] : List UInt8) (by simpa using hi), qlS (·.1) n.2.2.1 i po0 [] hi]) (by
  unfold qcI
  simp only [dec_f (show ¬ (n.2.2.1.length : Int) < (n.2.2.1.length : Int) by omega), cond_false]
  rw [List.take_of_length_le (by simp)])
 rw [show ((((0 : Nat) : Int), A, (n.2.2.1.map (·.1)).take 0) : Int × List (List UInt8) × List (List UInt8)) = (0, A, []) from rfl] at k2
 rw [k2, Option.bind_some]
 simp only
 generalize n.2.2.1.map (·.1) = B
 have k3 := qb0 (step := fun x : Int × List (List UInt8) × List (List UInt8) × List (List UInt8) => qcJ n x.1 x.2.1 x.2.2.1 x.2.2.2) n.2.2.2.1.length (fun i => ((i : Int), A, B, (n.2.2.2.1.map (·.1)).take i)) (e := (A, B, n.2.2.2.1.map (·.1))) (fun i hi => by
  unfold qcJ
  simp only [dec_t (show (i : Int) < (n.2.2.2.1.length : Int) by omega), cond_true, gd_t (inB_t hi), Int.toNat_natCast]
  rw [gd_t (qaz (by rw [List.length_take]; omega)), w1 hi (by omega), qbe ([] : List UInt8) (by simpa using hi), qlS (·.1) n.2.2.2.1 i sta0 [] hi]) (by
  unfold qcJ
  simp only [dec_f (show ¬ (n.2.2.2.1.length : Int) < (n.2.2.2.1.length : Int) by omega), cond_false]
  rw [List.take_of_length_le (by simp)])
 rw [show ((((0 : Nat) : Int), A, B, (n.2.2.2.1.map (·.1)).take 0) : Int × List (List UInt8) × List (List UInt8) × List (List UInt8)) = (0, A, B, []) from rfl] at k3
 rw [k3]; rfl
theorem qna : @qhh = @qbh := rfl
theorem sidx (s : List Str) (v : Str) (hl : s.length ≤ 1000000) : qal s v = some (if s.findIdx (fun x => decide (v = x)) < s.length then ((s.findIdx (fun x => decide (v = x)) : Nat) : Int) else -1) := by
 unfold qal
 have h : iter (fun x => qar s v x) 0 = some (if s.findIdx (fun x => decide (v = x)) < s.length then .inr ((s.findIdx (fun x => decide (v = x)) : Nat) : Int) else .inl ()) := by
  refine qdU (step := fun y => qar s v y) (ε := Unit ⊕ Int) s [] (fun x => decide (v = x)) (fin := .inl ()) (fun i => .inr (i : Int)) (fun i hi hq => ?_) (fun i hi hq => ?_) ?_
  ·unfold qar
   rw [dec_t (show (i : Int) < (s.length : Int) by omega), cond_true, gd_t (inB_t hi), Int.toNat_natCast, hq, cond_false, w1 hi (by omega)]
  ·unfold qar
   rw [dec_t (show (i : Int) < (s.length : Int) by omega), cond_true, gd_t (inB_t hi), Int.toNat_natCast, hq, cond_true]
  ·unfold qar
   rw [dec_f (by omega)]; rfl
 rw [h, Option.bind_some]
 by_cases hf : s.findIdx (fun x => decide (v = x)) < s.length
 ·rw [if_pos hf, if_pos hf]; rfl
 ·rw [if_neg hf, if_neg hf]; rfl
theorem qnU {A : Type} (l : List A) (d : A) (p : A → Bool) (i : Nat) (hi : i < l.length) (hp : p (l.getD i d) = true) :
  decide ((if l.findIdx p < l.length then ((l.findIdx p : Nat) : Int) else -1) < (i : Int)) = (List.range i).any fun k => p (l.getD k d) := by
 have h1 : l.findIdx p < l.length := List.findIdx_lt_length.2 ⟨_, qaC hi, hp⟩
 rw [if_pos h1, ← qoF l d p i (by omega)]
 rw [Bool.eq_iff_iff, decide_eq_true_iff, decide_eq_true_iff]; omega
abbrev nm4 (a b c d : List Str) : List (List Str) := [a, b, c, d]
theorem range4 {q : List Str → Bool} (a b c d : List Str) : (List.range 4).all (fun i => q ((nm4 a b c d).getD i [])) = (nm4 a b c d).all q := qlW (nm4 a b c d) [] q
theorem range4n {q : List Str → Bool} (a b c d : List Str) : (List.range 4).all (fun i => !q ((nm4 a b c d).getD i [])) = !(nm4 a b c d).any q := by
 rw [range4 (q := fun l => !q l)]; simp [List.all_eq_not_any_not]
theorem len4 {a b c d : List Str} {m : Nat} (ha : a.length ≤ m) (hb : b.length ≤ m) (hc : c.length ≤ m) (hd : d.length ≤ m) (i : Nat) : ((nm4 a b c d).getD i []).length ≤ m := by
 rcases i with _ | _ | _ | _ | i
 ·exact ha
 ·exact hb
 ·exact hc
 ·exact hd
 ·show ([] : List Str).length ≤ m; simp
noncomputable def qqc (l : List Str) (x : Int) : Option (Int ⊕ (Unit ⊕ Bool)) :=
 bif decide (x < (l.length : Int)) then (gd (inB x l.length) <| (qal l (l.getD x.toNat [])).bind fun r2 => bif decide (r2 < x) then (some (.inr (.inr true))) else (some (.inl (wi64 (x + 1))))) else (some (.inr (.inl ())))
section
variable {a b c d : List Str} (ha : a.length ≤ 100) (hb : b.length ≤ 100) (hc : c.length ≤ 100) (hd : d.length ≤ 100)
include ha hb hc hd
theorem qrd : iter (fun x : Int => qcT (a, (b, (c, d))) x) 0 = some (bif (nm4 a b c d).all (fun l => l.all nameB) then .inl () else .inr 3) := by
 have := qci (step := fun x : Int => qcT (a, (b, (c, d))) x) 4 (fun i => (i : Int)) (fun i => ((nm4 a b c d).getD i []).all nameB) (fin := .inl ()) (bad := .inr 3) (fun i hi _ hq => ?_) (fun i hi _ hq => ?_) (fun _ => ?_)
 ·rw [range4 (q := fun l => l.all nameB)] at this; exact this
 all_goals unfold qcT
 ·rw [dec_t (show (i : Int) < 4 by omega), cond_true, gd_t (inB_t hi), Int.toNat_natCast]
  show (qak ((nm4 a b c d).getD i []) _).bind _ = _
  rw [qfl _ (fun s => !nameB s) _ (fun x _ => by show (qbA x).bind _ = _; unfold qbA; rw [qlX]; rfl) (Nat.le_trans (len4 ha hb hc hd i) (by omega)), Option.bind_some]
  rw [List.all_eq_not_any_not] at hq
  simp only [Bool.not_eq_true', Bool.not_eq_eq_eq_not, Bool.not_true] at hq
  rw [hq, cond_false, w1 hi (by omega)]
 ·rw [dec_t (show (i : Int) < 4 by omega), cond_true, gd_t (inB_t hi), Int.toNat_natCast]
  show (qak ((nm4 a b c d).getD i []) _).bind _ = _
  rw [qfl _ (fun s => !nameB s) _ (fun x _ => by show (qbA x).bind _ = _; unfold qbA; rw [qlX]; rfl) (Nat.le_trans (len4 ha hb hc hd i) (by omega)), Option.bind_some]
  rw [List.all_eq_not_any_not] at hq
  simp only [Bool.not_eq_true', Bool.not_eq_eq_eq_not, Bool.not_false] at hq
  rw [hq, cond_true]
 ·rw [dec_f (by omega)]; rfl
theorem qs4 : iter (fun x : Int => qcL (a, (b, (c, d))) x) 0 = some (bif (nm4 a b c d).any twL then .inr true else .inl ()) := by
 have hin : ∀ i : Nat, i < 4 → iter (fun x => qcK (a, (b, (c, d))) (i : Int) x) 0 = some (bif twL ((nm4 a b c d).getD i []) then .inr true else .inl ()) := by
  intro i hi
  have hl := len4 ha hb hc hd i
  have e : ∀ x : Int, qcK (a, (b, (c, d))) (i : Int) x = qqc ((nm4 a b c d).getD i []) x := by
   intro x; unfold qcK; rw [Int.toNat_natCast]; rfl
  simp only [e]
  generalize (nm4 a b c d).getD i [] = l at hl ⊢
  have hidx : ∀ k, k < l.length → qal l (l.getD k []) = some (if l.findIdx (fun x => decide (l.getD k [] = x)) < l.length then ((l.findIdx (fun x => decide (l.getD k [] = x)) : Nat) : Int) else -1) := fun k _ => sidx l _ (by omega)
  have := scanN (ε := Unit ⊕ Bool) (step := fun x => qqc l x) l.length (fun i => (List.range i).any fun k => decide (l.getD i [] = l.getD k [])) (fin := .inl ()) (bad := .inr true) (fun k hk hq => ?_) (fun k hk hq => ?_) ?_
  ·exact this
  all_goals unfold qqc
  ·rw [dec_t (show (k : Int) < (l.length : Int) by omega), cond_true, gd_t (inB_t hk), Int.toNat_natCast, hidx k hk, Option.bind_some, qnU l [] _ k hk (by simp), hq, cond_false, w1 hk (by omega)]
  ·rw [dec_t (show (k : Int) < (l.length : Int) by omega), cond_true, gd_t (inB_t hk), Int.toNat_natCast, hidx k hk, Option.bind_some, qnU l [] _ k hk (by simp), hq, cond_true]
  ·rw [dec_f (by omega)]; rfl
 have := qci (step := fun x : Int => qcL (a, (b, (c, d))) x) 4 (fun i => (i : Int)) (fun i => !twL ((nm4 a b c d).getD i [])) (fin := .inl ()) (bad := .inr true) (fun i hi _ hq => ?_) (fun i hi _ hq => ?_) (fun _ => ?_)
 ·rw [range4n] at this
  refine this.trans ?_
  cases (nm4 a b c d).any twL <;> rfl
 all_goals unfold qcL
 ·rw [dec_t (show (i : Int) < 4 by omega), cond_true, gd_t (inB_t hi), hin i hi, Option.bind_some]
  simp only [Bool.not_eq_true'] at hq
  rw [hq, w1 hi (by omega)]; rfl
 ·rw [dec_t (show (i : Int) < 4 by omega), cond_true, gd_t (inB_t hi), hin i hi, Option.bind_some]
  simp only [Bool.not_eq_false'] at hq
  rw [hq]; rfl
 ·rw [dec_f (by omega)]; rfl
end
theorem qs5 (n : Net) (hs : n.2.2.2.1.length ≤ 100) : iter (fun x => qcM n x) 0 = some (bif twS n.2.2.2.1 then .inr true else .inl ()) := by
 generalize hl : n.2.2.2.1 = l at hs
 have hidx : ∀ k, k < l.length → ∀ f : Stat × Unit → Option Bool, (∀ x, f (x, ()) = some (decide (x.2.1 = (l.getD k sta0).2.1))) → qaf l f = some (if l.findIdx (fun x => decide (x.2.1 = (l.getD k sta0).2.1)) < l.length then ((l.findIdx (fun x => decide (x.2.1 = (l.getD k sta0).2.1)) : Nat) : Int) else -1) := fun k _ f hf => qcg l _ f (fun x _ => hf x) (by omega)
 have := scanN (ε := Unit ⊕ Bool) (step := fun x => qcM n x) l.length (fun i => (List.range i).any fun k => decide ((l.getD k sta0).2.1 = (l.getD i sta0).2.1)) (fin := .inl ()) (bad := .inr true) (fun k hk hq => ?_) (fun k hk hq => ?_) ?_
 ·exact this
 all_goals unfold qcM; simp only [hl]
 ·rw [dec_t (show (k : Int) < (l.length : Int) by omega), cond_true, gd_t (inB_t hk), Int.toNat_natCast, hidx k hk _ (fun x => rfl), Option.bind_some, qnU l sta0 _ k hk (by simp), hq, cond_false, w1 hk (by omega)]
 ·rw [dec_t (show (k : Int) < (l.length : Int) by omega), cond_true, gd_t (inB_t hk), Int.toNat_natCast, hidx k hk _ (fun x => rfl), Option.bind_some, qnU l sta0 _ k hk (by simp), hq, cond_true]
 ·rw [dec_f (by omega)]; rfl
theorem qre {n : Net} (h : Small n) : qdf n = some (twB n) := by
 obtain ⟨h1, h2, h3, h4, h5, h6⟩ := h
 unfold qdf
 show (qbh n).bind _ = _
 rw [qk3 (by omega) (by omega) (by omega), Option.bind_some]
 rw [qs4 (by omega) (by simp; omega) (by simp; omega) (by simp; omega), Option.bind_some]
 unfold twB
 show Sum.elim _ _ (bif (nmsOf n).any twL then _ else _) = _
 cases (nmsOf n).any twL with
 | true => rfl
 | false =>
  simp only [cond_false, Sum.elim_inl, Bool.false_or]
  rw [qs5 n (by omega), Option.bind_some]
  cases twS n.2.2.2.1 <;> rfl
end Go.Proofs.YtpgigbdefbeagaaGreatDoor
namespace Go.Proofs.YtpgigbdefbeagaaGreatDoor
open Go Go.Sq
set_option linter.unusedVariables false
theorem qrf {n : Net} (h : Small n) : qdh n = some (knB n) := by
 obtain ⟨h1, h2, h3, h4, h5, h6⟩ := h
 unfold qdh
 have a1 : ∀ i, (((n.2.1.take i).flatMap fun s => [s.2.1, s.2.2.1]) : List Int).length ≤ 2 * i := by
  intro i
  rw [List.length_flatMap]
  have : ∀ l : List Seg, (l.map fun s => ([s.2.1, s.2.2.1] : List Int).length).sum = 2 * l.length := by
   intro l; induction l with
   | nil => rfl
   | cons x l ih => rw [List.map_cons, List.sum_cons, ih]; show 2 + 2 * l.length = 2 * (l.length + 1); omega
  rw [this, List.length_take]; omega
 have k1 := qb0 (step := fun x : Int × List Int => qcN n x.1 x.2) n.2.1.length (fun i => ((i : Int), (n.2.1.take i).flatMap fun s => [s.2.1, s.2.2.1])) (e := n.2.1.flatMap fun s => [s.2.1, s.2.2.1]) (fun i hi => by
  unfold qcN
  have := a1 i
  simp only [dec_t (show (i : Int) < (n.2.1.length : Int) by omega), cond_true, gd_t (inB_t hi), Int.toNat_natCast]
  rw [gd_t (qaz (by omega)), w1 hi (by omega), qbe sg0 hi, List.flatMap_append]; simp) (by
  unfold qcN
  simp only [dec_f (show ¬ (n.2.1.length : Int) < (n.2.1.length : Int) by omega), cond_false]
  rw [List.take_of_length_le (by simp)])
 rw [show ((((0 : Nat) : Int), (n.2.1.take 0).flatMap fun s => [s.2.1, s.2.2.1]) : Int × List Int) = (0, []) from rfl] at k1
 rw [k1, Option.bind_some]
 have a2 := a1 n.2.1.length
 rw [List.take_of_length_le (Nat.le_refl _)] at a2
 generalize hA : (n.2.1.flatMap fun s => [s.2.1, s.2.2.1]) = A at a2
 have k2 := qb0 (step := fun x : Int × List Int => qcO n x.1 x.2) n.2.2.1.length (fun i => ((i : Int), A ++ (n.2.2.1.map (·.2.1)).take i)) (e := A ++ n.2.2.1.map (·.2.1)) (fun i hi => by
  unfold qcO
  simp only [dec_t (show (i : Int) < (n.2.2.1.length : Int) by omega), cond_true, gd_t (inB_t hi), Int.toNat_natCast]
  rw [gd_t (qaz (by simp; omega)), w1 hi (by omega), qbe (0 : Int) (by simpa using hi), qlS (·.2.1) n.2.2.1 i po0 0 hi, List.append_assoc]) (by
  unfold qcO
  simp only [dec_f (show ¬ (n.2.2.1.length : Int) < (n.2.2.1.length : Int) by omega), cond_false]
  rw [List.take_of_length_le (by simp)])
 rw [show ((((0 : Nat) : Int), A ++ (n.2.2.1.map (·.2.1)).take 0) : Int × List Int) = (0, A) by simp] at k2
 rw [k2, Option.bind_some]
 have a3 : (A ++ n.2.2.1.map (·.2.1)).length ≤ 200 := by simp; omega
 generalize hB : A ++ n.2.2.1.map (·.2.1) = B at a3
 have k3 := qb0 (step := fun x : Int × List Int => qcP n x.1 x.2) n.2.2.2.1.length (fun i => ((i : Int), B ++ (n.2.2.2.1.map (·.2.1)).take i)) (e := B ++ n.2.2.2.1.map (·.2.1)) (fun i hi => by
  unfold qcP
  simp only [dec_t (show (i : Int) < (n.2.2.2.1.length : Int) by omega), cond_true, gd_t (inB_t hi), Int.toNat_natCast]
  rw [gd_t (qaz (by simp; omega)), w1 hi (by omega), qbe (0 : Int) (by simpa using hi), qlS (·.2.1) n.2.2.2.1 i sta0 0 hi, List.append_assoc]) (by
  unfold qcP
  simp only [dec_f (show ¬ (n.2.2.2.1.length : Int) < (n.2.2.2.1.length : Int) by omega), cond_false]
  rw [List.take_of_length_le (by simp)])
 rw [show ((((0 : Nat) : Int), B ++ (n.2.2.2.1.map (·.2.1)).take 0) : Int × List Int) = (0, B) by simp] at k3
 rw [k3, Option.bind_some]
 rw [qm9 _ (fun k => !kn n k) _ (fun x _ => by
  show (qdg x n).bind _ = _
  unfold qdg kn
  have e1 : decide (x < 0) = !decide (0 ≤ x) := by rw [Bool.eq_iff_iff]; simp
  have e2 : decide ((n.1.length : Int) ≤ x) = !decide (x < (n.1.length : Int)) := by rw [Bool.eq_iff_iff]; simp
  rw [e1, e2]
  cases decide (0 ≤ x) <;> cases decide (x < (n.1.length : Int)) <;> rfl) (by simp; omega), Option.bind_some]
 congr 1
 subst hB hA
 unfold knB
 rw [List.all_eq_not_any_not, List.all_eq_not_any_not, List.all_eq_not_any_not]
 rw [List.any_append, List.any_append, List.any_flatMap, List.any_map, List.any_map]
 simp [Function.comp_def, Bool.and_assoc]
theorem qsr {s : Seg} (h1 : 2 ≤ s.2.2.2.2.2.2.length) (h2 : s.2.2.2.2.2.2.length ≤ 8) : qdQ s = some (pipeB s) := by
 unfold qdQ pipeB
 have hl : iter (fun x => qdj s x) 0 = some (bif (List.range s.2.2.2.2.2.2.length).all (ptB s.2.2.2.2.2.2) then .inl () else .inr false) := by
  have := qci (step := fun x => qdj s x) s.2.2.2.2.2.2.length (fun i => (i : Int)) (ptB s.2.2.2.2.2.2) (fin := .inl ()) (bad := .inr false) (fun i hi _ hq => ?_) (fun i hi _ hq => ?_) (fun _ => ?_)
  ·exact this
  all_goals unfold qdj
  ·rw [dec_t (show (i : Int) < (s.2.2.2.2.2.2.length : Int) by omega), cond_true, gd_t (inB_t hi), qfm, Option.bind_some, qfm, Option.bind_some, Int.toNat_natCast]
   unfold ptB at hq
   simp only [Bool.and_eq_true] at hq
   rw [hq.1, hq.2.1]
   simp only [Bool.not_true, cond_false]
   rcases Nat.eq_zero_or_pos i with rfl | hp
   ·rfl
   ·rw [dec_t (show (0 : Int) < (i : Int) by omega), cond_true, show wi64 ((i : Int) - 1) = ((i - 1 : Nat) : Int) by rw [wi (by omega)]; omega, gd_t (inB_t (show i - 1 < _ by omega)), Int.toNat_natCast, Option.bind_some]
    have h3 := hq.2.2
    simp only [Bool.or_eq_true, decide_eq_true_eq] at h3
    have h3 := h3.resolve_left (fun e => by have := Nat.eq_of_beq_eq_true e; omega)
    rw [dec_f (Int.not_le.2 h3), cond_false, w1 hi (by omega)]
  ·rw [dec_t (show (i : Int) < (s.2.2.2.2.2.2.length : Int) by omega), cond_true, gd_t (inB_t hi), qfm, Option.bind_some, qfm, Option.bind_some, Int.toNat_natCast]
   unfold ptB at hq
   cases e1 : rg (-500) 5000 (s.2.2.2.2.2.2.getD i pt0).2.1 with
   | false => rfl
   | true =>
    cases e2 : rg 0 100000000 (s.2.2.2.2.2.2.getD i pt0).2.2 with
    | false => rfl
    | true =>
     rw [e1, e2] at hq
     simp only [Bool.true_and, Bool.or_eq_false_iff, decide_eq_false_iff_not] at hq
     have hp : i ≠ 0 := fun e => by rw [e] at hq; cases hq.1
     simp only [Bool.not_true, cond_false]
     rw [dec_t (show (0 : Int) < (i : Int) by omega), cond_true, show wi64 ((i : Int) - 1) = ((i - 1 : Nat) : Int) by rw [wi (by omega)]; omega, gd_t (inB_t (show i - 1 < _ by omega)), Int.toNat_natCast, Option.bind_some, dec_t (Int.not_lt.1 hq.2)]
     rfl
  ·rw [dec_f (by omega)]; rfl
 rw [hl, qfm, qfm, qfm]
 simp only [Option.bind_some]
 cases decide (s.2.1 = s.2.2.1) with
 | true => rfl
 | false =>
 cases rg 1 1000000 s.2.2.2.1 with
 | false => rfl
 | true =>
 cases rg 0 1000 s.2.2.2.2.1 with
 | false => rfl
 | true =>
 cases rg 0 100000 s.2.2.2.2.2.1 with
 | false => rfl
 | true =>
 cases (List.range s.2.2.2.2.2.2.length).all (ptB s.2.2.2.2.2.2) with
 | false => rfl
 | true =>
  show (gd (inB 0 s.2.2.2.2.2.2.length) _) = _
  rw [gd_t (inB0 (by omega)), show wi64 ((s.2.2.2.2.2.2.length : Int) - 1) = ((s.2.2.2.2.2.2.length - 1 : Nat) : Int) by rw [wi (by omega)]; omega, gd_t (inB_t (show s.2.2.2.2.2.2.length - 1 < _ by omega)), Int.toNat_natCast]
  cases decide ((s.2.2.2.2.2.2.getD 0 (0, (0, 0))).1 = 0) <;> rfl
theorem qqd {n : Net} (h : Small n) : qcz n = some (prB n) := by
 obtain ⟨h1, h2, h3, h4, h5, h6⟩ := h
 unfold qcz prB
 rw [qcf n.2.1 (fun s => !pipeB s) _ (fun x hx => by show (qcQ x).bind _ = _; unfold qcQ; show ((qdQ x).bind _).bind _ = _; rw [qsr (h6 x hx).1 (h6 x hx).2]; rfl) (by omega), Option.bind_some]
 rw [qgq n.2.2.1 (fun p => !rg 0 100000000 p.2.2) _ (fun x hx => by show (qcR x).bind _ = _; unfold qcR; rw [qfm]; rfl) (by omega), Option.bind_some]
 rw [qeL n.2.2.2.1 (fun p => !stB p) _ (fun x hx => by
  show (qcS x).bind _ = _; unfold qcS stB; rw [qfm, qfm, qfm]
  cases rg 0 100000000 x.2.2.1 <;> cases rg 0 100000 x.2.2.2.1 <;> cases rg 0 100000000 x.2.2.2.2 <;> rfl) (by omega), Option.bind_some, qfm, qfm]
 rw [List.all_eq_not_any_not, List.all_eq_not_any_not, List.all_eq_not_any_not]
 cases n.2.1.any (fun s => !pipeB s) <;> cases n.2.2.1.any (fun p => !rg 0 100000000 p.2.2) <;> cases n.2.2.2.1.any (fun p => !stB p) <;> cases rg (-100000) 100000000 n.2.2.2.2.1 <;> rfl
theorem qnb (n : Net) : qdk n = some (qcF n) := by
 unfold qdk qcF
 show (qcx n).bind _ = _
 rw [qqb, Option.bind_some]
 cases hl : limB n with
 | false => rfl
 | true =>
  have hs := (qiE n).1 hl
  show (qbh n).bind _ = _
  rw [qk3 (by have := hs.sg; omega) (by have := hs.po; omega) (by have := hs.st; omega), Option.bind_some]
  rw [qrd (by have := hs.no; omega) (by have := hs.sg; simp; omega) (by have := hs.po; simp; omega) (by have := hs.st; simp; omega), Option.bind_some]
  show Sum.elim _ _ (bif formB n then _ else _) = _
  cases formB n with
  | false => rfl
  | true =>
   show (qdf n).bind _ = _
   rw [qre hs, Option.bind_some]
   cases twB n with
   | true => rfl
   | false =>
    show (qdh n).bind _ = _
    rw [qrf hs, Option.bind_some]
    cases knB n with
    | false => rfl
    | true =>
     show (qcz n).bind _ = _
     rw [qqd hs, Option.bind_some]
     cases prB n <;> rfl
end Go.Proofs.YtpgigbdefbeagaaGreatDoor
namespace Go.Proofs.YtpgigbdefbeagaaGreatDoor
open Go Go.Sq
set_option linter.unusedVariables false
theorem scanL {A : Type} {ε : Type} (l : List A) (d : A) {step : Int → Option (Int ⊕ (Unit ⊕ ε))} (q : A → Bool) {bad : ε}
  (h1 : ∀ i, i < l.length → q (l.getD i d) = true → step (i : Int) = some (.inl ((i + 1 : Nat) : Int)))
  (h2 : ∀ i, i < l.length → q (l.getD i d) = false → step (i : Int) = some (.inr (.inr bad))) (h3 : step (l.length : Int) = some (.inr (.inl ()))) : iter step 0 = some (bif l.all q then .inl () else .inr bad) :=
 scan l d q h1 h2 h3
theorem qr2 (l : List Str) (i : Nat) (hi : i < l.length) (hl : l.length ≤ 1000) : iter (fun x => qdE l (i : Int) x) 0 = some (bif (List.range i).any (fun k => decide (l.getD i [] = l.getD k [])) then .inr true else .inl ()) := by
 have := scanN (ε := Unit ⊕ Bool) (step := fun x => qdE l (i : Int) x) i (fun k => decide (l.getD i [] = l.getD k [])) (fin := .inl ()) (bad := .inr true) (fun k hk hq => ?_) (fun k hk hq => ?_) ?_
 ·exact this
 all_goals unfold qdE
 ·rw [dec_t (show (k : Int) < (i : Int) by omega), cond_true, gd_t (inB_t hi), gd_t (inB_t (show k < l.length by omega)), Int.toNat_natCast, Int.toNat_natCast, hq, cond_false, w1 hk (by omega)]
 ·rw [dec_t (show (k : Int) < (i : Int) by omega), cond_true, gd_t (inB_t hi), gd_t (inB_t (show k < l.length by omega)), Int.toNat_natCast, Int.toNat_natCast, hq, cond_true]
 ·rw [dec_f (by omega)]; rfl
theorem qlZ (l : List Str) (hl : l.length ≤ 1000) : qfz l = some (twL l) := by
 unfold qfz
 have := scanN (ε := Unit ⊕ Bool) (step := fun x => qe5 l x) l.length (fun i => (List.range i).any fun k => decide (l.getD i [] = l.getD k [])) (fin := .inl ()) (bad := .inr true) (fun k hk hq => ?_) (fun k hk hq => ?_) ?_
 ·rw [this, Option.bind_some]; unfold twL
  cases (List.range l.length).any fun i => (List.range i).any fun k => decide (l.getD i [] = l.getD k []) <;> rfl
 all_goals unfold qe5
 ·rw [dec_t (show (k : Int) < (l.length : Int) by omega), cond_true, qr2 l k hk hl, Option.bind_some, hq, w1 hk (by omega)]; rfl
 ·rw [dec_t (show (k : Int) < (l.length : Int) by omega), cond_true, qr2 l k hk hl, Option.bind_some, hq]; rfl
 ·rw [dec_f (by omega)]; rfl
theorem qkb {s : Seg} (h1 : 2 ≤ s.2.2.2.2.2.2.length) (h2 : s.2.2.2.2.2.2.length ≤ 8) : qc2 s = some (pipeB s) := by
 unfold qc2 pipeB
 have hl : iter (fun x => qdm s x) 0 = some (bif (List.range s.2.2.2.2.2.2.length).all (ptB s.2.2.2.2.2.2) then .inl () else .inr false) := by
  have := qci (step := fun x => qdm s x) s.2.2.2.2.2.2.length (fun i => (i : Int)) (ptB s.2.2.2.2.2.2) (fin := .inl ()) (bad := .inr false) (fun i hi _ hq => ?_) (fun i hi _ hq => ?_) (fun _ => ?_)
  ·exact this
  all_goals unfold qdm
  ·rw [dec_t (show (i : Int) < (s.2.2.2.2.2.2.length : Int) by omega), cond_true, gd_t (inB_t hi), Int.toNat_natCast]
   unfold ptB at hq
   simp only [Bool.and_eq_true] at hq
   simp only [qdv, Option.bind_some]
   rcases Nat.eq_zero_or_pos i with rfl | hp
   ·rw [dec_f (by omega), cond_false]
    have e1 := hq.1
    have e2 := hq.2.1
    simp only [pt0] at e1 e2
    rw [e1, e2]; rfl
   ·have e1 := hq.1
    have e2 := hq.2.1
    simp only [pt0] at e1 e2
    rw [dec_t (show (0 : Int) < (i : Int) by omega), cond_true, show wi64 ((i : Int) - 1) = ((i - 1 : Nat) : Int) by rw [wi (by omega)]; omega, gd_t (inB_t (show i - 1 < _ by omega)), Int.toNat_natCast]
    have h3 := hq.2.2
    simp only [Bool.or_eq_true, decide_eq_true_eq] at h3
    have h3 := h3.resolve_left (fun e => by have := Nat.eq_of_beq_eq_true e; omega)
    rw [dec_f (Int.not_le.2 h3), cond_false, e1, e2, w1 hi (by omega)]; rfl
  ·rw [dec_t (show (i : Int) < (s.2.2.2.2.2.2.length : Int) by omega), cond_true, gd_t (inB_t hi), Int.toNat_natCast]
   unfold ptB at hq
   simp only [qdv, Option.bind_some]
   simp only [pt0] at hq
   rcases Nat.eq_zero_or_pos i with rfl | hp
   ·rw [dec_f (by omega), cond_false]
    cases e1 : rg (-500) 5000 (s.2.2.2.2.2.2.getD 0 (0, 0, 0)).2.1 with
    | false => rfl
    | true =>
     cases e2 : rg 0 100000000 (s.2.2.2.2.2.2.getD 0 (0, 0, 0)).2.2 with
     | false => rfl
     | true => rw [e1, e2] at hq; cases hq
   ·rw [dec_t (show (0 : Int) < (i : Int) by omega), cond_true, show wi64 ((i : Int) - 1) = ((i - 1 : Nat) : Int) by rw [wi (by omega)]; omega, gd_t (inB_t (show i - 1 < _ by omega)), Int.toNat_natCast]
    cases hd : decide ((s.2.2.2.2.2.2.getD i (0, 0, 0)).1 ≤ (s.2.2.2.2.2.2.getD (i - 1) (0, 0, 0)).1) with
    | true => rfl
    | false =>
     have hd := of_decide_eq_false hd
     rw [show decide ((s.2.2.2.2.2.2.getD (i - 1) (0, 0, 0)).1 < (s.2.2.2.2.2.2.getD i (0, 0, 0)).1) = true from dec_t (by omega), Bool.or_true] at hq
     cases e1 : rg (-500) 5000 (s.2.2.2.2.2.2.getD i (0, 0, 0)).2.1 with
     | false => rfl
     | true =>
      cases e2 : rg 0 100000000 (s.2.2.2.2.2.2.getD i (0, 0, 0)).2.2 with
      | false => rfl
      | true => rw [e1, e2] at hq; cases hq
  ·rw [dec_f (by omega)]; rfl
 rw [hl]
 simp only [qdv, Option.bind_some]
 rw [show wi64 ((s.2.2.2.2.2.2.length : Int) - 1) = ((s.2.2.2.2.2.2.length - 1 : Nat) : Int) by rw [wi (by omega)]; omega, gd_t (inB0 (show 0 < s.2.2.2.2.2.2.length by omega)), gd_t (inB_t (show s.2.2.2.2.2.2.length - 1 < s.2.2.2.2.2.2.length by omega)), Int.toNat_natCast]
 cases decide (s.2.1 = s.2.2.1) <;> cases rg 1 1000000 s.2.2.2.1 <;> cases rg 0 1000 s.2.2.2.2.1 <;> cases rg 0 100000 s.2.2.2.2.2.1 <;> cases decide ((s.2.2.2.2.2.2.getD 0 (0, (0, 0))).1 = 0) <;> cases decide ((s.2.2.2.2.2.2.getD (s.2.2.2.2.2.2.length - 1) (0, (0, 0))).1 = s.2.2.2.1) <;> cases (List.range s.2.2.2.2.2.2.length).all (ptB s.2.2.2.2.2.2) <;> rfl
section
variable {a b c d : List Str} (ha : a.length ≤ 100) (hb : b.length ≤ 100) (hc : c.length ≤ 100) (hd : d.length ≤ 100)
include ha hb hc hd
theorem qrg : iter (fun x3 => qdF x3.1 x3.2.1 x3.2.2.1 x3.2.2.2.1 x3.2.2.2.2) (a, b, c, d, (0 : Int)) = some (bif (nm4 a b c d).all (fun l => l.all nameB) then .inl () else .inr 3) := by
 have hin : ∀ i : Nat, i < 4 → iter (fun x2 => qbY a b c d (i : Int) x2.1 x2.2.1 x2.2.2.1 x2.2.2.2.1 x2.2.2.2.2) (a, b, c, d, (0 : Int)) = some (bif ((nm4 a b c d).getD i []).all nameB then .inl (a, b, c, d) else .inr 3) := by
  intro i hi
  have hl := len4 ha hb hc hd i
  have e : ∀ x : Int, qbY a b c d (i : Int) a b c d x = qbY ((nm4 a b c d).getD i []) [] [] [] 0 a b c d x := by
   intro x; unfold qbY; rw [Int.toNat_natCast]; rfl
  have := qci (ε := (List Str × List Str × List Str × List Str) ⊕ Int) (step := fun x2 : List Str × List Str × List Str × List Str × Int => qbY a b c d (i : Int) x2.1 x2.2.1 x2.2.2.1 x2.2.2.2.1 x2.2.2.2.2) ((nm4 a b c d).getD i []).length (fun k => (a, b, c, d, (k : Int))) (fun k => nameB (((nm4 a b c d).getD i []).getD k [])) (fin := .inl (a, b, c, d)) (bad := .inr 3) (fun k hk _ hq => ?_) (fun k hk _ hq => ?_) (fun _ => ?_)
  ·rw [qlW] at this; exact this
  all_goals simp only [e]; generalize (nm4 a b c d).getD i [] = l at *
  ·show (bif decide ((k : Int) < (l.length : Int)) then (gd (inB (k : Int) l.length) <| (qc1 (l.getD (k : Int).toNat [])).bind fun r4 => bif !r4 then _ else _) else _) = _
   rw [dec_t (show (k : Int) < (l.length : Int) by omega), cond_true, gd_t (inB_t hk), Int.toNat_natCast, qlY, Option.bind_some, hq, w1 hk (by omega)]; rfl
  ·show (bif decide ((k : Int) < (l.length : Int)) then (gd (inB (k : Int) l.length) <| (qc1 (l.getD (k : Int).toNat [])).bind fun r4 => bif !r4 then _ else _) else _) = _
   rw [dec_t (show (k : Int) < (l.length : Int) by omega), cond_true, gd_t (inB_t hk), Int.toNat_natCast, qlY, Option.bind_some, hq]; rfl
  ·show (bif decide ((l.length : Int) < (l.length : Int)) then _ else _) = _
   rw [dec_f (by omega)]; rfl
 have := qci (ε := Unit ⊕ Int) (step := fun x3 : List Str × List Str × List Str × List Str × Int => qdF x3.1 x3.2.1 x3.2.2.1 x3.2.2.2.1 x3.2.2.2.2) 4 (fun i => (a, b, c, d, (i : Int))) (fun i => ((nm4 a b c d).getD i []).all nameB) (fin := .inl ()) (bad := .inr 3) (fun i hi _ hq => ?_) (fun i hi _ hq => ?_) (fun _ => ?_)
 ·rw [range4 (q := fun l => l.all nameB)] at this; exact this
 all_goals unfold qdF
 ·simp only
  rw [dec_t (show (i : Int) < 4 by omega), cond_true, gd_t (inB_t hi), hin i hi, Option.bind_some, hq]
  simp only [cond_true, Sum.elim_inl]
  rw [w1 hi (by omega)]
 ·simp only
  rw [dec_t (show (i : Int) < 4 by omega), cond_true, gd_t (inB_t hi), hin i hi, Option.bind_some, hq]; rfl
 ·simp only
  rw [dec_f (by omega)]; rfl
theorem qss : iter (fun x3 => qdG x3.1 x3.2.1 x3.2.2.1 x3.2.2.2.1 x3.2.2.2.2) (a, b, c, d, (0 : Int)) = some (bif (nm4 a b c d).any twL then .inr 7 else .inl ()) := by
 have := qci (ε := Unit ⊕ Int) (step := fun x3 : List Str × List Str × List Str × List Str × Int => qdG x3.1 x3.2.1 x3.2.2.1 x3.2.2.2.1 x3.2.2.2.2) 4 (fun i => (a, b, c, d, (i : Int))) (fun i => !twL ((nm4 a b c d).getD i [])) (fin := .inl ()) (bad := .inr 7) (fun i hi _ hq => ?_) (fun i hi _ hq => ?_) (fun _ => ?_)
 ·rw [range4n] at this
  refine this.trans ?_
  cases (nm4 a b c d).any twL <;> rfl
 all_goals unfold qdG; simp only
 ·rw [dec_t (show (i : Int) < 4 by omega), cond_true, gd_t (inB_t hi), Int.toNat_natCast]
  have := len4 ha hb hc hd i
  rw [qlZ ((nm4 a b c d).getD i []) (by omega), Option.bind_some]
  simp only [Bool.not_eq_true'] at hq
  rw [hq, w1 hi (by omega)]; rfl
 ·rw [dec_t (show (i : Int) < 4 by omega), cond_true, gd_t (inB_t hi), Int.toNat_natCast]
  have := len4 ha hb hc hd i
  rw [qlZ ((nm4 a b c d).getD i []) (by omega), Option.bind_some]
  simp only [Bool.not_eq_false'] at hq
  rw [hq]; rfl
 ·rw [dec_f (by omega)]; rfl
end
theorem qst (n : Net) (hs : n.2.2.2.1.length ≤ 100) : iter (fun x => qdI n x) 0 = some (bif twS n.2.2.2.1 then .inr 7 else .inl ()) := by
 have hin : ∀ i : Nat, i < n.2.2.2.1.length → iter (fun x => qdH n (i : Int) x) 0 = some (bif (List.range i).any (fun k => decide ((n.2.2.2.1.getD k sta0).2.1 = (n.2.2.2.1.getD i sta0).2.1)) then .inr 7 else .inl ()) := by
  intro i hi
  have := scanN (ε := Unit ⊕ Int) (step := fun x => qdH n (i : Int) x) i (fun k => decide ((n.2.2.2.1.getD k sta0).2.1 = (n.2.2.2.1.getD i sta0).2.1)) (fin := .inl ()) (bad := .inr 7) (fun k hk hq => ?_) (fun k hk hq => ?_) ?_
  ·exact this
  all_goals unfold qdH
  ·rw [dec_t (show (k : Int) < (i : Int) by omega), cond_true, gd_t (inB_t hi), gd_t (inB_t (show k < n.2.2.2.1.length by omega)), Int.toNat_natCast, Int.toNat_natCast, dec_f (fun e => of_decide_eq_false hq e.symm), cond_false, w1 hk (by omega)]
  ·rw [dec_t (show (k : Int) < (i : Int) by omega), cond_true, gd_t (inB_t hi), gd_t (inB_t (show k < n.2.2.2.1.length by omega)), Int.toNat_natCast, Int.toNat_natCast, dec_t (of_decide_eq_true hq).symm, cond_true]
  ·rw [dec_f (by omega)]; rfl
 have := scanN (ε := Unit ⊕ Int) (step := fun x => qdI n x) n.2.2.2.1.length (fun i => (List.range i).any fun k => decide ((n.2.2.2.1.getD k sta0).2.1 = (n.2.2.2.1.getD i sta0).2.1)) (fin := .inl ()) (bad := .inr 7) (fun k hk hq => ?_) (fun k hk hq => ?_) ?_
 ·exact this
 all_goals unfold qdI
 ·rw [dec_t (show (k : Int) < (n.2.2.2.1.length : Int) by omega), cond_true, hin k hk, Option.bind_some, hq, w1 hk (by omega)]; rfl
 ·rw [dec_t (show (k : Int) < (n.2.2.2.1.length : Int) by omega), cond_true, hin k hk, Option.bind_some, hq]; rfl
 ·rw [dec_f (by omega)]; rfl
theorem rgk (n : Net) (h : 1 ≤ n.1.length) (h2 : n.1.length ≤ 24) (k : Int) : rg 0 (wi64 ((n.1.length : Int) - 1)) k = kn n k := by
 unfold rg kn
 rw [wi (by omega)]
 congr 1
 rw [Bool.eq_iff_iff, decide_eq_true_iff, decide_eq_true_iff]; omega
theorem qhk (n : Net) : qcc n = some (qcF n) := by
 unfold qcc qcF
 simp only [qdv, Option.bind_some]
 have e0 : rg 1 24 (n.1.length : Int) = (Nat.ble 1 n.1.length && Nat.ble n.1.length 24) := by
  unfold rg; rw [Bool.eq_iff_iff]; simp only [Bool.and_eq_true, decide_eq_true_eq, Nat.ble_eq]; omega
 have e3 : decide (32 < (n.2.1.length : Int)) = !Nat.ble n.2.1.length 32 := by rw [← bltn]; exact dlt (a := 32)
 have e4 : decide (24 < (n.2.2.1.length : Int)) = !Nat.ble n.2.2.1.length 24 := by rw [← bltn]; exact dlt (a := 24)
 have e5 : decide (12 < (n.2.2.2.1.length : Int)) = !Nat.ble n.2.2.2.1.length 12 := by rw [← bltn]; exact dlt (a := 12)
 rw [e0, e3, e4, e5]
 unfold limB
 cases h1 : Nat.ble 1 n.1.length
 ·rfl
 cases h2 : Nat.ble n.1.length 24
 ·rfl
 cases h3 : Nat.ble n.2.1.length 32
 ·rfl
 cases h4 : Nat.ble n.2.2.1.length 24
 ·rfl
 cases h5 : Nat.ble n.2.2.2.1.length 12
 ·rfl
 have g1 := Nat.le_of_ble_eq_true h1
 have g2 := Nat.le_of_ble_eq_true h2
 have g3 := Nat.le_of_ble_eq_true h3
 have g4 := Nat.le_of_ble_eq_true h4
 have g5 := Nat.le_of_ble_eq_true h5
 simp only [Bool.not_true, cond_false, Option.bind_some, Bool.and_true, Bool.true_and]
 have k0 := scanL (ε := Int) (step := fun x => qcA n x) n.2.1 sg0 (fun s => Nat.ble 2 s.2.2.2.2.2.2.length && Nat.ble s.2.2.2.2.2.2.length 8) (bad := 4) (fun i hi hq => by
  unfold qcA
  rw [dec_t (show (i : Int) < (n.2.1.length : Int) by omega), cond_true, gd_t (inB_t hi), qdv, Option.bind_some, Int.toNat_natCast]
  simp only [Bool.and_eq_true, Nat.ble_eq] at hq
  rw [show rg 2 8 ((n.2.1.getD i sg0).2.2.2.2.2.2.length : Int) = true by unfold rg; rw [dec_t (by omega), dec_t (by omega)]; rfl, w1 hi (by omega)]; rfl) (fun i hi hq => by
  unfold qcA
  rw [dec_t (show (i : Int) < (n.2.1.length : Int) by omega), cond_true, gd_t (inB_t hi), qdv, Option.bind_some, Int.toNat_natCast]
  rw [show rg 2 8 ((n.2.1.getD i sg0).2.2.2.2.2.2.length : Int) = false by
   rw [← hq]; unfold rg; rw [Bool.eq_iff_iff]; simp only [Bool.and_eq_true, decide_eq_true_eq, Nat.ble_eq]; omega]; rfl) (by
  unfold qcA
  rw [dec_f (by omega)]; rfl)
 rw [k0, Option.bind_some]
 cases hp : n.2.1.all (fun s => Nat.ble 2 s.2.2.2.2.2.2.length && Nat.ble s.2.2.2.2.2.2.length 8) with
 | false => rfl
 | true =>
 have hs : Small n := (qiE n).1 (by unfold limB; rw [h1, h2, h3, h4, h5, hp]; rfl)
 simp only [cond_true, Sum.elim_inl]
 rw [qna]
 show (qbh n).bind _ = _
 rw [qk3 (by omega) (by omega) (by omega), Option.bind_some]
 simp only
 rw [qrg (by omega) (by simp; omega) (by simp; omega) (by simp; omega), Option.bind_some]
 show Sum.elim _ _ (bif formB n then _ else _) = _
 cases formB n with
 | false => rfl
 | true =>
 simp only [cond_true, Sum.elim_inl]
 rw [qss (by omega) (by simp; omega) (by simp; omega) (by simp; omega), Option.bind_some]
 unfold twB
 show Sum.elim _ _ (bif (nmsOf n).any twL then _ else _) = _
 cases (nmsOf n).any twL with
 | true => rfl
 | false =>
 simp only [cond_false, Sum.elim_inl, Bool.false_or]
 rw [qst n (by omega), Option.bind_some]
 cases twS n.2.2.2.1 with
 | true => rfl
 | false =>
 simp only [cond_false, Sum.elim_inl]
 have k6 := scanL (ε := Int) (step := fun x => qcB n x) n.2.1 sg0 (fun s => kn n s.2.1 && kn n s.2.2.1) (bad := 8) (fun i hi hq => by
  unfold qcB
  rw [dec_t (show (i : Int) < (n.2.1.length : Int) by omega), cond_true, gd_t (inB_t hi), qdv, Option.bind_some, qdv, Option.bind_some, Int.toNat_natCast, rgk n g1 g2, rgk n g1 g2]
  simp only [Bool.and_eq_true] at hq
  rw [hq.1, hq.2, w1 hi (by omega)]; rfl) (fun i hi hq => by
  unfold qcB
  rw [dec_t (show (i : Int) < (n.2.1.length : Int) by omega), cond_true, gd_t (inB_t hi), qdv, Option.bind_some, qdv, Option.bind_some, Int.toNat_natCast, rgk n g1 g2, rgk n g1 g2]
  revert hq
  cases kn n (n.2.1.getD i sg0).2.1 <;> cases kn n (n.2.1.getD i sg0).2.2.1 <;> intro hq <;> first | rfl | cases hq) (by
  unfold qcB
  rw [dec_f (by omega)]; rfl)
 rw [k6, Option.bind_some]
 unfold knB
 cases n.2.1.all (fun s => kn n s.2.1 && kn n s.2.2.1) with
 | false => rfl
 | true =>
 simp only [cond_true, Sum.elim_inl, Bool.true_and]
 have k7 := scanL (ε := Int) (step := fun x => qcC n x) n.2.2.1 po0 (fun s => kn n s.2.1) (bad := 8) (fun i hi hq => by
  unfold qcC
  rw [dec_t (show (i : Int) < (n.2.2.1.length : Int) by omega), cond_true, gd_t (inB_t hi), qdv, Option.bind_some, Int.toNat_natCast, rgk n g1 g2, hq, w1 hi (by omega)]; rfl) (fun i hi hq => by
  unfold qcC
  rw [dec_t (show (i : Int) < (n.2.2.1.length : Int) by omega), cond_true, gd_t (inB_t hi), qdv, Option.bind_some, Int.toNat_natCast, rgk n g1 g2, hq]; rfl) (by
  unfold qcC
  rw [dec_f (by omega)]; rfl)
 rw [k7, Option.bind_some]
 cases n.2.2.1.all (fun s => kn n s.2.1) with
 | false => rfl
 | true =>
 simp only [cond_true, Sum.elim_inl, Bool.true_and]
 have k8 := scanL (ε := Int) (step := fun x => qcD n x) n.2.2.2.1 sta0 (fun s => kn n s.2.1) (bad := 8) (fun i hi hq => by
  unfold qcD
  rw [dec_t (show (i : Int) < (n.2.2.2.1.length : Int) by omega), cond_true, gd_t (inB_t hi), qdv, Option.bind_some, Int.toNat_natCast, rgk n g1 g2, hq, w1 hi (by omega)]; rfl) (fun i hi hq => by
  unfold qcD
  rw [dec_t (show (i : Int) < (n.2.2.2.1.length : Int) by omega), cond_true, gd_t (inB_t hi), qdv, Option.bind_some, Int.toNat_natCast, rgk n g1 g2, hq]; rfl) (by
  unfold qcD
  rw [dec_f (by omega)]; rfl)
 rw [k8, Option.bind_some]
 cases n.2.2.2.1.all (fun s => kn n s.2.1) with
 | false => rfl
 | true =>
 simp only [cond_true, Sum.elim_inl]
 unfold prB
 have k9 := scanL (ε := Int) (step := fun x => qcE n x) n.2.1 sg0 pipeB (bad := 9) (fun i hi hq => by
  unfold qcE
  rw [dec_t (show (i : Int) < (n.2.1.length : Int) by omega), cond_true, gd_t (inB_t hi), Int.toNat_natCast]
  have := hs.pt _ (qaC (d := sg0) hi)
  show (qc2 (n.2.1.getD i sg0)).bind _ = _
  rw [qkb this.1 this.2, Option.bind_some, hq, w1 hi (by omega)]; rfl) (fun i hi hq => by
  unfold qcE
  rw [dec_t (show (i : Int) < (n.2.1.length : Int) by omega), cond_true, gd_t (inB_t hi), Int.toNat_natCast]
  have := hs.pt _ (qaC (d := sg0) hi)
  show (qc2 (n.2.1.getD i sg0)).bind _ = _
  rw [qkb this.1 this.2, Option.bind_some, hq]; rfl) (by
  unfold qcE
  rw [dec_f (by omega)]; rfl)
 rw [k9, Option.bind_some]
 cases n.2.1.all pipeB with
 | false => rfl
 | true =>
 simp only [cond_true, Sum.elim_inl, Bool.true_and]
 have k10 := scanL (ε := Int) (step := fun x => qca n x) n.2.2.1 po0 (fun p => rg 0 100000000 p.2.2) (bad := 9) (fun i hi hq => by
  unfold qca
  rw [dec_t (show (i : Int) < (n.2.2.1.length : Int) by omega), cond_true, gd_t (inB_t hi), qdv, Option.bind_some, Int.toNat_natCast, hq, w1 hi (by omega)]; rfl) (fun i hi hq => by
  unfold qca
  rw [dec_t (show (i : Int) < (n.2.2.1.length : Int) by omega), cond_true, gd_t (inB_t hi), qdv, Option.bind_some, Int.toNat_natCast, hq]; rfl) (by
  unfold qca
  rw [dec_f (by omega)]; rfl)
 rw [k10, Option.bind_some]
 cases n.2.2.1.all (fun p => rg 0 100000000 p.2.2) with
 | false => rfl
 | true =>
 simp only [cond_true, Sum.elim_inl, Bool.true_and]
 have k11 := scanL (ε := Int) (step := fun x => qcb n x) n.2.2.2.1 sta0 stB (bad := 9) (fun i hi hq => by
  unfold qcb
  unfold stB at hq
  simp only [Bool.and_eq_true, sta0] at hq
  simp only [qdv, Option.bind_some]
  rw [dec_t (show (i : Int) < (n.2.2.2.1.length : Int) by omega), cond_true, gd_t (inB_t hi), Int.toNat_natCast, hq.1, hq.2.1, hq.2.2, w1 hi (by omega)]; rfl) (fun i hi hq => by
  unfold qcb
  unfold stB at hq
  simp only [sta0] at hq
  simp only [qdv, Option.bind_some]
  rw [dec_t (show (i : Int) < (n.2.2.2.1.length : Int) by omega), cond_true, gd_t (inB_t hi), Int.toNat_natCast]
  revert hq
  cases rg 0 100000000 (n.2.2.2.1.getD i ([], 0, 0, 0, 0)).2.2.1 <;> cases rg 0 100000 (n.2.2.2.1.getD i ([], 0, 0, 0, 0)).2.2.2.1 <;> cases rg 0 100000000 (n.2.2.2.1.getD i ([], 0, 0, 0, 0)).2.2.2.2 <;> intro hq <;> first | rfl | cases hq) (by
  unfold qcb
  rw [dec_f (by omega)]; rfl)
 rw [k11, Option.bind_some]
 cases n.2.2.2.1.all stB with
 | false => rfl
 | true =>
 simp only [cond_true, Sum.elim_inl, Bool.true_and, Option.bind_some]
 cases rg (-100000) 100000000 n.2.2.2.2.1 <;> cases rg 0 100 n.2.2.2.2.2 <;> rfl
end Go.Proofs.YtpgigbdefbeagaaGreatDoor
namespace Go.Proofs.YtpgigbdefbeagaaGreatDoor
open Go Go.Sq
theorem qiF (c : UInt8) (hc : c ∈ [(110 : UInt8), 103, 113, 115, 112]) {m : Nat} (hm : m ≤ 26) : (nms c m).all nameB = true := by
 have key : ∀ c ∈ [(110 : UInt8), 103, 113, 115, 112], ∀ i ∈ List.range 26, nameB (nm c i) = true := by decide +kernel
 rw [List.all_eq_true]
 intro x hx
 obtain ⟨j, hj, rfl⟩ := qsq hx
 exact key c hc j (List.mem_range.2 (by omega))
theorem qhU {l : List Str} (h : l.Nodup) : twL l = false := by
 unfold twL
 rw [List.any_eq_false]
 intro i hi
 rw [Bool.not_eq_true, List.any_eq_false]
 intro k hk
 have hi := List.mem_range.1 hi
 have hk := List.mem_range.1 hk
 rw [decide_eq_true_eq]
 intro he
 rw [List.getD_eq_getElem?_getD, List.getD_eq_getElem?_getD, List.getElem?_eq_getElem (by omega), List.getElem?_eq_getElem (by omega)] at he
 have := (List.getElem_inj h (h₀ := hi) (h₁ := (by omega : k < l.length))).1 he
 omega
theorem rg_t {lo hi x : Int} (h : lo ≤ x ∧ x ≤ hi) : rg lo hi x = true := by
 unfold rg
 rw [decide_eq_true h.1, decide_eq_true h.2]; rfl
theorem qs6 {k : Nat} {s : Seg} (h : SegP k s) : pipeB s = true := by
 have a1 := h.pts.l2
 unfold pipeB
 rw [decide_eq_false h.ne, rg_t h.cap, rg_t h.res, rg_t h.wav]
 have e1 : (s.2.2.2.2.2.2.getD 0 pt0).1 = 0 := h.pts.fst
 have e2 : (s.2.2.2.2.2.2.getD (s.2.2.2.2.2.2.length - 1) pt0).1 = s.2.2.2.1 := h.pts.lst
 rw [decide_eq_true e1, decide_eq_true e2]
 simp only [Bool.not_false, Bool.and_self, Bool.true_and, Bool.and_true]
 rw [List.all_eq_true]
 intro i hi
 have hi := List.mem_range.1 hi
 have hr := h.pts.rng _ (qaC (d := pt0) hi)
 unfold ptB
 rw [rg_t ⟨hr.1, hr.2.1⟩, rg_t ⟨hr.2.2.1, hr.2.2.2⟩]
 simp only [Bool.true_and]
 cases i with
 | zero => rfl
 | succ j =>
  have := h.pts.inc j hi
  have e3 : (s.2.2.2.2.2.2.getD (j + 1 - 1) pt0).1 < (s.2.2.2.2.2.2.getD (j + 1) pt0).1 := this
  rw [decide_eq_true e3, Bool.or_true]
theorem chk0 {k : Nat} {n : Net} (h : NetP k n) : qcF n = 0 := by
 have a1 := h.k2; have a2 := h.k6; have a3 := h.segs.len; have a4 := h.ports.len; have a5 := h.stats.len; have a6 := h.some'
 have e : n.1.length = k := by rw [h.nodes, qhj]
 have hl : limB n = true := (qiE n).2 ⟨by omega, by omega, by omega, by omega, by omega, fun s hs => ⟨(h.segs.rng s hs).pts.l2, (h.segs.rng s hs).pts.l8⟩⟩
 have hf : formB n = true := by
  unfold formB nmsOf
  rw [h.nodes, h.segs.nam, h.ports.nam, h.stats.nam]
  simp only [List.all_cons, List.all_nil]
  rw [qiF 110 (by decide) (by omega), qiF 103 (by decide) (by omega), qiF 113 (by decide) (by omega), qiF 115 (by decide) (by omega)]; rfl
 have ht : twB n = false := by
  unfold twB nmsOf
  rw [h.nodes, h.segs.nam, h.ports.nam, h.stats.nam]
  simp only [List.any_cons, List.any_nil]
  rw [qhU (qhT 110 (by omega)), qhU (qhT 103 (by omega)), qhU (qhT 113 (by omega)), qhU (qhT 115 (by omega))]
  simp only [Bool.or_self, Bool.false_or]
  unfold twS
  rw [List.any_eq_false]
  intro i hi
  rw [Bool.not_eq_true, List.any_eq_false]
  intro q hq
  have hi := List.mem_range.1 hi
  have hq := List.mem_range.1 hq
  rw [decide_eq_true_eq]
  intro he
  have hd := h.stats.dif
  have e1 : ∀ j (hj : j < n.2.2.2.1.length), (n.2.2.2.1.getD j sta0).2.1 = (n.2.2.2.1.map (·.2.1))[j]'(by simpa using hj) := fun j hj => by
   rw [List.getElem_map, List.getD_eq_getElem?_getD, List.getElem?_eq_getElem hj]; rfl
  rw [e1 q (by omega), e1 i hi] at he
  have := (List.getElem_inj hd).1 he
  omega
 have hk : knB n = true := by
  unfold knB kn
  rw [Bool.and_eq_true, Bool.and_eq_true, List.all_eq_true, List.all_eq_true, List.all_eq_true]
  refine ⟨fun s hs => ?_, fun s hs => ?_, fun s hs => ?_⟩
  ·have := h.segs.rng s hs
   have b1 := this.f0; have b2 := this.f1; have b3 := this.t0; have b4 := this.t1
   rw [decide_eq_true b1, decide_eq_true b3, decide_eq_true (by omega), decide_eq_true (by omega)]; rfl
  ·have := h.ports.rng s hs
   rw [decide_eq_true this.1, decide_eq_true (by omega)]; rfl
  ·have := h.stats.rng s hs
   rw [decide_eq_true this.1, decide_eq_true (by omega)]; rfl
 have hp : prB n = true := by
  unfold prB
  rw [rg_t h.vap, rg_t h.set, List.all_eq_true.2 fun s hs => qs6 (h.segs.rng s hs), List.all_eq_true.2 fun s hs => rg_t (h.ports.rng s hs).2.2, List.all_eq_true.2 fun s hs => ?_]
  ·rfl
  ·have := h.stats.rng s hs
   unfold stB
   rw [rg_t this.2.2.1, rg_t this.2.2.2.1, rg_t this.2.2.2.2]; rfl
 unfold qcF
 rw [hl, hf, ht, hk, hp]; rfl
end Go.Proofs.YtpgigbdefbeagaaGreatDoor
