/- Searches in lists. No condition. -/
import Derived.Test.YtikmdoopfpnbbaaLm0
import Derived.Test.YtikmdoopfpnbbaaLa1
namespace Go.Proofs.Ytikmdoopfpnbbaa
open Go Go.Sq
theorem scanN {ε : Type} (n : Nat) {step : Int → Option (Int ⊕ ε)} (q : Nat → Bool) {fin bad : ε}
  (h1 : ∀ i, i < n → q i = false → step (i : Int) = some (.inl ((i + 1 : Nat) : Int)))
  (h2 : ∀ i, i < n → q i = true → step (i : Int) = some (.inr bad)) (h3 : step (n : Int) = some (.inr fin)) : iter step 0 = some (bif (List.range n).any q then bad else fin) := by
 have := qbb (step := step) n (fun i => (i : Int)) (fun i => !q i) (fin := fin) (bad := bad) (fun i hi _ hq => h1 i hi (by simpa using hq)) (fun i hi _ hq => h2 i hi (by simpa using hq)) (fun _ => h3)
 have e : (List.range n).all (fun i => !q i) = !(List.range n).any q := by simp [List.all_eq_not_any_not]
 rw [e] at this
 refine this.trans ?_
 cases (List.range n).any q <;> rfl
end Go.Proofs.Ytikmdoopfpnbbaa
namespace Go.Proofs.Ytikmdoopfpnbbaa
open Go Go.Sq
end Go.Proofs.Ytikmdoopfpnbbaa
namespace Go.Proofs.Ytikmdoopfpnbbaa
open Go Go.Sq
set_option linter.unusedVariables false
abbrev pt0 : Pt := (0, (0, 0))
abbrev sg0 : Seg := ([], (0, (0, (0, (0, (0, []))))))
abbrev po0 : Port := ([], (0, 0))
abbrev sta0 : Stat := ([], (0, (0, (0, 0))))
def rg (lo hi n : Int) : Bool := decide (lo ≤ n) && decide (n ≤ hi)
def limB (n : Net) : Bool := Nat.ble 1 n.1.length && (Nat.ble n.1.length 24 && (Nat.ble n.2.1.length 32 && (Nat.ble n.2.2.1.length 24 && Nat.ble n.2.2.2.1.length 12))) && n.2.1.all fun s => Nat.ble 2 s.2.2.2.2.2.2.length && Nat.ble s.2.2.2.2.2.2.length 8
def nmsOf (n : Net) : List (List Str) := [n.1, n.2.1.map (·.1), n.2.2.1.map (·.1), n.2.2.2.1.map (·.1)]
def formB (n : Net) : Bool := (nmsOf n).all fun l => l.all nameB
def twL (l : List Str) : Bool := (List.range l.length).any fun i => (List.range i).any fun k => decide (l.getD i [] = l.getD k [])
def twS (l : List Stat) : Bool := (List.range l.length).any fun i => (List.range i).any fun k => decide ((l.getD k sta0).2.1 = (l.getD i sta0).2.1)
def twB (n : Net) : Bool := (nmsOf n).any twL || twS n.2.2.2.1
def kn (n : Net) (k : Int) : Bool := decide (0 ≤ k) && decide (k < (n.1.length : Int))
def knB (n : Net) : Bool := n.2.1.all (fun s => kn n s.2.1 && kn n s.2.2.1) && (n.2.2.1.all (fun p => kn n p.2.1) && n.2.2.2.1.all (fun s => kn n s.2.1))
def ptB (l : List Pt) (i : Nat) : Bool := rg (-500) 5000 (l.getD i pt0).2.1 && (rg 0 100000000 (l.getD i pt0).2.2 && (Nat.beq i 0 || decide ((l.getD (i - 1) pt0).1 < (l.getD i pt0).1)))
def pipeB (s : Seg) : Bool := !decide (s.2.1 = s.2.2.1) && (rg 1 1000000 s.2.2.2.1 && (rg 0 1000 s.2.2.2.2.1 && rg 0 100000 s.2.2.2.2.2.1)) && ((List.range s.2.2.2.2.2.2.length).all (ptB s.2.2.2.2.2.2) && (decide ((s.2.2.2.2.2.2.getD 0 pt0).1 = 0) && decide ((s.2.2.2.2.2.2.getD (s.2.2.2.2.2.2.length - 1) pt0).1 = s.2.2.2.1)))
def stB (s : Stat) : Bool := rg 0 100000000 s.2.2.1 && (rg 0 100000 s.2.2.2.1 && rg 0 100000000 s.2.2.2.2)
def prB (n : Net) : Bool := n.2.1.all pipeB && (n.2.2.1.all (fun p => rg 0 100000000 p.2.2) && (n.2.2.2.1.all stB && (rg (-100000) 100000000 n.2.2.2.2.1 && rg 0 100 n.2.2.2.2.2)))
def qdD (n : Net) : Int := bif limB n then (bif formB n then (bif twB n then 7 else bif knB n then (bif prB n then 0 else 9) else 8) else 3) else 4
structure Small (n : Net) : Prop where
 no1 : 1 ≤ n.1.length
 no : n.1.length ≤ 24
 sg : n.2.1.length ≤ 32
 po : n.2.2.1.length ≤ 24
 st : n.2.2.2.1.length ≤ 12
 pt : ∀ s ∈ n.2.1, 2 ≤ s.2.2.2.2.2.2.length ∧ s.2.2.2.2.2.2.length ≤ 8
theorem qmp (n : Net) : limB n = true ↔ Small n := by
 unfold limB
 simp only [Bool.and_eq_true, Nat.ble_eq, List.all_eq_true]
 constructor
 ·rintro ⟨⟨h1, h2, h3, h4, h5⟩, h6⟩; exact ⟨h1, h2, h3, h4, h5, h6⟩
 ·rintro ⟨h1, h2, h3, h4, h5, h6⟩; exact ⟨⟨h1, h2, h3, h4, h5⟩, h6⟩
theorem qbT (n lo hi : Int) : qap n lo hi = some (rg lo hi n) := by
 unfold qap rg
 cases decide (lo ≤ n) <;> rfl
theorem dlt {a b : Nat} : decide ((a : Int) < (b : Int)) = Nat.blt a b := by
 rw [Bool.eq_iff_iff, decide_eq_true_iff, Nat.blt_eq]; omega
theorem bltn (a b : Nat) : Nat.blt a b = !Nat.ble b a := by
 rw [Bool.eq_iff_iff, Nat.blt_eq, Bool.not_eq_true']
 constructor
 ·intro h; exact Bool.eq_false_iff.2 fun hh => by have := Nat.le_of_ble_eq_true hh; omega
 ·intro h; rcases Nat.lt_or_ge a b with h' | h'
  ·exact h'
  ·rw [Nat.ble_eq_true_of_le h'] at h; cases h
theorem qpL {n : Net} (h1 : n.2.1.length ≤ 1000) (h2 : n.2.2.1.length ≤ 1000) (h3 : n.2.2.2.1.length ≤ 1000) : qc1 n = some (n.1, (n.2.1.map (·.1), (n.2.2.1.map (·.1), n.2.2.2.1.map (·.1)))) := by
 unfold qc1
 have k1 := qaB (step := fun x : Int × List (List UInt8) => qb3 n x.1 x.2) n.2.1.length (fun i => ((i : Int), (n.2.1.map (·.1)).take i)) (e := n.2.1.map (·.1)) (fun i hi => by
  unfold qb3
  simp only [dec_t (show (i : Int) < (n.2.1.length : Int) by omega), cond_true, gd_t (inB_t hi), Int.toNat_natCast]
  rw [gd_t (qaj (by rw [List.length_take]; omega)), w1 hi (by omega), qbI ([] : List UInt8) (by simpa using hi), gD_map (·.1) n.2.1 i sg0 [] hi]) (by
  unfold qb3
  simp only [dec_f (show ¬ (n.2.1.length : Int) < (n.2.1.length : Int) by omega), cond_false]
  rw [List.take_of_length_le (by simp)])
 rw [show ((((0 : Nat) : Int), (n.2.1.map (·.1)).take 0) : Int × List (List UInt8)) = (0, []) from rfl] at k1
 rw [k1, Option.bind_some]
 generalize n.2.1.map (·.1) = A
 have k2 := qaB (step := fun x : Int × List (List UInt8) × List (List UInt8) => qb4 n x.1 x.2.1 x.2.2) n.2.2.1.length (fun i => ((i : Int), A, (n.2.2.1.map (·.1)).take i)) (e := (A, n.2.2.1.map (·.1))) (fun i hi => by
  unfold qb4
  simp only [dec_t (show (i : Int) < (n.2.2.1.length : Int) by omega), cond_true, gd_t (inB_t hi), Int.toNat_natCast]
  rw [gd_t (qaj (by rw [List.length_take]; omega)), w1 hi (by omega), qbI ([] : List UInt8) (by simpa using hi), gD_map (·.1) n.2.2.1 i po0 [] hi]) (by
  unfold qb4
  simp only [dec_f (show ¬ (n.2.2.1.length : Int) < (n.2.2.1.length : Int) by omega), cond_false]
  rw [List.take_of_length_le (by simp)])
 rw [show ((((0 : Nat) : Int), A, (n.2.2.1.map (·.1)).take 0) : Int × List (List UInt8) × List (List UInt8)) = (0, A, []) from rfl] at k2
 rw [k2, Option.bind_some]
 simp only
 generalize n.2.2.1.map (·.1) = B
 have k3 := qaB (step := fun x : Int × List (List UInt8) × List (List UInt8) × List (List UInt8) => qb5 n x.1 x.2.1 x.2.2.1 x.2.2.2) n.2.2.2.1.length (fun i => ((i : Int), A, B, (n.2.2.2.1.map (·.1)).take i)) (e := (A, B, n.2.2.2.1.map (·.1))) (fun i hi => by
  unfold qb5
  simp only [dec_t (show (i : Int) < (n.2.2.2.1.length : Int) by omega), cond_true, gd_t (inB_t hi), Int.toNat_natCast]
  rw [gd_t (qaj (by rw [List.length_take]; omega)), w1 hi (by omega), qbI ([] : List UInt8) (by simpa using hi), gD_map (·.1) n.2.2.2.1 i sta0 [] hi]) (by
  unfold qb5
  simp only [dec_f (show ¬ (n.2.2.2.1.length : Int) < (n.2.2.2.1.length : Int) by omega), cond_false]
  rw [List.take_of_length_le (by simp)])
 rw [show ((((0 : Nat) : Int), A, B, (n.2.2.2.1.map (·.1)).take 0) : Int × List (List UInt8) × List (List UInt8) × List (List UInt8)) = (0, A, B, []) from rfl] at k3
 rw [k3]; rfl
abbrev nm4 (a b c d : List Str) : List (List Str) := [a, b, c, d]
theorem range4 {q : List Str → Bool} (a b c d : List Str) : (List.range 4).all (fun i => q ((nm4 a b c d).getD i [])) = (nm4 a b c d).all q := qoN (nm4 a b c d) [] q
theorem range4n {q : List Str → Bool} (a b c d : List Str) : (List.range 4).all (fun i => !q ((nm4 a b c d).getD i [])) = !(nm4 a b c d).any q := by
 rw [range4 (q := fun l => !q l)]; simp [List.all_eq_not_any_not]
theorem len4 {a b c d : List Str} {m : Nat} (ha : a.length ≤ m) (hb : b.length ≤ m) (hc : c.length ≤ m) (hd : d.length ≤ m) (i : Nat) : ((nm4 a b c d).getD i []).length ≤ m := by
 rcases i with _ | _ | _ | _ | i
 ·exact ha
 ·exact hb
 ·exact hc
 ·exact hd
 ·show ([] : List Str).length ≤ m; simp
section
variable {a b c d : List Str} (ha : a.length ≤ 100) (hb : b.length ≤ 100) (hc : c.length ≤ 100) (hd : d.length ≤ 100)
end
end Go.Proofs.Ytikmdoopfpnbbaa
namespace Go.Proofs.Ytikmdoopfpnbbaa
open Go Go.Sq
set_option linter.unusedVariables false
end Go.Proofs.Ytikmdoopfpnbbaa
namespace Go.Proofs.Ytikmdoopfpnbbaa
open Go Go.Sq
set_option linter.unusedVariables false
theorem scanL {A : Type} {ε : Type} (l : List A) (d : A) {step : Int → Option (Int ⊕ (Unit ⊕ ε))} (q : A → Bool) {bad : ε}
  (h1 : ∀ i, i < l.length → q (l.getD i d) = true → step (i : Int) = some (.inl ((i + 1 : Nat) : Int)))
  (h2 : ∀ i, i < l.length → q (l.getD i d) = false → step (i : Int) = some (.inr (.inr bad))) (h3 : step (l.length : Int) = some (.inr (.inl ()))) : iter step 0 = some (bif l.all q then .inl () else .inr bad) :=
 scan l d q h1 h2 h3
theorem qqi (l : List Str) (i : Nat) (hi : i < l.length) (hl : l.length ≤ 1000) : iter (fun x => qb6 l (i : Int) x) 0 = some (bif (List.range i).any (fun k => decide (l.getD i [] = l.getD k [])) then .inr true else .inl ()) := by
 have := scanN (ε := Unit ⊕ Bool) (step := fun x => qb6 l (i : Int) x) i (fun k => decide (l.getD i [] = l.getD k [])) (fin := .inl ()) (bad := .inr true) (fun k hk hq => ?_) (fun k hk hq => ?_) ?_
 ·exact this
 all_goals unfold qb6
 ·rw [dec_t (show (k : Int) < (i : Int) by omega), cond_true, gd_t (inB_t hi), gd_t (inB_t (show k < l.length by omega)), Int.toNat_natCast, Int.toNat_natCast, hq, cond_false, w1 hk (by omega)]
 ·rw [dec_t (show (k : Int) < (i : Int) by omega), cond_true, gd_t (inB_t hi), gd_t (inB_t (show k < l.length by omega)), Int.toNat_natCast, Int.toNat_natCast, hq, cond_true]
 ·rw [dec_f (by omega)]; rfl
theorem qkf (l : List Str) (hl : l.length ≤ 1000) : qdM l = some (twL l) := by
 unfold qdM
 have := scanN (ε := Unit ⊕ Bool) (step := fun x => qdm l x) l.length (fun i => (List.range i).any fun k => decide (l.getD i [] = l.getD k [])) (fin := .inl ()) (bad := .inr true) (fun k hk hq => ?_) (fun k hk hq => ?_) ?_
 ·rw [this, Option.bind_some]; unfold twL
  cases (List.range l.length).any fun i => (List.range i).any fun k => decide (l.getD i [] = l.getD k []) <;> rfl
 all_goals unfold qdm
 ·rw [dec_t (show (k : Int) < (l.length : Int) by omega), cond_true, qqi l k hk hl, Option.bind_some, hq, w1 hk (by omega)]; rfl
 ·rw [dec_t (show (k : Int) < (l.length : Int) by omega), cond_true, qqi l k hk hl, Option.bind_some, hq]; rfl
 ·rw [dec_f (by omega)]; rfl
theorem qim {s : Seg} (h1 : 2 ≤ s.2.2.2.2.2.2.length) (h2 : s.2.2.2.2.2.2.length ≤ 8) : qbE s = some (pipeB s) := by
 unfold qbE pipeB
 have hl : iter (fun x => qbL s x) 0 = some (bif (List.range s.2.2.2.2.2.2.length).all (ptB s.2.2.2.2.2.2) then .inl () else .inr false) := by
  have := qbb (step := fun x => qbL s x) s.2.2.2.2.2.2.length (fun i => (i : Int)) (ptB s.2.2.2.2.2.2) (fin := .inl ()) (bad := .inr false) (fun i hi _ hq => ?_) (fun i hi _ hq => ?_) (fun _ => ?_)
  ·exact this
  all_goals unfold qbL
  ·rw [dec_t (show (i : Int) < (s.2.2.2.2.2.2.length : Int) by omega), cond_true, gd_t (inB_t hi), Int.toNat_natCast]
   unfold ptB at hq
   simp only [Bool.and_eq_true] at hq
   simp only [qbT, Option.bind_some]
   rcases Nat.eq_zero_or_pos i with rfl | hp
   ·rw [dec_f (by omega), cond_false]
    have e1 := hq.1
    have e2 := hq.2.1
    simp only [pt0] at e1 e2
    rw [e1, e2]; rfl
   ·have e1 := hq.1
    have e2 := hq.2.1
    simp only [pt0] at e1 e2
    rw [dec_t (show (0 : Int) < (i : Int) by omega), cond_true, show wi64 ((i : Int) - 1) = ((i - 1 : Nat) : Int) by rw [wi (by omega)]; omega, gd_t (inB_t (show i - 1 < _ by omega)), Int.toNat_natCast]
    have h3 := hq.2.2
    simp only [Bool.or_eq_true, decide_eq_true_eq] at h3
    have h3 := h3.resolve_left (fun e => by have := Nat.eq_of_beq_eq_true e; omega)
    rw [dec_f (Int.not_le.2 h3), cond_false, e1, e2, w1 hi (by omega)]; rfl
  ·rw [dec_t (show (i : Int) < (s.2.2.2.2.2.2.length : Int) by omega), cond_true, gd_t (inB_t hi), Int.toNat_natCast]
   unfold ptB at hq
   simp only [qbT, Option.bind_some]
   simp only [pt0] at hq
   rcases Nat.eq_zero_or_pos i with rfl | hp
   ·rw [dec_f (by omega), cond_false]
    cases e1 : rg (-500) 5000 (s.2.2.2.2.2.2.getD 0 (0, 0, 0)).2.1 with
    | false => rfl
    | true =>
     cases e2 : rg 0 100000000 (s.2.2.2.2.2.2.getD 0 (0, 0, 0)).2.2 with
     | false => rfl
     | true => rw [e1, e2] at hq; cases hq
   ·rw [dec_t (show (0 : Int) < (i : Int) by omega), cond_true, show wi64 ((i : Int) - 1) = ((i - 1 : Nat) : Int) by rw [wi (by omega)]; omega, gd_t (inB_t (show i - 1 < _ by omega)), Int.toNat_natCast]
    cases hd : decide ((s.2.2.2.2.2.2.getD i (0, 0, 0)).1 ≤ (s.2.2.2.2.2.2.getD (i - 1) (0, 0, 0)).1) with
    | true => rfl
    | false =>
     have hd := of_decide_eq_false hd
     rw [show decide ((s.2.2.2.2.2.2.getD (i - 1) (0, 0, 0)).1 < (s.2.2.2.2.2.2.getD i (0, 0, 0)).1) = true from dec_t (by omega), Bool.or_true] at hq
     cases e1 : rg (-500) 5000 (s.2.2.2.2.2.2.getD i (0, 0, 0)).2.1 with
     | false => rfl
     | true =>
      cases e2 : rg 0 100000000 (s.2.2.2.2.2.2.getD i (0, 0, 0)).2.2 with
      | false => rfl
      | true => rw [e1, e2] at hq; cases hq
  ·rw [dec_f (by omega)]; rfl
 rw [hl]
 simp only [qbT, Option.bind_some]
 rw [show wi64 ((s.2.2.2.2.2.2.length : Int) - 1) = ((s.2.2.2.2.2.2.length - 1 : Nat) : Int) by rw [wi (by omega)]; omega, gd_t (inB0 (show 0 < s.2.2.2.2.2.2.length by omega)), gd_t (inB_t (show s.2.2.2.2.2.2.length - 1 < s.2.2.2.2.2.2.length by omega)), Int.toNat_natCast]
 cases decide (s.2.1 = s.2.2.1) <;> cases rg 1 1000000 s.2.2.2.1 <;> cases rg 0 1000 s.2.2.2.2.1 <;> cases rg 0 100000 s.2.2.2.2.2.1 <;> cases decide ((s.2.2.2.2.2.2.getD 0 (0, (0, 0))).1 = 0) <;> cases decide ((s.2.2.2.2.2.2.getD (s.2.2.2.2.2.2.length - 1) (0, (0, 0))).1 = s.2.2.2.1) <;> cases (List.range s.2.2.2.2.2.2.length).all (ptB s.2.2.2.2.2.2) <;> rfl
section
variable {a b c d : List Str} (ha : a.length ≤ 100) (hb : b.length ≤ 100) (hc : c.length ≤ 100) (hd : d.length ≤ 100)
include ha hb hc hd
theorem qpM : iter (fun x3 => qb7 x3.1 x3.2.1 x3.2.2.1 x3.2.2.2.1 x3.2.2.2.2) (a, b, c, d, (0 : Int)) = some (bif (nm4 a b c d).all (fun l => l.all nameB) then .inl () else .inr 3) := by
 have hin : ∀ i : Nat, i < 4 → iter (fun x2 => qaW a b c d (i : Int) x2.1 x2.2.1 x2.2.2.1 x2.2.2.2.1 x2.2.2.2.2) (a, b, c, d, (0 : Int)) = some (bif ((nm4 a b c d).getD i []).all nameB then .inl (a, b, c, d) else .inr 3) := by
  intro i hi
  have hl := len4 ha hb hc hd i
  have e : ∀ x : Int, qaW a b c d (i : Int) a b c d x = qaW ((nm4 a b c d).getD i []) [] [] [] 0 a b c d x := by
   intro x; unfold qaW; rw [Int.toNat_natCast]; rfl
  have := qbb (ε := (List Str × List Str × List Str × List Str) ⊕ Int) (step := fun x2 : List Str × List Str × List Str × List Str × Int => qaW a b c d (i : Int) x2.1 x2.2.1 x2.2.2.1 x2.2.2.2.1 x2.2.2.2.2) ((nm4 a b c d).getD i []).length (fun k => (a, b, c, d, (k : Int))) (fun k => nameB (((nm4 a b c d).getD i []).getD k [])) (fin := .inl (a, b, c, d)) (bad := .inr 3) (fun k hk _ hq => ?_) (fun k hk _ hq => ?_) (fun _ => ?_)
  ·rw [qoN] at this; exact this
  all_goals simp only [e]; generalize (nm4 a b c d).getD i [] = l at *
  ·show (bif decide ((k : Int) < (l.length : Int)) then (gd (inB (k : Int) l.length) <| (qbD (l.getD (k : Int).toNat [])).bind fun r4 => bif !r4 then _ else _) else _) = _
   rw [dec_t (show (k : Int) < (l.length : Int) by omega), cond_true, gd_t (inB_t hk), Int.toNat_natCast, qke, Option.bind_some, hq, w1 hk (by omega)]; rfl
  ·show (bif decide ((k : Int) < (l.length : Int)) then (gd (inB (k : Int) l.length) <| (qbD (l.getD (k : Int).toNat [])).bind fun r4 => bif !r4 then _ else _) else _) = _
   rw [dec_t (show (k : Int) < (l.length : Int) by omega), cond_true, gd_t (inB_t hk), Int.toNat_natCast, qke, Option.bind_some, hq]; rfl
  ·show (bif decide ((l.length : Int) < (l.length : Int)) then _ else _) = _
   rw [dec_f (by omega)]; rfl
 have := qbb (ε := Unit ⊕ Int) (step := fun x3 : List Str × List Str × List Str × List Str × Int => qb7 x3.1 x3.2.1 x3.2.2.1 x3.2.2.2.1 x3.2.2.2.2) 4 (fun i => (a, b, c, d, (i : Int))) (fun i => ((nm4 a b c d).getD i []).all nameB) (fin := .inl ()) (bad := .inr 3) (fun i hi _ hq => ?_) (fun i hi _ hq => ?_) (fun _ => ?_)
 ·rw [range4 (q := fun l => l.all nameB)] at this; exact this
 all_goals unfold qb7
 ·simp only
  rw [dec_t (show (i : Int) < 4 by omega), cond_true, gd_t (inB_t hi), hin i hi, Option.bind_some, hq]
  simp only [cond_true, Sum.elim_inl]
  rw [w1 hi (by omega)]
 ·simp only
  rw [dec_t (show (i : Int) < 4 by omega), cond_true, gd_t (inB_t hi), hin i hi, Option.bind_some, hq]; rfl
 ·simp only
  rw [dec_f (by omega)]; rfl
theorem qqK : iter (fun x3 => qb8 x3.1 x3.2.1 x3.2.2.1 x3.2.2.2.1 x3.2.2.2.2) (a, b, c, d, (0 : Int)) = some (bif (nm4 a b c d).any twL then .inr 7 else .inl ()) := by
 have := qbb (ε := Unit ⊕ Int) (step := fun x3 : List Str × List Str × List Str × List Str × Int => qb8 x3.1 x3.2.1 x3.2.2.1 x3.2.2.2.1 x3.2.2.2.2) 4 (fun i => (a, b, c, d, (i : Int))) (fun i => !twL ((nm4 a b c d).getD i [])) (fin := .inl ()) (bad := .inr 7) (fun i hi _ hq => ?_) (fun i hi _ hq => ?_) (fun _ => ?_)
 ·rw [range4n] at this
  refine this.trans ?_
  cases (nm4 a b c d).any twL <;> rfl
 all_goals unfold qb8; simp only
 ·rw [dec_t (show (i : Int) < 4 by omega), cond_true, gd_t (inB_t hi), Int.toNat_natCast]
  have := len4 ha hb hc hd i
  rw [qkf ((nm4 a b c d).getD i []) (by omega), Option.bind_some]
  simp only [Bool.not_eq_true'] at hq
  rw [hq, w1 hi (by omega)]; rfl
 ·rw [dec_t (show (i : Int) < 4 by omega), cond_true, gd_t (inB_t hi), Int.toNat_natCast]
  have := len4 ha hb hc hd i
  rw [qkf ((nm4 a b c d).getD i []) (by omega), Option.bind_some]
  simp only [Bool.not_eq_false'] at hq
  rw [hq]; rfl
 ·rw [dec_f (by omega)]; rfl
end
theorem qqL (n : Net) (hs : n.2.2.2.1.length ≤ 100) : iter (fun x => qca n x) 0 = some (bif twS n.2.2.2.1 then .inr 7 else .inl ()) := by
 have hin : ∀ i : Nat, i < n.2.2.2.1.length → iter (fun x => qb9 n (i : Int) x) 0 = some (bif (List.range i).any (fun k => decide ((n.2.2.2.1.getD k sta0).2.1 = (n.2.2.2.1.getD i sta0).2.1)) then .inr 7 else .inl ()) := by
  intro i hi
  have := scanN (ε := Unit ⊕ Int) (step := fun x => qb9 n (i : Int) x) i (fun k => decide ((n.2.2.2.1.getD k sta0).2.1 = (n.2.2.2.1.getD i sta0).2.1)) (fin := .inl ()) (bad := .inr 7) (fun k hk hq => ?_) (fun k hk hq => ?_) ?_
  ·exact this
  all_goals unfold qb9
  ·rw [dec_t (show (k : Int) < (i : Int) by omega), cond_true, gd_t (inB_t hi), gd_t (inB_t (show k < n.2.2.2.1.length by omega)), Int.toNat_natCast, Int.toNat_natCast, dec_f (fun e => of_decide_eq_false hq e.symm), cond_false, w1 hk (by omega)]
  ·rw [dec_t (show (k : Int) < (i : Int) by omega), cond_true, gd_t (inB_t hi), gd_t (inB_t (show k < n.2.2.2.1.length by omega)), Int.toNat_natCast, Int.toNat_natCast, dec_t (of_decide_eq_true hq).symm, cond_true]
  ·rw [dec_f (by omega)]; rfl
 have := scanN (ε := Unit ⊕ Int) (step := fun x => qca n x) n.2.2.2.1.length (fun i => (List.range i).any fun k => decide ((n.2.2.2.1.getD k sta0).2.1 = (n.2.2.2.1.getD i sta0).2.1)) (fin := .inl ()) (bad := .inr 7) (fun k hk hq => ?_) (fun k hk hq => ?_) ?_
 ·exact this
 all_goals unfold qca
 ·rw [dec_t (show (k : Int) < (n.2.2.2.1.length : Int) by omega), cond_true, hin k hk, Option.bind_some, hq, w1 hk (by omega)]; rfl
 ·rw [dec_t (show (k : Int) < (n.2.2.2.1.length : Int) by omega), cond_true, hin k hk, Option.bind_some, hq]; rfl
 ·rw [dec_f (by omega)]; rfl
theorem rgk (n : Net) (h : 1 ≤ n.1.length) (h2 : n.1.length ≤ 24) (k : Int) : rg 0 (wi64 ((n.1.length : Int) - 1)) k = kn n k := by
 unfold rg kn
 rw [wi (by omega)]
 congr 1
 rw [Bool.eq_iff_iff, decide_eq_true_iff, decide_eq_true_iff]; omega
theorem qhL (n : Net) : qc2 n = some (qdD n) := by
 unfold qc2 qdD
 simp only [qbT, Option.bind_some]
 have e0 : rg 1 24 (n.1.length : Int) = (Nat.ble 1 n.1.length && Nat.ble n.1.length 24) := by
  unfold rg; rw [Bool.eq_iff_iff]; simp only [Bool.and_eq_true, decide_eq_true_eq, Nat.ble_eq]; omega
 have e3 : decide (32 < (n.2.1.length : Int)) = !Nat.ble n.2.1.length 32 := by rw [← bltn]; exact dlt (a := 32)
 have e4 : decide (24 < (n.2.2.1.length : Int)) = !Nat.ble n.2.2.1.length 24 := by rw [← bltn]; exact dlt (a := 24)
 have e5 : decide (12 < (n.2.2.2.1.length : Int)) = !Nat.ble n.2.2.2.1.length 12 := by rw [← bltn]; exact dlt (a := 12)
 rw [e0, e3, e4, e5]
 unfold limB
 cases h1 : Nat.ble 1 n.1.length
 ·rfl
 cases h2 : Nat.ble n.1.length 24
 ·rfl
 cases h3 : Nat.ble n.2.1.length 32
 ·rfl
 cases h4 : Nat.ble n.2.2.1.length 24
 ·rfl
 cases h5 : Nat.ble n.2.2.2.1.length 12
 ·rfl
 have g1 := Nat.le_of_ble_eq_true h1
 have g2 := Nat.le_of_ble_eq_true h2
 have g3 := Nat.le_of_ble_eq_true h3
 have g4 := Nat.le_of_ble_eq_true h4
 have g5 := Nat.le_of_ble_eq_true h5
 simp only [Bool.not_true, cond_false, Option.bind_some, Bool.and_true, Bool.true_and]
 have k0 := scanL (ε := Int) (step := fun x => qbg n x) n.2.1 sg0 (fun s => Nat.ble 2 s.2.2.2.2.2.2.length && Nat.ble s.2.2.2.2.2.2.length 8) (bad := 4) (fun i hi hq => by
  unfold qbg
  rw [dec_t (show (i : Int) < (n.2.1.length : Int) by omega), cond_true, gd_t (inB_t hi), qbT, Option.bind_some, Int.toNat_natCast]
  simp only [Bool.and_eq_true, Nat.ble_eq] at hq
  rw [show rg 2 8 ((n.2.1.getD i sg0).2.2.2.2.2.2.length : Int) = true by unfold rg; rw [dec_t (by omega), dec_t (by omega)]; rfl, w1 hi (by omega)]; rfl) (fun i hi hq => by
  unfold qbg
  rw [dec_t (show (i : Int) < (n.2.1.length : Int) by omega), cond_true, gd_t (inB_t hi), qbT, Option.bind_some, Int.toNat_natCast]
  rw [show rg 2 8 ((n.2.1.getD i sg0).2.2.2.2.2.2.length : Int) = false by
   rw [← hq]; unfold rg; rw [Bool.eq_iff_iff]; simp only [Bool.and_eq_true, decide_eq_true_eq, Nat.ble_eq]; omega]; rfl) (by
  unfold qbg
  rw [dec_f (by omega)]; rfl)
 rw [k0, Option.bind_some]
 cases hp : n.2.1.all (fun s => Nat.ble 2 s.2.2.2.2.2.2.length && Nat.ble s.2.2.2.2.2.2.length 8) with
 | false => rfl
 | true =>
 have hs : Small n := (qmp n).1 (by unfold limB; rw [h1, h2, h3, h4, h5, hp]; rfl)
 simp only [cond_true, Sum.elim_inl]
 show (qc1 n).bind _ = _
 rw [qpL (by omega) (by omega) (by omega), Option.bind_some]
 simp only
 rw [qpM (by omega) (by simp; omega) (by simp; omega) (by simp; omega), Option.bind_some]
 show Sum.elim _ _ (bif formB n then _ else _) = _
 cases formB n with
 | false => rfl
 | true =>
 simp only [cond_true, Sum.elim_inl]
 rw [qqK (by omega) (by simp; omega) (by simp; omega) (by simp; omega), Option.bind_some]
 unfold twB
 show Sum.elim _ _ (bif (nmsOf n).any twL then _ else _) = _
 cases (nmsOf n).any twL with
 | true => rfl
 | false =>
 simp only [cond_false, Sum.elim_inl, Bool.false_or]
 rw [qqL n (by omega), Option.bind_some]
 cases twS n.2.2.2.1 with
 | true => rfl
 | false =>
 simp only [cond_false, Sum.elim_inl]
 have k6 := scanL (ε := Int) (step := fun x => qbh n x) n.2.1 sg0 (fun s => kn n s.2.1 && kn n s.2.2.1) (bad := 8) (fun i hi hq => by
  unfold qbh
  rw [dec_t (show (i : Int) < (n.2.1.length : Int) by omega), cond_true, gd_t (inB_t hi), qbT, Option.bind_some, qbT, Option.bind_some, Int.toNat_natCast, rgk n g1 g2, rgk n g1 g2]
  simp only [Bool.and_eq_true] at hq
  rw [hq.1, hq.2, w1 hi (by omega)]; rfl) (fun i hi hq => by
  unfold qbh
  rw [dec_t (show (i : Int) < (n.2.1.length : Int) by omega), cond_true, gd_t (inB_t hi), qbT, Option.bind_some, qbT, Option.bind_some, Int.toNat_natCast, rgk n g1 g2, rgk n g1 g2]
  revert hq
  cases kn n (n.2.1.getD i sg0).2.1 <;> cases kn n (n.2.1.getD i sg0).2.2.1 <;> intro hq <;> first | rfl | cases hq) (by
  unfold qbh
  rw [dec_f (by omega)]; rfl)
 rw [k6, Option.bind_some]
 unfold knB
 cases n.2.1.all (fun s => kn n s.2.1 && kn n s.2.2.1) with
 | false => rfl
 | true =>
 simp only [cond_true, Sum.elim_inl, Bool.true_and]
 have k7 := scanL (ε := Int) (step := fun x => qbi n x) n.2.2.1 po0 (fun s => kn n s.2.1) (bad := 8) (fun i hi hq => by
  unfold qbi
  rw [dec_t (show (i : Int) < (n.2.2.1.length : Int) by omega), cond_true, gd_t (inB_t hi), qbT, Option.bind_some, Int.toNat_natCast, rgk n g1 g2, hq, w1 hi (by omega)]; rfl) (fun i hi hq => by
  unfold qbi
  rw [dec_t (show (i : Int) < (n.2.2.1.length : Int) by omega), cond_true, gd_t (inB_t hi), qbT, Option.bind_some, Int.toNat_natCast, rgk n g1 g2, hq]; rfl) (by
  unfold qbi
  rw [dec_f (by omega)]; rfl)
 rw [k7, Option.bind_some]
 cases n.2.2.1.all (fun s => kn n s.2.1) with
 | false => rfl
 | true =>
 simp only [cond_true, Sum.elim_inl, Bool.true_and]
 have k8 := scanL (ε := Int) (step := fun x => qbj n x) n.2.2.2.1 sta0 (fun s => kn n s.2.1) (bad := 8) (fun i hi hq => by
  unfold qbj
  rw [dec_t (show (i : Int) < (n.2.2.2.1.length : Int) by omega), cond_true, gd_t (inB_t hi), qbT, Option.bind_some, Int.toNat_natCast, rgk n g1 g2, hq, w1 hi (by omega)]; rfl) (fun i hi hq => by
  unfold qbj
  rw [dec_t (show (i : Int) < (n.2.2.2.1.length : Int) by omega), cond_true, gd_t (inB_t hi), qbT, Option.bind_some, Int.toNat_natCast, rgk n g1 g2, hq]; rfl) (by
  unfold qbj
  rw [dec_f (by omega)]; rfl)
 rw [k8, Option.bind_some]
 cases n.2.2.2.1.all (fun s => kn n s.2.1) with
 | false => rfl
 | true =>
 simp only [cond_true, Sum.elim_inl]
 unfold prB
 have k9 := scanL (ε := Int) (step := fun x => qbk n x) n.2.1 sg0 pipeB (bad := 9) (fun i hi hq => by
  unfold qbk
  rw [dec_t (show (i : Int) < (n.2.1.length : Int) by omega), cond_true, gd_t (inB_t hi), Int.toNat_natCast]
  have := hs.pt _ (qaL (d := sg0) hi)
  show (qbE (n.2.1.getD i sg0)).bind _ = _
  rw [qim this.1 this.2, Option.bind_some, hq, w1 hi (by omega)]; rfl) (fun i hi hq => by
  unfold qbk
  rw [dec_t (show (i : Int) < (n.2.1.length : Int) by omega), cond_true, gd_t (inB_t hi), Int.toNat_natCast]
  have := hs.pt _ (qaL (d := sg0) hi)
  show (qbE (n.2.1.getD i sg0)).bind _ = _
  rw [qim this.1 this.2, Option.bind_some, hq]; rfl) (by
  unfold qbk
  rw [dec_f (by omega)]; rfl)
 rw [k9, Option.bind_some]
 cases n.2.1.all pipeB with
 | false => rfl
 | true =>
 simp only [cond_true, Sum.elim_inl, Bool.true_and]
 have k10 := scanL (ε := Int) (step := fun x => qa5 n x) n.2.2.1 po0 (fun p => rg 0 100000000 p.2.2) (bad := 9) (fun i hi hq => by
  unfold qa5
  rw [dec_t (show (i : Int) < (n.2.2.1.length : Int) by omega), cond_true, gd_t (inB_t hi), qbT, Option.bind_some, Int.toNat_natCast, hq, w1 hi (by omega)]; rfl) (fun i hi hq => by
  unfold qa5
  rw [dec_t (show (i : Int) < (n.2.2.1.length : Int) by omega), cond_true, gd_t (inB_t hi), qbT, Option.bind_some, Int.toNat_natCast, hq]; rfl) (by
  unfold qa5
  rw [dec_f (by omega)]; rfl)
 rw [k10, Option.bind_some]
 cases n.2.2.1.all (fun p => rg 0 100000000 p.2.2) with
 | false => rfl
 | true =>
 simp only [cond_true, Sum.elim_inl, Bool.true_and]
 have k11 := scanL (ε := Int) (step := fun x => qa6 n x) n.2.2.2.1 sta0 stB (bad := 9) (fun i hi hq => by
  unfold qa6
  unfold stB at hq
  simp only [Bool.and_eq_true, sta0] at hq
  simp only [qbT, Option.bind_some]
  rw [dec_t (show (i : Int) < (n.2.2.2.1.length : Int) by omega), cond_true, gd_t (inB_t hi), Int.toNat_natCast, hq.1, hq.2.1, hq.2.2, w1 hi (by omega)]; rfl) (fun i hi hq => by
  unfold qa6
  unfold stB at hq
  simp only [sta0] at hq
  simp only [qbT, Option.bind_some]
  rw [dec_t (show (i : Int) < (n.2.2.2.1.length : Int) by omega), cond_true, gd_t (inB_t hi), Int.toNat_natCast]
  revert hq
  cases rg 0 100000000 (n.2.2.2.1.getD i ([], 0, 0, 0, 0)).2.2.1 <;> cases rg 0 100000 (n.2.2.2.1.getD i ([], 0, 0, 0, 0)).2.2.2.1 <;> cases rg 0 100000000 (n.2.2.2.1.getD i ([], 0, 0, 0, 0)).2.2.2.2 <;> intro hq <;> first | rfl | cases hq) (by
  unfold qa6
  rw [dec_f (by omega)]; rfl)
 rw [k11, Option.bind_some]
 cases n.2.2.2.1.all stB with
 | false => rfl
 | true =>
 simp only [cond_true, Sum.elim_inl, Bool.true_and, Option.bind_some]
 cases rg (-100000) 100000000 n.2.2.2.2.1 <;> cases rg 0 100 n.2.2.2.2.2 <;> rfl
end Go.Proofs.Ytikmdoopfpnbbaa
