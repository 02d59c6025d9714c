/- Accounts: names, their order; what is valid. No condition. -/
import Derived.Test.YtnkfkceghbkkkaaGreatLa2
namespace Go.Proofs.YtnkfkceghbkkkaaGreat.Ac
open Go Go.Sq
abbrev Acc := List UInt8 × Int × Int × Int × Int
abbrev Ent := List UInt8 × Int × Int
abbrev d0 : Acc := ([], (0, (0, (0, 0))))
abbrev e0 : Ent := ([], (0, 0))
/-! ### The order of texts -/
theorem qpo (a b : UInt8) (x y : List UInt8) : Op.bytesLess (a :: x) (b :: y) = true ↔ a.toNat < b.toNat ∨ (a = b ∧ Op.bytesLess x y = true) := by
 rw [show Op.bytesLess (a :: x) (b :: y) = (decide (a < b) || (a == b && Op.bytesLess x y)) from rfl]
 simp only [Bool.or_eq_true, Bool.and_eq_true, decide_eq_true_eq, beq_iff_eq, UInt8.lt_iff_toNat_lt]
theorem qud (x : List UInt8) : Op.bytesLess x [] = false := by cases x <;> rfl
theorem qmE : ∀ a : List UInt8, Op.bytesLess a a = false
 | [] => rfl
 | a :: x => by
  rw [← Bool.not_eq_true, qpo]
  rintro (h | ⟨_, h⟩)
  ·omega
  ·rw [qmE x] at h; cases h
theorem qmF : ∀ {a b c : List UInt8}, Op.bytesLess a b = true → Op.bytesLess b c = true → Op.bytesLess a c = true
 | _, [], _, h, _ => by rw [qud] at h; cases h
 | _, _ :: _, [], _, h => by rw [qud] at h; cases h
 | [], _ :: _, _ :: _, _, _ => rfl
 | a :: x, b :: y, c :: z, h, h' => by
  rw [qpo] at h h' ⊢
  rcases h with h | ⟨rfl, h⟩ <;> rcases h' with h' | ⟨rfl, h'⟩
  ·left; omega
  ·left; exact h
  ·left; exact h'
  ·right; exact ⟨rfl, qmF h h'⟩
theorem qyE : ∀ a b : List UInt8, Op.bytesLess a b = true ∨ a = b ∨ Op.bytesLess b a = true
 | [], [] => .inr (.inl rfl)
 | [], _ :: _ => .inl rfl
 | _ :: _, [] => .inr (.inr rfl)
 | a :: x, b :: y => by
  rw [qpo, qpo]
  rcases Nat.lt_trichotomy a.toNat b.toNat with h | h | h
  ·exact .inl (.inl h)
  ·have e := UInt8.toNat_inj.1 h
   subst e
   rcases qyE x y with h1 | h1 | h1
   ·exact .inl (.inr ⟨rfl, h1⟩)
   ·subst h1; exact .inr (.inl rfl)
   ·exact .inr (.inr (.inr ⟨rfl, h1⟩))
  ·exact .inr (.inr (.inl h))
theorem qwF {a b : List UInt8} (h : Op.bytesLess a b = true) : Op.bytesLess b a = false := by
 rw [← Bool.not_eq_true]
 intro h'
 have := qmF h h'
 rw [qmE] at this; cases this
theorem bl_ne {a b : List UInt8} (h : Op.bytesLess a b = true) : a ≠ b := fun e => by
 subst e; rw [qmE] at h; cases h
theorem qmG : ∀ a b : List UInt8, (Lib.compareBytes a b < 0 ↔ Op.bytesLess a b = true) ∧ (Lib.compareBytes a b = 0 ↔ a = b)
 | [], [] => by simp [Lib.compareBytes, qud]
 | [], _ :: _ => by simp [Lib.compareBytes]; rfl
 | _ :: _, [] => by simp [Lib.compareBytes, qud]
 | a :: x, b :: y => by
  have ih := qmG x y
  unfold Lib.compareBytes
  rw [qpo]
  simp only [UInt8.lt_iff_toNat_lt, List.cons.injEq]
  rcases Nat.lt_trichotomy a.toNat b.toNat with h | h | h
  ·have hne : a ≠ b := fun e => by subst e; omega
   simp [h, hne]
  ·have e := UInt8.toNat_inj.1 h
   subst e
   simp only [Nat.lt_irrefl, if_false, false_or, true_and]
   exact ih
  ·have hne : a ≠ b := fun e => by subst e; omega
   rw [if_neg (by omega), if_pos h]
   constructor
   ·constructor
    ·intro h; omega
    ·rintro (h' | ⟨h', _⟩)
     ·omega
     ·exact absurd h' hne
   ·constructor
    ·intro h; omega
    ·rintro ⟨h', _⟩; exact absurd h' hne
/-! ### Names -/
def qfG (c : Int) : Int := if 97 ≤ c ∧ c ≤ 122 then 1 else if (48 ≤ c ∧ c ≤ 57) ∨ c = 45 then 2 else 0
theorem place_eq (c : Int) : qej c = some (qfG c) := by
 unfold qej qfG
 by_cases h1 : 97 ≤ c
 ·by_cases h2 : c ≤ 122
  ·simp [h1, h2]
  ·simp [h1, h2, show ¬ c ≤ 57 by omega, show ¬ c = 45 by omega, show 48 ≤ c by omega]
 ·by_cases h3 : 48 ≤ c
  ·by_cases h4 : c ≤ 57
   ·simp [h1, h3, h4]
   ·simp [h1, h3, h4, show ¬ c = 45 by omega]
  ·by_cases h5 : c = 45
   ·simp [h5]
   ·simp [h1, h3, h5]
def qdW (s : List UInt8) (i : Nat) : Int := Int.ofNat (s.getD i 0).toNat
theorem qwG (s : List UInt8) (i : Nat) : 0 ≤ qdW s i ∧ qdW s i ≤ 255 := by
 unfold qdW
 have := (s.getD i 0).toNat_lt
 constructor
 ·exact Int.natCast_nonneg _
 ·show ((s.getD i 0).toNat : Int) ≤ 255
  omega
def nameP (s : List UInt8) : Bool := decide (1 ≤ s.length) && (decide (s.length ≤ 12) && (decide (qfG (qdW s 0) = 1) && (List.range s.length).all fun i => decide (qfG (qdW s i) ≠ 0)))
theorem name_eq (s : List UInt8) : qct s = some (nameP s) := by
 unfold qct nameP
 by_cases h1 : s.length < 1
 ·rw [dec_t (show (s.length : Int) < 1 by omega), dec_f (show ¬ 1 ≤ s.length by omega)]; rfl
 rw [dec_f (show ¬ (s.length : Int) < 1 by omega), dec_t (show 1 ≤ s.length by omega)]
 by_cases h2 : 12 < s.length
 ·rw [dec_t (show 12 < (s.length : Int) by omega), dec_f (show ¬ s.length ≤ 12 by omega)]; rfl
 rw [dec_f (show ¬ 12 < (s.length : Int) by omega), dec_t (show s.length ≤ 12 by omega), gd_t (show inB 0 s.length = true from inB_t (i := 0) (by omega)), place_eq]
 simp only [cond_false, Option.bind_some, Bool.true_and]
 show (bif !decide (qfG (qdW s 0) = 1) then some false else _) = _
 by_cases h3 : qfG (qdW s 0) = 1
 ·rw [dec_t h3]
  have := qbf (step := fun x => qbP s x) s.length (fun i => (i : Int)) (fun i => decide (qfG (qdW s i) ≠ 0)) (fin := .inl ()) (bad := .inr false) (fun i hi _ hp => by
    unfold qbP
    simp only [dec_t (show (i : Int) < (s.length : Int) by omega), cond_true, gd_t (inB_t hi), Int.toNat_natCast, place_eq, Option.bind_some]
    show (bif decide (qfG (qdW s i) = 0) then _ else _) = _
    rw [dec_f (of_decide_eq_true hp), wi (by omega)]; rfl) (fun i hi _ hp => by
    unfold qbP
    simp only [dec_t (show (i : Int) < (s.length : Int) by omega), cond_true, gd_t (inB_t hi), Int.toNat_natCast, place_eq, Option.bind_some]
    show (bif decide (qfG (qdW s i) = 0) then _ else _) = _
    rw [dec_t (by simpa using hp)]; rfl) (fun _ => by
    unfold qbP
    simp only [dec_f (show ¬ (s.length : Int) < (s.length : Int) by omega), cond_false])
  simp only [Bool.not_true, cond_false, Bool.true_and]
  rw [show (0 : Int) = ((0 : Nat) : Int) from rfl, this]
  cases (List.range s.length).all fun i => decide (qfG (qdW s i) ≠ 0) <;> rfl
 ·rw [dec_f h3]; rfl
theorem rname_eq (s : List UInt8) : qcX s = some (nameP s) := by
 unfold qcX nameP
 by_cases h1 : s.length < 1
 ·rw [dec_t (show (s.length : Int) < 1 by omega), dec_f (show ¬ 1 ≤ s.length by omega)]; rfl
 rw [dec_f (show ¬ (s.length : Int) < 1 by omega), dec_t (show 1 ≤ s.length by omega)]
 by_cases h2 : 12 < s.length
 ·rw [dec_t (show 12 < (s.length : Int) by omega), dec_f (show ¬ s.length ≤ 12 by omega)]; rfl
 rw [dec_f (show ¬ 12 < (s.length : Int) by omega), dec_t (show s.length ≤ 12 by omega), gd_t (show inB 0 s.length = true from inB_t (i := 0) (by omega)), gd_t (show inB 0 s.length = true from inB_t (i := 0) (by omega))]
 have e0 : (bif decide ((Int.ofNat (s.getD 0 0).toNat) < 97) then some true else some (decide (122 < (Int.ofNat (s.getD 0 0).toNat)))) = some (!decide (qfG (qdW s 0) = 1)) := by
  show (bif decide (qdW s 0 < 97) then some true else some (decide (122 < qdW s 0))) = _
  generalize qdW s 0 = c
  unfold qfG
  by_cases a1 : c < 97
  ·rw [dec_t a1, if_neg (by omega)]
   split <;> rfl
  ·rw [dec_f a1]
   by_cases a2 : 122 < c
   ·rw [dec_t a2, if_neg (by omega)]
    split <;> rfl
   ·rw [dec_f a2, if_pos (by omega)]; rfl
 rw [e0]
 simp only [cond_false, Option.bind_some, Bool.true_and]
 by_cases h3 : qfG (qdW s 0) = 1
 ·rw [dec_t h3]
  have step : ∀ i : Nat, i < s.length → qbT s (i : Int) = bif decide (qfG (qdW s i) ≠ 0) then some (.inl ((i + 1 : Nat) : Int)) else some (.inr (.inr false)) := by
   intro i hi
   have hb := qwG s i
   unfold qbT
   simp only [dec_t (show (i : Int) < (s.length : Int) by omega), cond_true, gd_t (inB_t hi), Int.toNat_natCast]
   simp only [show (Int.ofNat (s.getD i 0).toNat) = qdW s i from rfl]
   generalize qdW s i = c at hb
   unfold qfG
   rw [show wi64 ((i : Int) + 1) = ((i + 1 : Nat) : Int) by rw [wi (by omega)]; rfl]
   by_cases a1 : c < 97
   ·by_cases a3 : c < 48
    ·by_cases a5 : c = 45
     ·simp [a5]
     ·simp [a1, a3, a5, show ¬ 97 ≤ c by omega, show ¬ 48 ≤ c by omega]
    ·by_cases a4 : 57 < c
     ·simp [a1, a3, a4, show ¬ 97 ≤ c by omega, show ¬ c ≤ 57 by omega, show ¬ c = 45 by omega]
     ·simp [a1, a3, a4, show ¬ 97 ≤ c by omega, show 48 ≤ c by omega, show c ≤ 57 by omega]
   ·by_cases a2 : 122 < c
    ·simp [a1, a2, show ¬ c ≤ 122 by omega, show ¬ c < 48 by omega, show 57 < c by omega, show ¬ c = 45 by omega, show ¬ c ≤ 57 by omega]
    ·simp [a1, a2, show 97 ≤ c by omega, show c ≤ 122 by omega]
  have := qbf (step := fun x => qbT s x) s.length (fun i => (i : Int)) (fun i => decide (qfG (qdW s i) ≠ 0)) (fin := .inl ()) (bad := .inr false) (fun i hi _ hp => by
    rw [step i hi, hp]; rfl) (fun i hi _ hp => by
    rw [step i hi, hp]; rfl) (fun _ => by
    unfold qbT
    simp only [dec_f (show ¬ (s.length : Int) < (s.length : Int) by omega), cond_false])
  simp only [Bool.not_true, cond_false, Bool.true_and]
  rw [show (0 : Int) = ((0 : Nat) : Int) from rfl, this]
  cases (List.range s.length).all fun i => decide (qfG (qdW s i) ≠ 0) <;> rfl
 ·rw [dec_f h3]; rfl
/-! ### What is valid -/
def volP (n : Int) : Bool := decide (0 ≤ n ∧ n ≤ 1099511627776)
def sgnP (n : Int) : Bool := decide (-1099511627776 ≤ n ∧ n ≤ 1099511627776)
theorem que (n : Int) : qb8 n = some (volP n) := by
 unfold qb8 volP
 by_cases h : 0 ≤ n <;> simp [h]
theorem qyF (n : Int) : qdf n = some (sgnP n) := by
 unfold qdf sgnP
 by_cases h1 : -1099511627776 ≤ n <;> by_cases h2 : n ≤ 1099511627776 <;> simp [h1, h2]
def accP (a : Acc) : Bool := volP a.2.1 && (volP a.2.2.1 && (volP a.2.2.2.1 && sgnP a.2.2.2.2))
theorem qwH (a : Acc) : qch a = some (accP a) := by
 unfold qch accP
 rw [que, que, que, qyF]
 cases volP a.2.1 <;> cases volP a.2.2.1 <;> cases volP a.2.2.2.1 <;> rfl
def entP (e : Ent) : Bool := (decide (e.2.1 = 1 ∨ e.2.1 = 2 ∨ e.2.1 = 3) && volP e.2.2 || decide (e.2.1 = 4) && sgnP e.2.2) && nameP e.1
theorem qAi (e : Ent) : qdN e = some (entP e) := by
 unfold qdN entP
 rw [que, qyF, name_eq]
 by_cases h1 : e.2.1 = 1
 ·simp only [h1]; cases volP e.2.2 <;> simp
 ·by_cases h2 : e.2.1 = 2
  ·simp only [h2]; cases volP e.2.2 <;> simp
  ·by_cases h3 : e.2.1 = 3
   ·simp only [h3]; cases volP e.2.2 <;> simp
   ·by_cases h4 : e.2.1 = 4
    ·simp only [h4]; cases sgnP e.2.2 <;> simp
    ·simp [h1, h2, h3, h4]
def okI (l : List Acc) (i : Nat) : Bool := accP (l.getD i d0) && (nameP (l.getD i d0).1 && (decide (i = 0) || Op.bytesLess (l.getD (i - 1) d0).1 (l.getD i d0).1))
def qr8 (l : List Acc) : Bool := decide (l.length ≤ 64) && (List.range l.length).all (okI l)
theorem valid_eq {l : List Acc} (hl : l.length ≤ 1000000) : qf1 l = some (qr8 l) := by
 have step : ∀ i : Nat, i < l.length → qcR l (i : Int) = bif okI l i then some (.inl ((i + 1 : Nat) : Int)) else some (.inr (.inr false)) := by
  intro i hi
  unfold qcR okI
  simp only [dec_t (show (i : Int) < (l.length : Int) by omega), cond_true, gd_t (inB_t hi), Int.toNat_natCast]
  rw [show qch ((l.getD i d0).1, (((l.getD i d0).2).1, ((((l.getD i d0).2).2).1, (((((l.getD i d0).2).2).2).1, ((((l.getD i d0).2).2).2).2)))) = some (accP (l.getD i d0)) from qwH _, name_eq,
   show wi64 ((i : Int) + 1) = ((i + 1 : Nat) : Int) by rw [wi (by omega)]; rfl]
  cases h1 : accP (l.getD i d0)
  ·rfl
  ·cases h2 : nameP (l.getD i d0).1
   ·rfl
   ·by_cases h0 : i = 0
    ·subst h0; rfl
    ·have e1 : wi64 ((i : Int) - 1) = ((i - 1 : Nat) : Int) := by rw [wi (by omega)]; omega
     rw [dec_t (show (0 : Int) < (i : Int) by omega), e1, gd_t (inB_t (show i - 1 < l.length by omega)), Int.toNat_natCast, dec_f h0]
     simp only [Option.bind_some, Bool.not_true, cond_false, cond_true, Bool.true_and, Bool.false_or]
     rcases qyE (l.getD (i - 1) d0).1 (l.getD i d0).1 with h | h | h
     ·rw [h, qwF h, dec_f (fun e => bl_ne h e.symm)]; rfl
     ·rw [h, qmE, dec_t rfl]; rfl
     ·rw [h, qwF h]; rfl
 have := qbf (step := fun x => qcR l x) l.length (fun i => (i : Int)) (okI l) (fin := .inl ()) (bad := .inr false) (fun i hi _ hp => by
   rw [step i hi, hp]; rfl) (fun i hi _ hp => by
   rw [step i hi, hp]; rfl) (fun _ => by
   unfold qcR
   simp only [dec_f (show ¬ (l.length : Int) < (l.length : Int) by omega), cond_false])
 unfold qf1 qr8
 rw [show (0 : Int) = ((0 : Nat) : Int) from rfl, this]
 cases (List.range l.length).all (okI l)
 ·simp
 ·by_cases h : l.length ≤ 64
  ·rw [dec_t h, show (bif true then (Sum.inl () : Unit ⊕ Bool) else .inr false) = .inl () from rfl]
   simp only [Option.bind_some, Sum.elim_inl, dec_t (show (l.length : Int) ≤ 64 by omega)]; rfl
  ·rw [dec_f h, show (bif true then (Sum.inl () : Unit ⊕ Bool) else .inr false) = .inl () from rfl]
   simp only [Option.bind_some, Sum.elim_inl, dec_f (show ¬ (l.length : Int) ≤ 64 by omega)]; rfl
structure qr9 (l : List Acc) : Prop where
 n : l.length ≤ 64
 acc : ∀ a ∈ l, accP a = true
 nm : ∀ a ∈ l, nameP a.1 = true
 lt : ∀ i k, i < k → k < l.length → Op.bytesLess (l.getD i d0).1 (l.getD k d0).1 = true
theorem qpZ {l : List Acc} : qr8 l = true ↔ qr9 l := by
 unfold qr8
 rw [Bool.and_eq_true, decide_eq_true_eq, qlN]
 constructor
 ·rintro ⟨h1, h2⟩
  have h3 : ∀ i, i < l.length → accP (l.getD i d0) = true ∧ nameP (l.getD i d0).1 = true ∧ (i ≠ 0 → Op.bytesLess (l.getD (i - 1) d0).1 (l.getD i d0).1 = true) := fun i hi => by
   have := h2 i hi
   simp only [okI, Bool.and_eq_true, Bool.or_eq_true, decide_eq_true_eq] at this
   exact ⟨this.1, this.2.1, fun h => this.2.2.resolve_left h⟩
  refine ⟨h1, fun a ha => ?_, fun a ha => ?_, fun i k hik hk => ?_⟩
  ·obtain ⟨k, hk, rfl⟩ := qwa d0 ha
   exact (h3 k hk).1
  ·obtain ⟨k, hk, rfl⟩ := qwa d0 ha
   exact (h3 k hk).2.1
  ·induction k with
   | zero => omega
   | succ k ih =>
    have hs := (h3 (k + 1) hk).2.2 (by omega)
    rw [Nat.add_sub_cancel] at hs
    by_cases e : i = k
    ·subst e; exact hs
    ·exact qmF (ih (by omega) (by omega)) hs
 ·intro h
  refine ⟨h.n, fun i hi => ?_⟩
  simp only [okI, Bool.and_eq_true, Bool.or_eq_true, decide_eq_true_eq]
  refine ⟨h.acc _ (qbb hi), h.nm _ (qbb hi), ?_⟩
  by_cases h0 : i = 0
  ·exact .inl h0
  ·exact .inr (h.lt _ _ (by omega) hi)
end Go.Proofs.YtnkfkceghbkkkaaGreat.Ac
namespace Go.Proofs.YtnkfkceghbkkkaaGreat.Ac
open Go Go.Sq
theorem qx5 {i j : Nat} (h : i + j ≤ 4611686018427387904) : wi64 (Int.fdiv (wu64 (wi64 ((i : Int) + (j : Int)))) (2 ^ shAmt .u64 1)) = (((i + j) / 2 : Nat) : Int) := by
 have e0 : wi64 ((i : Int) + (j : Int)) = (i : Int) + (j : Int) := wi (by omega)
 have e1 : wu64 ((i : Int) + (j : Int)) = (i : Int) + (j : Int) := by
  show IntKind.u64.wrap _ = _
  rw [show IntKind.u64.wrap ((i : Int) + (j : Int)) = ((i : Int) + (j : Int)) % 18446744073709551616 from rfl]
  omega
 have e2 : (2 : Int) ^ shAmt .u64 1 = 2 := by kernel_rfl
 rw [e0, e1, e2, Int.fdiv_eq_ediv_of_nonneg _ (by omega), wi (by omega)]
 omega
theorem qwI {i j : Nat} (h : i + j ≤ 4611686018427387904) : wi64 (Int.fdiv (wu64 (wi64 ((i : Int) + (j : Int)))) (2 ^ shAmt .u64 1)) = (((i + j) / 2 : Nat) : Int) := qx5 h
structure LbP (l : List Acc) (s : List UInt8) (k : Nat) : Prop where
 le : k ≤ l.length
 lt : ∀ j, j < k → Op.bytesLess (l.getD j d0).1 s = true
 ge : ∀ j, k ≤ j → j < l.length → Op.bytesLess (l.getD j d0).1 s = false
theorem qzv {l : List Acc} {s : List UInt8} (hv : qr9 l) : ∃ k : Nat, LbP l s k ∧ qg7 l s = some ((k : Int), decide (k < l.length ∧ (l.getD k d0).1 = s)) := by
 have hn := hv.n
 have key : ∃ e, iter (fun x2 : Int × Int => qar l s (fun h => (qdO h.1 h.2.1).bind fun y => some y) x2.1 x2.2) (0, (l.length : Int)) = some e ∧ ∃ k : Nat, e = (k : Int) ∧ LbP l s k := by
  refine qqz (fun x => ∃ i j : Nat, x = ((i : Int), (j : Int)) ∧ i ≤ j ∧ j ≤ l.length ∧ (∀ q, q < i → Op.bytesLess (l.getD q d0).1 s = true) ∧ (∀ q, j ≤ q → q < l.length → Op.bytesLess (l.getD q d0).1 s = false)) (fun x => (x.2 - x.1).toNat) _ ?_ ⟨0, l.length, rfl, by omega, by omega, by omega, by omega⟩
  rintro _ ⟨i, j, rfl, h1, h2, h3, h4⟩
  unfold qar
  simp only
  by_cases hij : i < j
  ·right
   have hm : (i + j) / 2 < l.length := by omega
   simp only [dec_t (show (i : Int) < (j : Int) by omega), cond_true, qwI (i := i) (j := j) (by omega), gd_t (inB_t hm), Int.toNat_natCast]
   rw [show (qdO (l.getD ((i + j) / 2) d0) s).bind (fun y => some y) = some (Lib.compareBytes (l.getD ((i + j) / 2) d0).1 s) from rfl]
   simp only [Option.bind_some]
   by_cases hc : Op.bytesLess (l.getD ((i + j) / 2) d0).1 s = true
   ·rw [dec_t ((qmG _ _).1.2 hc), wi (by omega)]
    refine ⟨_, rfl, ⟨(i + j) / 2 + 1, j, rfl, by omega, h2, fun q hq => ?_, h4⟩, by simp only; omega⟩
    by_cases e : q = (i + j) / 2
    ·rw [e]; exact hc
    ·by_cases e2 : q < (i + j) / 2
     ·exact qmF (hv.lt q _ e2 hm) hc
     ·omega
   ·rw [dec_f (fun h => hc ((qmG _ _).1.1 h))]
    refine ⟨_, rfl, ⟨i, (i + j) / 2, rfl, by omega, by omega, h3, fun q hq hql => ?_⟩, by simp only; omega⟩
    rw [← Bool.not_eq_true]
    intro hb
    by_cases e : q = (i + j) / 2
    ·rw [e] at hb; exact hc hb
    ·exact hc (qmF (hv.lt _ q (by omega) hql) hb)
  ·left
   obtain rfl : i = j := by omega
   exact ⟨(i : Int), by simp only [dec_f (show ¬ (i : Int) < (i : Int) by omega), cond_false], i, rfl, h2, h3, h4⟩
 obtain ⟨_, q, k, rfl, hk⟩ := key
 refine ⟨k, hk, ?_⟩
 unfold qg7 qaw
 rw [q]
 simp only [Option.bind_some]
 by_cases hkl : k < l.length
 ·rw [dec_t (show (k : Int) < (l.length : Int) by omega), gd_t (inB_t hkl), Int.toNat_natCast, show (qdO (l.getD k d0) s).bind (fun y => some y) = some (Lib.compareBytes (l.getD k d0).1 s) from rfl]
  simp only [cond_true, Option.bind_some]
  congr 2
  by_cases e : (l.getD k d0).1 = s
  ·rw [dec_t ((qmG _ _).2.2 e), dec_t ⟨hkl, e⟩]
  ·rw [dec_f (fun h => e ((qmG _ _).2.1 h)), dec_f (fun h => e h.2)]
 ·rw [dec_f (show ¬ (k : Int) < (l.length : Int) by omega), dec_f (fun h => hkl h.1)]; rfl
def qeO (a : Acc) (e : Ent) : Acc :=
 if e.2.1 = 1 then (a.1, (wi64 (a.2.1 + e.2.2), a.2.2)) else if e.2.1 = 2 then (a.1, (a.2.1, (wi64 (a.2.2.1 + e.2.2), a.2.2.2)))
 else if e.2.1 = 3 then (a.1, (a.2.1, (a.2.2.1, (wi64 (a.2.2.2.1 + e.2.2), a.2.2.2.2)))) else if e.2.1 = 4 then (a.1, (a.2.1, (a.2.2.1, (a.2.2.2.1, wi64 (a.2.2.2.2 + e.2.2))))) else a
theorem qsa (a : Acc) (e : Ent) : qcU a e = some (qeO a e) := by
 unfold qcU qeO
 by_cases h1 : e.2.1 = 1
 ·simp [h1]
 ·by_cases h2 : e.2.1 = 2
  ·simp [h2]
  ·by_cases h3 : e.2.1 = 3
   ·simp [h3]
   ·by_cases h4 : e.2.1 = 4
    ·simp [h4]
    ·simp [h1, h2, h3, h4]
theorem qx6 {s : List Acc} (h : s.length ≤ 1000000) : qai s = some s := by
 unfold qai
 have hf : fits (0 + s.length) 48 = true := qaz (by omega)
 rw [hf]; rfl
structure PostP (l : List Acc) (e : Ent) (r : List Acc × Int) : Prop where
 bad : ¬ (qr9 l ∧ entP e = true) → r = (l, 27)
 good : qr9 l → entP e = true → ∃ k, LbP l e.1 k ∧
  ((k < l.length ∧ (l.getD k d0).1 = e.1 ∧ r = if accP (qeO (l.getD k d0) e) = true then (l.set k (qeO (l.getD k d0) e), 0) else (l, 4)) ∨
   (¬ (k < l.length ∧ (l.getD k d0).1 = e.1) ∧ r = if accP (qeO (e.1, (0, (0, (0, 0)))) e) = true ∧ l.length ≠ 64 then (l.take k ++ qeO (e.1, (0, (0, (0, 0)))) e :: l.drop k, 0) else (l, 4)))
theorem qwJ {l : List Acc} {e : Ent} (hl : l.length ≤ 100000) : ∃ r : List Acc × Int, qep l e = some (r.2, r.1) ∧ PostP l e r := by
 unfold qep
 rw [qx6 (by omega), valid_eq (by omega)]
 simp only [Option.bind_some]
 rw [show qdN (e.1, (e.2.1, e.2.2)) = some (entP e) from qAi e]
 by_cases hv : qr8 l = true
 ·have hv' := qpZ.1 hv
  rw [hv]
  by_cases he : entP e = true
  ·rw [he]
   obtain ⟨k, hk, hf⟩ := qzv (s := e.1) hv'
   have hn := hv'.n
   have hkl := hk.le
   have hkinds : e.2.1 = 1 ∨ e.2.1 = 2 ∨ e.2.1 = 3 ∨ e.2.1 = 4 := by
    simp only [entP, Bool.and_eq_true, Bool.or_eq_true, decide_eq_true_eq] at he
    rcases he.1 with h | h
    ·rcases h.1 with h | h | h
     ·exact .inl h
     ·exact .inr (.inl h)
     ·exact .inr (.inr (.inl h))
    ·exact .inr (.inr (.inr h.1))
   simp only [Bool.not_true, cond_false, cond_true, Option.bind_some, hf]
   by_cases hfd : k < l.length ∧ (l.getD k d0).1 = e.1
   ·-- there is an account
    rw [dec_t hfd]
    refine ⟨if accP (qeO (l.getD k d0) e) = true then (l.set k (qeO (l.getD k d0) e), 0) else (l, 4), ?_, ?_⟩
    ·simp only [cond_true, gd_t (inB_t hfd.1), Int.toNat_natCast, Option.bind_some]
     rw [show qcU ((l.getD k d0).1, (((l.getD k d0).2).1, ((((l.getD k d0).2).2).1, (((((l.getD k d0).2).2).2).1, ((((l.getD k d0).2).2).2).2)))) (e.1, (e.2.1, e.2.2)) = some (qeO (l.getD k d0) e) from qsa _ _]
     simp only [Option.bind_some]
     rw [show ∀ q : Acc, qch (q.1, (q.2.1, (q.2.2.1, (q.2.2.2.1, q.2.2.2.2)))) = some (accP q) from fun q => qwH q]
     cases accP (qeO (l.getD k d0) e)
     ·rfl
     ·simp only [Option.bind_some, Bool.not_true, cond_false, gd_t (inB_t hfd.1)]
      rfl
    ·exact ⟨fun h => absurd ⟨hv', he⟩ h, fun _ _ => ⟨k, hk, .inl ⟨hfd.1, hfd.2, rfl⟩⟩⟩
   ·-- there is none
    rw [dec_f hfd]
    have htl : (l.take k).length = k := by rw [List.length_take]; omega
    refine ⟨if accP (qeO (e.1, (0, (0, (0, 0)))) e) = true ∧ l.length ≠ 64 then (l.take k ++ qeO (e.1, (0, (0, (0, 0)))) e :: l.drop k, 0) else (l, 4), ?_, ?_⟩
    ·simp only [cond_false, Option.bind_some, Bool.not_false, cond_true]
     rw [show qcU (e.1, (0, (0, (0, 0)))) (e.1, (e.2.1, e.2.2)) = some (qeO (e.1, (0, (0, (0, 0)))) e) from qsa _ _]
     simp only [Option.bind_some]
     rw [show ∀ q : Acc, qch (q.1, (q.2.1, (q.2.2.1, (q.2.2.2.1, q.2.2.2.2)))) = some (accP q) from fun q => qwH q]
     cases ha : accP (qeO (e.1, (0, (0, (0, 0)))) e)
     ·simp only [Option.bind_some, Bool.not_false, cond_true]
      rw [if_neg (fun h => by cases h.1)]
     ·simp only [Option.bind_some, Bool.not_true, cond_false]
      by_cases h64 : l.length = 64
      ·rw [dec_t (show (l.length : Int) = 64 by omega), if_neg (fun h => h.2 h64)]; rfl
      ·rw [dec_f (show ¬ (l.length : Int) = 64 by omega), if_pos (by exact ⟨trivial, h64⟩)]
       simp only [cond_false, decide_true, Bool.true_and, Int.toNat_natCast]
       rw [gd_t (show cutG none (some (.i64, (k : Int))) l.length = true by unfold cutG; simp only [Bool.and_eq_true, decide_eq_true_eq]; omega),
        gd_t (show cutG (some (.i64, (k : Int))) none l.length = true by unfold cutG; simp only [Bool.and_eq_true, decide_eq_true_eq]; omega), gd_t (qaz (by rw [htl]; omega)), gd_t (qaz (by simp; omega))]
       simp only [List.append_assoc, List.cons_append, List.nil_append]
    ·exact ⟨fun h => absurd ⟨hv', he⟩ h, fun _ _ => ⟨k, hk, .inr ⟨hfd, rfl⟩⟩⟩
  ·rw [Bool.not_eq_true] at he
   rw [he]
   exact ⟨(l, 27), rfl, fun _ => rfl, fun _ h => by rw [he] at h; cases h⟩
 ·have hv2 := hv
  rw [Bool.not_eq_true] at hv
  rw [hv]
  exact ⟨(l, 27), rfl, fun _ => rfl, fun h => absurd (qpZ.2 h) hv2⟩
end Go.Proofs.YtnkfkceghbkkkaaGreat.Ac
namespace Go.Proofs.YtnkfkceghbkkkaaGreat.Ac
open Go Go.Sq
noncomputable def postF (l : List Acc) (e : Ent) : List Acc × Int := (fun r : Int × List Acc => (r.2, r.1)) ((qep l e).getD (0, []))
theorem post_eq {l : List Acc} {e : Ent} (hl : l.length ≤ 100000) : qep l e = some ((postF l e).2, (postF l e).1) ∧ True ∧ PostP l e (postF l e) := by
 obtain ⟨r, h1, h3⟩ := qwJ (e := e) hl
 have : postF l e = r := by unfold postF; rw [h1]; rfl
 rw [this]; exact ⟨h1, trivial, h3⟩
theorem post_len {l : List Acc} {e : Ent} (hl : l.length ≤ 100000) : (postF l e).1.length ≤ l.length + 1 := by
 obtain ⟨_, _, h⟩ := post_eq (e := e) hl
 by_cases hg : qr9 l ∧ entP e = true
 ·obtain ⟨k, hk, ⟨_, _, h3⟩ | ⟨_, h3⟩⟩ := h.good hg.1 hg.2
  ·rw [h3]; split <;> simp
  ·have := hk.le
   rw [h3]; split
   ·simp; omega
   ·simp
 ·rw [h.bad hg]; simp
noncomputable def bookF : List Ent → List Acc → List Acc × Int
 | [], a => (a, 0)
 | e :: r, a => if (postF a e).2 = 0 then bookF r (postF a e).1 else ([], (postF a e).2)
end Go.Proofs.YtnkfkceghbkkkaaGreat.Ac
