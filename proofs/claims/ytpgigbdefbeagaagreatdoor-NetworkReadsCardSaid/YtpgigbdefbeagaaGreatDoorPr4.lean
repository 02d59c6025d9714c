/- Lines, words and numbers. No condition. -/
import Derived.Test.YtpgigbdefbeagaaGreatDoorNw0
namespace Go.Proofs.YtpgigbdefbeagaaGreatDoor
open Go Go.Sq
def dig (b : UInt8) : Bool := Nat.ble 48 b.toNat && Nat.ble b.toNat 57
def valD : Nat → List UInt8 → Nat
 | acc, [] => acc
 | acc, c :: r => valD (acc * 10 + (c.toNat - 48)) r
def mns : List UInt8 → Bool
 | [] => false
 | c :: _ => c == 45
def dgs : List UInt8 → List UInt8
 | [] => []
 | c :: r => bif c == 45 then r else c :: r
theorem qfF (c : UInt8) (r : List UInt8) : dgs (c :: r) = bif c == 45 then r else c :: r := rfl
def qfG (s : List UInt8) : Int × Int :=
 bif (dgs s).isEmpty || ((dgs s).headD 0 == 48 && !decide (s = [48])) || !(dgs s).all dig then (0, 3)
 else bif decide (9007199254740992 < valD 0 (dgs s)) then (0, 1)
 else (bif mns s then -(valD 0 (dgs s) : Int) else (valD 0 (dgs s) : Int), 0)
theorem qsu (s : List UInt8) : qb1 s [45] = some (dgs s) := by
 unfold qb1 qaZ qa5
 cases s with
 | nil => rfl
 | cons c r =>
  have h1 : decide ((([45] : List UInt8).length : Int) ≤ ((c :: r).length : Int)) = true := decide_eq_true (by simp; omega)
  have h2 : cutG none (some (.i64, (([45] : List UInt8).length : Int))) (c :: r).length = true := by simp [cutG]; omega
  have h3 : cutG (some (.i64, (([45] : List UInt8).length : Int))) none (c :: r).length = true := by simp [cutG]; omega
  rw [h1, cond_true, gd_t h2, Option.bind_some, gd_t h3]
  have h4 : decide ((c :: r).take (([45] : List UInt8).length : Int).toNat = [45]) = (c == 45) := by
   rw [Bool.eq_iff_iff]; simp
  rw [h4, qfF]
  cases c == 45 <;> rfl
theorem numL0 (r : List UInt8) (h : r.length ≤ 4611686018427387904) : iter (fun x => qb7 r x) 0 = some (bif r.all dig then .inl () else .inr (0, 3)) := by
 refine scan r 0 dig (fun i hi hq => ?_) (fun i hi hq => ?_) ?_
 ·simp only [dig, Bool.and_eq_true, Nat.ble_eq] at hq
  unfold qb7
  rw [dec_t (by omega), cond_true, gd_t (inB_t hi), gd_t (inB_t hi), Int.toNat_natCast, dec_f (by simp only [Int.ofNat_eq_natCast]; omega), cond_false, dec_f (by simp only [Int.ofNat_eq_natCast]; omega), Option.bind_some, cond_false, w1 hi h]
 ·have hq : ¬ (48 ≤ (r.getD i 0).toNat ∧ (r.getD i 0).toNat ≤ 57) := by
   intro h; rw [show dig (r.getD i 0) = true by simp only [dig, Bool.and_eq_true, Nat.ble_eq]; exact h] at hq; cases hq
  unfold qb7
  rw [dec_t (by omega), cond_true, gd_t (inB_t hi), gd_t (inB_t hi), Int.toNat_natCast]
  by_cases h48 : (r.getD i 0).toNat < 48
  ·rw [dec_t (by simp only [Int.ofNat_eq_natCast]; omega)]; rfl
  ·rw [dec_f (by simp only [Int.ofNat_eq_natCast]; omega), cond_false, dec_t (by simp only [Int.ofNat_eq_natCast]; omega)]; rfl
 ·unfold qb7
  rw [dec_f (by omega)]; rfl
theorem qnc : ∀ (l : List UInt8) (acc : Nat), acc ≤ valD acc l
 | [], _ => Nat.le_refl _
 | c :: r, acc => by have := qnc r (acc * 10 + (c.toNat - 48)); unfold valD; omega
theorem pu_eq : ∀ (l : List UInt8) (acc : Nat), acc < 18446744073709551616 → l.all dig = true → Lib.parseUint10 acc l = if valD acc l < 18446744073709551616 then .ok (valD acc l) else .range
 | [], acc, h, _ => by unfold valD Lib.parseUint10; rw [if_pos h]
 | c :: r, acc, h, hd => by
  simp only [List.all_cons, Bool.and_eq_true, dig, Nat.ble_eq] at hd
  unfold Lib.parseUint10
  rw [if_pos hd.1]
  have hge := qnc r (acc * 10 + (c.toNat - 48))
  by_cases h1 : 1844674407370955162 ≤ acc
  ·rw [if_pos h1]
   unfold valD; rw [if_neg (by omega)]
  ·rw [if_neg h1]
   by_cases h2 : 18446744073709551616 ≤ acc * 10 + (c.toNat - 48)
   ·rw [if_pos h2]
    unfold valD; rw [if_neg (by omega)]
   ·rw [if_neg h2, pu_eq r _ (by omega) (by simpa [dig] using hd.2)]
    rfl
theorem qsv (s : List UInt8) (h0 : dgs s ≠ []) (hd : (dgs s).all dig = true) : Lib.atoiAll s = (if valD 0 (dgs s) < 18446744073709551616 then
  (if ¬ mns s = true ∧ 9223372036854775808 ≤ valD 0 (dgs s) then .range else if mns s = true ∧ 9223372036854775808 < valD 0 (dgs s) then .range else .ok (if mns s = true then -(valD 0 (dgs s) : Int) else valD 0 (dgs s))) else .range) := by
 cases s with
 | nil => exact absurd rfl h0
 | cons c r =>
  have hc45 : (c.toNat = 45) ↔ (c == 45) = true := by
   rw [beq_iff_eq]
   constructor
   ·intro h; exact UInt8.toNat_inj.1 h
   ·rintro rfl; rfl
  have key : Lib.parseMag (if c.toNat = 43 ∨ c.toNat = 45 then r else c :: r) = if valD 0 (dgs (c :: r)) < 18446744073709551616 then .ok (valD 0 (dgs (c :: r))) else .range := by
   by_cases h45 : c.toNat = 45
   ·have hb := hc45.1 h45
    have e : dgs (c :: r) = r := by rw [qfF, hb]; rfl
    rw [e] at h0 hd ⊢
    rw [if_pos (.inr h45)]
    unfold Lib.parseMag
    rw [if_neg h0]
    exact pu_eq r 0 (by decide) hd
   ·have hb : (c == 45) = false := Bool.eq_false_iff.2 fun h => h45 (hc45.2 h)
    have e : dgs (c :: r) = c :: r := by rw [qfF, hb]; rfl
    rw [e] at h0 hd ⊢
    have h43 : c.toNat ≠ 43 := by
     simp only [List.all_cons, Bool.and_eq_true, dig, Nat.ble_eq] at hd
     omega
    rw [if_neg (by omega)]
    unfold Lib.parseMag
    rw [if_neg h0]
    exact pu_eq _ 0 (by decide) hd
  unfold Lib.atoiAll
  simp only [hc45] at key ⊢
  rw [key]
  by_cases hv : valD 0 (dgs (c :: r)) < 18446744073709551616
  ·rw [if_pos hv, if_pos hv]; rfl
  ·rw [if_neg hv, if_neg hv]
theorem qrh (s : List UInt8) (h : s.length ≤ 281474976710656) : atoiT s = some (match Lib.atoiAll s with
  | .ok v => (v, false)
  | .range => (Lib.atoiSat s, true)
  | _ => (0, true)) := by
 unfold atoiT
 rw [Nat.ble_eq_true_of_le h]; rfl
theorem qr3 (s : List UInt8) (h : s.length ≤ 281474976710656) : qeS s = some (qfG s) := by
 have hl : (dgs s).length ≤ s.length := by
  cases s with
  | nil => exact Nat.le_refl _
  | cons c r => rw [qfF]; cases c == 45 <;> simp
 unfold qeS
 rw [qsu, Option.bind_some]
 have e1 : (bif decide (dgs s = []) then some true else (gd (inB 0 (dgs s).length) <| bif decide ((Int.ofNat ((dgs s).getD 0 0).toNat) = 48) then some (!decide (s = [48])) else some false)) = some ((dgs s).isEmpty || ((dgs s).headD 0 == 48 && !decide (s = [48]))) := by
  cases hd : dgs s with
  | nil => rfl
  | cons c r =>
   rw [dec_f (by simp), cond_false, gd_t (inB0 (by simp))]
   have e : decide ((Int.ofNat ((c :: r).getD 0 0).toNat) = 48) = (c == 48) := by
    rw [Bool.eq_iff_iff, decide_eq_true_iff, beq_iff_eq]
    simp only [List.getD_cons_zero, Int.ofNat_eq_natCast]
    constructor
    ·intro h; exact UInt8.toNat_inj.1 (by show c.toNat = 48; omega)
    ·rintro rfl; rfl
   rw [e]
   simp only [List.isEmpty_cons, Bool.false_or, List.headD_cons]
   cases c == 48 <;> rfl
 rw [e1, Option.bind_some]
 unfold qfG
 cases hc : (dgs s).isEmpty || ((dgs s).headD 0 == 48 && !decide (s = [48])) with
 | true => simp
 | false =>
  rw [cond_false, numL0 _ (by omega), Option.bind_some]
  cases hd : (dgs s).all dig with
  | false => rfl
  | true =>
   have h0 : dgs s ≠ [] := by
    intro e; rw [e] at hc; simp at hc
   simp only [cond_true, Sum.elim_inl, Bool.false_or, Bool.not_true, cond_false]
   rw [qrh s h, Option.bind_some, qsv s h0 hd]
   by_cases hv : valD 0 (dgs s) < 18446744073709551616
   ·rw [if_pos hv]
    cases hm : mns s with
    | true =>
     rw [if_neg (by simp)]
     by_cases h2 : 9223372036854775808 < valD 0 (dgs s)
     ·rw [if_pos ⟨rfl, h2⟩, dec_t (show 9007199254740992 < valD 0 (dgs s) by omega)]; rfl
     ·rw [if_neg (fun h => h2 h.2), if_pos rfl]
      simp only [cond_false]
      by_cases h3 : 9007199254740992 < valD 0 (dgs s)
      ·rw [dec_t h3, dec_t (show -(valD 0 (dgs s) : Int) < -9007199254740992 by omega)]; rfl
      ·rw [dec_f h3, dec_f (show ¬ -(valD 0 (dgs s) : Int) < -9007199254740992 by omega), cond_false, dec_f (show ¬ (9007199254740992 < -(valD 0 (dgs s) : Int)) by omega)]; rfl
    | false =>
     by_cases h2 : 9223372036854775808 ≤ valD 0 (dgs s)
     ·rw [if_pos ⟨by simp, h2⟩, dec_t (show 9007199254740992 < valD 0 (dgs s) by omega)]; rfl
     ·rw [if_neg (fun h => h2 h.2), if_neg (by simp), if_neg (by simp)]
      simp only [cond_false]
      by_cases h3 : 9007199254740992 < valD 0 (dgs s)
      ·rw [dec_t h3, dec_f (show ¬ (valD 0 (dgs s) : Int) < -9007199254740992 by omega), cond_false, dec_t (show (9007199254740992 < (valD 0 (dgs s) : Int)) by omega)]; rfl
      ·rw [dec_f h3, dec_f (show ¬ (valD 0 (dgs s) : Int) < -9007199254740992 by omega), cond_false, dec_f (show ¬ (9007199254740992 < (valD 0 (dgs s) : Int)) by omega)]; rfl
   ·rw [if_neg hv, dec_t (show 9007199254740992 < valD 0 (dgs s) by omega)]; rfl
theorem qhV (c : UInt8) : ∀ (l : List UInt8) (acc : Nat), valD acc (l ++ [c]) = valD acc l * 10 + (c.toNat - 48)
 | [], _ => rfl
 | _ :: r, _ => qhV c r _
structure Digs (n : Nat) (D : List UInt8) : Prop where
 ne : D ≠ []
 all : D.all dig = true
 val : valD 0 D = n
 hd : 0 < n → D.headD 0 ≠ 48
 z : n = 0 → D = [48]
def chr (n : Nat) : UInt8 := UInt8.ofNat (48 + n % 10)
theorem qid (n : Nat) : (chr n).toNat = 48 + n % 10 := by unfold chr; rw [UInt8.toNat_ofNat']; omega
theorem qk4 (n : Nat) : dig (chr n) = true := by
 simp only [dig, Bool.and_eq_true, Nat.ble_eq, qid]; omega
theorem Digs.head {n : Nat} {D : List UInt8} (h : Digs n D) : ∃ a r, D = a :: r ∧ dig a = true := by
 have h1 := h.ne
 have h2 := h.all
 cases D with
 | nil => exact absurd rfl h1
 | cons a r => exact ⟨a, r, rfl, by simp only [List.all_cons, Bool.and_eq_true] at h2; exact h2.1⟩
end Go.Proofs.YtpgigbdefbeagaaGreatDoor
namespace Go.Proofs.YtpgigbdefbeagaaGreatDoor
open Go Go.Sq
def splB (c : UInt8) : Str → List Str
 | [] => [[]]
 | x :: l => bif x == c then [] :: splB c l else match splB c l with
  | [] => [[x]]
  | h :: t => (x :: h) :: t
theorem qjC (c : UInt8) (s : Str) : splB c s ≠ [] := by
 cases s with
 | nil => simp [splB]
 | cons x l =>
  unfold splB
  cases x == c with
  | true => simp
  | false => simp only [cond_false]; split <;> simp
theorem qk5 {c : UInt8} : ∀ {X : Str}, c ∉ X → splB c X = [X]
 | [], _ => rfl
 | x :: l, h => by
  simp only [List.mem_cons, not_or] at h
  unfold splB
  rw [show (x == c) = false by rw [beq_eq_false_iff_ne]; exact fun e => h.1 e.symm, cond_false, qk5 h.2]
theorem qhW {c : UInt8} (r : Str) : ∀ {X : Str}, c ∉ X → splB c (X ++ c :: r) = X :: splB c r
 | [], _ => by simp [splB]
 | x :: l, h => by
  simp only [List.mem_cons, not_or] at h
  rw [List.cons_append]
  conv => lhs; unfold splB
  rw [show (x == c) = false by rw [beq_eq_false_iff_ne]; exact fun e => h.1 e.symm, cond_false, qhW r h.2]
theorem qk6 (c : UInt8) : ∀ s : Str, (splB c s).length = s.count c + 1
 | [] => rfl
 | x :: l => by
  unfold splB
  rw [List.count_cons]
  have ih := qk6 c l
  cases hx : x == c with
  | true => simp [ih]
  | false =>
   simp only [cond_false, Bool.false_eq_true, if_false, Nat.add_zero]
   split
   ·rename_i h; exact absurd h (qjC c l)
   ·rename_i h t hs
    rw [hs] at ih
    exact ih
def lns : Str → List Str
 | [] => []
 | x :: l => bif x == 10 then [] :: lns l else match lns l with
  | [] => [[x]]
  | h :: t => (x :: h) :: t
theorem qqe : ∀ {X : Str}, (10 : UInt8) ∉ X → lns X = if X = [] then [] else [X]
 | [], _ => rfl
 | x :: l, h => by
  simp only [List.mem_cons, not_or] at h
  unfold lns
  rw [show (x == (10 : UInt8)) = false by rw [beq_eq_false_iff_ne]; exact fun e => h.1 e.symm, cond_false, qqe h.2]
  by_cases hl : l = []
  ·subst hl; rfl
  ·rw [if_neg hl, if_neg (by simp)]
theorem qk7 (r : Str) : ∀ {X : Str}, (10 : UInt8) ∉ X → lns (X ++ 10 :: r) = X :: lns r
 | [], _ => by simp [lns]
 | x :: l, h => by
  simp only [List.mem_cons, not_or] at h
  rw [List.cons_append]
  conv => lhs; unfold lns
  rw [show (x == (10 : UInt8)) = false by rw [beq_eq_false_iff_ne]; exact fun e => h.1 e.symm, cond_false, qk7 r h.2]
theorem qnd : ∀ s : Str, (lns s).length = s.count 10 + (if s = [] ∨ s.getLast? = some 10 then 0 else 1)
 | [] => rfl
 | x :: l => by
  unfold lns
  rw [List.count_cons]
  have ih := qnd l
  have e0 : (x :: l = [] ∨ (x :: l).getLast? = some 10) ↔ (if l = [] then x = 10 else l.getLast? = some 10) := by
   cases l with
   | nil => simp
   | cons y r => simp [List.getLast?_cons_cons]
  cases hx : x == (10 : UInt8) with
  | true =>
   rw [beq_iff_eq] at hx; subst hx
   simp only [cond_true, List.length_cons, ih, if_true]
   by_cases hl : l = []
   ·subst hl; simp
   ·have e1 : (l = [] ∨ l.getLast? = some 10) ↔ ((10 : UInt8) :: l = [] ∨ ((10 : UInt8) :: l).getLast? = some 10) := by rw [e0, if_neg hl]; simp [hl]
    simp only [e1]; omega
  | false =>
   rw [beq_eq_false_iff_ne] at hx
   simp only [cond_false, Bool.false_eq_true, if_false, Nat.add_zero]
   split
   ·rename_i h
    rw [h] at ih
    have hl : l = [] := by
     by_cases hl : l = []
     ·exact hl
     ·exfalso
      cases l with
      | nil => exact hl rfl
      | cons y r =>
       have : lns (y :: r) ≠ [] := by
        unfold lns
        cases y == (10 : UInt8) with
        | true => simp
        | false => simp only [cond_false]; split <;> simp
       exact this h
    subst hl
    simp [hx]
   ·rename_i h t hs
    rw [hs] at ih
    have hl : l ≠ [] := fun e => by rw [e] at hs; cases hs
    have e1 : (l = [] ∨ l.getLast? = some 10) ↔ (x :: l = [] ∨ (x :: l).getLast? = some 10) := by rw [e0, if_neg hl]; simp [hl]
    simp only [e1] at ih
    exact ih
theorem qhX (c : UInt8) : ∀ s : Str, (c ∉ s ∧ Lib.indexByte s c = -1) ∨ ∃ X r, s = X ++ c :: r ∧ c ∉ X ∧ Lib.indexByte s c = (X.length : Int)
 | [] => .inl ⟨by simp, rfl⟩
 | b :: l => by
  unfold Lib.indexByte
  cases hb : b == c with
  | true =>
   rw [beq_iff_eq] at hb; subst hb
   exact .inr ⟨[], l, rfl, by simp, by simp⟩
  | false =>
   rw [beq_eq_false_iff_ne] at hb
   simp only [Bool.false_eq_true, if_false]
   rcases qhX c l with ⟨h1, h2⟩ | ⟨X, r, rfl, h2, h3⟩
   ·refine .inl ⟨by simp only [List.mem_cons, not_or]; exact ⟨fun e => hb e.symm, h1⟩, by rw [h2]; rfl⟩
   ·refine .inr ⟨b :: X, r, rfl, by simp only [List.mem_cons, not_or]; exact ⟨fun e => hb e.symm, h2⟩, ?_⟩
    rw [h3]
    have : ((X.length : Int) == -1) = false := by rw [beq_eq_false_iff_ne]; omega
    rw [this]
    simp
theorem c_eq (c : UInt8) : (Int.ofNat (([c] : Str).getD 0 0).toNat).toNat.toUInt8 = c := by
 show c.toNat.toUInt8 = c
 simp
theorem qk8 (s : Str) (c : UInt8) : qaD s [c] = some (Lib.indexByte s c) := by
 unfold qaD qa3 idxB
 rw [dec_f (show ¬ ((([c] : Str).length : Int) = 0) by simp), cond_false, Option.bind_some]
 by_cases h : [c] = s
 ·rw [dec_t h, cond_true, ← h]
  unfold Lib.indexByte
  simp
 ·rw [dec_f h, cond_false, dec_t (show (([c] : Str).length : Int) = 1 by simp), cond_true, gd_t (inB0 (by simp)), c_eq]; rfl
theorem qnV (s : Str) (c : UInt8) : qc6 s [c] = some ((s.count c : Nat) : Int) := by
 unfold qc6 cntB
 rw [dec_f (show ¬ ((([c] : Str).length : Int) = 0) by simp), cond_false, dec_t (show (([c] : Str).length : Int) = 1 by simp), cond_true, gd_t (inB0 (by simp)), c_eq]
 rfl
theorem qs7 {s : Str} (h : (10 : UInt8) ∉ s) : qcX s [10] = some (s, [], false) := by
 unfold qcX qa9
 rcases qhX 10 s with ⟨_, h2⟩ | ⟨X, r, rfl, _, _⟩
 ·rw [qk8, h2]; rfl
 ·simp at h
theorem qsw {X r : Str} (h : (10 : UInt8) ∉ X) (hl : (X ++ 10 :: r).length ≤ 4611686018427387904) : qcX (X ++ 10 :: r) [10] = some (X, r, true) := by
 unfold qcX qa9
 have hi : Lib.indexByte (X ++ 10 :: r) 10 = (X.length : Int) := by
  rcases qhX 10 (X ++ 10 :: r) with ⟨h1, _⟩ | ⟨Y, q, e, h2, h3⟩
  ·simp at h1
  ·have : splB 10 (X ++ 10 :: r) = splB 10 (Y ++ 10 :: q) := by rw [e]
   rw [qhW _ h, qhW _ h2] at this
   injection this with e1 _
   rw [h3, e1]
 simp only [List.length_append, List.length_cons] at hl
 rw [qk8, hi, Option.bind_some, dec_t (show (0 : Int) ≤ (X.length : Int) by omega), cond_true]
 have e1 : wi64 ((X.length : Int) + (([10] : Str).length : Int)) = ((X.length + 1 : Nat) : Int) := by
  rw [show (([10] : Str).length : Int) = 1 from rfl, wi (by omega)]; omega
 have e2 : (X ++ 10 :: r).take X.length = X := List.take_left
 have e3 : (X ++ 10 :: r).drop (X.length + 1) = r := by simp [List.drop_append]
 rw [e1, gd_t (by simp [cutG]; omega), gd_t (by simp [cutG]; omega), Int.toNat_natCast, Int.toNat_natCast, e2, e3]; rfl
theorem ok_eq {A : Type} {x : Option A} {v : A} (h : Ok x (fun y => y = v)) : x = some v := by obtain ⟨a, h1, rfl⟩ := h; exact h1
theorem qnW {A : Type} (a : List A) (k : Nat) (x : A) (h : k + 1 = a.length) : a.set k x = a.take k ++ [x] := by
 rw [List.set_eq_take_append_cons_drop, if_pos (by omega), List.drop_of_length_le (by omega)]
theorem qri {A : Type} (a : List A) (k : Nat) (x : A) (h : k < a.length) : (a.set k x).take (k + 1) = a.take k ++ [x] := by
 rw [List.take_set, qnW _ _ _ (by simp; omega), List.take_take, Nat.min_eq_left (by omega)]
theorem qrj {c : UInt8} {s : Str} (h : (splB c s).length = 1) : splB c s = [s] := by
 rw [qk6] at h
 exact qk5 (List.count_eq_zero.1 (by omega))
theorem qrk (s : Str) (hl : s.length ≤ 1000000) : qeg s [32] = some (splB 32 s) := by
 have hP := qk6 32 s
 have hcnt : s.count 32 ≤ s.length := List.count_le_length
 unfold qeg qd1
 rw [dec_f (by decide), cond_false, dec_f (by simp), cond_false, dec_t (by decide), cond_true, qnV, Option.bind_some, Option.bind_some]
 have e1 : wi64 (((s.count 32 : Nat) : Int) + 1) = ((s.count 32 + 1 : Nat) : Int) := w1 (n := 1000001) (by omega) (by omega)
 have e2 : wi64 ((s.length : Int) + 1) = ((s.length + 1 : Nat) : Int) := w1 (n := 1000001) (by omega) (by omega)
 have e3 : min ((s.count 32 + 1 : Nat) : Int) ((s.length + 1 : Nat) : Int) = ((s.count 32 + 1 : Nat) : Int) := by omega
 rw [e1, e2, e3, gd_t (qp2 (by omega))]
 suffices h : Ok (iter (fun x => qcY s [32] 0 ((s.count 32 + 1 : Nat) : Int) x.1 x.2.1 x.2.2) (s, 0, List.replicate ((s.count 32 + 1 : Nat) : Int).toNat [])) (fun e => e.2.1 = ((s.count 32 : Nat) : Int) ∧ splB 32 e.1 = (splB 32 s).drop (s.count 32) ∧ e.2.2.length = s.count 32 + 1 ∧ e.2.2.take (s.count 32) = (splB 32 s).take (s.count 32)) by
  obtain ⟨e, h1, h2, h3, h4, h5⟩ := h
  obtain ⟨s3, i, a⟩ := e
  simp only at h2 h3 h4 h5
  subst h2
  rw [h1, Option.bind_some]
  simp only
  rw [gd_t (inB_t (by omega)), w1 (n := 1000001) (by omega) (by omega), gd_t (by simp [cutG]; omega), Int.toNat_natCast, Int.toNat_natCast, qnW a _ s3 (by omega), h5]
  have h6 : splB 32 s3 = [s3] := qrj (by rw [h3, List.length_drop]; omega)
  rw [← h6, h3, List.take_append_drop, List.take_of_length_le (by omega)]; rfl
 refine Ok.loop (fun x : Str × Int × List Str => ∃ k : Nat, x.2.1 = (k : Int) ∧ k ≤ s.count 32 ∧ splB 32 x.1 = (splB 32 s).drop k ∧ x.2.2.length = s.count 32 + 1 ∧ x.2.2.take k = (splB 32 s).take k ∧ x.1.length ≤ s.length) (fun x => s.count 32 - x.2.1.toNat)
  ⟨0, rfl, by omega, by simp, by simp, by simp, Nat.le_refl _⟩ ?_
 rintro ⟨s3, i, a⟩ ⟨k, hk, hk1, h1, h2, h3, h4⟩
 simp only at hk h1 h2 h3 h4
 subst hk
 unfold qcY
 simp only
 have e4 : wi64 ((min ((s.count 32 + 1 : Nat) : Int) (wi64 ((s.length : Int) + 1))) - 1) = ((s.count 32 : Nat) : Int) := by rw [e2, e3, wi (by omega)]; omega
 rw [e4]
 refine Ok.bif (fun hc => ?_) fun hc => ?_
 ·have hc := of_decide_eq_true hc
  have hk2 : k < s.count 32 := by omega
  rcases qhX 32 s3 with ⟨hn, _⟩ | ⟨X, r, rfl, hX, hidx⟩
  ·exfalso
   have := congrArg List.length h1
   rw [qk5 hn, List.length_drop] at this
   simp at this; omega
  ·rw [show qc5 (X ++ 32 :: r) [32] = some (X.length : Int) by unfold qc5; rw [qk8, hidx]; rfl, Option.bind_some]
   simp only [List.length_append, List.length_cons] at h4
   rw [dec_f (show ¬ (X.length : Int) < 0 by omega), cond_false]
   have e5 : wi64 ((X.length : Int) + 0) = (X.length : Int) := by rw [wi (by omega)]; omega
   have e6 : wi64 ((X.length : Int) + (([32] : Str).length : Int)) = ((X.length + 1 : Nat) : Int) := w1 (n := 1000001) (by omega) (by omega)
   rw [e5, e6, gd_t (by simp [cutG]; omega), gd_t (inB_t (by omega)), gd_t (by simp [cutG]; omega), w1 (n := 1000001) (by omega) (by omega), Int.toNat_natCast, Int.toNat_natCast, Int.toNat_natCast]
   have e7 : (X ++ 32 :: r).take X.length = X := List.take_left
   have e8 : (X ++ 32 :: r).drop (X.length + 1) = r := by simp [List.drop_append]
   rw [e7, e8]
   rw [qhW _ hX] at h1
   have hkl : k < (splB 32 s).length := by omega
   rw [List.drop_eq_getElem_cons hkl] at h1
   injection h1 with h5 h6
   refine .ret ⟨⟨k + 1, rfl, by omega, h6, by simp [h2], ?_, by simp; omega⟩, ?_⟩
   ·rw [qri _ _ _ (by omega), h3, qbe [] hkl, gD_eq hkl, h5]
   ·simp only [Int.toNat_natCast]; omega
 ·have hc := of_decide_eq_false hc
  have : k = s.count 32 := by omega
  subst this
  exact .ret ⟨rfl, h1, h2, h3⟩
def wch (b : UInt8) : Bool := Nat.ble 33 b.toNat && Nat.ble b.toNat 126
def wordB (s : Str) : Bool := s.all wch && !s.isEmpty
def qa7 (w : List Str) : Bool := Nat.ble w.length 16 && w.all wordB && !((w.headD []).headD 0 == 35)
def qgr (w : List Str) : Bool := !w.isEmpty && qa7 w
theorem lt33 (b : UInt8) : decide ((Int.ofNat b.toNat) < 33) = decide (b.toNat < 33) := by
 rw [Bool.eq_iff_iff, decide_eq_true_iff, decide_eq_true_iff]; simp only [Int.ofNat_eq_natCast]; omega
theorem gt126 (b : UInt8) : decide (126 < (Int.ofNat b.toNat)) = decide (126 < b.toNat) := by
 rw [Bool.eq_iff_iff, decide_eq_true_iff, decide_eq_true_iff]; simp only [Int.ofNat_eq_natCast]; omega
theorem eq35 (b : UInt8) : decide ((Int.ofNat b.toNat) = 35) = (b == 35) := by
 rw [Bool.eq_iff_iff, decide_eq_true_iff, beq_iff_eq]
 simp only [Int.ofNat_eq_natCast]
 constructor
 ·intro h; exact UInt8.toNat_inj.1 (by show b.toNat = 35; omega)
 ·rintro rfl; rfl
theorem wch_t {b : UInt8} (h : wch b = true) : decide (b.toNat < 33) = false ∧ decide (126 < b.toNat) = false := by
 simp only [wch, Bool.and_eq_true, Nat.ble_eq] at h
 exact ⟨decide_eq_false (by omega), decide_eq_false (by omega)⟩
theorem wch_f {b : UInt8} (h : wch b = false) : decide (b.toNat < 33) = true ∨ (decide (b.toNat < 33) = false ∧ decide (126 < b.toNat) = true) := by
 by_cases h1 : b.toNat < 33
 ·exact .inl (decide_eq_true h1)
 ·refine .inr ⟨decide_eq_false h1, decide_eq_true ?_⟩
  by_cases h2 : b.toNat ≤ 126
  ·exfalso
   rw [show wch b = true by simp only [wch, Bool.and_eq_true, Nat.ble_eq]; omega] at h; cases h
  ·omega
theorem qqf (s : Str) (hl : s.length ≤ 1000000) : qgC s = some (wordB s) := by
 unfold qgC
 have h : iter (fun x => qc8 s x) 0 = some (bif s.all wch then .inl () else .inr false) := by
  refine scan s 0 wch (fun i hi hq => ?_) (fun i hi hq => ?_) ?_
  ·obtain ⟨h1, h2⟩ := wch_t hq
   unfold qc8
   rw [dec_t (by omega), cond_true, gd_t (inB_t hi), gd_t (inB_t hi), Int.toNat_natCast, lt33, h1, cond_false, gt126, h2, Option.bind_some, cond_false, w1 hi (by omega)]
  ·unfold qc8
   rw [dec_t (by omega), cond_true, gd_t (inB_t hi), gd_t (inB_t hi), Int.toNat_natCast, lt33]
   rcases wch_f hq with h1 | ⟨h1, h2⟩
   ·rw [h1]; rfl
   ·rw [h1, cond_false, gt126, h2]; rfl
  ·unfold qc8
   rw [dec_f (by omega)]; rfl
 rw [h, Option.bind_some]
 unfold wordB
 cases s.all wch with
 | false => rfl
 | true => cases s <;> rfl
theorem qrl (l : List Str) (hl : ∀ s ∈ l, s.length ≤ 1000000) : qft l = some (qgr l) := by
 unfold qft qgr qa7
 by_cases h0 : l.length < 1
 ·have : l = [] := List.eq_nil_of_length_eq_zero (by omega)
  subst this; rfl
 ·rw [dec_f (show ¬ (l.length : Int) < 1 by omega), cond_false, Option.bind_some]
  have hne : l.isEmpty = false := by cases l with | nil => simp at h0 | cons => rfl
  by_cases h16 : 16 < l.length
  ·rw [dec_t (show 16 < (l.length : Int) by omega), hne, show Nat.ble l.length 16 = false by rw [Bool.eq_false_iff, ne_eq, Nat.ble_eq]; omega]; rfl
  ·rw [dec_f (show ¬ 16 < (l.length : Int) by omega), cond_false, hne, show Nat.ble l.length 16 = true by rw [Nat.ble_eq]; omega]
   have h : iter (fun x => qct l x) 0 = some (bif l.all wordB then .inl () else .inr false) := by
    refine scan l [] wordB (fun i hi hq => ?_) (fun i hi hq => ?_) ?_
    ·unfold qct
     rw [dec_t (by omega), cond_true, gd_t (inB_t hi), Int.toNat_natCast, qqf _ (hl _ (qaC hi)), Option.bind_some, hq, Bool.not_true, cond_false, w1 hi (by omega)]
    ·unfold qct
     rw [dec_t (by omega), cond_true, gd_t (inB_t hi), Int.toNat_natCast, qqf _ (hl _ (qaC hi)), Option.bind_some, hq]; rfl
    ·unfold qct
     rw [dec_f (by omega)]; rfl
   rw [h, Option.bind_some]
   cases ha : l.all wordB with
   | false => rfl
   | true =>
    cases l with
    | nil => simp at h0
    | cons w r =>
     simp only [List.all_cons, Bool.and_eq_true] at ha
     have hw : w ≠ [] := by
      rintro rfl
      have := ha.1
      simp [wordB] at this
     simp only [cond_true, Sum.elim_inl]
     rw [gd_t (inB0 (by simp)), gd_t (inB0 (by cases w with | nil => exact absurd rfl hw | cons => simp)), eq35]
     cases w with
     | nil => exact absurd rfl hw
     | cons => rfl
def qkd (x : Str) : Option (List Str) := bif x.isEmpty || x.headD 0 == 35 then some [] else bif qgr (splB 32 x) then some (splB 32 x) else none
def qb2 : List Str → Option (List (List Str))
 | [] => some []
 | x :: r => match qkd x with
  | none => none
  | some w => (qb2 r).map (w :: ·)
theorem qhl (x : Str) (r : List Str) : qb2 (x :: r) = match qkd x with | none => none | some w => (qb2 r).map (w :: ·) := rfl
def qax (t : Str) : List (List Str) × Int := bif Nat.blt 16384 t.length || Nat.blt 400 (lns t).length then ([], 4) else match qb2 (lns t) with
 | some l => (l, 0)
 | none => ([], 3)
theorem qgE {c : UInt8} : ∀ {s x : Str}, x ∈ splB c s → x.length ≤ s.length
 | [], x, h => by simp [splB] at h; subst h; simp
 | b :: l, x, h => by
  unfold splB at h
  cases hb : b == c with
  | true =>
   rw [hb] at h
   rcases List.mem_cons.1 h with rfl | h
   ·simp
   ·have := qgE h; simp; omega
  | false =>
   rw [hb] at h
   simp only [cond_false] at h
   split at h
   ·simp at h; subst h; simp
   ·rename_i q t hs
    rcases List.mem_cons.1 h with rfl | h
    ·have := qgE (s := l) (x := q) (by rw [hs]; simp)
     simp; omega
    ·have := qgE (s := l) (x := x) (by rw [hs]; simp [h])
     simp; omega
theorem qsx {s : Str} (h : s ≠ []) (hl : s.length ≤ 1000000) : ∃ X r b, qcX s [10] = some (X, r, b) ∧ lns s = X :: lns r ∧ r.length < s.length ∧ X.length ≤ s.length := by
 rcases qhX 10 s with ⟨hn, _⟩ | ⟨X, r, rfl, hX, _⟩
 ·refine ⟨s, [], false, qs7 hn, ?_, ?_, Nat.le_refl _⟩
  ·rw [qqe hn, if_neg h]; rfl
  ·cases s with
   | nil => exact absurd rfl h
   | cons => simp
 ·exact ⟨X, r, true, qsw hX (by omega), qk7 r hX, by simp; omega, by simp⟩
theorem qqg (t : Str) (h : t ≠ []) (hl : t.length ≤ 1000000) : qaY t [10] = some (decide (t.getLast? = some 10)) := by
 unfold qaY qa4
 have hp : 0 < t.length := by cases t with | nil => exact absurd rfl h | cons => simp
 rw [dec_t (show (([10] : Str).length : Int) ≤ (t.length : Int) by simp; omega), cond_true]
 have e : wi64 ((t.length : Int) - (([10] : Str).length : Int)) = ((t.length - 1 : Nat) : Int) := by
  rw [show (([10] : Str).length : Int) = 1 from rfl, wi (by omega)]; omega
 rw [e, gd_t (by simp [cutG]), Option.bind_some, Int.toNat_natCast]
 congr 1
 rw [Bool.eq_iff_iff, decide_eq_true_iff, decide_eq_true_iff]
 have e2 : t.drop (t.length - 1) = [t.getLast h] := by
  conv => lhs; rw [← List.dropLast_concat_getLast h]
  rw [List.drop_append_of_le_length (by simp)]
  simp
 rw [e2, List.getLast?_eq_some_getLast h]
 simp
theorem qqh (t : Str) (hl : t.length ≤ 1000000) : ((Option.bind (α := Bool) (bif !decide (t = []) then ((qaY t [10]).bind fun r2 => some (!r2)) else some false)) fun s => Option.bind (α := Int) (bif s then some (wi64 (((t.count 10 : Nat) : Int) + 1)) else some ((t.count 10 : Nat) : Int)) fun s2 => some s2) = some (((lns t).length : Nat) : Int) := by
 have hc : t.count 10 ≤ t.length := List.count_le_length
 rw [qnd]
 by_cases h : t = []
 ·subst h; rfl
 ·rw [dec_f h, Bool.not_false, cond_true, qqg t h hl, Option.bind_some, Option.bind_some]
  by_cases h2 : t.getLast? = some 10
  ·rw [dec_t h2, if_pos (.inr h2)]; rfl
  ·rw [dec_f h2, if_neg (fun hh => hh.elim h h2), Bool.not_false, cond_true, w1 (n := 1000001) (by omega) (by omega)]; rfl
theorem qrm : ∀ t : Str, (lns t).length ≤ t.length := by
 intro t
 rw [qnd]
 have h1 : t.count 10 ≤ t.length := List.count_le_length
 by_cases h : t = [] ∨ t.getLast? = some 10
 ·rw [if_pos h]; omega
 ·rw [if_neg h]
  rw [not_or] at h
  have h2 : t.count 10 < t.length := by
   rw [← List.dropLast_concat_getLast h.1, List.count_append, List.length_append]
   have h3 : t.dropLast.count 10 ≤ t.dropLast.length := List.count_le_length
   have h4 : List.count 10 [t.getLast h.1] = 0 := by
    rw [List.count_eq_zero]
    simp only [List.mem_singleton]
    intro e
    exact h.2 (by rw [List.getLast?_eq_some_getLast h.1, ← e])
   simp only [h4, List.length_singleton]; omega
  omega
theorem qqi (t : Str) (hl : t.length ≤ 1000000) : qfu t = some (qax t) := by
 unfold qfu qax
 rw [qnV, Option.bind_some]
 have hn := qqh t hl
 have hle := qrm t
 -- the number of lines
 obtain ⟨s, hs⟩ : ∃ s, (bif !decide (t = []) then ((qaY t [10]).bind fun r2 => some (!r2)) else some false) = some s := by
  cases h : (bif !decide (t = []) then ((qaY t [10]).bind fun r2 => some (!r2)) else some false) with
  | none => rw [h] at hn; cases hn
  | some s => exact ⟨s, rfl⟩
 rw [hs] at hn ⊢
 rw [Option.bind_some] at hn ⊢
 obtain ⟨m, hm⟩ : ∃ m, (bif s then some (wi64 (((t.count 10 : Nat) : Int) + 1)) else some ((t.count 10 : Nat) : Int)) = some m := by cases s <;> exact ⟨_, rfl⟩
 rw [hm] at hn ⊢
 rw [Option.bind_some] at hn ⊢
 have hn : m = ((lns t).length : Int) := by injection hn
 subst hn
 by_cases h1 : 16384 < t.length
 ·rw [dec_t (show 16384 < (t.length : Int) by omega), show Nat.blt 16384 t.length = true by rw [Nat.blt_eq]; exact h1]; rfl
 ·rw [dec_f (show ¬ 16384 < (t.length : Int) by omega), cond_false, Option.bind_some, show Nat.blt 16384 t.length = false by rw [Bool.eq_false_iff, ne_eq, Nat.blt_eq]; exact h1, Bool.false_or]
  by_cases h2 : 400 < (lns t).length
  ·rw [dec_t (show 400 < ((lns t).length : Int) by omega), show Nat.blt 400 (lns t).length = true by rw [Nat.blt_eq]; exact h2]; rfl
  ·rw [dec_f (show ¬ 400 < ((lns t).length : Int) by omega), cond_false, show Nat.blt 400 (lns t).length = false by rw [Bool.eq_false_iff, ne_eq, Nat.blt_eq]; exact h2, cond_false]
   rw [gd_t (by rw [Bool.and_eq_true, Bool.and_eq_true]; exact ⟨⟨rfl, decide_eq_true (by omega)⟩, qp2 (by omega)⟩)]
   suffices h : Ok (iter (fun x => qe1 x.1 x.2) (t, List.replicate 0 [])) (fun e => match qb2 (lns t) with
     | some l => e = .inl l
     | none => e = .inr ([], 3)) by
    obtain ⟨e, h3, h4⟩ := h
    rw [h3, Option.bind_some]
    cases hm : qb2 (lns t) with
    | none => rw [hm] at h4; rw [h4]; rfl
    | some l => rw [hm] at h4; rw [h4]; rfl
   refine Ok.loop (fun x : Str × List (List Str) => qb2 (lns t) = (qb2 (lns x.1)).map (x.2 ++ ·) ∧ x.1.length ≤ t.length ∧ x.2.length + (lns x.1).length ≤ 400) (fun x => x.1.length) ⟨?_, Nat.le_refl _, by simp; omega⟩ ?_
   ·show _ = (qb2 (lns t)).map (List.replicate 0 [] ++ ·)
    cases qb2 (lns t) <;> simp
   rintro ⟨t2, out⟩ ⟨g1, g2, g3⟩
   simp only at g1 g2 g3
   unfold qe1
   simp only
   refine Ok.bif (fun hc => ?_) fun hc => ?_
   ·have h0 : t2 ≠ [] := by intro e; rw [dec_t e] at hc; cases hc
    obtain ⟨X, r, b, c1, c2, c3, c4⟩ := qsx h0 (by omega)
    rw [c2] at g1 g3
    simp only [List.length_cons] at g3
    refine Ok.eq c1 ?_
    simp only
    have e1 : (bif decide (X = []) then some (true, out) else gd (inB 0 X.length) <| some (decide ((Int.ofNat (X.getD 0 0).toNat) = 35), out)) = some (X.isEmpty || X.headD 0 == 35, out) := by
     cases X with
     | nil => rfl
     | cons a q => rw [dec_f (by simp), cond_false, gd_t (inB0 (by simp)), eq35]; rfl
    refine Ok.eq e1 ?_
    simp only
    rw [qhl] at g1
    unfold qkd at g1
    refine Ok.bif (fun hc => ?_) fun hc => ?_
    ·rw [hc] at g1
     refine Ok.gd (qaz (by omega)) (.ret ⟨⟨?_, (by show List.length r ≤ _; omega), (by simp; omega)⟩, c3⟩)
     rw [g1]
     simp only [cond_true]
     cases qb2 (lns r) <;> simp
    ·rw [hc] at g1
     refine Ok.eq (qrk X (by omega)) ?_
     refine Ok.eq (qrl _ (fun s hs => Nat.le_trans (qgE hs) (by omega))) ?_
     refine Ok.bif (fun hw => ?_) fun hw => ?_
     ·have hw : qgr (splB 32 X) = false := by simpa using hw
      rw [hw] at g1
      refine .ret ?_
      rw [g1]; rfl
     ·have hw : qgr (splB 32 X) = true := by simpa using hw
      rw [hw] at g1
      refine Ok.gd (qaz (by omega)) (.ret ⟨⟨?_, (by show List.length r ≤ _; omega), (by simp; omega)⟩, c3⟩)
      rw [g1]
      simp only [cond_true, cond_false]
      cases qb2 (lns r) <;> simp
   ·have h0 : t2 = [] := by
     by_cases e : t2 = []
     ·exact e
     ·rw [dec_f e] at hc; cases hc
    subst h0
    refine .ret ?_
    rw [g1]
    simp [lns, qb2]
end Go.Proofs.YtpgigbdefbeagaaGreatDoor
namespace Go.Proofs.YtpgigbdefbeagaaGreatDoor
open Go Go.Sq
abbrev joinS (w : List Str) : Str := Lib.join w [32]
theorem qeM (a b : Str) (r : List Str) : joinS (a :: b :: r) = a ++ 32 :: joinS (b :: r) := by
 simp [joinS, Lib.join, List.intercalate]
theorem qke (x : Str) : ∀ {l : List Str}, l ≠ [] → joinS (l ++ [x]) = joinS l ++ 32 :: x
 | [], h => absurd rfl h
 | [a], _ => by
  show joinS (a :: x :: []) = _
  rw [qeM]
  simp [joinS, Lib.join, List.intercalate]
 | a :: b :: r, _ => by
  show joinS (a :: b :: (r ++ [x])) = _
  rw [qeM, qeM, show b :: (r ++ [x]) = (b :: r) ++ [x] from rfl, qke x (by simp), List.append_assoc]; rfl
def sumL (w : List Str) : Nat := (w.map List.length).sum
theorem qnX (a b : List Str) : sumL (a ++ b) = sumL a + sumL b := by simp [sumL]
theorem ql0 (w : List Str) (k : Nat) : sumL (w.take k) ≤ sumL w := by
 have := qnX (w.take k) (w.drop k)
 rw [List.take_append_drop] at this; omega
theorem qqj {w : List Str} {n : Nat} (h : ∀ s ∈ w, s.length ≤ n) : sumL w ≤ w.length * n := by
 induction w with
 | nil => simp [sumL]
 | cons a r ih =>
  have h1 := h a (by simp)
  have h2 := ih (fun s hs => h s (by simp [hs]))
  have : sumL (a :: r) = a.length + sumL r := by simp [sumL]
  rw [this, List.length_cons, Nat.add_mul]; omega
theorem qhY : ∀ {w : List Str}, w ≠ [] → (joinS w).length + 1 = sumL w + w.length
 | [], h => absurd rfl h
 | [a], _ => by simp [joinS, Lib.join, List.intercalate, sumL]
 | a :: b :: r, _ => by
  rw [qeM]
  have ih := qhY (w := b :: r) (by simp)
  have : sumL (a :: b :: r) = a.length + sumL (b :: r) := by simp [sumL]
  rw [this]
  simp only [List.length_append, List.length_cons] at ih ⊢
  omega
theorem qk9 (w : List Str) : (joinS w).length ≤ sumL w + w.length := by
 cases w with
 | nil => simp [joinS, Lib.join, List.intercalate]
 | cons a r => have := qhY (w := a :: r) (by simp); omega
def txt (l : List (List Str)) : Str := l.flatMap fun w => joinS w ++ [10]
theorem qqk (a b : List (List Str)) : txt (a ++ b) = txt a ++ txt b := by simp [txt]
theorem qsy (w : List Str) : txt [w] = joinS w ++ [10] := by simp [txt]
def szW (w : List Str) : Nat := w.length + sumL w
def szL (l : List (List Str)) : Nat := (l.map szW).sum
theorem qql : ∀ l : List (List Str), szL l ≤ (txt l).length ∧ (txt l).length ≤ szL l + l.length
 | [] => by simp [szL, txt]
 | w :: r => by
  obtain ⟨h1, h2⟩ := qql r
  have e1 : szL (w :: r) = szW w + szL r := by simp [szL]
  have e2 : (txt (w :: r)).length = (joinS w).length + 1 + (txt r).length := by simp [txt]; omega
  rw [e1, e2, List.length_cons]
  cases w with
  | nil => simp [szW, sumL, joinS, Lib.join, List.intercalate]; omega
  | cons a q =>
   have := qhY (w := a :: q) (by simp)
   unfold szW; omega
theorem qrn (l : List (List Str)) (k : Nat) : (txt (l.take k)).length ≤ (txt l).length := by
 have := qqk (l.take k) (l.drop k)
 rw [List.take_append_drop] at this
 rw [this, List.length_append]; omega
def qeZ (l : List (List Str)) : Str × Int := bif Nat.blt 400 l.length then ([], 4) else bif !l.all qa7 then ([], 3) else bif Nat.blt 16384 (txt l).length then ([], 4) else (txt l, 0)
def BJ (l : List (List Str)) : Prop := ∀ w ∈ l, w.length ≤ 1000000 ∧ ∀ s ∈ w, s.length ≤ 1000000
theorem qqm {w : List Str} (h : qa7 w = true) (hb : ∀ s ∈ w, s.length ≤ 1000000) : szW w ≤ 17000000 := by
 unfold qa7 at h
 rw [Bool.and_eq_true, Bool.and_eq_true, Nat.ble_eq] at h
 have := qqj hb
 have h2 : w.length * 1000000 ≤ 16 * 1000000 := Nat.mul_le_mul_right _ h.1.1
 unfold szW; omega
theorem ql1 {w : List Str} (h : w ≠ []) : qgr w = qa7 w := by
 unfold qgr
 cases w with
 | nil => exact absurd rfl h
 | cons => rfl
end Go.Proofs.YtpgigbdefbeagaaGreatDoor
namespace Go.Proofs.YtpgigbdefbeagaaGreatDoor
open Go Go.Sq
theorem qr4 {b : UInt8} (h : wch b = true) : b ≠ 10 ∧ b ≠ 32 := by
 constructor <;> (rintro rfl; cases h)
theorem qqn {x : Str} (h : wordB x = true) : (10 : UInt8) ∉ x ∧ (32 : UInt8) ∉ x ∧ x ≠ [] := by
 unfold wordB at h
 rw [Bool.and_eq_true, List.all_eq_true] at h
 exact ⟨fun hm => (qr4 (h.1 _ hm)).1 rfl, fun hm => (qr4 (h.1 _ hm)).2 rfl, fun e => by rw [e] at h; cases h.2⟩
theorem qnY : ∀ {w : List Str}, (∀ x ∈ w, wordB x = true) → (10 : UInt8) ∉ joinS w
 | [], _ => by simp [joinS, Lib.join, List.intercalate]
 | [a], h => by
  have := (qqn (h a (by simp))).1
  simpa [joinS, Lib.join, List.intercalate] using this
 | a :: b :: r, h => by
  rw [qeM]
  simp only [List.mem_append, List.mem_cons, not_or]
  exact ⟨(qqn (h a (by simp))).1, by decide, qnY (fun x hx => h x (List.mem_cons_of_mem _ hx))⟩
theorem qkf {w : List Str} (h : qa7 w = true) : (∀ x ∈ w, wordB x = true) ∧ ((w.headD []).headD 0 == 35) = false ∧ w.length ≤ 16 := by
 unfold qa7 at h
 rw [Bool.and_eq_true, Bool.and_eq_true, Nat.ble_eq, List.all_eq_true, Bool.not_eq_true'] at h
 exact ⟨h.1.2, h.2, h.1.1⟩
theorem qqo (X : Str) : ∀ {a : List (List Str)}, (∀ w ∈ a, qa7 w = true) → lns (txt a ++ X) = a.map joinS ++ lns X
 | [], _ => rfl
 | w :: r, h => by
  have e : txt (w :: r) ++ X = joinS w ++ 10 :: (txt r ++ X) := by simp [txt]
  rw [e, qk7 _ (qnY (qkf (h w (by simp))).1), qqo X (fun w hw => h w (List.mem_cons_of_mem _ hw))]; rfl
theorem qro {a : List (List Str)} (h : ∀ w ∈ a, qa7 w = true) (h1 : a.length ≤ 400) (h2 : (txt a).length ≤ 16384) : qeZ a = (txt a, 0) := by
 unfold qeZ
 rw [show Nat.blt 16384 (txt a).length = false by rw [Bool.eq_false_iff, ne_eq, Nat.blt_eq]; omega, show Nat.blt 400 a.length = false by rw [Bool.eq_false_iff, ne_eq, Nat.blt_eq]; omega, show a.all qa7 = true from List.all_eq_true.2 h]; rfl
theorem qs8 {a : List (List Str)} {n : Nat} (h : ∀ w ∈ a, szW w ≤ n) : szL a ≤ a.length * n := by
 induction a with
 | nil => simp [szL]
 | cons w r ih =>
  have h1 := h w (by simp)
  have h2 := ih (fun w hw => h w (by simp [hw]))
  have : szL (w :: r) = szW w + szL r := by simp [szL]
  rw [this, List.length_cons, Nat.add_mul]; omega
end Go.Proofs.YtpgigbdefbeagaaGreatDoor
