/- Lines, words and numbers. No condition. -/
import Derived.Test.YtpgigbdefbeagaaGreatDoorNw0
namespace Go.Proofs.YtpgigbdefbeagaaGreatDoor
open Go Go.Sq
def dig (b : UInt8) : Bool := Nat.ble 48 b.toNat && Nat.ble b.toNat 57
def valD : Nat → List UInt8 → Nat
 | acc, [] => acc
 | acc, c :: r => valD (acc * 10 + (c.toNat - 48)) r
def mns : List UInt8 → Bool
 | [] => false
 | c :: _ => c == 45
def dgs : List UInt8 → List UInt8
 | [] => []
 | c :: r => bif c == 45 then r else c :: r
theorem qhq (c : UInt8) (r : List UInt8) : dgs (c :: r) = bif c == 45 then r else c :: r := rfl
def qeZ (s : List UInt8) : Int × Int :=
 bif (dgs s).isEmpty || ((dgs s).headD 0 == 48 && !decide (s = [48])) || !(dgs s).all dig then (0, 3)
 else bif decide (9007199254740992 < valD 0 (dgs s)) then (0, 1)
 else (bif mns s then -(valD 0 (dgs s) : Int) else (valD 0 (dgs s) : Int), 0)
theorem qru (s : List UInt8) : qb7 s [45] = some (dgs s) := by
 unfold qb7 qaZ qa7
 cases s with
 | nil => rfl
 | cons c r =>
  have h1 : decide ((([45] : List UInt8).length : Int) ≤ ((c :: r).length : Int)) = true := decide_eq_true (by simp; omega)
  have h2 : cutG none (some (.i64, (([45] : List UInt8).length : Int))) (c :: r).length = true := by simp [cutG]; omega
  have h3 : cutG (some (.i64, (([45] : List UInt8).length : Int))) none (c :: r).length = true := by simp [cutG]; omega
  rw [h1, cond_true, gd_t h2, Option.bind_some, gd_t h3]
  have h4 : decide ((c :: r).take (([45] : List UInt8).length : Int).toNat = [45]) = (c == 45) := by
   rw [Bool.eq_iff_iff]; simp
  rw [h4, qhq]
  cases c == 45 <;> rfl
theorem numL0 (r : List UInt8) (h : r.length ≤ 4611686018427387904) : iter (fun x => qcd r x) 0 = some (bif r.all dig then .inl () else .inr (0, 3)) := by
 refine scan r 0 dig (fun i hi hq => ?_) (fun i hi hq => ?_) ?_
 ·simp only [dig, Bool.and_eq_true, Nat.ble_eq] at hq
  unfold qcd
  rw [dec_t (by omega), cond_true, gd_t (inB_t hi), gd_t (inB_t hi), Int.toNat_natCast, dec_f (by simp only [Int.ofNat_eq_natCast]; omega), cond_false, dec_f (by simp only [Int.ofNat_eq_natCast]; omega), Option.bind_some, cond_false, w1 hi h]
 ·have hq : ¬ (48 ≤ (r.getD i 0).toNat ∧ (r.getD i 0).toNat ≤ 57) := by
   intro h; rw [show dig (r.getD i 0) = true by simp only [dig, Bool.and_eq_true, Nat.ble_eq]; exact h] at hq; cases hq
  unfold qcd
  rw [dec_t (by omega), cond_true, gd_t (inB_t hi), gd_t (inB_t hi), Int.toNat_natCast]
  by_cases h48 : (r.getD i 0).toNat < 48
  ·rw [dec_t (by simp only [Int.ofNat_eq_natCast]; omega)]; rfl
  ·rw [dec_f (by simp only [Int.ofNat_eq_natCast]; omega), cond_false, dec_t (by simp only [Int.ofNat_eq_natCast]; omega)]; rfl
 ·unfold qcd
  rw [dec_f (by omega)]; rfl
theorem qpr : ∀ (l : List UInt8) (acc : Nat), acc ≤ valD acc l
 | [], _ => Nat.le_refl _
 | c :: r, acc => by have := qpr r (acc * 10 + (c.toNat - 48)); unfold valD; omega
theorem pu_eq : ∀ (l : List UInt8) (acc : Nat), acc < 18446744073709551616 → l.all dig = true → Lib.parseUint10 acc l = if valD acc l < 18446744073709551616 then .ok (valD acc l) else .range
 | [], acc, h, _ => by unfold valD Lib.parseUint10; rw [if_pos h]
 | c :: r, acc, h, hd => by
  simp only [List.all_cons, Bool.and_eq_true, dig, Nat.ble_eq] at hd
  unfold Lib.parseUint10
  rw [if_pos hd.1]
  have hge := qpr r (acc * 10 + (c.toNat - 48))
  by_cases h1 : 1844674407370955162 ≤ acc
  ·rw [if_pos h1]
   unfold valD; rw [if_neg (by omega)]
  ·rw [if_neg h1]
   by_cases h2 : 18446744073709551616 ≤ acc * 10 + (c.toNat - 48)
   ·rw [if_pos h2]
    unfold valD; rw [if_neg (by omega)]
   ·rw [if_neg h2, pu_eq r _ (by omega) (by simpa [dig] using hd.2)]
    rfl
theorem qrv (s : List UInt8) (h0 : dgs s ≠ []) (hd : (dgs s).all dig = true) : Lib.atoiAll s = (if valD 0 (dgs s) < 18446744073709551616 then
  (if ¬ mns s = true ∧ 9223372036854775808 ≤ valD 0 (dgs s) then .range else if mns s = true ∧ 9223372036854775808 < valD 0 (dgs s) then .range else .ok (if mns s = true then -(valD 0 (dgs s) : Int) else valD 0 (dgs s))) else .range) := by
 cases s with
 | nil => exact absurd rfl h0
 | cons c r =>
  have hc45 : (c.toNat = 45) ↔ (c == 45) = true := by
   rw [beq_iff_eq]
   constructor
   ·intro h; exact UInt8.toNat_inj.1 h
   ·rintro rfl; rfl
  have key : Lib.parseMag (if c.toNat = 43 ∨ c.toNat = 45 then r else c :: r) = if valD 0 (dgs (c :: r)) < 18446744073709551616 then .ok (valD 0 (dgs (c :: r))) else .range := by
   by_cases h45 : c.toNat = 45
   ·have hb := hc45.1 h45
    have e : dgs (c :: r) = r := by rw [qhq, hb]; rfl
    rw [e] at h0 hd ⊢
    rw [if_pos (.inr h45)]
    unfold Lib.parseMag
    rw [if_neg h0]
    exact pu_eq r 0 (by decide) hd
   ·have hb : (c == 45) = false := Bool.eq_false_iff.2 fun h => h45 (hc45.2 h)
    have e : dgs (c :: r) = c :: r := by rw [qhq, hb]; rfl
    rw [e] at h0 hd ⊢
    have h43 : c.toNat ≠ 43 := by
     simp only [List.all_cons, Bool.and_eq_true, dig, Nat.ble_eq] at hd
     omega
    rw [if_neg (by omega)]
    unfold Lib.parseMag
    rw [if_neg h0]
    exact pu_eq _ 0 (by decide) hd
  unfold Lib.atoiAll
  simp only [hc45] at key ⊢
  rw [key]
  by_cases hv : valD 0 (dgs (c :: r)) < 18446744073709551616
  ·rw [if_pos hv, if_pos hv]; rfl
  ·rw [if_neg hv, if_neg hv]
theorem qqo (s : List UInt8) (h : s.length ≤ 281474976710656) : atoiT s = some (match Lib.atoiAll s with
  | .ok v => (v, false)
  | .range => (Lib.atoiSat s, true)
  | _ => (0, true)) := by
 unfold atoiT
 rw [Nat.ble_eq_true_of_le h]; rfl
theorem qq3 (s : List UInt8) (h : s.length ≤ 281474976710656) : qeP s = some (qeZ s) := by
 have hl : (dgs s).length ≤ s.length := by
  cases s with
  | nil => exact Nat.le_refl _
  | cons c r => rw [qhq]; cases c == 45 <;> simp
 unfold qeP
 rw [qru, Option.bind_some]
 have e1 : (bif decide (dgs s = []) then some true else (gd (inB 0 (dgs s).length) <| bif decide ((Int.ofNat ((dgs s).getD 0 0).toNat) = 48) then some (!decide (s = [48])) else some false)) = some ((dgs s).isEmpty || ((dgs s).headD 0 == 48 && !decide (s = [48]))) := by
  cases hd : dgs s with
  | nil => rfl
  | cons c r =>
   rw [dec_f (by simp), cond_false, gd_t (inB0 (by simp))]
   have e : decide ((Int.ofNat ((c :: r).getD 0 0).toNat) = 48) = (c == 48) := by
    rw [Bool.eq_iff_iff, decide_eq_true_iff, beq_iff_eq]
    simp only [List.getD_cons_zero, Int.ofNat_eq_natCast]
    constructor
    ·intro h; exact UInt8.toNat_inj.1 (by show c.toNat = 48; omega)
    ·rintro rfl; rfl
   rw [e]
   simp only [List.isEmpty_cons, Bool.false_or, List.headD_cons]
   cases c == 48 <;> rfl
 rw [e1, Option.bind_some]
 unfold qeZ
 cases hc : (dgs s).isEmpty || ((dgs s).headD 0 == 48 && !decide (s = [48])) with
 | true => simp
 | false =>
  rw [cond_false, numL0 _ (by omega), Option.bind_some]
  cases hd : (dgs s).all dig with
  | false => rfl
  | true =>
   have h0 : dgs s ≠ [] := by
    intro e; rw [e] at hc; simp at hc
   simp only [cond_true, Sum.elim_inl, Bool.false_or, Bool.not_true, cond_false]
   rw [qqo s h, Option.bind_some, qrv s h0 hd]
   by_cases hv : valD 0 (dgs s) < 18446744073709551616
   ·rw [if_pos hv]
    cases hm : mns s with
    | true =>
     rw [if_neg (by simp)]
     by_cases h2 : 9223372036854775808 < valD 0 (dgs s)
     ·rw [if_pos ⟨rfl, h2⟩, dec_t (show 9007199254740992 < valD 0 (dgs s) by omega)]; rfl
     ·rw [if_neg (fun h => h2 h.2), if_pos rfl]
      simp only [cond_false]
      by_cases h3 : 9007199254740992 < valD 0 (dgs s)
      ·rw [dec_t h3, dec_t (show -(valD 0 (dgs s) : Int) < -9007199254740992 by omega)]; rfl
      ·rw [dec_f h3, dec_f (show ¬ -(valD 0 (dgs s) : Int) < -9007199254740992 by omega), cond_false, dec_f (show ¬ (9007199254740992 < -(valD 0 (dgs s) : Int)) by omega)]; rfl
    | false =>
     by_cases h2 : 9223372036854775808 ≤ valD 0 (dgs s)
     ·rw [if_pos ⟨by simp, h2⟩, dec_t (show 9007199254740992 < valD 0 (dgs s) by omega)]; rfl
     ·rw [if_neg (fun h => h2 h.2), if_neg (by simp), if_neg (by simp)]
      simp only [cond_false]
      by_cases h3 : 9007199254740992 < valD 0 (dgs s)
      ·rw [dec_t h3, dec_f (show ¬ (valD 0 (dgs s) : Int) < -9007199254740992 by omega), cond_false, dec_t (show (9007199254740992 < (valD 0 (dgs s) : Int)) by omega)]; rfl
      ·rw [dec_f h3, dec_f (show ¬ (valD 0 (dgs s) : Int) < -9007199254740992 by omega), cond_false, dec_f (show ¬ (9007199254740992 < (valD 0 (dgs s) : Int)) by omega)]; rfl
   ·rw [if_neg hv, dec_t (show 9007199254740992 < valD 0 (dgs s) by omega)]; rfl
theorem qm3 (c : UInt8) : ∀ (l : List UInt8) (acc : Nat), valD acc (l ++ [c]) = valD acc l * 10 + (c.toNat - 48)
 | [], _ => rfl
 | _ :: r, _ => qm3 c r _
structure Digs (n : Nat) (D : List UInt8) : Prop where
 ne : D ≠ []
 all : D.all dig = true
 val : valD 0 D = n
 hd : 0 < n → D.headD 0 ≠ 48
 z : n = 0 → D = [48]
def chr (n : Nat) : UInt8 := UInt8.ofNat (48 + n % 10)
theorem qmi (n : Nat) : (chr n).toNat = 48 + n % 10 := by unfold chr; rw [UInt8.toNat_ofNat']; omega
theorem qps (n : Nat) : dig (chr n) = true := by
 simp only [dig, Bool.and_eq_true, Nat.ble_eq, qmi]; omega
theorem Digs.head {n : Nat} {D : List UInt8} (h : Digs n D) : ∃ a r, D = a :: r ∧ dig a = true := by
 have h1 := h.ne
 have h2 := h.all
 cases D with
 | nil => exact absurd rfl h1
 | cons a r => exact ⟨a, r, rfl, by simp only [List.all_cons, Bool.and_eq_true] at h2; exact h2.1⟩
theorem qq4 {a : UInt8} (h : dig a = true) : (a == 45) = false := by
 rw [Bool.eq_false_iff]
 intro e
 rw [beq_iff_eq] at e
 subst e; cases h
theorem qrw {D X : List UInt8} {n : Nat} (h : Digs n D) : dgs (D ++ X) = D ++ X ∧ mns (D ++ X) = false := by
 obtain ⟨a, r, rfl, ha⟩ := h.head
 exact ⟨by rw [List.cons_append, qhq, qq4 ha]; rfl, qq4 ha⟩
theorem qpt {k : Int} {D : List UInt8} (h : Digs k.natAbs D) (hb : k.natAbs ≤ 9007199254740992) : qeZ (if k < 0 then 45 :: D else D) = (k, 0) := by
 obtain ⟨a, r, e, ha⟩ := h.head
 by_cases hk : k < 0
 ·rw [if_pos hk]
  unfold qeZ
  have e1 : dgs (45 :: D) = D := rfl
  rw [e1, h.all, h.val, show mns (45 :: D) = true from rfl, dec_f (show ¬ 9007199254740992 < k.natAbs by omega)]
  have h48 := h.hd (by omega)
  have : (D.headD 0 == 48) = false := by rw [Bool.eq_false_iff]; intro h; exact h48 (by simpa using h)
  rw [this]
  have hi : D.isEmpty = false := by rw [e]; rfl
  rw [hi]
  show (-(k.natAbs : Int), (0 : Int)) = (k, 0)
  rw [show -(k.natAbs : Int) = k by omega]
 ·rw [if_neg hk]
  unfold qeZ
  have hd := qrw (X := []) h
  rw [List.append_nil] at hd
  rw [hd.1, hd.2, h.all, h.val, dec_f (show ¬ 9007199254740992 < k.natAbs by omega)]
  have hi : D.isEmpty = false := by rw [e]; rfl
  have hz : (D.headD 0 == 48 && !decide (D = [48])) = false := by
   by_cases h0 : k.natAbs = 0
   ·rw [h.z h0]; rfl
   ·have h48 := h.hd (by omega)
    have : (D.headD 0 == 48) = false := by rw [Bool.eq_false_iff]; intro h; exact h48 (by simpa using h)
    rw [this]; rfl
  rw [hi, hz]
  show ((k.natAbs : Int), (0 : Int)) = (k, 0)
  rw [show (k.natAbs : Int) = k by omega]
end Go.Proofs.YtpgigbdefbeagaaGreatDoor
namespace Go.Proofs.YtpgigbdefbeagaaGreatDoor
open Go Go.Sq
def splB (c : UInt8) : Str → List Str
 | [] => [[]]
 | x :: l => bif x == c then [] :: splB c l else match splB c l with
  | [] => [[x]]
  | h :: t => (x :: h) :: t
theorem qkk (c : UInt8) (s : Str) : splB c s ≠ [] := by
 cases s with
 | nil => simp [splB]
 | cons x l =>
  unfold splB
  cases x == c with
  | true => simp
  | false => simp only [cond_false]; split <;> simp
theorem qkl {c : UInt8} : ∀ {X : Str}, c ∉ X → splB c X = [X]
 | [], _ => rfl
 | x :: l, h => by
  simp only [List.mem_cons, not_or] at h
  unfold splB
  rw [show (x == c) = false by rw [beq_eq_false_iff_ne]; exact fun e => h.1 e.symm, cond_false, qkl h.2]
theorem qhr {c : UInt8} (r : Str) : ∀ {X : Str}, c ∉ X → splB c (X ++ c :: r) = X :: splB c r
 | [], _ => by simp [splB]
 | x :: l, h => by
  simp only [List.mem_cons, not_or] at h
  rw [List.cons_append]
  conv => lhs; unfold splB
  rw [show (x == c) = false by rw [beq_eq_false_iff_ne]; exact fun e => h.1 e.symm, cond_false, qhr r h.2]
theorem qkm (c : UInt8) : ∀ s : Str, (splB c s).length = s.count c + 1
 | [] => rfl
 | x :: l => by
  unfold splB
  rw [List.count_cons]
  have ih := qkm c l
  cases hx : x == c with
  | true => simp [ih]
  | false =>
   simp only [cond_false, Bool.false_eq_true, if_false, Nat.add_zero]
   split
   ·rename_i h; exact absurd h (qkk c l)
   ·rename_i h t hs
    rw [hs] at ih
    exact ih
def lns : Str → List Str
 | [] => []
 | x :: l => bif x == 10 then [] :: lns l else match lns l with
  | [] => [[x]]
  | h :: t => (x :: h) :: t
theorem qq5 : ∀ {X : Str}, (10 : UInt8) ∉ X → lns X = if X = [] then [] else [X]
 | [], _ => rfl
 | x :: l, h => by
  simp only [List.mem_cons, not_or] at h
  unfold lns
  rw [show (x == (10 : UInt8)) = false by rw [beq_eq_false_iff_ne]; exact fun e => h.1 e.symm, cond_false, qq5 h.2]
  by_cases hl : l = []
  ·subst hl; rfl
  ·rw [if_neg hl, if_neg (by simp)]
theorem qi4 (r : Str) : ∀ {X : Str}, (10 : UInt8) ∉ X → lns (X ++ 10 :: r) = X :: lns r
 | [], _ => by simp [lns]
 | x :: l, h => by
  simp only [List.mem_cons, not_or] at h
  rw [List.cons_append]
  conv => lhs; unfold lns
  rw [show (x == (10 : UInt8)) = false by rw [beq_eq_false_iff_ne]; exact fun e => h.1 e.symm, cond_false, qi4 r h.2]
theorem qmj : ∀ s : Str, (lns s).length = s.count 10 + (if s = [] ∨ s.getLast? = some 10 then 0 else 1)
 | [] => rfl
 | x :: l => by
  unfold lns
  rw [List.count_cons]
  have ih := qmj l
  have e0 : (x :: l = [] ∨ (x :: l).getLast? = some 10) ↔ (if l = [] then x = 10 else l.getLast? = some 10) := by
   cases l with
   | nil => simp
   | cons y r => simp [List.getLast?_cons_cons]
  cases hx : x == (10 : UInt8) with
  | true =>
   rw [beq_iff_eq] at hx; subst hx
   simp only [cond_true, List.length_cons, ih, if_true]
   by_cases hl : l = []
   ·subst hl; simp
   ·have e1 : (l = [] ∨ l.getLast? = some 10) ↔ ((10 : UInt8) :: l = [] ∨ ((10 : UInt8) :: l).getLast? = some 10) := by rw [e0, if_neg hl]; simp [hl]
    simp only [e1]; omega
  | false =>
   rw [beq_eq_false_iff_ne] at hx
   simp only [cond_false, Bool.false_eq_true, if_false, Nat.add_zero]
   split
   ·rename_i h
    rw [h] at ih
    have hl : l = [] := by
     by_cases hl : l = []
     ·exact hl
     ·exfalso
      cases l with
      | nil => exact hl rfl
      | cons y r =>
       have : lns (y :: r) ≠ [] := by
        unfold lns
        cases y == (10 : UInt8) with
        | true => simp
        | false => simp only [cond_false]; split <;> simp
       exact this h
    subst hl
    simp [hx]
   ·rename_i h t hs
    rw [hs] at ih
    have hl : l ≠ [] := fun e => by rw [e] at hs; cases hs
    have e1 : (l = [] ∨ l.getLast? = some 10) ↔ (x :: l = [] ∨ (x :: l).getLast? = some 10) := by rw [e0, if_neg hl]; simp [hl]
    simp only [e1] at ih
    exact ih
theorem qhs (c : UInt8) : ∀ s : Str, (c ∉ s ∧ Lib.indexByte s c = -1) ∨ ∃ X r, s = X ++ c :: r ∧ c ∉ X ∧ Lib.indexByte s c = (X.length : Int)
 | [] => .inl ⟨by simp, rfl⟩
 | b :: l => by
  unfold Lib.indexByte
  cases hb : b == c with
  | true =>
   rw [beq_iff_eq] at hb; subst hb
   exact .inr ⟨[], l, rfl, by simp, by simp⟩
  | false =>
   rw [beq_eq_false_iff_ne] at hb
   simp only [Bool.false_eq_true, if_false]
   rcases qhs c l with ⟨h1, h2⟩ | ⟨X, r, rfl, h2, h3⟩
   ·refine .inl ⟨by simp only [List.mem_cons, not_or]; exact ⟨fun e => hb e.symm, h1⟩, by rw [h2]; rfl⟩
   ·refine .inr ⟨b :: X, r, rfl, by simp only [List.mem_cons, not_or]; exact ⟨fun e => hb e.symm, h2⟩, ?_⟩
    rw [h3]
    have : ((X.length : Int) == -1) = false := by rw [beq_eq_false_iff_ne]; omega
    rw [this]
    simp
theorem c_eq (c : UInt8) : (Int.ofNat (([c] : Str).getD 0 0).toNat).toNat.toUInt8 = c := by
 show c.toNat.toUInt8 = c
 simp
theorem qkn (s : Str) (c : UInt8) : qaA s [c] = some (Lib.indexByte s c) := by
 unfold qaA qa5 idxB
 rw [dec_f (show ¬ ((([c] : Str).length : Int) = 0) by simp), cond_false, Option.bind_some]
 by_cases h : [c] = s
 ·rw [dec_t h, cond_true, ← h]
  unfold Lib.indexByte
  simp
 ·rw [dec_f h, cond_false, dec_t (show (([c] : Str).length : Int) = 1 by simp), cond_true, gd_t (inB0 (by simp)), c_eq]; rfl
theorem qm4 (s : Str) (c : UInt8) : qdc s [c] = some ((s.count c : Nat) : Int) := by
 unfold qdc cntB
 rw [dec_f (show ¬ ((([c] : Str).length : Int) = 0) by simp), cond_false, dec_t (show (([c] : Str).length : Int) = 1 by simp), cond_true, gd_t (inB0 (by simp)), c_eq]
 rfl
theorem qsc {s : Str} (h : (10 : UInt8) ∉ s) : qcT s [10] = some (s, [], false) := by
 unfold qcT qbc
 rcases qhs 10 s with ⟨_, h2⟩ | ⟨X, r, rfl, _, _⟩
 ·rw [qkn, h2]; rfl
 ·simp at h
theorem qrx {X r : Str} (h : (10 : UInt8) ∉ X) (hl : (X ++ 10 :: r).length ≤ 4611686018427387904) : qcT (X ++ 10 :: r) [10] = some (X, r, true) := by
 unfold qcT qbc
 have hi : Lib.indexByte (X ++ 10 :: r) 10 = (X.length : Int) := by
  rcases qhs 10 (X ++ 10 :: r) with ⟨h1, _⟩ | ⟨Y, q, e, h2, h3⟩
  ·simp at h1
  ·have : splB 10 (X ++ 10 :: r) = splB 10 (Y ++ 10 :: q) := by rw [e]
   rw [qhr _ h, qhr _ h2] at this
   injection this with e1 _
   rw [h3, e1]
 simp only [List.length_append, List.length_cons] at hl
 rw [qkn, hi, Option.bind_some, dec_t (show (0 : Int) ≤ (X.length : Int) by omega), cond_true]
 have e1 : wi64 ((X.length : Int) + (([10] : Str).length : Int)) = ((X.length + 1 : Nat) : Int) := by
  rw [show (([10] : Str).length : Int) = 1 from rfl, wi (by omega)]; omega
 have e2 : (X ++ 10 :: r).take X.length = X := List.take_left
 have e3 : (X ++ 10 :: r).drop (X.length + 1) = r := by simp [List.drop_append]
 rw [e1, gd_t (by simp [cutG]; omega), gd_t (by simp [cutG]; omega), Int.toNat_natCast, Int.toNat_natCast, e2, e3]; rfl
theorem ok_eq {A : Type} {x : Option A} {v : A} (h : Ok x (fun y => y = v)) : x = some v := by obtain ⟨a, h1, rfl⟩ := h; exact h1
theorem qm5 {A : Type} (a : List A) (k : Nat) (x : A) (h : k + 1 = a.length) : a.set k x = a.take k ++ [x] := by
 rw [List.set_eq_take_append_cons_drop, if_pos (by omega), List.drop_of_length_le (by omega)]
theorem qqp {A : Type} (a : List A) (k : Nat) (x : A) (h : k < a.length) : (a.set k x).take (k + 1) = a.take k ++ [x] := by
 rw [List.take_set, qm5 _ _ _ (by simp; omega), List.take_take, Nat.min_eq_left (by omega)]
theorem qqq {c : UInt8} {s : Str} (h : (splB c s).length = 1) : splB c s = [s] := by
 rw [qkm] at h
 exact qkl (List.count_eq_zero.1 (by omega))
theorem qqr (s : Str) (hl : s.length ≤ 1000000) : qeb s [32] = some (splB 32 s) := by
 have hP := qkm 32 s
 have hcnt : s.count 32 ≤ s.length := List.count_le_length
 unfold qeb qdV
 rw [dec_f (by decide), cond_false, dec_f (by simp), cond_false, dec_t (by decide), cond_true, qm4, Option.bind_some, Option.bind_some]
 have e1 : wi64 (((s.count 32 : Nat) : Int) + 1) = ((s.count 32 + 1 : Nat) : Int) := w1 (n := 1000001) (by omega) (by omega)
 have e2 : wi64 ((s.length : Int) + 1) = ((s.length + 1 : Nat) : Int) := w1 (n := 1000001) (by omega) (by omega)
 have e3 : min ((s.count 32 + 1 : Nat) : Int) ((s.length + 1 : Nat) : Int) = ((s.count 32 + 1 : Nat) : Int) := by omega
 rw [e1, e2, e3, gd_t (qpe (by omega))]
 suffices h : Ok (iter (fun x => qcU s [32] 0 ((s.count 32 + 1 : Nat) : Int) x.1 x.2.1 x.2.2) (s, 0, List.replicate ((s.count 32 + 1 : Nat) : Int).toNat [])) (fun e => e.2.1 = ((s.count 32 : Nat) : Int) ∧ splB 32 e.1 = (splB 32 s).drop (s.count 32) ∧ e.2.2.length = s.count 32 + 1 ∧ e.2.2.take (s.count 32) = (splB 32 s).take (s.count 32)) by
  obtain ⟨e, h1, h2, h3, h4, h5⟩ := h
  obtain ⟨s3, i, a⟩ := e
  simp only at h2 h3 h4 h5
  subst h2
  rw [h1, Option.bind_some]
  simp only
  rw [gd_t (inB_t (by omega)), w1 (n := 1000001) (by omega) (by omega), gd_t (by simp [cutG]; omega), Int.toNat_natCast, Int.toNat_natCast, qm5 a _ s3 (by omega), h5]
  have h6 : splB 32 s3 = [s3] := qqq (by rw [h3, List.length_drop]; omega)
  rw [← h6, h3, List.take_append_drop, List.take_of_length_le (by omega)]; rfl
 refine Ok.loop (fun x : Str × Int × List Str => ∃ k : Nat, x.2.1 = (k : Int) ∧ k ≤ s.count 32 ∧ splB 32 x.1 = (splB 32 s).drop k ∧ x.2.2.length = s.count 32 + 1 ∧ x.2.2.take k = (splB 32 s).take k ∧ x.1.length ≤ s.length) (fun x => s.count 32 - x.2.1.toNat)
  ⟨0, rfl, by omega, by simp, by simp, by simp, Nat.le_refl _⟩ ?_
 rintro ⟨s3, i, a⟩ ⟨k, hk, hk1, h1, h2, h3, h4⟩
 simp only at hk h1 h2 h3 h4
 subst hk
 unfold qcU
 simp only
 have e4 : wi64 ((min ((s.count 32 + 1 : Nat) : Int) (wi64 ((s.length : Int) + 1))) - 1) = ((s.count 32 : Nat) : Int) := by rw [e2, e3, wi (by omega)]; omega
 rw [e4]
 refine Ok.bif (fun hc => ?_) fun hc => ?_
 ·have hc := of_decide_eq_true hc
  have hk2 : k < s.count 32 := by omega
  rcases qhs 32 s3 with ⟨hn, _⟩ | ⟨X, r, rfl, hX, hidx⟩
  ·exfalso
   have := congrArg List.length h1
   rw [qkl hn, List.length_drop] at this
   simp at this; omega
  ·rw [show qdb (X ++ 32 :: r) [32] = some (X.length : Int) by unfold qdb; rw [qkn, hidx]; rfl, Option.bind_some]
   simp only [List.length_append, List.length_cons] at h4
   rw [dec_f (show ¬ (X.length : Int) < 0 by omega), cond_false]
   have e5 : wi64 ((X.length : Int) + 0) = (X.length : Int) := by rw [wi (by omega)]; omega
   have e6 : wi64 ((X.length : Int) + (([32] : Str).length : Int)) = ((X.length + 1 : Nat) : Int) := w1 (n := 1000001) (by omega) (by omega)
   rw [e5, e6, gd_t (by simp [cutG]; omega), gd_t (inB_t (by omega)), gd_t (by simp [cutG]; omega), w1 (n := 1000001) (by omega) (by omega), Int.toNat_natCast, Int.toNat_natCast, Int.toNat_natCast]
   have e7 : (X ++ 32 :: r).take X.length = X := List.take_left
   have e8 : (X ++ 32 :: r).drop (X.length + 1) = r := by simp [List.drop_append]
   rw [e7, e8]
   rw [qhr _ hX] at h1
   have hkl : k < (splB 32 s).length := by omega
   rw [List.drop_eq_getElem_cons hkl] at h1
   injection h1 with h5 h6
   refine .ret ⟨⟨k + 1, rfl, by omega, h6, by simp [h2], ?_, by simp; omega⟩, ?_⟩
   ·rw [qqp _ _ _ (by omega), h3, qbI [] hkl, gD_eq hkl, h5]
   ·simp only [Int.toNat_natCast]; omega
 ·have hc := of_decide_eq_false hc
  have : k = s.count 32 := by omega
  subst this
  exact .ret ⟨rfl, h1, h2, h3⟩
def wch (b : UInt8) : Bool := Nat.ble 33 b.toNat && Nat.ble b.toNat 126
def wordB (s : Str) : Bool := s.all wch && !s.isEmpty
def qa8 (w : List Str) : Bool := Nat.ble w.length 16 && w.all wordB && !((w.headD []).headD 0 == 35)
def qhR (w : List Str) : Bool := !w.isEmpty && qa8 w
theorem lt33 (b : UInt8) : decide ((Int.ofNat b.toNat) < 33) = decide (b.toNat < 33) := by
 rw [Bool.eq_iff_iff, decide_eq_true_iff, decide_eq_true_iff]; simp only [Int.ofNat_eq_natCast]; omega
theorem gt126 (b : UInt8) : decide (126 < (Int.ofNat b.toNat)) = decide (126 < b.toNat) := by
 rw [Bool.eq_iff_iff, decide_eq_true_iff, decide_eq_true_iff]; simp only [Int.ofNat_eq_natCast]; omega
theorem eq35 (b : UInt8) : decide ((Int.ofNat b.toNat) = 35) = (b == 35) := by
 rw [Bool.eq_iff_iff, decide_eq_true_iff, beq_iff_eq]
 simp only [Int.ofNat_eq_natCast]
 constructor
 ·intro h; exact UInt8.toNat_inj.1 (by show b.toNat = 35; omega)
 ·rintro rfl; rfl
theorem wch_t {b : UInt8} (h : wch b = true) : decide (b.toNat < 33) = false ∧ decide (126 < b.toNat) = false := by
 simp only [wch, Bool.and_eq_true, Nat.ble_eq] at h
 exact ⟨decide_eq_false (by omega), decide_eq_false (by omega)⟩
theorem wch_f {b : UInt8} (h : wch b = false) : decide (b.toNat < 33) = true ∨ (decide (b.toNat < 33) = false ∧ decide (126 < b.toNat) = true) := by
 by_cases h1 : b.toNat < 33
 ·exact .inl (decide_eq_true h1)
 ·refine .inr ⟨decide_eq_false h1, decide_eq_true ?_⟩
  by_cases h2 : b.toNat ≤ 126
  ·exfalso
   rw [show wch b = true by simp only [wch, Bool.and_eq_true, Nat.ble_eq]; omega] at h; cases h
  ·omega
theorem qpu (s : Str) (hl : s.length ≤ 1000000) : qgl s = some (wordB s) := by
 unfold qgl
 have h : iter (fun x => qc8 s x) 0 = some (bif s.all wch then .inl () else .inr false) := by
  refine scan s 0 wch (fun i hi hq => ?_) (fun i hi hq => ?_) ?_
  ·obtain ⟨h1, h2⟩ := wch_t hq
   unfold qc8
   rw [dec_t (by omega), cond_true, gd_t (inB_t hi), gd_t (inB_t hi), Int.toNat_natCast, lt33, h1, cond_false, gt126, h2, Option.bind_some, cond_false, w1 hi (by omega)]
  ·unfold qc8
   rw [dec_t (by omega), cond_true, gd_t (inB_t hi), gd_t (inB_t hi), Int.toNat_natCast, lt33]
   rcases wch_f hq with h1 | ⟨h1, h2⟩
   ·rw [h1]; rfl
   ·rw [h1, cond_false, gt126, h2]; rfl
  ·unfold qc8
   rw [dec_f (by omega)]; rfl
 rw [h, Option.bind_some]
 unfold wordB
 cases s.all wch with
 | false => rfl
 | true => cases s <;> rfl
theorem qko (l : List Str) (hl : ∀ s ∈ l, s.length ≤ 1000000) : qds l = some (qhR l) := by
 unfold qds qhR qa8
 by_cases h0 : l.length < 1
 ·have : l = [] := List.eq_nil_of_length_eq_zero (by omega)
  subst this; rfl
 ·rw [dec_f (show ¬ (l.length : Int) < 1 by omega), cond_false, Option.bind_some]
  have hne : l.isEmpty = false := by cases l with | nil => simp at h0 | cons => rfl
  by_cases h16 : 16 < l.length
  ·rw [dec_t (show 16 < (l.length : Int) by omega), hne, show Nat.ble l.length 16 = false by rw [Bool.eq_false_iff, ne_eq, Nat.ble_eq]; omega]; rfl
  ·rw [dec_f (show ¬ 16 < (l.length : Int) by omega), cond_false, hne, show Nat.ble l.length 16 = true by rw [Nat.ble_eq]; omega]
   have h : iter (fun x => qcu l x) 0 = some (bif l.all wordB then .inl () else .inr false) := by
    refine scan l [] wordB (fun i hi hq => ?_) (fun i hi hq => ?_) ?_
    ·unfold qcu
     rw [dec_t (by omega), cond_true, gd_t (inB_t hi), Int.toNat_natCast, qpu _ (hl _ (qa0 hi)), Option.bind_some, hq, Bool.not_true, cond_false, w1 hi (by omega)]
    ·unfold qcu
     rw [dec_t (by omega), cond_true, gd_t (inB_t hi), Int.toNat_natCast, qpu _ (hl _ (qa0 hi)), Option.bind_some, hq]; rfl
    ·unfold qcu
     rw [dec_f (by omega)]; rfl
   rw [h, Option.bind_some]
   cases ha : l.all wordB with
   | false => rfl
   | true =>
    cases l with
    | nil => simp at h0
    | cons w r =>
     simp only [List.all_cons, Bool.and_eq_true] at ha
     have hw : w ≠ [] := by
      rintro rfl
      have := ha.1
      simp [wordB] at this
     simp only [cond_true, Sum.elim_inl]
     rw [gd_t (inB0 (by simp)), gd_t (inB0 (by cases w with | nil => exact absurd rfl hw | cons => simp)), eq35]
     cases w with
     | nil => exact absurd rfl hw
     | cons => rfl
def qi5 (x : Str) : Option (List Str) := bif x.isEmpty || x.headD 0 == 35 then some [] else bif qhR (splB 32 x) then some (splB 32 x) else none
def qcp : List Str → Option (List (List Str))
 | [] => some []
 | x :: r => match qi5 x with
  | none => none
  | some w => (qcp r).map (w :: ·)
theorem qeD (x : Str) (r : List Str) : qcp (x :: r) = match qi5 x with | none => none | some w => (qcp r).map (w :: ·) := rfl
def qaW (t : Str) : List (List Str) × Int := bif Nat.blt 16384 t.length || Nat.blt 400 (lns t).length then ([], 4) else match qcp (lns t) with
 | some l => (l, 0)
 | none => ([], 3)
theorem qht {c : UInt8} : ∀ {s x : Str}, x ∈ splB c s → x.length ≤ s.length
 | [], x, h => by simp [splB] at h; subst h; simp
 | b :: l, x, h => by
  unfold splB at h
  cases hb : b == c with
  | true =>
   rw [hb] at h
   rcases List.mem_cons.1 h with rfl | h
   ·simp
   ·have := qht h; simp; omega
  | false =>
   rw [hb] at h
   simp only [cond_false] at h
   split at h
   ·simp at h; subst h; simp
   ·rename_i q t hs
    rcases List.mem_cons.1 h with rfl | h
    ·have := qht (s := l) (x := q) (by rw [hs]; simp)
     simp; omega
    ·have := qht (s := l) (x := x) (by rw [hs]; simp [h])
     simp; omega
theorem qry {s : Str} (h : s ≠ []) (hl : s.length ≤ 1000000) : ∃ X r b, qcT s [10] = some (X, r, b) ∧ lns s = X :: lns r ∧ r.length < s.length ∧ X.length ≤ s.length := by
 rcases qhs 10 s with ⟨hn, _⟩ | ⟨X, r, rfl, hX, _⟩
 ·refine ⟨s, [], false, qsc hn, ?_, ?_, Nat.le_refl _⟩
  ·rw [qq5 hn, if_neg h]; rfl
  ·cases s with
   | nil => exact absurd rfl h
   | cons => simp
 ·exact ⟨X, r, true, qrx hX (by omega), qi4 r hX, by simp; omega, by simp⟩
theorem qpv (t : Str) (h : t ≠ []) (hl : t.length ≤ 1000000) : qaY t [10] = some (decide (t.getLast? = some 10)) := by
 unfold qaY qa6
 have hp : 0 < t.length := by cases t with | nil => exact absurd rfl h | cons => simp
 rw [dec_t (show (([10] : Str).length : Int) ≤ (t.length : Int) by simp; omega), cond_true]
 have e : wi64 ((t.length : Int) - (([10] : Str).length : Int)) = ((t.length - 1 : Nat) : Int) := by
  rw [show (([10] : Str).length : Int) = 1 from rfl, wi (by omega)]; omega
 rw [e, gd_t (by simp [cutG]), Option.bind_some, Int.toNat_natCast]
 congr 1
 rw [Bool.eq_iff_iff, decide_eq_true_iff, decide_eq_true_iff]
 have e2 : t.drop (t.length - 1) = [t.getLast h] := by
  conv => lhs; rw [← List.dropLast_concat_getLast h]
  rw [List.drop_append_of_le_length (by simp)]
  simp
 rw [e2, List.getLast?_eq_some_getLast h]
 simp
theorem qpw (t : Str) (hl : t.length ≤ 1000000) : ((Option.bind (α := Bool) (bif !decide (t = []) then ((qaY t [10]).bind fun r2 => some (!r2)) else some false)) fun s => Option.bind (α := Int) (bif s then some (wi64 (((t.count 10 : Nat) : Int) + 1)) else some ((t.count 10 : Nat) : Int)) fun s2 => some s2) = some (((lns t).length : Nat) : Int) := by
 have hc : t.count 10 ≤ t.length := List.count_le_length
 rw [qmj]
 by_cases h : t = []
 ·subst h; rfl
 ·rw [dec_f h, Bool.not_false, cond_true, qpv t h hl, Option.bind_some, Option.bind_some]
  by_cases h2 : t.getLast? = some 10
  ·rw [dec_t h2, if_pos (.inr h2)]; rfl
  ·rw [dec_f h2, if_neg (fun hh => hh.elim h h2), Bool.not_false, cond_true, w1 (n := 1000001) (by omega) (by omega)]; rfl
theorem qqs : ∀ t : Str, (lns t).length ≤ t.length := by
 intro t
 rw [qmj]
 have h1 : t.count 10 ≤ t.length := List.count_le_length
 by_cases h : t = [] ∨ t.getLast? = some 10
 ·rw [if_pos h]; omega
 ·rw [if_neg h]
  rw [not_or] at h
  have h2 : t.count 10 < t.length := by
   rw [← List.dropLast_concat_getLast h.1, List.count_append, List.length_append]
   have h3 : t.dropLast.count 10 ≤ t.dropLast.length := List.count_le_length
   have h4 : List.count 10 [t.getLast h.1] = 0 := by
    rw [List.count_eq_zero]
    simp only [List.mem_singleton]
    intro e
    exact h.2 (by rw [List.getLast?_eq_some_getLast h.1, ← e])
   simp only [h4, List.length_singleton]; omega
  omega
theorem qpx (t : Str) (hl : t.length ≤ 1000000) : qfo t = some (qaW t) := by
 unfold qfo qaW
 rw [qm4, Option.bind_some]
 have hn := qpw t hl
 have hle := qqs t
 -- the number of lines
 obtain ⟨s, hs⟩ : ∃ s, (bif !decide (t = []) then ((qaY t [10]).bind fun r2 => some (!r2)) else some false) = some s := by
  cases h : (bif !decide (t = []) then ((qaY t [10]).bind fun r2 => some (!r2)) else some false) with
  | none => rw [h] at hn; cases hn
  | some s => exact ⟨s, rfl⟩
 rw [hs] at hn ⊢
 rw [Option.bind_some] at hn ⊢
 obtain ⟨m, hm⟩ : ∃ m, (bif s then some (wi64 (((t.count 10 : Nat) : Int) + 1)) else some ((t.count 10 : Nat) : Int)) = some m := by cases s <;> exact ⟨_, rfl⟩
 rw [hm] at hn ⊢
 rw [Option.bind_some] at hn ⊢
 have hn : m = ((lns t).length : Int) := by injection hn
 subst hn
 by_cases h1 : 16384 < t.length
 ·rw [dec_t (show 16384 < (t.length : Int) by omega), show Nat.blt 16384 t.length = true by rw [Nat.blt_eq]; exact h1]; rfl
 ·rw [dec_f (show ¬ 16384 < (t.length : Int) by omega), cond_false, Option.bind_some, show Nat.blt 16384 t.length = false by rw [Bool.eq_false_iff, ne_eq, Nat.blt_eq]; exact h1, Bool.false_or]
  by_cases h2 : 400 < (lns t).length
  ·rw [dec_t (show 400 < ((lns t).length : Int) by omega), show Nat.blt 400 (lns t).length = true by rw [Nat.blt_eq]; exact h2]; rfl
  ·rw [dec_f (show ¬ 400 < ((lns t).length : Int) by omega), cond_false, show Nat.blt 400 (lns t).length = false by rw [Bool.eq_false_iff, ne_eq, Nat.blt_eq]; exact h2, cond_false]
   rw [gd_t (by rw [Bool.and_eq_true, Bool.and_eq_true]; exact ⟨⟨rfl, decide_eq_true (by omega)⟩, qpe (by omega)⟩)]
   suffices h : Ok (iter (fun x => qeV x.1 x.2) (t, List.replicate 0 [])) (fun e => match qcp (lns t) with
     | some l => e = .inl l
     | none => e = .inr ([], 3)) by
    obtain ⟨e, h3, h4⟩ := h
    rw [h3, Option.bind_some]
    cases hm : qcp (lns t) with
    | none => rw [hm] at h4; rw [h4]; rfl
    | some l => rw [hm] at h4; rw [h4]; rfl
   refine Ok.loop (fun x : Str × List (List Str) => qcp (lns t) = (qcp (lns x.1)).map (x.2 ++ ·) ∧ x.1.length ≤ t.length ∧ x.2.length + (lns x.1).length ≤ 400) (fun x => x.1.length) ⟨?_, Nat.le_refl _, by simp; omega⟩ ?_
   ·show _ = (qcp (lns t)).map (List.replicate 0 [] ++ ·)
    cases qcp (lns t) <;> simp
   rintro ⟨t2, out⟩ ⟨g1, g2, g3⟩
   simp only at g1 g2 g3
   unfold qeV
   simp only
   refine Ok.bif (fun hc => ?_) fun hc => ?_
   ·have h0 : t2 ≠ [] := by intro e; rw [dec_t e] at hc; cases hc
    obtain ⟨X, r, b, c1, c2, c3, c4⟩ := qry h0 (by omega)
    rw [c2] at g1 g3
    simp only [List.length_cons] at g3
    refine Ok.eq c1 ?_
    simp only
    have e1 : (bif decide (X = []) then some (true, out) else gd (inB 0 X.length) <| some (decide ((Int.ofNat (X.getD 0 0).toNat) = 35), out)) = some (X.isEmpty || X.headD 0 == 35, out) := by
     cases X with
     | nil => rfl
     | cons a q => rw [dec_f (by simp), cond_false, gd_t (inB0 (by simp)), eq35]; rfl
    refine Ok.eq e1 ?_
    simp only
    rw [qeD] at g1
    unfold qi5 at g1
    refine Ok.bif (fun hc => ?_) fun hc => ?_
    ·rw [hc] at g1
     refine Ok.gd (qbx (by omega)) (.ret ⟨⟨?_, (by show List.length r ≤ _; omega), (by simp; omega)⟩, c3⟩)
     rw [g1]
     simp only [cond_true]
     cases qcp (lns r) <;> simp
    ·rw [hc] at g1
     refine Ok.eq (qqr X (by omega)) ?_
     refine Ok.eq (qko _ (fun s hs => Nat.le_trans (qht hs) (by omega))) ?_
     refine Ok.bif (fun hw => ?_) fun hw => ?_
     ·have hw : qhR (splB 32 X) = false := by simpa using hw
      rw [hw] at g1
      refine .ret ?_
      rw [g1]; rfl
     ·have hw : qhR (splB 32 X) = true := by simpa using hw
      rw [hw] at g1
      refine Ok.gd (qbx (by omega)) (.ret ⟨⟨?_, (by show List.length r ≤ _; omega), (by simp; omega)⟩, c3⟩)
      rw [g1]
      simp only [cond_true, cond_false]
      cases qcp (lns r) <;> simp
   ·have h0 : t2 = [] := by
     by_cases e : t2 = []
     ·exact e
     ·rw [dec_f e] at hc; cases hc
    subst h0
    refine .ret ?_
    rw [g1]
    simp [lns, qcp]
end Go.Proofs.YtpgigbdefbeagaaGreatDoor
namespace Go.Proofs.YtpgigbdefbeagaaGreatDoor
open Go Go.Sq
abbrev joinS (w : List Str) : Str := Lib.join w [32]
theorem qfs (a b : Str) (r : List Str) : joinS (a :: b :: r) = a ++ 32 :: joinS (b :: r) := by
 simp [joinS, Lib.join, List.intercalate]
def sumL (w : List Str) : Nat := (w.map List.length).sum
theorem qqt (a b : List Str) : sumL (a ++ b) = sumL a + sumL b := by simp [sumL]
theorem qpy {w : List Str} {n : Nat} (h : ∀ s ∈ w, s.length ≤ n) : sumL w ≤ w.length * n := by
 induction w with
 | nil => simp [sumL]
 | cons a r ih =>
  have h1 := h a (by simp)
  have h2 := ih (fun s hs => h s (by simp [hs]))
  have : sumL (a :: r) = a.length + sumL r := by simp [sumL]
  rw [this, List.length_cons, Nat.add_mul]; omega
theorem qhu : ∀ {w : List Str}, w ≠ [] → (joinS w).length + 1 = sumL w + w.length
 | [], h => absurd rfl h
 | [a], _ => by simp [joinS, Lib.join, List.intercalate, sumL]
 | a :: b :: r, _ => by
  rw [qfs]
  have ih := qhu (w := b :: r) (by simp)
  have : sumL (a :: b :: r) = a.length + sumL (b :: r) := by simp [sumL]
  rw [this]
  simp only [List.length_append, List.length_cons] at ih ⊢
  omega
theorem qqu (w : List Str) : (joinS w).length ≤ sumL w + w.length := by
 cases w with
 | nil => simp [joinS, Lib.join, List.intercalate]
 | cons a r => have := qhu (w := a :: r) (by simp); omega
def txt (l : List (List Str)) : Str := l.flatMap fun w => joinS w ++ [10]
theorem qpz (a b : List (List Str)) : txt (a ++ b) = txt a ++ txt b := by simp [txt]
theorem qrz (w : List Str) : txt [w] = joinS w ++ [10] := by simp [txt]
def szW (w : List Str) : Nat := w.length + sumL w
def szL (l : List (List Str)) : Nat := (l.map szW).sum
theorem qrA (a b : List (List Str)) : szL (a ++ b) = szL a + szL b := by simp [szL]
theorem qkp : ∀ l : List (List Str), szL l ≤ (txt l).length ∧ (txt l).length ≤ szL l + l.length
 | [] => by simp [szL, txt]
 | w :: r => by
  obtain ⟨h1, h2⟩ := qkp r
  have e1 : szL (w :: r) = szW w + szL r := by simp [szL]
  have e2 : (txt (w :: r)).length = (joinS w).length + 1 + (txt r).length := by simp [txt]; omega
  rw [e1, e2, List.length_cons]
  cases w with
  | nil => simp [szW, sumL, joinS, Lib.join, List.intercalate]; omega
  | cons a q =>
   have := qhu (w := a :: q) (by simp)
   unfold szW; omega
theorem qqv (l : List (List Str)) (k : Nat) : (txt (l.take k)).length ≤ (txt l).length := by
 have := qpz (l.take k) (l.drop k)
 rw [List.take_append_drop] at this
 rw [this, List.length_append]; omega
def qgm (l : List (List Str)) : Str × Int := bif Nat.blt 400 l.length then ([], 4) else bif !l.all qa8 then ([], 3) else bif Nat.blt 16384 (txt l).length then ([], 4) else (txt l, 0)
def BJ (l : List (List Str)) : Prop := ∀ w ∈ l, w.length ≤ 1000000 ∧ ∀ s ∈ w, s.length ≤ 1000000
theorem qpA {w : List Str} (h : qa8 w = true) (hb : ∀ s ∈ w, s.length ≤ 1000000) : szW w ≤ 17000000 := by
 unfold qa8 at h
 rw [Bool.and_eq_true, Bool.and_eq_true, Nat.ble_eq] at h
 have := qpy hb
 have h2 : w.length * 1000000 ≤ 16 * 1000000 := Nat.mul_le_mul_right _ h.1.1
 unfold szW; omega
theorem qga (x : Str) : qbh (qbN x) = x := by
 unfold qbh qbN
 rw [List.map_map]
 conv => rhs; rw [← List.map_id x]
 refine List.map_congr_left fun b _ => ?_
 show UInt8.ofNat (Int.toNat (b.toNat : Int)) = b
 rw [Int.toNat_natCast]
 exact UInt8.ofNat_toNat
theorem qgX (a b : Str) : qbN (a ++ b) = qbN a ++ qbN b := by simp [qbN]
theorem qeR {w : List Str} (h : w ≠ []) : qhR w = qa8 w := by
 unfold qhR
 cases w with
 | nil => exact absurd rfl h
 | cons => rfl
theorem qsd (l : List (List Str)) (k : Nat) (hne : l.getD k [] ≠ []) (hb : ∀ s ∈ l.getD k [], s.length ≤ 1000000) (h16 : (l.getD k []).length ≤ 16) (m : Nat) (hm : m ≤ 32800) :
  iter (fun x => qb4 l (k : Int) x.1 x.2) ((m : Int), 0) = some (((min (m + sumL (l.getD k [])) 32768 : Nat) : Int)) := by
 refine ok_eq ?_
 have hpos : 0 < (l.getD k []).length := by cases h : l.getD k [] with | nil => exact absurd h hne | cons => simp
 refine Ok.loop (fun x : Int × Int => ∃ j : Nat, x.2 = (j : Int) ∧ j ≤ (l.getD k []).length ∧ x.1 = (((if j = 0 then m else min (m + sumL ((l.getD k []).take j)) 32768 : Nat)) : Int)) (fun x => (l.getD k []).length - x.2.toNat) ⟨0, rfl, by omega, rfl⟩ ?_
 rintro ⟨n, v⟩ ⟨j, g1, g2, g3⟩
 simp only at g1 g3
 subst g1 g3
 unfold qb4
 simp only
 rw [Int.toNat_natCast]
 generalize l.getD k [] = w at *
 have hcap : (if j = 0 then m else min (m + sumL (w.take j)) 32768 : Nat) ≤ 32800 := by split <;> omega
 refine Ok.bif (fun hc => ?_) fun hc => ?_
 ·have hc := of_decide_eq_true hc
  have hj : j < w.length := by omega
  have hX := hb _ (qa0 (d := []) hj)
  refine Ok.gd (inB_t hj) ?_
  rw [Int.toNat_natCast]
  have e1 : wi64 (((if j = 0 then m else min (m + sumL (w.take j)) 32768 : Nat) : Int) + ((w.getD j []).length : Int)) = (((if j = 0 then m else min (m + sumL (w.take j)) 32768) + (w.getD j []).length : Nat) : Int) := by rw [wi (by omega)]; omega
  rw [e1]
  have hs : sumL (w.take (j + 1)) = sumL (w.take j) + (w.getD j []).length := by rw [qbI [] hj, qqt]; simp [sumL]
  have h00 : sumL (w.take 0) = 0 := by simp [sumL]
  have e2 : (Option.bind (α := Int) (bif decide (32768 < (((if j = 0 then m else min (m + sumL (w.take j)) 32768) + (w.getD j []).length : Nat) : Int)) then some 32768 else some (((if j = 0 then m else min (m + sumL (w.take j)) 32768) + (w.getD j []).length : Nat) : Int)) fun s2 => some s2) = some ((min (m + sumL (w.take (j + 1))) 32768 : Nat) : Int) := by
   rw [hs]
   by_cases hj0 : j = 0
   ·subst hj0
    rw [if_pos rfl, h00]
    by_cases hlt : 32768 < m + (w.getD 0 []).length
    ·rw [dec_t (by omega), cond_true, Option.bind_some]; congr 1; omega
    ·rw [dec_f (by omega), cond_false, Option.bind_some]; congr 1; omega
   ·rw [if_neg hj0]
    by_cases hlt : 32768 < min (m + sumL (w.take j)) 32768 + (w.getD j []).length
    ·rw [dec_t (by omega), cond_true, Option.bind_some]; congr 1; omega
    ·rw [dec_f (by omega), cond_false, Option.bind_some]; congr 1; omega
  have e3 : (bif decide (32768 < (((if j = 0 then m else min (m + sumL (w.take j)) 32768) + (w.getD j []).length : Nat) : Int)) then some 32768 else some (((if j = 0 then m else min (m + sumL (w.take j)) 32768) + (w.getD j []).length : Nat) : Int)) = some ((min (m + sumL (w.take (j + 1))) 32768 : Nat) : Int) := by
   rw [← e2]; cases (bif decide (32768 < (((if j = 0 then m else min (m + sumL (w.take j)) 32768) + (w.getD j []).length : Nat) : Int)) then some (32768 : Int) else some (((if j = 0 then m else min (m + sumL (w.take j)) 32768) + (w.getD j []).length : Nat) : Int)) <;> rfl
  rw [e3, Option.bind_some, w1 hj (by omega)]
  exact .ret ⟨⟨j + 1, rfl, by omega, by rw [if_neg (by omega)]⟩, by simp only [Int.toNat_natCast]; omega⟩
 ·have hc := of_decide_eq_false hc
  have : j = w.length := by omega
  subst this
  refine .ret ?_
  dsimp only
  rw [if_neg (by omega), List.take_length]
theorem qse (l : List (List Str)) (hb : BJ l) (hl : l.length ≤ 400) : iter (fun x2 => qa4 l x2.1 x2.2) (0, 0) = some (bif l.all qa8 then .inl (((min (szL l) 32768 : Nat)) : Int) else .inr ([], 3)) := by
 have h := qfl (step := fun x2 : Int × Int => qa4 l x2.1 x2.2) l.length (fun i => (((min (szL (l.take i)) 32768 : Nat) : Int), (i : Int))) (fun i => qa8 (l.getD i [])) (fin := Sum.inl (((min (szL l) 32768 : Nat)) : Int)) (bad := Sum.inr (([] : Str), (3 : Int))) (fun i hi _ hq => ?_) (fun i hi _ hq => ?_) (fun _ => ?_)
 ·rw [qmX l [] qa8] at h
  rw [← h]
  rfl
 ·show qa4 l ((min (szL (l.take i)) 32768 : Nat) : Int) (i : Int) = _
  unfold qa4
  rw [dec_t (by omega), cond_true, gd_t (inB_t hi), Int.toNat_natCast]
  have hs : szL (l.take (i + 1)) = szL (l.take i) + szW (l.getD i []) := by rw [qbI [] hi, qrA]; simp [szL]
  by_cases h0 : l.getD i [] = []
  ·rw [h0] at hs ⊢
   have hz : szW ([] : List Str) = 0 := rfl
   have e1 : wi64 (((min (szL (l.take i)) 32768 : Nat) : Int) + (([] : List Str).length : Int)) = ((min (szL (l.take (i + 1))) 32768 : Nat) : Int) := by
    rw [hs, hz, show (([] : List Str).length : Int) = 0 from rfl, wi (by omega)]; omega
   rw [dec_f (show ¬ (0 : Int) < (([] : List Str).length : Int) by simp), cond_false, Option.bind_some, cond_false, e1]
   have e2 : iter (fun x => qb4 l (i : Int) x.1 x.2) (((min (szL (l.take (i + 1))) 32768 : Nat) : Int), 0) = some ((min (szL (l.take (i + 1))) 32768 : Nat) : Int) := by
    refine qdy ?_
    show qb4 l (i : Int) _ 0 = _
    unfold qb4
    rw [Int.toNat_natCast, h0]; rfl
   rw [e2, Option.bind_some, w1 hi (by omega)]
  ·have hw := hb _ (qa0 (d := []) hi)
   have hpos : 0 < (l.getD i []).length := by cases h : l.getD i [] with | nil => exact absurd h h0 | cons => simp
   have h16 : (l.getD i []).length ≤ 16 := by
    have := hq; unfold qa8 at this
    rw [Bool.and_eq_true, Bool.and_eq_true, Nat.ble_eq] at this; exact this.1.1
   rw [dec_t (show (0 : Int) < ((l.getD i []).length : Int) by omega), cond_true, qko _ hw.2, qeR h0, hq, Option.bind_some, Option.bind_some]
   have e1 : wi64 (((min (szL (l.take i)) 32768 : Nat) : Int) + ((l.getD i []).length : Int)) = ((min (szL (l.take i)) 32768 + (l.getD i []).length : Nat) : Int) := by rw [wi (by omega)]; omega
   rw [e1, Bool.not_true, cond_false, qsd l i h0 hw.2 h16 _ (by omega), Option.bind_some, w1 hi (by omega)]
   congr 3
   rw [hs]; unfold szW; omega
 ·show qa4 l ((min (szL (l.take i)) 32768 : Nat) : Int) (i : Int) = _
  have h0 : l.getD i [] ≠ [] := by
   intro e; rw [e] at hq; cases hq
  have hw := hb _ (qa0 (d := []) hi)
  have hpos : 0 < (l.getD i []).length := by cases h : l.getD i [] with | nil => exact absurd h h0 | cons => simp
  unfold qa4
  rw [dec_t (by omega), cond_true, gd_t (inB_t hi), Int.toNat_natCast, dec_t (show (0 : Int) < ((l.getD i []).length : Int) by omega), cond_true, qko _ hw.2, qeR h0, hq]; rfl
 ·show qa4 l ((min (szL (l.take l.length)) 32768 : Nat) : Int) (l.length : Int) = _
  unfold qa4
  rw [dec_f (by omega), cond_false, List.take_length]
theorem qsf (l : List (List Str)) (hpr : l.all qa8 = true) (hb : BJ l) (hl : l.length ≤ 400) (hsz : szL l < 32768) (n : Int) (hn : n < 32768) : iter (fun x3 => qay l n x3.1 x3.2) (0, []) = some (qbN (txt l)) := by
 have h := qbt (step := fun x3 : Int × List Int => qay l n x3.1 x3.2) l.length (fun i => ((i : Int), qbN (txt (l.take i)))) (e := qbN (txt l)) (fun i hi => ?_) ?_
 ·exact h
 ·show qay l n (i : Int) (qbN (txt (l.take i))) = _
  have hpi : qa8 (l.getD i []) = true := List.all_eq_true.1 hpr _ (qa0 hi)
  have hjl := qqu (l.getD i [])
  have hw := qpA hpi (hb _ (qa0 (d := []) hi)).2
  unfold szW at hw
  have htl := qkp l
  have htt := qqv l i
  have hj2 : (Lib.join (l.getD i []) [32]).length ≤ 140737488355328 := (by omega : (joinS (l.getD i [])).length ≤ 140737488355328)
  unfold qay
  rw [dec_t (by omega), cond_true, gd_t (inB_t hi), Int.toNat_natCast, dec_t hn, cond_true]
  have e1 : joinT (l.getD i []) [32] = some (joinS (l.getD i [])) := by
   unfold joinT
   rw [Nat.ble_eq_true_of_le (show (l.getD i []).length ≤ 140737488355328 by omega), Nat.ble_eq_true_of_le hj2]; rfl
  rw [e1, Option.bind_some, gd_t (Nat.ble_eq_true_of_le (by show (joinS (l.getD i [])).length + 1 ≤ _; omega))]
  unfold qbq ccT
  rw [Option.bind_some, gd_t (by
   rw [Bool.and_eq_true, Nat.blt_eq]
   exact ⟨by rw [List.length_append]; simp; omega, qbx (by rw [qiv, List.length_append, show ([10] : Str).length = 1 from rfl]; omega)⟩), Option.bind_some, Option.bind_some, w1 hi (by omega)]
  simp only
  rw [qbI [] hi, qpz, qrz, qgX, qgX, qgX]
 ·show qay l n (l.length : Int) (qbN (txt (l.take l.length))) = _
  unfold qay
  rw [dec_f (by omega), cond_false, List.take_length]
theorem qrB (l : List (List Str)) (hl : l.length ≤ 400) : iter (fun x3 => qay l 32768 x3.1 x3.2) (0, []) = some [] := by
 have h := qbt (step := fun x3 : Int × List Int => qay l 32768 x3.1 x3.2) l.length (fun i => ((i : Int), ([] : List Int))) (e := []) (fun i hi => ?_) ?_
 ·exact h
 ·show qay l 32768 (i : Int) [] = _
  unfold qay
  rw [dec_t (by omega), cond_true, gd_t (inB_t hi), dec_f (by decide), cond_false, Option.bind_some, w1 hi (by omega)]
 ·show qay l 32768 (l.length : Int) [] = _
  unfold qay
  rw [dec_f (by omega)]; rfl
theorem qsg : qfm [] = some ([], 0) := by
 have h1 : iter (fun x2 : Int × Int => qgz [] x2.1 x2.2) (0, 0) = some (.inl 0) := qdy rfl
 have h2 : iter (fun x3 : Int => qgA [] 0 x3) 0 = some () := qdy rfl
 unfold qfm
 rw [dec_f (by simp), cond_false, h1, Option.bind_some]
 simp only [Sum.elim_inl]
 rw [h2]; rfl
theorem qqw (l : List (List Str)) (hb : BJ l) : qe7 l = some (qgm l) := by
 unfold qe7
 cases hl : l with
 | nil => exact qsg
 | cons w0 r0 =>
  rw [← hl]
  have hne : l ≠ [] := by rw [hl]; simp
  rw [show qo2 l = false by rw [hl]; rfl, cond_false]
  unfold qfn qgm
  by_cases h1 : 400 < l.length
  ·rw [dec_t (show 400 < (l.length : Int) by omega), show Nat.blt 400 l.length = true by rw [Nat.blt_eq]; exact h1]; rfl
  ·rw [dec_f (show ¬ 400 < (l.length : Int) by omega), cond_false, show Nat.blt 400 l.length = false by rw [Bool.eq_false_iff, ne_eq, Nat.blt_eq]; exact h1, cond_false, qse l hb (by omega), Option.bind_some]
   cases ha : l.all qa8 with
   | false => rfl
   | true =>
    simp only [cond_true, Sum.elim_inl, Bool.not_true, cond_false]
    have htl := qkp l
    by_cases hs : szL l < 32768
    ·have e : min (szL l) 32768 = szL l := by omega
     rw [e, qsf l ha hb (by omega) hs _ (by omega), Option.bind_some, dec_f (show ¬ ((szL l : Int) = 32768) by omega), cond_false]
     unfold qcS qb5
     rw [Option.bind_some, Option.bind_some]
     simp only
     rw [qiv]
     by_cases h5 : 16384 < (txt l).length
     ·rw [dec_t (show 16384 < ((txt l).length : Int) by omega), show Nat.blt 16384 (txt l).length = true by rw [Nat.blt_eq]; exact h5]; rfl
     ·rw [dec_f (show ¬ 16384 < ((txt l).length : Int) by omega), show Nat.blt 16384 (txt l).length = false by rw [Bool.eq_false_iff, ne_eq, Nat.blt_eq]; exact h5]
      have hpos : 0 < (txt l).length := by
       rw [hl]
       simp [txt]; omega
      rw [cond_false, gd_t (by rw [Nat.blt_eq]; exact hpos), gd_t (by
       rw [Bool.and_eq_true, Bool.and_eq_true, Nat.blt_eq]
       exact ⟨hpos, by simp, decide_eq_true (by rw [qga])⟩), qga]; rfl
    ·have e : min (szL l) 32768 = 32768 := by omega
     rw [e]
     rw [show (((32768 : Nat) : Int)) = 32768 from rfl, qrB l (by omega), Option.bind_some, show Nat.blt 16384 (txt l).length = true by rw [Nat.blt_eq]; omega]; rfl
end Go.Proofs.YtpgigbdefbeagaaGreatDoor
namespace Go.Proofs.YtpgigbdefbeagaaGreatDoor
open Go Go.Sq
theorem qq6 {b : UInt8} (h : wch b = true) : b ≠ 10 ∧ b ≠ 32 := by
 constructor <;> (rintro rfl; cases h)
theorem qi6 {x : Str} (h : wordB x = true) : (10 : UInt8) ∉ x ∧ (32 : UInt8) ∉ x ∧ x ≠ [] := by
 unfold wordB at h
 rw [Bool.and_eq_true, List.all_eq_true] at h
 exact ⟨fun hm => (qq6 (h.1 _ hm)).1 rfl, fun hm => (qq6 (h.1 _ hm)).2 rfl, fun e => by rw [e] at h; cases h.2⟩
theorem qm6 : ∀ {w : List Str}, (∀ x ∈ w, wordB x = true) → (10 : UInt8) ∉ joinS w
 | [], _ => by simp [joinS, Lib.join, List.intercalate]
 | [a], h => by
  have := (qi6 (h a (by simp))).1
  simpa [joinS, Lib.join, List.intercalate] using this
 | a :: b :: r, h => by
  rw [qfs]
  simp only [List.mem_append, List.mem_cons, not_or]
  exact ⟨(qi6 (h a (by simp))).1, by decide, qm6 (fun x hx => h x (List.mem_cons_of_mem _ hx))⟩
theorem qlc : ∀ {w : List Str}, w ≠ [] → (∀ x ∈ w, wordB x = true) → splB 32 (joinS w) = w
 | [], h, _ => absurd rfl h
 | [a], _, h => by
  have := qkl (qi6 (h a (by simp))).2.1
  simpa [joinS, Lib.join, List.intercalate] using this
 | a :: b :: r, _, h => by
  rw [qfs, qhr _ (qi6 (h a (by simp))).2.1, qlc (by simp) (fun x hx => h x (List.mem_cons_of_mem _ hx))]
theorem qhJ {w : List Str} (h : qa8 w = true) : (∀ x ∈ w, wordB x = true) ∧ ((w.headD []).headD 0 == 35) = false ∧ w.length ≤ 16 := by
 unfold qa8 at h
 rw [Bool.and_eq_true, Bool.and_eq_true, Nat.ble_eq, List.all_eq_true, Bool.not_eq_true'] at h
 exact ⟨h.1.2, h.2, h.1.1⟩
theorem qnQ {w : List Str} (hw : ∀ x ∈ w, wordB x = true) : (joinS w).headD 0 = (w.headD []).headD 0 ∧ (w ≠ [] → joinS w ≠ []) := by
 cases w with
 | nil => exact ⟨rfl, fun h => absurd rfl h⟩
 | cons a r =>
  have ha := (qi6 (hw a (by simp))).2.2
  cases a with
  | nil => exact absurd rfl ha
  | cons c q =>
   cases r with
   | nil => simp [joinS, Lib.join, List.intercalate]
   | cons b t => rw [qfs]; simp
theorem qmk {w : List Str} (h : qa8 w = true) : qi5 (joinS w) = some w := by
 obtain ⟨h1, h2, h3⟩ := qhJ h
 obtain ⟨e1, e2⟩ := qnQ h1
 unfold qi5
 cases w with
 | nil => rfl
 | cons a r =>
  have hne := e2 (by simp)
  rw [e1, h2, qlc (by simp) h1, qeR (by simp), h]
  cases hj : joinS (a :: r) with
  | nil => exact absurd hj hne
  | cons => rfl
theorem qpB (X : Str) : ∀ {a : List (List Str)}, (∀ w ∈ a, qa8 w = true) → lns (txt a ++ X) = a.map joinS ++ lns X
 | [], _ => rfl
 | w :: r, h => by
  have e : txt (w :: r) ++ X = joinS w ++ 10 :: (txt r ++ X) := by simp [txt]
  rw [e, qi4 _ (qm6 (qhJ (h w (by simp))).1), qpB X (fun w hw => h w (List.mem_cons_of_mem _ hw))]; rfl
theorem qjy (Y : List Str) : ∀ {a : List (List Str)}, (∀ w ∈ a, qa8 w = true) → qcp (a.map joinS ++ Y) = (qcp Y).map (a ++ ·)
 | [], _ => by show qcp Y = _; cases qcp Y <;> simp
 | w :: r, h => by
  show qcp (joinS w :: (r.map joinS ++ Y)) = _
  rw [qeD, qmk (h w (by simp)), qjy Y (fun w hw => h w (List.mem_cons_of_mem _ hw))]
  cases qcp Y <;> simp
theorem qqx {a : List (List Str)} (h : ∀ w ∈ a, qa8 w = true) (h1 : a.length ≤ 400) (h2 : (txt a).length ≤ 16384) : qgm a = (txt a, 0) := by
 unfold qgm
 rw [show Nat.blt 16384 (txt a).length = false by rw [Bool.eq_false_iff, ne_eq, Nat.blt_eq]; omega, show Nat.blt 400 a.length = false by rw [Bool.eq_false_iff, ne_eq, Nat.blt_eq]; omega, show a.all qa8 = true from List.all_eq_true.2 h]; rfl
theorem qsh {a : List (List Str)} {n : Nat} (h : ∀ w ∈ a, szW w ≤ n) : szL a ≤ a.length * n := by
 induction a with
 | nil => simp [szL]
 | cons w r ih =>
  have h1 := h w (by simp)
  have h2 := ih (fun w hw => h w (by simp [hw]))
  have : szL (w :: r) = szW w + szL r := by simp [szL]
  rw [this, List.length_cons, Nat.add_mul]; omega
end Go.Proofs.YtpgigbdefbeagaaGreatDoor
