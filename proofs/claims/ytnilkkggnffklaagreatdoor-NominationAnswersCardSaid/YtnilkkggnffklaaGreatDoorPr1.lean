/- Numbers of a text. No condition. -/
import Derived.Test.YtnilkkggnffklaaGreatDoorLe
namespace Go.Proofs.YtnilkkggnffklaaGreatDoor
open Go Go.Sq
set_option linter.unusedVariables false
/-- A digit. -/
def dig (b : UInt8) : Bool := Nat.ble 48 b.toNat && Nat.ble b.toNat 57
/-- The value of digits behind a number. -/
def valD : Nat → List UInt8 → Nat
  | acc, [] => acc
  | acc, c :: r => valD (acc * 10 + (c.toNat - 48)) r
def mns : List UInt8 → Bool
  | [] => false
  | c :: _ => c == 45
def dgs : List UInt8 → List UInt8
  | [] => []
  | c :: r => bif c == 45 then r else c :: r
theorem dgs_cons (c : UInt8) (r : List UInt8) : dgs (c :: r) = bif c == 45 then r else c :: r := rfl
/-- What a text is read as. -/
def specNum (s : List UInt8) : Int × Int :=
  bif (dgs s).isEmpty || ((dgs s).headD 0 == 48 && !decide (s = [48])) || !(dgs s).all dig then (0, 3)
  else bif decide (9007199254740992 < valD 0 (dgs s)) then (0, 1)
  else (bif mns s then -(valD 0 (dgs s) : Int) else (valD 0 (dgs s) : Int), 0)
theorem all_gD {A : Type} (l : List A) (d : A) (q : A → Bool) : (List.range l.length).all (fun i => q (l.getD i d)) = l.all q := by
  rw [Bool.eq_iff_iff, all_range, List.all_eq_true]
  constructor
  · intro h x hx
    obtain ⟨k, hk, rfl⟩ := mem_gD d hx
    exact h k hk
  · intro h i hi
    exact h _ (gD_mem hi)
/-- A walk along a list that ends where something does not hold. -/
theorem scan {A ε : Type} (l : List A) (d : A) {step : Int → Option (Int ⊕ ε)} (q : A → Bool) {fin bad : ε}
    (h1 : ∀ i, i < l.length → q (l.getD i d) = true → step (i : Int) = some (.inl ((i + 1 : Nat) : Int)))
    (h2 : ∀ i, i < l.length → q (l.getD i d) = false → step (i : Int) = some (.inr bad)) (h3 : step (l.length : Int) = some (.inr fin)) : iter step 0 = some (bif l.all q then fin else bad) := by
  have := iter_all (step := step) l.length (fun i => (i : Int)) (fun i => q (l.getD i d)) (fin := fin) (bad := bad) (fun i hi _ hq => h1 i hi hq) (fun i hi _ hq => h2 i hi hq) (fun _ => h3)
  rw [all_gD] at this
  exact this
theorem w1 {i n : Nat} (h : i < n) (hn : n ≤ 4611686018427387904) : wi64 ((i : Int) + 1) = ((i + 1 : Nat) : Int) := by rw [wi (by omega)]; omega
theorem inB0 {n : Nat} (h : 0 < n) : inB 0 n = true := inB_iff.2 ⟨by omega, by omega⟩
theorem trim_eq (s : List UInt8) : strings_TrimPrefix s [45] = some (dgs s) := by
  unfold strings_TrimPrefix internal_stringslite_TrimPrefix internal_stringslite_HasPrefix
  cases s with
  | nil => rfl
  | cons c r =>
    have h1 : decide ((([45] : List UInt8).length : Int) ≤ ((c :: r).length : Int)) = true := decide_eq_true (by simp; omega)
    have h2 : cutG none (some (.i64, (([45] : List UInt8).length : Int))) (c :: r).length = true := by simp [cutG]; omega
    have h3 : cutG (some (.i64, (([45] : List UInt8).length : Int))) none (c :: r).length = true := by simp [cutG]; omega
    rw [h1, cond_true, gd_t h2, Option.bind_some, gd_t h3]
    have h4 : decide ((c :: r).take (([45] : List UInt8).length : Int).toNat = [45]) = (c == 45) := by
      rw [Bool.eq_iff_iff]; simp
    rw [h4, dgs_cons]
    cases c == 45 <;> rfl
theorem numL0 (r : List UInt8) (h : r.length ≤ 4611686018427387904) : iter (fun x => lines_Number_L0 r x) 0 = some (bif r.all dig then .inl () else .inr (0, 3)) := by
  refine scan r 0 dig (fun i hi hq => ?_) (fun i hi hq => ?_) ?_
  · simp only [dig, Bool.and_eq_true, Nat.ble_eq] at hq
    unfold lines_Number_L0
    rw [dec_t (by omega), cond_true, gd_t (inB_t hi), gd_t (inB_t hi), Int.toNat_natCast, dec_f (by simp only [Int.ofNat_eq_natCast]; omega), cond_false, dec_f (by simp only [Int.ofNat_eq_natCast]; omega), Option.bind_some, cond_false, w1 hi h]
  · have hq : ¬ (48 ≤ (r.getD i 0).toNat ∧ (r.getD i 0).toNat ≤ 57) := by
      intro h; rw [show dig (r.getD i 0) = true by simp only [dig, Bool.and_eq_true, Nat.ble_eq]; exact h] at hq; cases hq
    unfold lines_Number_L0
    rw [dec_t (by omega), cond_true, gd_t (inB_t hi), gd_t (inB_t hi), Int.toNat_natCast]
    by_cases h48 : (r.getD i 0).toNat < 48
    · rw [dec_t (by simp only [Int.ofNat_eq_natCast]; omega)]; rfl
    · rw [dec_f (by simp only [Int.ofNat_eq_natCast]; omega), cond_false, dec_t (by simp only [Int.ofNat_eq_natCast]; omega)]; rfl
  · unfold lines_Number_L0
    rw [dec_f (by omega)]; rfl
theorem valD_ge : ∀ (l : List UInt8) (acc : Nat), acc ≤ valD acc l
  | [], _ => Nat.le_refl _
  | c :: r, acc => by have := valD_ge r (acc * 10 + (c.toNat - 48)); unfold valD; omega
theorem pu_eq : ∀ (l : List UInt8) (acc : Nat), acc < 18446744073709551616 → l.all dig = true → Lib.parseUint10 acc l = if valD acc l < 18446744073709551616 then .ok (valD acc l) else .range
  | [], acc, h, _ => by unfold valD Lib.parseUint10; rw [if_pos h]
  | c :: r, acc, h, hd => by
    simp only [List.all_cons, Bool.and_eq_true, dig, Nat.ble_eq] at hd
    unfold Lib.parseUint10
    rw [if_pos hd.1]
    have hge := valD_ge r (acc * 10 + (c.toNat - 48))
    by_cases h1 : 1844674407370955162 ≤ acc
    · rw [if_pos h1]
      unfold valD; rw [if_neg (by omega)]
    · rw [if_neg h1]
      by_cases h2 : 18446744073709551616 ≤ acc * 10 + (c.toNat - 48)
      · rw [if_pos h2]
        unfold valD; rw [if_neg (by omega)]
      · rw [if_neg h2, pu_eq r _ (by omega) (by simpa [dig] using hd.2)]
        rfl
theorem atoi_eq (s : List UInt8) (h0 : dgs s ≠ []) (hd : (dgs s).all dig = true) : Lib.atoiAll s = (if valD 0 (dgs s) < 18446744073709551616 then
    (if ¬ mns s = true ∧ 9223372036854775808 ≤ valD 0 (dgs s) then .range else if mns s = true ∧ 9223372036854775808 < valD 0 (dgs s) then .range else .ok (if mns s = true then -(valD 0 (dgs s) : Int) else valD 0 (dgs s))) else .range) := by
  cases s with
  | nil => exact absurd rfl h0
  | cons c r =>
    have hc45 : (c.toNat = 45) ↔ (c == 45) = true := by
      rw [beq_iff_eq]
      constructor
      · intro h; exact UInt8.toNat_inj.1 h
      · rintro rfl; rfl
    have key : Lib.parseMag (if c.toNat = 43 ∨ c.toNat = 45 then r else c :: r) = if valD 0 (dgs (c :: r)) < 18446744073709551616 then .ok (valD 0 (dgs (c :: r))) else .range := by
      by_cases h45 : c.toNat = 45
      · have hb := hc45.1 h45
        have e : dgs (c :: r) = r := by rw [dgs_cons, hb]; rfl
        rw [e] at h0 hd ⊢
        rw [if_pos (.inr h45)]
        unfold Lib.parseMag
        rw [if_neg h0]
        exact pu_eq r 0 (by decide) hd
      · have hb : (c == 45) = false := Bool.eq_false_iff.2 fun h => h45 (hc45.2 h)
        have e : dgs (c :: r) = c :: r := by rw [dgs_cons, hb]; rfl
        rw [e] at h0 hd ⊢
        have h43 : c.toNat ≠ 43 := by
          simp only [List.all_cons, Bool.and_eq_true, dig, Nat.ble_eq] at hd
          omega
        rw [if_neg (by omega)]
        unfold Lib.parseMag
        rw [if_neg h0]
        exact pu_eq _ 0 (by decide) hd
    unfold Lib.atoiAll
    simp only [hc45] at key ⊢
    rw [key]
    by_cases hv : valD 0 (dgs (c :: r)) < 18446744073709551616
    · rw [if_pos hv, if_pos hv]; rfl
    · rw [if_neg hv, if_neg hv]
theorem atoiT_eq (s : List UInt8) (h : s.length ≤ 281474976710656) : atoiT s = some (match Lib.atoiAll s with
    | .ok v => (v, false)
    | .range => (Lib.atoiSat s, true)
    | _ => (0, true)) := by
  unfold atoiT
  rw [Nat.ble_eq_true_of_le h]; rfl
theorem num_eq (s : List UInt8) (h : s.length ≤ 281474976710656) : lines_Number s = some (specNum s) := by
  have hl : (dgs s).length ≤ s.length := by
    cases s with
    | nil => exact Nat.le_refl _
    | cons c r => rw [dgs_cons]; cases c == 45 <;> simp
  unfold lines_Number
  rw [trim_eq, Option.bind_some]
  have e1 : (bif decide (dgs s = []) then some true else (gd (inB 0 (dgs s).length) <| bif decide ((Int.ofNat ((dgs s).getD 0 0).toNat) = 48) then some (!decide (s = [48])) else some false)) = some ((dgs s).isEmpty || ((dgs s).headD 0 == 48 && !decide (s = [48]))) := by
    cases hd : dgs s with
    | nil => rfl
    | cons c r =>
      rw [dec_f (by simp), cond_false, gd_t (inB0 (by simp))]
      have e : decide ((Int.ofNat ((c :: r).getD 0 0).toNat) = 48) = (c == 48) := by
        rw [Bool.eq_iff_iff, decide_eq_true_iff, beq_iff_eq]
        simp only [List.getD_cons_zero, Int.ofNat_eq_natCast]
        constructor
        · intro h; exact UInt8.toNat_inj.1 (by show c.toNat = 48; omega)
        · rintro rfl; rfl
      rw [e]
      simp only [List.isEmpty_cons, Bool.false_or, List.headD_cons]
      cases c == 48 <;> rfl
  rw [e1, Option.bind_some]
  unfold specNum
  cases hc : (dgs s).isEmpty || ((dgs s).headD 0 == 48 && !decide (s = [48])) with
  | true => simp
  | false =>
    rw [cond_false, numL0 _ (by omega), Option.bind_some]
    cases hd : (dgs s).all dig with
    | false => rfl
    | true =>
      have h0 : dgs s ≠ [] := by
        intro e; rw [e] at hc; simp at hc
      simp only [cond_true, Sum.elim_inl, Bool.false_or, Bool.not_true, cond_false]
      rw [atoiT_eq s h, Option.bind_some, atoi_eq s h0 hd]
      by_cases hv : valD 0 (dgs s) < 18446744073709551616
      · rw [if_pos hv]
        cases hm : mns s with
        | true =>
          rw [if_neg (by simp)]
          by_cases h2 : 9223372036854775808 < valD 0 (dgs s)
          · rw [if_pos ⟨rfl, h2⟩, dec_t (show 9007199254740992 < valD 0 (dgs s) by omega)]; rfl
          · rw [if_neg (fun h => h2 h.2), if_pos rfl]
            simp only [cond_false]
            by_cases h3 : 9007199254740992 < valD 0 (dgs s)
            · rw [dec_t h3, dec_t (show -(valD 0 (dgs s) : Int) < -9007199254740992 by omega)]; rfl
            · rw [dec_f h3, dec_f (show ¬ -(valD 0 (dgs s) : Int) < -9007199254740992 by omega), cond_false, dec_f (show ¬ (9007199254740992 < -(valD 0 (dgs s) : Int)) by omega)]; rfl
        | false =>
          by_cases h2 : 9223372036854775808 ≤ valD 0 (dgs s)
          · rw [if_pos ⟨by simp, h2⟩, dec_t (show 9007199254740992 < valD 0 (dgs s) by omega)]; rfl
          · rw [if_neg (fun h => h2 h.2), if_neg (by simp), if_neg (by simp)]
            simp only [cond_false]
            by_cases h3 : 9007199254740992 < valD 0 (dgs s)
            · rw [dec_t h3, dec_f (show ¬ (valD 0 (dgs s) : Int) < -9007199254740992 by omega), cond_false, dec_t (show (9007199254740992 < (valD 0 (dgs s) : Int)) by omega)]; rfl
            · rw [dec_f h3, dec_f (show ¬ (valD 0 (dgs s) : Int) < -9007199254740992 by omega), cond_false, dec_f (show ¬ (9007199254740992 < (valD 0 (dgs s) : Int)) by omega)]; rfl
      · rw [if_neg hv, dec_t (show 9007199254740992 < valD 0 (dgs s) by omega)]; rfl
theorem valD_app (c : UInt8) : ∀ (l : List UInt8) (acc : Nat), valD acc (l ++ [c]) = valD acc l * 10 + (c.toNat - 48)
  | [], _ => rfl
  | _ :: r, _ => valD_app c r _
/-- The digits of a number. -/
structure Digs (n : Nat) (D : List UInt8) : Prop where
  ne : D ≠ []
  all : D.all dig = true
  val : valD 0 D = n
  hd : 0 < n → D.headD 0 ≠ 48
  z : n = 0 → D = [48]
def chr (n : Nat) : UInt8 := UInt8.ofNat (48 + n % 10)
theorem chr_nat (n : Nat) : (chr n).toNat = 48 + n % 10 := by unfold chr; rw [UInt8.toNat_ofNat']; omega
theorem chr_dig (n : Nat) : dig (chr n) = true := by
  simp only [dig, Bool.and_eq_true, Nat.ble_eq, chr_nat]; omega
theorem text_step (s : Int × List UInt8) (hs : s.2.length ≤ 1) (n : Nat) (acc : List UInt8) (hn : n < 1000000000000000000) (hacc : acc.length ≤ 100) :
    ref03_Text_L0 s (n : Int) acc = bif decide (n < 10) then some (.inr (s.2 ++ (chr n :: acc))) else some (.inl (((n / 10 : Nat) : Int), chr n :: acc)) := by
  have e1 : Int.tmod (n : Int) 10 = ((n % 10 : Nat) : Int) := by rw [Int.tmod_eq_emod_of_nonneg (by omega)]; omega
  have e2 : Int.tdiv (n : Int) 10 = ((n / 10 : Nat) : Int) := by rw [Int.tdiv_eq_ediv_of_nonneg (by omega)]; omega
  have e3 : toBytes [wu8 (wi64 (48 + Int.tmod (n : Int) 10))] = [chr n] := by
    rw [e1, wi (by omega), show wu8 (48 + ((n % 10 : Nat) : Int)) = 48 + ((n % 10 : Nat) : Int) from IntWalk.u8_in _ (by omega)]
    show [UInt8.ofNat (48 + ((n % 10 : Nat) : Int)).toNat] = [UInt8.ofNat (48 + n % 10)]
    rw [show (48 + ((n % 10 : Nat) : Int)).toNat = 48 + n % 10 by omega]
  unfold ref03_Text_L0
  simp only [e3, e2]
  rw [gd_t (Nat.ble_eq_true_of_le (by simp; omega)), wi (by omega)]
  by_cases h : n < 10
  · rw [dec_t (show ((n / 10 : Nat) : Int) ≤ 0 by omega), dec_t h, cond_true, cond_true, gd_t (Nat.ble_eq_true_of_le (by simp; omega))]; rfl
  · rw [dec_f (show ¬ ((n / 10 : Nat) : Int) ≤ 0 by omega), dec_f h]; rfl
theorem text_loop (s : Int × List UInt8) (hs : s.2.length ≤ 1) : ∀ (m n : Nat) (acc : List UInt8), n < 10 ^ (m + 1) → acc.length + m ≤ 17 → ∃ D, Digs n D ∧ D.length ≤ m + 1 ∧ iter (fun x => ref03_Text_L0 s x.1 x.2) ((n : Int), acc) = some (s.2 ++ (D ++ acc)) := by
  intro m
  induction m with
  | zero =>
    intro n acc hn hacc
    have hn : n < 10 := by simpa using hn
    refine ⟨[chr n], ⟨by simp, ?_, ?_, ?_, ?_⟩, by simp, ?_⟩
    · rw [List.all_cons, chr_dig]; rfl
    · show 0 * 10 + ((chr n).toNat - 48) = n
      rw [chr_nat]; omega
    · intro h0 he
      have h2 := congrArg UInt8.toNat (show chr n = 48 from he)
      rw [chr_nat] at h2
      have : (48 : UInt8).toNat = 48 := rfl
      omega
    · rintro rfl; rfl
    · refine iter_inr ?_
      show ref03_Text_L0 s (n : Int) acc = _
      rw [text_step s hs n acc (by omega) (by omega), dec_t hn]; rfl
  | succ m ih =>
    intro n acc hn hacc
    have hb : n < 1000000000000000000 := Nat.lt_of_lt_of_le hn (Nat.le_trans (Nat.pow_le_pow_right (by decide) (show m + 1 + 1 ≤ 18 by omega)) (by decide))
    by_cases h10 : n < 10
    · obtain ⟨D, h1, h2, h3⟩ := ih n acc (Nat.lt_of_lt_of_le h10 (Nat.le_self_pow (by omega) 10)) (by omega)
      exact ⟨D, h1, by omega, h3⟩
    · obtain ⟨D, h1, h2, h3⟩ := ih (n / 10) (chr n :: acc) (by rw [Nat.pow_succ] at hn; exact Nat.div_lt_of_lt_mul (by rw [Nat.mul_comm]; exact hn)) (by simp; omega)
      refine ⟨D ++ [chr n], ⟨by simp, ?_, ?_, ?_, by omega⟩, by simp; omega, ?_⟩
      · rw [List.all_append, h1.all, List.all_cons, chr_dig]; rfl
      · rw [valD_app, h1.val, chr_nat]; omega
      · intro _
        have := h1.hd (by omega)
        have hne := h1.ne
        cases D with
        | nil => exact absurd rfl hne
        | cons a r => exact this
      · refine (iter_inl (y := (((n / 10 : Nat) : Int), chr n :: acc)) ?_).trans ?_
        · show ref03_Text_L0 s (n : Int) acc = _
          rw [text_step s hs n acc hb (by omega), dec_f h10]; rfl
        · rw [h3, List.append_assoc]; rfl
/-- The text of a number. -/
theorem text_eq (k : Int) (h1 : -9999999999999999 ≤ k) (h2 : k ≤ 9999999999999999) : ∃ D, Digs k.natAbs D ∧ D.length ≤ 16 ∧ ref03_Text k = some (if k < 0 then 45 :: D else D) := by
  unfold ref03_Text
  by_cases hk : k < 0
  · rw [dec_t hk, cond_true, Option.bind_some]
    obtain ⟨D, d1, d2, d3⟩ := text_loop (wi64 (0 - k), [45]) (by simp) 15 k.natAbs [] (by omega) (by simp)
    refine ⟨D, d1, by omega, ?_⟩
    have e : wi64 (0 - k) = (k.natAbs : Int) := by rw [wi (by omega)]; omega
    rw [e] at d3 ⊢
    rw [if_pos hk, d3, List.append_nil]; rfl
  · rw [dec_f hk, cond_false, Option.bind_some]
    obtain ⟨D, d1, d2, d3⟩ := text_loop (k, []) (by simp) 15 k.natAbs [] (by omega) (by simp)
    refine ⟨D, d1, by omega, ?_⟩
    have e : ((k.natAbs : Nat) : Int) = k := by omega
    rw [e] at d3
    rw [if_neg hk, d3, List.append_nil]; rfl
theorem Digs.head {n : Nat} {D : List UInt8} (h : Digs n D) : ∃ a r, D = a :: r ∧ dig a = true := by
  have h1 := h.ne
  have h2 := h.all
  cases D with
  | nil => exact absurd rfl h1
  | cons a r => exact ⟨a, r, rfl, by simp only [List.all_cons, Bool.and_eq_true] at h2; exact h2.1⟩
end Go.Proofs.YtnilkkggnffklaaGreatDoor
