/- Allocate: the program's and the document's shares are the same. No condition. -/
import Derived.Test.YtmleldfhkangbaaSh1
namespace Go.Proofs.Ytmleldfhkangbaa
open Go Go.Sq

theorem idx_len (n : Nat) : (idx n).length = n := by simp [idx]
theorem idx_get {n i : Nat} (h : i < n) : (idx n).getD i 0 = (i : Int) := gD_range (fun i => (i : Int)) n i h

def i64P (x : Int) : Prop := -9223372036854775808 ≤ x ∧ x ≤ 9223372036854775807
/-- The shares. -/
def shareOf (t : Int) (w : List Int) (o : List Nat) : List Int := bump (quo t (isum w) w) (o.take (t - isum (quo t (isum w) w)).toNat)


theorem bitAnd_nat {a b : Nat} (ha : a < 4611686018427387904) (hb : b < 4611686018427387904) : bitAnd .i64 (a : Int) (b : Int) = ((a &&& b : Nat) : Int) := by
  unfold bitAnd
  have h1 : BitVec.ofInt IntKind.i64.bits (a : Int) = BitVec.ofNat IntKind.i64.bits a := BitVec.ofInt_natCast ..
  have h2 : BitVec.ofInt IntKind.i64.bits (b : Int) = BitVec.ofNat IntKind.i64.bits b := BitVec.ofInt_natCast ..
  rw [h1, h2, BitVec.toNat_and, BitVec.toNat_ofNat, BitVec.toNat_ofNat, Nat.mod_eq_of_lt (show a < 2 ^ IntKind.i64.bits by show a < 2 ^ 64; omega), Nat.mod_eq_of_lt (show b < 2 ^ IntKind.i64.bits by show b < 2 ^ 64; omega)]
  have := Nat.and_le_left (n := a) (m := b)
  exact wi (by omega)

/-- The part that is divided so far. -/
def am (a i : Nat) : Nat := a / 2 ^ (41 - i)
theorem am_0 {a : Nat} (ha : a ≤ 1099511627776) : am a 0 = 0 := by
  unfold am; exact Nat.div_eq_of_lt (by omega)
theorem am_41 (a : Nat) : am a 41 = a := by unfold am; simp
theorem am_next (a : Nat) {i : Nat} (h : i < 41) : am a (i + 1) = 2 * am a i + am a (i + 1) % 2 := by
  have : am a i = am a (i + 1) / 2 := by
    unfold am
    rw [Nat.div_div_eq_div_mul, show 41 - i = (41 - (i + 1)) + 1 by omega, Nat.pow_succ]
  omega
theorem am_le (a i : Nat) : am a i ≤ a := Nat.div_le_self _ _

section
variable {w s : Int}
theorem div_next {q m b : Int} (hs : 0 < s) (x : Int) (hx : x = 2 * (m % s) + b) : (2 * m + b) / s = 2 * (m / s) + x / s ∧ (2 * m + b) % s = x % s := by
  have h := Int.mul_ediv_add_emod m s
  have e : 2 * m + b = x + (2 * (m / s)) * s := by
    rw [hx, Int.mul_assoc, Int.mul_comm (m / s) s]; omega
  rw [e]
  exact ⟨by rw [Int.add_mul_ediv_right _ _ (by omega)]; omega, Int.add_mul_emod_self_right _ _ _⟩

/-- What one step adds. -/
def xNext (a i : Nat) (w s : Int) : Int := 2 * ((am a i : Int) * w % s) + (if am a (i + 1) % 2 = 1 then w else 0)
theorem part_next (a : Nat) {i : Nat} (h : i < 41) (hs : 0 < s) : (am a (i + 1) : Int) * w / s = 2 * ((am a i : Int) * w / s) + xNext a i w s / s ∧ (am a (i + 1) : Int) * w % s = xNext a i w s % s := by
  have e : (am a (i + 1) : Int) * w = 2 * ((am a i : Int) * w) + (if am a (i + 1) % 2 = 1 then w else 0) := by
    have h1 := am_next a h
    have h2 : (am a (i + 1) : Int) = 2 * (am a i : Int) + ((am a (i + 1) % 2 : Nat) : Int) := by omega
    rw [h2, Int.add_mul, Int.mul_assoc]
    congr 1
    split
    · rename_i h3; rw [h3]; simp
    · rename_i h3; rw [show am a (i + 1) % 2 = 0 by omega]; simp
  rw [e]
  exact div_next (q := 0) hs _ rfl
theorem xNext_bd (a i : Nat) (hs : 0 < s) (hw : 0 ≤ w ∧ w ≤ s) : 0 ≤ xNext a i w s ∧ xNext a i w s < 3 * s := by
  have h1 := Int.emod_nonneg ((am a i : Int) * w) (show s ≠ 0 by omega)
  have h2 := Int.emod_lt_of_pos ((am a i : Int) * w) hs
  unfold xNext
  split <;> omega
theorem quo_bd (a i : Nat) (hs : 0 < s) (hw : 0 ≤ w ∧ w ≤ s) : 0 ≤ (am a i : Int) * w / s ∧ (am a i : Int) * w / s ≤ a := by
  have h0 : 0 ≤ (am a i : Int) * w := Int.mul_nonneg (by omega) hw.1
  refine ⟨Int.ediv_nonneg h0 (by omega), ?_⟩
  have h1 : (am a i : Int) * w ≤ (a : Int) * s := Int.mul_le_mul (by have := am_le a i; omega) hw.2 hw.1 (by omega)
  exact Int.ediv_le_of_le_mul hs h1

theorem part_L1 {q x : Int} (hs : 0 < s ∧ s ≤ 288230376151711744) (hx : 0 ≤ x ∧ x < 3 * s) (hq : 0 ≤ q ∧ q ≤ 4611686018427387904) : iter (fun y : Int × Int => allocate_part_L1 s y.1 y.2) (q, x) = some (q + x / s, x % s) := by
  have hd : x / s ≤ 2 := by
    have := Int.ediv_lt_of_lt_mul hs.1 hx.2
    omega
  have key : ∃ e, iter (fun y : Int × Int => allocate_part_L1 s y.1 y.2) (q, x) = some e ∧ e = (q + x / s, x % s) := by
    refine iter_inv (fun y => 0 ≤ y.2 ∧ y.2 ≤ x ∧ q ≤ y.1 ∧ y.1 + y.2 / s = q + x / s ∧ y.2 % s = x % s) (fun y => y.2.toNat) _ ?_ ⟨hx.1, Int.le_refl _, Int.le_refl _, rfl, rfl⟩
    rintro ⟨u, v⟩ ⟨h1, h2, h3, h4, h5⟩
    simp only at h1 h2 h3 h4 h5
    have hv := Int.ediv_nonneg h1 (Int.le_of_lt hs.1)
    unfold allocate_part_L1
    simp only
    by_cases hsv : s ≤ v
    · right
      rw [dec_t hsv, wi (by omega), wi (by omega)]
      refine ⟨_, rfl, ⟨by simp only; omega, by simp only; omega, by simp only; omega, ?_, ?_⟩, ?_⟩
      · show u + 1 + (v - s) / s = _
        rw [show v - s = v + (-1) * s by omega, Int.add_mul_ediv_right _ _ (by omega)]; omega
      · show (v - s) % s = _
        rw [Int.sub_emod_right]; exact h5
      · show (v - s).toNat < v.toNat
        omega
    · left
      rw [dec_f hsv]
      have e1 : v / s = 0 := Int.ediv_eq_zero_of_lt h1 (by omega)
      have e2 : v % s = v := Int.emod_eq_of_lt h1 (by omega)
      exact ⟨_, rfl, by rw [← h4, ← h5, e1, e2]; simp⟩
  obtain ⟨_, q1, rfl⟩ := key
  exact q1

theorem pow40 {i : Nat} (h : i ≤ 40) : 2 ^ 40 / 2 ^ i = 2 ^ (40 - i) := Nat.pow_div h (by omega)
theorem and_pow (a k : Nat) : (a &&& 2 ^ k = 0) ↔ a.testBit k = false := by
  constructor
  · intro h
    have h2 : (a &&& 2 ^ k).testBit k = false := by rw [h]; exact Nat.zero_testBit k
    rw [Nat.testBit_and, Nat.testBit_two_pow_self, Bool.and_true] at h2
    exact h2
  · intro h
    refine Nat.eq_of_testBit_eq fun j => ?_
    rw [Nat.testBit_and, Nat.testBit_two_pow, Nat.zero_testBit]
    by_cases e : k = j
    · subst e; rw [h]; rfl
    · simp [e]
theorem bit_test {a i : Nat} (ha : a ≤ 1099511627776) (h : i < 41) : (!decide (bitAnd .i64 (a : Int) ((2 ^ 40 / 2 ^ i : Nat) : Int) = 0)) = decide (am a (i + 1) % 2 = 1) := by
  have hp : 2 ^ (40 - i) ≤ 2 ^ 40 := Nat.pow_le_pow_right (by omega) (by omega)
  rw [pow40 (by omega), bitAnd_nat (by omega) (by omega)]
  unfold am
  rw [show 41 - (i + 1) = 40 - i by omega]
  have hz := and_pow a (40 - i)
  rw [Nat.testBit_eq_decide_div_mod_eq, decide_eq_false_iff_not] at hz
  by_cases h1 : a / 2 ^ (40 - i) % 2 = 1
  · rw [dec_t h1, dec_f (show ¬ ((a &&& 2 ^ (40 - i) : Nat) : Int) = 0 by intro hh; exact hz.1 (by omega) h1)]; rfl
  · rw [dec_f h1, dec_t (show ((a &&& 2 ^ (40 - i) : Nat) : Int) = 0 by have := hz.2 h1; omega)]; rfl

theorem part_eq {a : Nat} (ha : a ≤ 1099511627776) (hs : 0 < s ∧ s ≤ 288230376151711744) (hw : 0 ≤ w ∧ w ≤ s) : allocate_part (a : Int) w s = some ((a : Int) * w / s, (a : Int) * w % s) := by
  have e2 : (2 : Int) ^ shAmt .i64 1 = 2 := by kernel_rfl
  have key := iter_for (step := fun x2 : Int × Int × Int => allocate_part_L0 (a : Int) w s x2.1 x2.2.1 x2.2.2) 41 (fun i => ((am a i : Int) * w / s, (am a i : Int) * w % s, ((2 ^ 40 / 2 ^ i : Nat) : Int))) (e := ((a : Int) * w / s, (a : Int) * w % s)) (fun i hi => by
      obtain ⟨n1, n2⟩ := part_next (w := w) (s := s) a hi hs.1
      have hx := xNext_bd a i hs.1 hw
      have hq := quo_bd a i hs.1 hw
      have hm1 := Int.emod_nonneg ((am a i : Int) * w) (show s ≠ 0 by omega)
      have hm2 := Int.emod_lt_of_pos ((am a i : Int) * w) hs.1
      have hb : (0 : Int) < ((2 ^ 40 / 2 ^ i : Nat) : Int) := by
        rw [pow40 (by omega)]
        have := Nat.two_pow_pos (40 - i)
        omega
      have hs4 : (bif (!decide (bitAnd .i64 (a : Int) ((2 ^ 40 / 2 ^ i : Nat) : Int) = 0)) then some (wi64 (wi64 (2 * ((am a i : Int) * w % s)) + w)) else some (wi64 (2 * ((am a i : Int) * w % s)))) = some (xNext a i w s) := by
        rw [bit_test ha hi, show wi64 (2 * ((am a i : Int) * w % s)) = 2 * ((am a i : Int) * w % s) from wi (by omega), show wi64 (2 * ((am a i : Int) * w % s) + w) = 2 * ((am a i : Int) * w % s) + w from wi (by omega)]
        unfold xNext
        by_cases h1 : am a (i + 1) % 2 = 1
        · rw [dec_t h1, if_pos h1]; rfl
        · rw [dec_f h1, if_neg h1]
          simp
      unfold allocate_part_L0
      simp only [dec_t hb, cond_true]
      rw [hs4]
      simp only [Option.bind_some]
      rw [show wi64 (2 * ((am a i : Int) * w / s)) = 2 * ((am a i : Int) * w / s) from wi (by omega), part_L1 hs hx (by omega)]
      simp only [Option.bind_some]
      rw [n1, n2, e2, Int.fdiv_eq_ediv_of_nonneg _ (by omega), show ((2 ^ 40 / 2 ^ i : Nat) : Int) / 2 = ((2 ^ 40 / 2 ^ (i + 1) : Nat) : Int) by rw [show (2 : Nat) ^ (i + 1) = 2 ^ i * 2 from Nat.pow_succ .., ← Nat.div_div_eq_div_mul]; omega]) (by
      unfold allocate_part_L0
      simp only [am_41, dec_f (show ¬ (0 : Int) < ((2 ^ 40 / 2 ^ 41 : Nat) : Int) by decide), cond_false])
  rw [am_0 ha] at key
  unfold allocate_part
  rw [show ((0 : Int), (0 : Int), (1099511627776 : Int)) = (((0 : Nat) : Int) * w / s, ((0 : Nat) : Int) * w % s, ((2 ^ 40 / 2 ^ 0 : Nat) : Int)) by simp, key]
  rfl

theorem rbit_test {a i : Nat} (ha : a ≤ 1099511627776) (h : i < 41) : decide (bitAnd .i64 (Int.fdiv (a : Int) (2 ^ shAmt .i64 (wu64 (40 - (i : Int))))) 1 = 1) = decide (am a (i + 1) % 2 = 1) := by
  have e0 : wu64 (40 - (i : Int)) = ((40 - i : Nat) : Int) := by
    show IntKind.u64.wrap _ = _
    rw [show IntKind.u64.wrap (40 - (i : Int)) = (40 - (i : Int)) % 18446744073709551616 from rfl]
    omega
  have e1 : shAmt .i64 ((40 - i : Nat) : Int) = 40 - i := by
    unfold shAmt
    simp only [IntKind.bits]
    omega
  have hle : a / 2 ^ (40 - i) ≤ a := Nat.div_le_self _ _
  rw [e0, e1, Int.fdiv_eq_ediv_of_nonneg _ (Int.le_of_lt (Int.pow_pos (by omega))), show (a : Int) / 2 ^ (40 - i) = ((a / 2 ^ (40 - i) : Nat) : Int) by rw [Int.natCast_ediv, Int.natCast_pow]; rfl,
    show (1 : Int) = ((1 : Nat) : Int) from rfl, bitAnd_nat (by omega) (by omega), Nat.and_one_is_mod]
  unfold am
  rw [show 41 - (i + 1) = 40 - i by omega]
  by_cases h1 : a / 2 ^ (40 - i) % 2 = 1
  · rw [h1]; simp
  · rw [show a / 2 ^ (40 - i) % 2 = 0 by omega]; simp

theorem rpart_eq {a : Nat} (ha : a ≤ 1099511627776) (hs : 0 < s ∧ s ≤ 288230376151711744) (hw : 0 ≤ w ∧ w ≤ s) : ref38_part (a : Int) w s = some ((a : Int) * w / s, (a : Int) * w % s) := by
  have key := iter_for (step := fun x : Int × Int × Int => ref38_part_L0 (a : Int) w s x.1 x.2.1 x.2.2) 41 (fun i => ((am a i : Int) * w / s, (am a i : Int) * w % s, 40 - (i : Int))) (e := ((a : Int) * w / s, (a : Int) * w % s)) (fun i hi => by
      obtain ⟨n1, n2⟩ := part_next (w := w) (s := s) a hi hs.1
      have hx := xNext_bd a i hs.1 hw
      have hq := quo_bd a i hs.1 hw
      have hq2 := quo_bd a (i + 1) hs.1 hw
      have hm1 := Int.emod_nonneg ((am a i : Int) * w) (show s ≠ 0 by omega)
      have hm2 := Int.emod_lt_of_pos ((am a i : Int) * w) hs.1
      have e0 : ¬ wu64 (40 - (i : Int)) < 0 := by
        rw [show wu64 (40 - (i : Int)) = (40 - (i : Int)) % 18446744073709551616 from rfl]
        omega
      have hs4 : (bif (decide (bitAnd .i64 (Int.fdiv (a : Int) (2 ^ shAmt .i64 (wu64 (40 - (i : Int))))) 1 = 1)) then some (wi64 (wi64 (2 * ((am a i : Int) * w % s)) + w)) else some (wi64 (2 * ((am a i : Int) * w % s)))) = some (xNext a i w s) := by
        rw [rbit_test ha hi, show wi64 (2 * ((am a i : Int) * w % s)) = 2 * ((am a i : Int) * w % s) from wi (by omega), show wi64 (2 * ((am a i : Int) * w % s) + w) = 2 * ((am a i : Int) * w % s) + w from wi (by omega)]
        unfold xNext
        by_cases h1 : am a (i + 1) % 2 = 1
        · rw [dec_t h1, if_pos h1]; rfl
        · rw [dec_f h1, if_neg h1]
          simp
      unfold ref38_part_L0
      simp only [dec_t (show (0 : Int) ≤ 40 - (i : Int) by omega), cond_true, dec_f e0, Bool.not_false, gd_tt, dec_f (show ¬ s = 0 by omega)]
      rw [hs4]
      simp only [Option.bind_some]
      have hxd : xNext a i w s / s ≤ xNext a i w s := Int.ediv_le_self _ hx.1
      have hxd0 := Int.ediv_nonneg hx.1 (Int.le_of_lt hs.1)
      rw [Int.tdiv_eq_ediv_of_nonneg hx.1, Int.tmod_eq_emod_of_nonneg hx.1, show wi64 (2 * ((am a i : Int) * w / s)) = 2 * ((am a i : Int) * w / s) from wi (by omega), show wi64 (xNext a i w s / s) = xNext a i w s / s from wi (by omega), ← n1, n2, wi (by omega), wi (by omega)]
      rw [show (40 : Int) - (i : Int) - 1 = 40 - ((i + 1 : Nat) : Int) by omega]) (by
      unfold ref38_part_L0
      simp only [am_41, dec_f (show ¬ (0 : Int) ≤ 40 - ((41 : Nat) : Int) by decide), cond_false])
  rw [am_0 ha] at key
  unfold ref38_part
  rw [show ((0 : Int), (0 : Int), (40 : Int)) = (((0 : Nat) : Int) * w / s, ((0 : Nat) : Int) * w % s, 40 - ((0 : Nat) : Int)) by simp, key]
  rfl
end

def vOkP (w : List Int) (i : Nat) : Bool := decide (0 ≤ w.getD i 0) && decide (w.getD i 0 ≤ 1125899906842624)
def vOk (w : List Int) : Bool := (List.range w.length).all (vOkP w)
theorem vOk_iff {w : List Int} : vOk w = true ↔ ∀ x ∈ w, 0 ≤ x ∧ x ≤ 1125899906842624 := by
  unfold vOk
  rw [all_range]
  constructor
  · intro h x hx
    obtain ⟨k, hk, rfl⟩ := mem_gD 0 hx
    have := h k hk
    simpa [vOkP] using this
  · intro h i hi
    simpa [vOkP] using h _ (gD_mem (d := 0) hi)
theorem vTake {w : List Int} {i : Nat} (hi : i ≤ w.length) (hn : w.length ≤ 64) (h : ∀ j, j < i → vOkP w j = true) : 0 ≤ isum (w.take i) ∧ isum (w.take i) ≤ 72057594037927936 := by
  have := isum_bd (l := w.take i) (a := 0) (b := 1125899906842624) fun x hx => by
    obtain ⟨k, h1, h2, rfl⟩ := mem_take_getD hx
    have := h k h1
    simpa [vOkP] using this
  rw [List.length_take] at this
  omega

theorem al_1 (x : Int) : allocate_Share_1 x = some (decide (x < 0) || decide (1125899906842624 < x)) := by
  unfold allocate_Share_1
  by_cases h : x < 0
  · simp [h]
  · simp [h]
theorem al_contains {w : List Int} (hn : w.length ≤ 64) : slices_ContainsFunc_int_int w (fun h => (allocate_Share_1 h.1).bind fun y => some y) = some (!vOk w) := by
  have key : ∃ e, iter (fun x => slices_IndexFunc_int_int_L0 w (fun h => (allocate_Share_1 h.1).bind fun y => some y) x) 0 = some e ∧ ((∃ k : Nat, k < w.length ∧ vOkP w k = false ∧ e = .inr (k : Int)) ∨ (vOk w = true ∧ e = .inl ())) := by
    refine iter_inv (fun x => ∃ i : Nat, x = (i : Int) ∧ i ≤ w.length ∧ ∀ j, j < i → vOkP w j = true) (fun x => ((w.length : Int) - x).toNat) _ ?_ ⟨0, rfl, by omega, by omega⟩
    rintro _ ⟨i, rfl, h1, h2⟩
    unfold slices_IndexFunc_int_int_L0
    by_cases hi : i < w.length
    · simp only [dec_t (show (i : Int) < (w.length : Int) by omega), cond_true, gd_t (inB_t hi), Int.toNat_natCast, al_1, Option.bind_some]
      have e : (decide (w.getD i 0 < 0) || decide (1125899906842624 < w.getD i 0)) = !vOkP w i := by
        unfold vOkP
        by_cases a1 : w.getD i 0 < 0
        · simp only [dec_t a1, dec_f (show ¬ 0 ≤ w.getD i 0 by omega), Bool.true_or, Bool.false_and, Bool.not_false]
        · by_cases a2 : 1125899906842624 < w.getD i 0
          · simp only [dec_t a2, dec_f (show ¬ w.getD i 0 ≤ 1125899906842624 by omega), Bool.or_true, Bool.and_false, Bool.not_false]
          · simp only [dec_f a1, dec_f a2, dec_t (show 0 ≤ w.getD i 0 by omega), dec_t (show w.getD i 0 ≤ 1125899906842624 by omega)]; rfl
      rw [e]
      cases hp : vOkP w i with
      | true =>
        right
        refine ⟨_, rfl, ⟨i + 1, ?_, by omega, fun j hj => ?_⟩, ?_⟩
        · rw [wi (by omega)]; rfl
        · by_cases ej : j = i
          · rw [ej]; exact hp
          · exact h2 j (by omega)
        · rw [wi (by omega)]; omega
      | false =>
        left
        exact ⟨_, rfl, .inl ⟨i, hi, hp, rfl⟩⟩
    · left
      obtain rfl : i = w.length := by omega
      refine ⟨_, by simp only [dec_f (show ¬ (w.length : Int) < (w.length : Int) by omega), cond_false], .inr ⟨all_range.2 h2, rfl⟩⟩
  obtain ⟨e, q, h | h⟩ := key
  · obtain ⟨k, k1, k2, rfl⟩ := h
    have hv : vOk w = false := by
      rw [← Bool.not_eq_true]
      intro hv
      have := all_range.1 hv k k1
      rw [k2] at this; cases this
    unfold slices_ContainsFunc_int_int slices_IndexFunc_int_int
    rw [q, hv]
    simp only [Option.bind_some, Sum.elim_inr, Bool.not_false]
    rw [dec_t (by omega)]
  · obtain ⟨hv, rfl⟩ := h
    unfold slices_ContainsFunc_int_int slices_IndexFunc_int_int
    rw [q, hv]
    simp

/-- Weights and a total that are divided. -/
structure AlIn (a : Nat) (w : List Int) : Prop where
  n : w.length ≤ 64
  t1 : a ≤ 1099511627776
  w01 : ∀ x ∈ w, 0 ≤ x ∧ x ≤ 1125899906842624
  s0 : isum w ≠ 0
theorem AlIn.s {a : Nat} {w : List Int} (h : AlIn a w) : 0 < isum w ∧ isum w ≤ 288230376151711744 := by
  have := isum_bd h.w01
  have := h.n
  have := h.s0
  omega
theorem AlIn.g {a : Nat} {w : List Int} (h : AlIn a w) {i : Nat} (hi : i < w.length) : 0 ≤ w.getD i 0 ∧ w.getD i 0 ≤ isum w := by
  have b := h.w01 _ (gD_mem (d := 0) hi)
  exact ⟨b.1, isum_mem (fun x hx => (h.w01 x hx).1) (gD_mem hi)⟩
theorem AlIn.qb {a : Nat} {w : List Int} (h : AlIn a w) : (∀ x ∈ quo a (isum w) w, 0 ≤ x) ∧ isum (quo a (isum w) w) ≤ a := by
  have hs := h.s
  obtain ⟨b1, b2, b3⟩ := left_bd (t := (a : Int)) hs.1 rfl
  refine ⟨fun x hx => ?_, by omega⟩
  simp only [quo, List.mem_map] at hx
  obtain ⟨y, hy, rfl⟩ := hx
  exact Int.ediv_nonneg (Int.mul_nonneg (by omega) (h.w01 y hy).1) (Int.le_of_lt hs.1)
theorem AlIn.qi {a : Nat} {w : List Int} (h : AlIn a w) {i : Nat} (hi : i < w.length) : 0 ≤ isum ((quo a (isum w) w).take i) ∧ isum ((quo a (isum w) w).take i) ≤ a ∧ 0 ≤ (quo a (isum w) w).getD i 0 ∧ isum ((quo a (isum w) w).take i) + (quo a (isum w) w).getD i 0 ≤ a := by
  obtain ⟨h1, h2⟩ := h.qb
  have hq : i < (quo a (isum w) w).length := by rw [quo_len]; exact hi
  have h3 := isum_le h1 (i := i + 1)
  rw [isum_next hq] at h3
  have h4 := isum_nn (l := (quo a (isum w) w).take i) fun x hx => h1 x (List.mem_of_mem_take hx)
  have h5 := h1 _ (gD_mem (d := 0) hq)
  omega
theorem AlIn.q {a : Nat} {w : List Int} (h : AlIn a w) {i : Nat} (hi : i < w.length) : allocate_part (a : Int) (w.getD i 0) (isum w) = some ((quo a (isum w) w).getD i 0, (rmd a (isum w) w).getD i 0) ∧ ref38_part (a : Int) (w.getD i 0) (isum w) = some ((quo a (isum w) w).getD i 0, (rmd a (isum w) w).getD i 0) := by
  rw [quo_get hi, rmd_get hi]
  exact ⟨part_eq h.t1 h.s (h.g hi), rpart_eq h.t1 h.s (h.g hi)⟩

theorem abs_eq {t : Int} {a : Nat} (hm : max t (-t) = (a : Int)) (ha : a ≤ 1099511627776) : max t (wi64 (0 - t)) = (a : Int) := by
  rw [wi (by omega)]; omega

/-! ### The program's -/
theorem al_L0 {w : List Int} (hn : w.length ≤ 64) (hw : ∀ x ∈ w, 0 ≤ x ∧ x ≤ 1125899906842624) : iter (fun x : Int × Int => allocate_Share_L0 w x.1 x.2) (0, 0) = some (isum w) := by
  have := iter_for (step := fun x : Int × Int => allocate_Share_L0 w x.1 x.2) w.length (fun i => (isum (w.take i), (i : Int))) (e := isum w) (fun i hi => by
      obtain ⟨b1, b2⟩ := vTake (w := w) (i := i) (by omega) hn fun j hj => all_range.1 (vOk_iff.2 hw) j (by omega)
      have b3 := hw _ (gD_mem (d := 0) hi)
      unfold allocate_Share_L0
      rw [isum_next hi]
      simp only [dec_t (show (i : Int) < (w.length : Int) by omega), cond_true, gd_t (inB_t hi), Int.toNat_natCast]
      rw [wi (by omega), wi (by omega)]; rfl) (by
      unfold allocate_Share_L0
      rw [List.take_of_length_le (Nat.le_refl _)]
      simp only [dec_f (show ¬ ((w.length : Nat) : Int) < (w.length : Int) by omega), cond_false])
  simpa [isum] using this

theorem al_L1 {t : Int} {a : Nat} {w : List Int} (h : AlIn a w) (hm : max t (-t) = (a : Int)) : iter (fun x : Int × Int × List Int × List Int × List Int => allocate_Share_L1 t w (isum w) x.1 x.2.1 x.2.2.1 x.2.2.2.1 x.2.2.2.2) ((a : Int), 0, List.replicate w.length 0, List.replicate w.length 0, List.replicate w.length 0) = some ((a : Int) - isum (quo a (isum w) w), quo a (isum w) w, idx w.length, rmd a (isum w) w) := by
  have ql := quo_len a (isum w) w
  have rl := rmd_len a (isum w) w
  have il := idx_len w.length
  have zl : (List.replicate w.length (0 : Int)).length = w.length := List.length_replicate
  have key := iter_for (step := fun x : Int × Int × List Int × List Int × List Int => allocate_Share_L1 t w (isum w) x.1 x.2.1 x.2.2.1 x.2.2.2.1 x.2.2.2.2) w.length
    (fun i => ((a : Int) - isum ((quo a (isum w) w).take i), (i : Int), mix (quo a (isum w) w) (List.replicate w.length 0) i, mix (idx w.length) (List.replicate w.length 0) i, mix (rmd a (isum w) w) (List.replicate w.length 0) i)) (e := ((a : Int) - isum (quo a (isum w) w), quo a (isum w) w, idx w.length, rmd a (isum w) w)) (fun i hi => by
      obtain ⟨c1, c2, c3, c4⟩ := h.qi hi
      have hq := h.q hi
      have ht1 := h.t1
      have hn := h.n
      unfold allocate_Share_L1
      simp only [dec_t (show (i : Int) < (w.length : Int) by omega), cond_true, Int.toNat_natCast, List.length_set, mix_len ql zl, mix_len il zl, mix_len rl zl, gd_t (inB_t hi), abs_eq hm h.t1, hq.1, Option.bind_some]
      rw [set_mix ql zl 0 hi rfl, set_mix il zl 0 hi (idx_get hi).symm, set_mix rl zl 0 hi rfl, gD_mix ql zl, if_pos (by omega), isum_next (by rw [ql]; exact hi), wi (by omega), wi (by omega)]
      simp only [Int.sub_sub]; rfl) (by
      unfold allocate_Share_L1
      simp only [dec_f (show ¬ ((w.length : Nat) : Int) < (w.length : Int) by omega), cond_false]
      rw [mix_n ql zl, mix_n il zl, mix_n rl zl, List.take_of_length_le (by omega)])
  simpa [mix_0, isum] using key

def cS (R : List Int) (x y : Int) : Int := R.getD y.toNat 0 - R.getD x.toNat 0
theorem cS_pre (R : List Int) : Pre (cS R) := by
  refine ⟨fun x => ?_, fun x y => ?_, fun x y z => ?_⟩ <;> unfold cS <;> omega

theorem al_cmp {R : List Int} (hR : ∀ x ∈ R, 0 ≤ x ∧ x ≤ 288230376151711744) : CmpOn (fun h2 => (allocate_Share_2 h2.1 h2.2.1 R).bind fun y => some y) (cS R) (fun x => 0 ≤ x ∧ x < (R.length : Int)) := by
  intro x y hx hy
  obtain ⟨i, rfl⟩ : ∃ i : Nat, x = (i : Int) := ⟨x.toNat, by omega⟩
  obtain ⟨k, rfl⟩ : ∃ k : Nat, y = (k : Int) := ⟨y.toNat, by omega⟩
  have hi : i < R.length := by omega
  have hk : k < R.length := by omega
  have b1 := hR _ (gD_mem (d := 0) hi)
  have b2 := hR _ (gD_mem (d := 0) hk)
  unfold allocate_Share_2
  simp only [gd_t (inB_t hi), gd_t (inB_t hk), Int.toNat_natCast, Option.bind_some]
  unfold cS
  simp only [Int.toNat_natCast]
  rw [wi (by omega)]
theorem al_rb {a : Nat} {w : List Int} (h : AlIn a w) : ∀ x ∈ rmd a (isum w) w, 0 ≤ x ∧ x ≤ 288230376151711744 := fun x hx => by
  have hs := h.s
  simp only [rmd, List.mem_map] at hx
  obtain ⟨y, _, rfl⟩ := hx
  have := Int.emod_nonneg ((a : Int) * y) h.s0
  have := Int.emod_lt_of_pos ((a : Int) * y) hs.1
  omega
theorem al_sort {a : Nat} {w : List Int} (h : AlIn a w) : ∃ o : List Nat, Ordered (rmd a (isum w) w) w.length o ∧ slices_SortStableFunc_int_int (fun h2 => (allocate_Share_2 h2.1 h2.2.1 (rmd a (isum w) w)).bind fun y => some y) (idx w.length) = some (o.map fun i : Nat => (i : Int)) := by
  obtain ⟨d, q1, q2, q3⟩ := sort_stable (al_cmp (al_rb h)) (cS_pre _) (S := idx w.length) (fun e he => by
    simp only [idx, List.mem_map, List.mem_range] at he
    obtain ⟨i, hi, rfl⟩ := he
    rw [rmd_len]
    omega) (by rw [idx_len]; have := h.n; omega)
  obtain ⟨o, rfl, ho⟩ := ordered_of (R := rmd a (isum w) w) (c := cS (rmd a (isum w) w)) (fun x y hxy => by unfold cS at hxy; omega) (fun x y hxy => by unfold cS; omega) (cS_pre _) q2 q3
  exact ⟨o, ho, q1⟩

theorem al_L2 {out : List Int} {o : List Nat} {left : Int} {x : List Int × List Int × List Int} (h0 : 0 ≤ left) (h1 : left ≤ o.length) (hn : out.length ≤ 64) (hol : o.length ≤ 64) (ho : ∀ i ∈ o, i < out.length) (hb : ∀ k, k < out.length → 0 ≤ out.getD k 0 ∧ out.getD k 0 ≤ 1099511627776) (hd : o.Nodup) :
    iter (fun x3 : Int × List Int => allocate_Share_L2 (left, x) (o.map fun i : Nat => (i : Int)) x3.1 x3.2) (0, out) = some (bump out (o.take left.toNat)) := by
  obtain ⟨n, rfl⟩ : ∃ n : Nat, left = (n : Int) := ⟨left.toNat, by omega⟩
  have hno : n ≤ o.length := by omega
  have key := iter_for (step := fun x3 : Int × List Int => allocate_Share_L2 ((n : Int), x) (o.map fun i : Nat => (i : Int)) x3.1 x3.2) n
    (fun k => ((k : Int), bump out (o.take k))) (e := bump out (o.take n)) (fun k hk => by
      have hko : k < o.length := by omega
      have hg : ((o.map fun i : Nat => (i : Int)).take n).getD k 0 = ((o.getD k 0 : Nat) : Int) := by
        rw [gD_take, if_pos hk, gD_map (fun i : Nat => (i : Int)) o k 0 0 hko]
      have hlen : ((o.map fun i : Nat => (i : Int)).take n).length = n := by simp; omega
      have hm := ho _ (gD_mem (d := 0) hko)
      have hv := bump_get (o.take k) out (hd.sublist (List.take_sublist _ _)) (fun i hi => ho i (List.mem_of_mem_take hi)) (o.getD k 0)
      have hb1 := hb _ hm
      unfold allocate_Share_L2
      simp only [Int.toNat_natCast, hlen, dec_t (show (k : Int) < (n : Int) by omega), cond_true, gd_t (inB_t hk), hg, bump_len, gd_t (inB_t hm)]
      rw [take_next 0 hko, bump_snoc, wi (by omega), wi (by rw [hv]; split <;> omega)]; rfl) (by
      unfold allocate_Share_L2
      have hlen : ((o.map fun i : Nat => (i : Int)).take n).length = n := by simp; omega
      simp only [Int.toNat_natCast, hlen, dec_f (show ¬ (n : Int) < (n : Int) by omega), cond_false])
  simpa [bump] using key

theorem al_L3 {l : List Int} {g : Int} {z : List Int} (hn : l.length ≤ 64) (hg : g = 1 ∨ g = -1) (hb : ∀ x ∈ l, 0 ≤ x ∧ x ≤ 1099511627777) : iter (fun x4 : Int × List Int => allocate_Share_L3 (g, z) l x4.1 x4.2) (0, l) = some (l.map (· * g)) := by
  have ml : (l.map (· * g)).length = l.length := by simp
  have key := iter_for (step := fun x4 : Int × List Int => allocate_Share_L3 (g, z) l x4.1 x4.2) l.length (fun i => ((i : Int), mix (l.map (· * g)) l i)) (e := l.map (· * g)) (fun i hi => by
      have b := hb _ (gD_mem (d := 0) hi)
      unfold allocate_Share_L3
      simp only [dec_t (show (i : Int) < (l.length : Int) by omega), cond_true, Int.toNat_natCast, mix_len ml rfl, gd_t (inB_t hi)]
      rw [gD_mix ml rfl, if_neg (by omega), set_mix ml rfl 0 hi (by rw [gD_map _ _ _ 0 _ hi]; exact wi (by rcases hg with rfl | rfl <;> omega)), wi (by omega)]; rfl) (by
      unfold allocate_Share_L3
      simp only [dec_f (show ¬ (l.length : Int) < (l.length : Int) by omega), cond_false]
      rw [mix_n ml rfl])
  simpa [mix_0] using key

def sgn (t : Int) : Int := if t < 0 then -1 else 1
/-- The shares, with their sign. -/
def allotOf (t : Int) (a : Nat) (w : List Int) (o : List Nat) : List Int := (shareOf a w o).map (· * sgn t)

theorem share_bd {a : Nat} {w : List Int} {o : List Nat} (h : AlIn a w) (ho : Ordered (rmd a (isum w) w) w.length o) : (shareOf a w o).length = w.length ∧ ∀ x ∈ shareOf a w o, 0 ≤ x ∧ x ≤ 1099511627777 := by
  have hok := shares_ok (t := a) h.s.1 ho
  refine ⟨hok.len, fun x hx => ?_⟩
  obtain ⟨k, hk, rfl⟩ := mem_gD 0 hx
  have hk' : k < w.length := by rw [← hok.len]; exact hk
  have e := hok.each k hk'
  have c := h.qi hk'
  have := h.t1
  rw [quo_get hk'] at c
  unfold shareOf
  omega

theorem signed_eq (t : Int) : allocate_Signed t = some (decide (-1099511627776 ≤ t ∧ t ≤ 1099511627776)) := by
  unfold allocate_Signed
  by_cases h1 : -1099511627776 ≤ t
  · simp [h1]
  · simp [h1]

theorem al_main {t : Int} {a : Nat} {w : List Int} (h : AlIn a w) (hm : max t (-t) = (a : Int)) (h0 : t ≠ 0) : ∃ o : List Nat, Ordered (rmd a (isum w) w) w.length o ∧ allocate_Share t w = some (allotOf t a w o, 0) ∧ (allocate_Share (-t) w = some (allotOf (-t) a w o, 0)) := by
  obtain ⟨o, ho, hs⟩ := al_sort h
  have main : ∀ t : Int, max t (-t) = (a : Int) → t ≠ 0 → allocate_Share t w = some (allotOf t a w o, 0) := by
    intro t hm h0
    have hl := ho.len
    obtain ⟨b1, b2, b3⟩ := left_bd (t := (a : Int)) h.s.1 rfl
    have hn := h.n
    have ht1 := h.t1
    have hs0 := h.s0
    obtain ⟨s1, s2⟩ := share_bd h ho
    have hsg : (bif decide (t < 0) then some ((-1 : Int), List.replicate w.length (0 : Int)) else some (1, List.replicate w.length 0)) = some (sgn t, List.replicate w.length 0) := by
      unfold sgn
      by_cases ht : t < 0
      · simp [ht]
      · simp [ht]
    unfold allocate_Share
    rw [dec_f (show ¬ (64 : Int) < (w.length : Int) by omega), signed_eq, dec_t (show -1099511627776 ≤ t ∧ t ≤ 1099511627776 by omega), al_contains hn, vOk_iff.2 h.w01, al_L0 hn h.w01]
    simp only [cond_false, cond_true, Option.bind_some, Bool.not_true, dec_f hs0, dec_f h0, Int.toNat_natCast, hsg]
    rw [gd_t (makeG_t (show w.length * 8 ≤ _ by omega)), gd_t (makeG_t (show w.length * 8 ≤ _ by omega)), gd_t (makeG_t (show w.length * 8 ≤ _ by omega)), abs_eq hm h.t1, al_L1 h hm]
    simp only [Option.bind_some, hs]
    rw [gd_t (show cutG none (some (.i64, (a : Int) - isum (quo a (isum w) w))) (o.map fun i : Nat => (i : Int)).length = true by
      unfold cutG; simp only [Bool.and_eq_true, decide_eq_true_eq, List.length_map]; omega), al_L2 b2 (by omega) (by rw [quo_len]; exact hn) (by omega) (fun i hi => by rw [quo_len]; exact ho.lt hi) (fun k hk => by
        rw [quo_len] at hk
        have := h.qi hk
        omega) ho.nodup]
    simp only [Option.bind_some]
    have := al_L3 (l := shareOf a w o) (g := sgn t) (z := List.replicate w.length 0) (by omega) (by unfold sgn; split <;> simp) s2
    unfold shareOf at this
    rw [this]
    rfl
  exact ⟨o, ho, main t hm h0, main (-t) (by omega) (by omega)⟩

/-! ### The document's -/
theorem rl_L0 {w : List Int} (hn : w.length ≤ 64) : iter (fun x : Int × Int => ref38_Share_L0 w x.1 x.2) (0, 0) = some (bif vOk w then .inl (isum w) else .inr ([], 1)) := by
  refine iter_all (step := fun x : Int × Int => ref38_Share_L0 w x.1 x.2) w.length (fun i => (isum (w.take i), (i : Int))) (vOkP w) (fun i hi hj hp => ?_) (fun i hi hj hp => ?_) (fun hj => ?_)
  all_goals unfold ref38_Share_L0
  · obtain ⟨b1, b2⟩ := vTake (i := i) (by omega) hn hj
    have b3 := hp
    simp only [vOkP, Bool.and_eq_true, decide_eq_true_eq] at b3
    rw [isum_next hi]
    simp only [dec_t (show (i : Int) < (w.length : Int) by omega), cond_true, gd_t (inB_t hi), Int.toNat_natCast, dec_f (show ¬ w.getD i 0 < 0 by omega), dec_f (show ¬ 1125899906842624 < w.getD i 0 by omega), cond_false, Option.bind_some]
    rw [wi (by omega), wi (by omega)]; rfl
  · simp only [dec_t (show (i : Int) < (w.length : Int) by omega), cond_true, gd_t (inB_t hi), Int.toNat_natCast]
    simp only [vOkP, Bool.and_eq_false_iff, decide_eq_false_iff_not] at hp
    by_cases h1 : w.getD i 0 < 0
    · rw [dec_t h1]; rfl
    · rw [dec_f h1, dec_t (show 1125899906842624 < w.getD i 0 by omega)]; rfl
  · rw [List.take_of_length_le (Nat.le_refl _)]
    simp only [dec_f (show ¬ ((w.length : Nat) : Int) < (w.length : Int) by omega), cond_false]

theorem rl_L1 {t : Int} {a : Nat} {w : List Int} (h : AlIn a w) (hm : max t (-t) = (a : Int)) : iter (fun x : Int × Int × List Int × List Int => ref38_Share_L1 t w (isum w) x.1 x.2.1 x.2.2.1 x.2.2.2) ((a : Int), 0, List.replicate w.length 0, List.replicate w.length 0) = some ((a : Int) - isum (quo a (isum w) w), quo a (isum w) w, rmd a (isum w) w) := by
  have ql := quo_len a (isum w) w
  have rl := rmd_len a (isum w) w
  have zl : (List.replicate w.length (0 : Int)).length = w.length := List.length_replicate
  have key := iter_for (step := fun x : Int × Int × List Int × List Int => ref38_Share_L1 t w (isum w) x.1 x.2.1 x.2.2.1 x.2.2.2) w.length
    (fun i => ((a : Int) - isum ((quo a (isum w) w).take i), (i : Int), mix (quo a (isum w) w) (List.replicate w.length 0) i, mix (rmd a (isum w) w) (List.replicate w.length 0) i)) (e := ((a : Int) - isum (quo a (isum w) w), quo a (isum w) w, rmd a (isum w) w)) (fun i hi => by
      obtain ⟨c1, c2, c3, c4⟩ := h.qi hi
      have hq := h.q hi
      have ht1 := h.t1
      have hn := h.n
      unfold ref38_Share_L1
      simp only [dec_t (show (i : Int) < (w.length : Int) by omega), cond_true, Int.toNat_natCast, List.length_set, mix_len ql zl, mix_len rl zl, gd_t (inB_t hi), abs_eq hm h.t1, hq.2, Option.bind_some]
      rw [set_mix ql zl 0 hi rfl, set_mix rl zl 0 hi rfl, gD_mix ql zl, if_pos (by omega), isum_next (by rw [ql]; exact hi), wi (by omega), wi (by omega)]
      simp only [Int.sub_sub]; rfl) (by
      unfold ref38_Share_L1
      simp only [dec_f (show ¬ ((w.length : Nat) : Int) < (w.length : Int) by omega), cond_false]
      rw [mix_n ql zl, mix_n rl zl, List.take_of_length_le (by omega)])
  simpa [mix_0, isum] using key

theorem rl_L3 {out R : List Int} (hR : 0 < R.length) (hn : R.length ≤ 64) : ∃ B : Nat, B < R.length ∧ (∀ j, j < R.length → R.getD j 0 ≤ R.getD B 0) ∧ (∀ j, j < B → R.getD j 0 < R.getD B 0) ∧
    iter (fun x3 : Int × Int × List Int × List Int => ref38_Share_L3 x3.1 x3.2.1 x3.2.2.1 x3.2.2.2) (0, 1, out, R) = some ((B : Int), out, R) := by
  have key : ∃ e, iter (fun x3 : Int × Int × List Int × List Int => ref38_Share_L3 x3.1 x3.2.1 x3.2.2.1 x3.2.2.2) (0, 1, out, R) = some e ∧ ∃ B : Nat, e = ((B : Int), out, R) ∧ B < R.length ∧ (∀ j, j < R.length → R.getD j 0 ≤ R.getD B 0) ∧ (∀ j, j < B → R.getD j 0 < R.getD B 0) := by
    refine iter_inv (fun x => ∃ B i : Nat, x = ((B : Int), (i : Int), out, R) ∧ i ≤ R.length ∧ B < R.length ∧ (∀ j, j < i → R.getD j 0 ≤ R.getD B 0) ∧ (∀ j, j < B → R.getD j 0 < R.getD B 0)) (fun x => ((R.length : Int) - x.2.1).toNat) _ ?_ ⟨0, 1, rfl, by omega, hR, fun j hj => by rw [show j = 0 by omega]; omega, by omega⟩
    rintro _ ⟨B, i, rfl, h1, h2, h3, h4⟩
    unfold ref38_Share_L3
    simp only
    by_cases hi : i < R.length
    · right
      simp only [dec_t (show (i : Int) < (R.length : Int) by omega), cond_true, gd_t (inB_t hi), gd_t (inB_t h2), Int.toNat_natCast]
      rw [show wi64 ((i : Int) + 1) = ((i + 1 : Nat) : Int) by rw [wi (by omega)]; omega]
      by_cases hlt : R.getD B 0 < R.getD i 0
      · rw [dec_t hlt]
        refine ⟨_, rfl, ⟨i, i + 1, rfl, by omega, hi, fun j hj => ?_, fun j hj => ?_⟩, ?_⟩
        · by_cases e : j = i
          · rw [e]; omega
          · have := h3 j (by omega); omega
        · have := h3 j hj; omega
        · simp only [cond_true, Option.bind_some]; omega
      · rw [dec_f hlt]
        refine ⟨_, rfl, ⟨B, i + 1, rfl, by omega, h2, fun j hj => ?_, h4⟩, ?_⟩
        · by_cases e : j = i
          · rw [e]; omega
          · exact h3 j (by omega)
        · simp only [cond_false, Option.bind_some]; omega
    · left
      obtain rfl : i = R.length := by omega
      exact ⟨((B : Int), out, R), by simp only [dec_f (show ¬ ((R.length : Nat) : Int) < (R.length : Int) by omega), cond_false], B, rfl, h2, h3, h4⟩
  obtain ⟨_, q, B, rfl, q1, q2, q3⟩ := key
  exact ⟨B, q1, q2, q3, q⟩

theorem rl_L2 {out R : List Int} {o : List Nat} {left n : Nat} (ho : Ordered R n o) (hR : ∀ i, i < n → 0 ≤ R.getD i 0) (hRl : R.length = n) (hol : out.length = n) (hn : n ≤ 64) (hl : left ≤ n) (hb : ∀ k, k < out.length → 0 ≤ out.getD k 0 ∧ out.getD k 0 ≤ 1099511627776) :
    iter (fun x4 : Int × List Int × List Int => ref38_Share_L2 x4.1 x4.2.1 x4.2.2) ((left : Int), out, R) = some (bump out (o.take left)) := by
  have ol := ho.len
  have key := iter_for (step := fun x4 : Int × List Int × List Int => ref38_Share_L2 x4.1 x4.2.1 x4.2.2) left
    (fun k => ((left : Int) - (k : Int), bump out (o.take k), marks R (o.take k))) (e := bump out (o.take left)) (fun k hk => by
      have hko : k < o.length := by omega
      have ml := marks_len (o.take k) R
      have bl := bump_len (o.take k) out
      obtain ⟨B, r1, r2, r3, r4⟩ := rl_L3 (out := bump out (o.take k)) (R := marks R (o.take k)) (by omega) (by omega)
      rw [ml, hRl] at r1 r2
      obtain rfl := best_next ho hR hRl (by omega) r1 r2 r3
      have hv := bump_get (o.take k) out (ho.nodup.sublist (List.take_sublist _ _)) (fun i hi => by rw [hol]; exact ho.lt (List.mem_of_mem_take hi)) (o.getD k 0)
      have hb1 := hb _ (by rw [hol]; exact r1)
      unfold ref38_Share_L2
      simp only [dec_t (show (0 : Int) < (left : Int) - (k : Int) by omega), cond_true, r4, Option.bind_some, bl, ml, hol, hRl, gd_t (inB_t r1), Int.toNat_natCast]
      rw [take_next 0 hko, bump_snoc, marks_snoc, wi (by omega), wi (by rw [hv]; split <;> omega)]
      simp only [Int.sub_sub]; rfl) (by
      unfold ref38_Share_L2
      simp only [dec_f (show ¬ (0 : Int) < (left : Int) - (left : Int) by omega), cond_false])
  simpa [bump, marks] using key

theorem rl_L4 {t : Int} {l : List Int} (hn : l.length ≤ 64) (hb : ∀ x ∈ l, 0 ≤ x ∧ x ≤ 1099511627777) : iter (fun x5 : Int × List Int => ref38_Share_L4 t x5.1 x5.2) (0, l) = some (l.map (· * sgn t)) := by
  by_cases ht : t < 0
  · have ml : (l.map (· * sgn t)).length = l.length := by simp
    have key := iter_for (step := fun x5 : Int × List Int => ref38_Share_L4 t x5.1 x5.2) l.length (fun i => ((i : Int), mix (l.map (· * sgn t)) l i)) (e := l.map (· * sgn t)) (fun i hi => by
        have b := hb _ (gD_mem (d := 0) hi)
        unfold ref38_Share_L4
        simp only [mix_len ml rfl, dec_t (show (i : Int) < (l.length : Int) by omega), cond_true, Int.toNat_natCast, Option.bind_some, dec_t ht, gd_t (inB_t hi)]
        rw [gD_mix ml rfl, if_neg (by omega), set_mix ml rfl 0 hi (by rw [gD_map _ _ _ 0 _ hi]; unfold sgn; rw [if_pos ht]; rw [wi (by omega)]; omega), wi (by omega)]; rfl) (by
        unfold ref38_Share_L4
        simp only [mix_len ml rfl, dec_f (show ¬ (l.length : Int) < (l.length : Int) by omega), cond_false, Option.bind_some]
        rw [mix_n ml rfl])
    simpa [mix_0] using key
  · have e : l.map (· * sgn t) = l := by
      have : (fun x : Int => x * sgn t) = id := by funext x; unfold sgn; rw [if_neg ht, Int.mul_one]; rfl
      rw [this, List.map_id]
    rw [e]
    refine iter_inr ?_
    unfold ref38_Share_L4
    simp only [dec_f ht]
    cases decide ((0 : Int) < (l.length : Int)) <;> rfl

theorem rl_main {t : Int} {a : Nat} {w : List Int} (h : AlIn a w) (hm : max t (-t) = (a : Int)) (h0 : t ≠ 0) {o : List Nat} (ho : Ordered (rmd a (isum w) w) w.length o) : ref38_Share t w = some (allotOf t a w o, 0) := by
  obtain ⟨b1, b2, b3⟩ := left_bd (t := (a : Int)) h.s.1 rfl
  have hn := h.n
  have ht1 := h.t1
  have hs0 := h.s0
  obtain ⟨s1, s2⟩ := share_bd h ho
  have h2 := rl_L2 (out := quo a (isum w) w) (left := ((a : Int) - isum (quo a (isum w) w)).toNat) ho (fun i hi => by rw [rmd_get hi]; exact Int.emod_nonneg _ hs0) (rmd_len _ _ _) (quo_len _ _ _) hn (by omega) (fun k hk => by
      rw [quo_len] at hk
      have := h.qi hk
      omega)
  rw [show ((((a : Int) - isum (quo a (isum w) w)).toNat : Nat) : Int) = (a : Int) - isum (quo a (isum w) w) by omega] at h2
  unfold ref38_Share
  rw [dec_f (show ¬ (64 : Int) < (w.length : Int) by omega), dec_f (show ¬ t < -1099511627776 by omega), dec_f (show ¬ 1099511627776 < t by omega), rl_L0 hn, vOk_iff.2 h.w01]
  simp only [cond_false, cond_true, Option.bind_some, Sum.elim_inl, dec_f hs0, dec_f h0, Int.toNat_natCast]
  rw [gd_t (makeG_t (show w.length * 8 ≤ _ by omega)), gd_t (makeG_t (show w.length * 8 ≤ _ by omega)), abs_eq hm h.t1, rl_L1 h hm]
  simp only [Option.bind_some, h2]
  have := rl_L4 (t := t) (l := shareOf a w o) (by omega) s2
  unfold shareOf at this
  rw [this]
  rfl

/-- The program and the document agree. -/
theorem allot_both (t : Int) (w : List Int) : ∃ r : List Int × Int, allocate_Share t w = some r ∧ ref38_Share t w = some r ∧ r.1.length ≤ 64 := by
  by_cases h1 : 64 < w.length
  · refine ⟨([], 4), ?_, ?_, by simp⟩
    · unfold allocate_Share; rw [dec_t (show (64 : Int) < (w.length : Int) by omega)]; rfl
    · unfold ref38_Share; rw [dec_t (show (64 : Int) < (w.length : Int) by omega)]; rfl
  by_cases h2 : t < -1099511627776 ∨ 1099511627776 < t
  · refine ⟨([], 1), ?_, ?_, by simp⟩
    · unfold allocate_Share
      rw [dec_f (show ¬ (64 : Int) < (w.length : Int) by omega), signed_eq, dec_f (show ¬ (-1099511627776 ≤ t ∧ t ≤ 1099511627776) by omega)]; rfl
    · unfold ref38_Share
      rw [dec_f (show ¬ (64 : Int) < (w.length : Int) by omega)]
      by_cases h3 : t < -1099511627776
      · rw [dec_t h3]; rfl
      · rw [dec_f h3, dec_t (show 1099511627776 < t by omega)]; rfl
  by_cases h3 : vOk w = true
  · by_cases h5 : t = 0
    · refine ⟨(List.replicate w.length 0, 0), ?_, ?_, by simp; omega⟩
      · unfold allocate_Share
        rw [dec_f (show ¬ (64 : Int) < (w.length : Int) by omega), signed_eq, dec_t (show (-1099511627776 ≤ t ∧ t ≤ 1099511627776) by omega), al_contains (by omega), h3, al_L0 (by omega) (vOk_iff.1 h3)]
        simp only [cond_false, cond_true, Option.bind_some, Bool.not_true, dec_t h5, Int.toNat_natCast]
        rw [gd_t (makeG_t (show w.length * 8 ≤ _ by omega))]
      · unfold ref38_Share
        rw [dec_f (show ¬ (64 : Int) < (w.length : Int) by omega), dec_f (show ¬ t < -1099511627776 by omega), dec_f (show ¬ 1099511627776 < t by omega), rl_L0 (by omega), h3]
        simp only [cond_false, cond_true, Option.bind_some, Sum.elim_inl, dec_t h5, Int.toNat_natCast]
        rw [gd_t (makeG_t (show w.length * 8 ≤ _ by omega))]
    · by_cases h4 : isum w = 0
      · refine ⟨([], 9), ?_, ?_, by simp⟩
        · unfold allocate_Share
          rw [dec_f (show ¬ (64 : Int) < (w.length : Int) by omega), signed_eq, dec_t (show (-1099511627776 ≤ t ∧ t ≤ 1099511627776) by omega), al_contains (by omega), h3, al_L0 (by omega) (vOk_iff.1 h3)]
          simp only [cond_false, cond_true, Option.bind_some, Bool.not_true, dec_f h5, dec_t h4]
          rw [gd_t (makeG_t (show w.length * 8 ≤ _ by omega))]
        · unfold ref38_Share
          rw [dec_f (show ¬ (64 : Int) < (w.length : Int) by omega), dec_f (show ¬ t < -1099511627776 by omega), dec_f (show ¬ 1099511627776 < t by omega), rl_L0 (by omega), h3]
          simp only [cond_false, cond_true, Option.bind_some, Sum.elim_inl, dec_f h5, dec_t h4]
      · have hm : max t (-t) = ((max t (-t)).toNat : Int) := by omega
        have hin : AlIn (max t (-t)).toNat w := ⟨by omega, by omega, vOk_iff.1 h3, h4⟩
        obtain ⟨o, ho, q, _⟩ := al_main hin hm h5
        refine ⟨_, q, rl_main hin hm h5 ho, ?_⟩
        have := (share_bd hin ho).1
        simp only [allotOf, List.length_map]
        omega
  · refine ⟨([], 1), ?_, ?_, by simp⟩
    · unfold allocate_Share
      rw [dec_f (show ¬ (64 : Int) < (w.length : Int) by omega), signed_eq, dec_t (show (-1099511627776 ≤ t ∧ t ≤ 1099511627776) by omega), al_contains (by omega), Bool.eq_false_iff.2 h3]
      rfl
    · unfold ref38_Share
      rw [dec_f (show ¬ (64 : Int) < (w.length : Int) by omega), dec_f (show ¬ t < -1099511627776 by omega), dec_f (show ¬ 1099511627776 < t by omega), rl_L0 (by omega), Bool.eq_false_iff.2 h3]
      rfl
end Go.Proofs.Ytmleldfhkangbaa
