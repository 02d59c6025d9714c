/- Long division, as the program and the document do it. No condition. -/
import Derived.Test.YtdmfhnpibllfeaaSh4
namespace Go.Proofs.Ytdmfhnpibllfeaa
open Go Go.Sq

theorem bitAnd_nat {a b : Nat} (ha : a < 4611686018427387904) (hb : b < 4611686018427387904) : bitAnd .i64 (a : Int) (b : Int) = ((a &&& b : Nat) : Int) := by
  unfold bitAnd
  have h1 : BitVec.ofInt IntKind.i64.bits (a : Int) = BitVec.ofNat IntKind.i64.bits a := BitVec.ofInt_natCast ..
  have h2 : BitVec.ofInt IntKind.i64.bits (b : Int) = BitVec.ofNat IntKind.i64.bits b := BitVec.ofInt_natCast ..
  rw [h1, h2, BitVec.toNat_and, BitVec.toNat_ofNat, BitVec.toNat_ofNat, Nat.mod_eq_of_lt (show a < 2 ^ IntKind.i64.bits by show a < 2 ^ 64; omega), Nat.mod_eq_of_lt (show b < 2 ^ IntKind.i64.bits by show b < 2 ^ 64; omega)]
  have := Nat.and_le_left (n := a) (m := b)
  exact wi (by omega)

/-- The part that is divided so far. -/
def am (a i : Nat) : Nat := a / 2 ^ (41 - i)
theorem am_0 {a : Nat} (ha : a ≤ 1099511627776) : am a 0 = 0 := by
  unfold am; exact Nat.div_eq_of_lt (by omega)
theorem am_41 (a : Nat) : am a 41 = a := by unfold am; simp
theorem am_next (a : Nat) {i : Nat} (h : i < 41) : am a (i + 1) = 2 * am a i + am a (i + 1) % 2 := by
  have : am a i = am a (i + 1) / 2 := by
    unfold am
    rw [Nat.div_div_eq_div_mul, show 41 - i = (41 - (i + 1)) + 1 by omega, Nat.pow_succ]
  omega
theorem am_le (a i : Nat) : am a i ≤ a := Nat.div_le_self _ _

section
variable {w s : Int}
theorem div_next {q m b : Int} (hs : 0 < s) (x : Int) (hx : x = 2 * (m % s) + b) : (2 * m + b) / s = 2 * (m / s) + x / s ∧ (2 * m + b) % s = x % s := by
  have h := Int.mul_ediv_add_emod m s
  have e : 2 * m + b = x + (2 * (m / s)) * s := by
    rw [hx, Int.mul_assoc, Int.mul_comm (m / s) s]; omega
  rw [e]
  exact ⟨by rw [Int.add_mul_ediv_right _ _ (by omega)]; omega, Int.add_mul_emod_self_right _ _ _⟩

/-- What one step adds. -/
def xNext (a i : Nat) (w s : Int) : Int := 2 * ((am a i : Int) * w % s) + (if am a (i + 1) % 2 = 1 then w else 0)
theorem part_next (a : Nat) {i : Nat} (h : i < 41) (hs : 0 < s) : (am a (i + 1) : Int) * w / s = 2 * ((am a i : Int) * w / s) + xNext a i w s / s ∧ (am a (i + 1) : Int) * w % s = xNext a i w s % s := by
  have e : (am a (i + 1) : Int) * w = 2 * ((am a i : Int) * w) + (if am a (i + 1) % 2 = 1 then w else 0) := by
    have h1 := am_next a h
    have h2 : (am a (i + 1) : Int) = 2 * (am a i : Int) + ((am a (i + 1) % 2 : Nat) : Int) := by omega
    rw [h2, Int.add_mul, Int.mul_assoc]
    congr 1
    split
    · rename_i h3; rw [h3]; simp
    · rename_i h3; rw [show am a (i + 1) % 2 = 0 by omega]; simp
  rw [e]
  exact div_next (q := 0) hs _ rfl
theorem xNext_bd (a i : Nat) (hs : 0 < s) (hw : 0 ≤ w ∧ w ≤ s) : 0 ≤ xNext a i w s ∧ xNext a i w s < 3 * s := by
  have h1 := Int.emod_nonneg ((am a i : Int) * w) (show s ≠ 0 by omega)
  have h2 := Int.emod_lt_of_pos ((am a i : Int) * w) hs
  unfold xNext
  split <;> omega
theorem quo_bd (a i : Nat) (hs : 0 < s) (hw : 0 ≤ w ∧ w ≤ s) : 0 ≤ (am a i : Int) * w / s ∧ (am a i : Int) * w / s ≤ a := by
  have h0 : 0 ≤ (am a i : Int) * w := Int.mul_nonneg (by omega) hw.1
  refine ⟨Int.ediv_nonneg h0 (by omega), ?_⟩
  have h1 : (am a i : Int) * w ≤ (a : Int) * s := Int.mul_le_mul (by have := am_le a i; omega) hw.2 hw.1 (by omega)
  exact Int.ediv_le_of_le_mul hs h1

theorem part_L1 {q x : Int} (hs : 0 < s ∧ s ≤ 288230376151711744) (hx : 0 ≤ x ∧ x < 3 * s) (hq : 0 ≤ q ∧ q ≤ 4611686018427387904) : iter (fun y : Int × Int => allocate_part_L1 s y.1 y.2) (q, x) = some (q + x / s, x % s) := by
  have hd : x / s ≤ 2 := by
    have := Int.ediv_lt_of_lt_mul hs.1 hx.2
    omega
  have key : ∃ e, iter (fun y : Int × Int => allocate_part_L1 s y.1 y.2) (q, x) = some e ∧ e = (q + x / s, x % s) := by
    refine iter_inv (fun y => 0 ≤ y.2 ∧ y.2 ≤ x ∧ q ≤ y.1 ∧ y.1 + y.2 / s = q + x / s ∧ y.2 % s = x % s) (fun y => y.2.toNat) _ ?_ ⟨hx.1, Int.le_refl _, Int.le_refl _, rfl, rfl⟩
    rintro ⟨u, v⟩ ⟨h1, h2, h3, h4, h5⟩
    simp only at h1 h2 h3 h4 h5
    have hv := Int.ediv_nonneg h1 (Int.le_of_lt hs.1)
    unfold allocate_part_L1
    simp only
    by_cases hsv : s ≤ v
    · right
      rw [dec_t hsv, wi (by omega), wi (by omega)]
      refine ⟨_, rfl, ⟨by simp only; omega, by simp only; omega, by simp only; omega, ?_, ?_⟩, ?_⟩
      · show u + 1 + (v - s) / s = _
        rw [show v - s = v + (-1) * s by omega, Int.add_mul_ediv_right _ _ (by omega)]; omega
      · show (v - s) % s = _
        rw [Int.sub_emod_right]; exact h5
      · show (v - s).toNat < v.toNat
        omega
    · left
      rw [dec_f hsv]
      have e1 : v / s = 0 := Int.ediv_eq_zero_of_lt h1 (by omega)
      have e2 : v % s = v := Int.emod_eq_of_lt h1 (by omega)
      exact ⟨_, rfl, by rw [← h4, ← h5, e1, e2]; simp⟩
  obtain ⟨_, q1, rfl⟩ := key
  exact q1

theorem pow40 {i : Nat} (h : i ≤ 40) : 2 ^ 40 / 2 ^ i = 2 ^ (40 - i) := Nat.pow_div h (by omega)
theorem and_pow (a k : Nat) : (a &&& 2 ^ k = 0) ↔ a.testBit k = false := by
  constructor
  · intro h
    have h2 : (a &&& 2 ^ k).testBit k = false := by rw [h]; exact Nat.zero_testBit k
    rw [Nat.testBit_and, Nat.testBit_two_pow_self, Bool.and_true] at h2
    exact h2
  · intro h
    refine Nat.eq_of_testBit_eq fun j => ?_
    rw [Nat.testBit_and, Nat.testBit_two_pow, Nat.zero_testBit]
    by_cases e : k = j
    · subst e; rw [h]; rfl
    · simp [e]
theorem bit_test {a i : Nat} (ha : a ≤ 1099511627776) (h : i < 41) : (!decide (bitAnd .i64 (a : Int) ((2 ^ 40 / 2 ^ i : Nat) : Int) = 0)) = decide (am a (i + 1) % 2 = 1) := by
  have hp : 2 ^ (40 - i) ≤ 2 ^ 40 := Nat.pow_le_pow_right (by omega) (by omega)
  rw [pow40 (by omega), bitAnd_nat (by omega) (by omega)]
  unfold am
  rw [show 41 - (i + 1) = 40 - i by omega]
  have hz := and_pow a (40 - i)
  rw [Nat.testBit_eq_decide_div_mod_eq, decide_eq_false_iff_not] at hz
  by_cases h1 : a / 2 ^ (40 - i) % 2 = 1
  · rw [dec_t h1, dec_f (show ¬ ((a &&& 2 ^ (40 - i) : Nat) : Int) = 0 by intro hh; exact hz.1 (by omega) h1)]; rfl
  · rw [dec_f h1, dec_t (show ((a &&& 2 ^ (40 - i) : Nat) : Int) = 0 by have := hz.2 h1; omega)]; rfl

theorem part_eq {a : Nat} (ha : a ≤ 1099511627776) (hs : 0 < s ∧ s ≤ 288230376151711744) (hw : 0 ≤ w ∧ w ≤ s) : allocate_part (a : Int) w s = some ((a : Int) * w / s, (a : Int) * w % s) := by
  have e2 : (2 : Int) ^ shAmt .i64 1 = 2 := by kernel_rfl
  have key := iter_for (step := fun x2 : Int × Int × Int => allocate_part_L0 (a : Int) w s x2.1 x2.2.1 x2.2.2) 41 (fun i => ((am a i : Int) * w / s, (am a i : Int) * w % s, ((2 ^ 40 / 2 ^ i : Nat) : Int))) (e := ((a : Int) * w / s, (a : Int) * w % s)) (fun i hi => by
      obtain ⟨n1, n2⟩ := part_next (w := w) (s := s) a hi hs.1
      have hx := xNext_bd a i hs.1 hw
      have hq := quo_bd a i hs.1 hw
      have hm1 := Int.emod_nonneg ((am a i : Int) * w) (show s ≠ 0 by omega)
      have hm2 := Int.emod_lt_of_pos ((am a i : Int) * w) hs.1
      have hb : (0 : Int) < ((2 ^ 40 / 2 ^ i : Nat) : Int) := by
        rw [pow40 (by omega)]
        have := Nat.two_pow_pos (40 - i)
        omega
      have hs4 : (bif (!decide (bitAnd .i64 (a : Int) ((2 ^ 40 / 2 ^ i : Nat) : Int) = 0)) then some (wi64 (wi64 (2 * ((am a i : Int) * w % s)) + w)) else some (wi64 (2 * ((am a i : Int) * w % s)))) = some (xNext a i w s) := by
        rw [bit_test ha hi, show wi64 (2 * ((am a i : Int) * w % s)) = 2 * ((am a i : Int) * w % s) from wi (by omega), show wi64 (2 * ((am a i : Int) * w % s) + w) = 2 * ((am a i : Int) * w % s) + w from wi (by omega)]
        unfold xNext
        by_cases h1 : am a (i + 1) % 2 = 1
        · rw [dec_t h1, if_pos h1]; rfl
        · rw [dec_f h1, if_neg h1]
          simp
      unfold allocate_part_L0
      simp only [dec_t hb, cond_true]
      rw [hs4]
      simp only [Option.bind_some]
      rw [show wi64 (2 * ((am a i : Int) * w / s)) = 2 * ((am a i : Int) * w / s) from wi (by omega), part_L1 hs hx (by omega)]
      simp only [Option.bind_some]
      rw [n1, n2, e2, Int.fdiv_eq_ediv_of_nonneg _ (by omega), show ((2 ^ 40 / 2 ^ i : Nat) : Int) / 2 = ((2 ^ 40 / 2 ^ (i + 1) : Nat) : Int) by rw [show (2 : Nat) ^ (i + 1) = 2 ^ i * 2 from Nat.pow_succ .., ← Nat.div_div_eq_div_mul]; omega]) (by
      unfold allocate_part_L0
      simp only [am_41, dec_f (show ¬ (0 : Int) < ((2 ^ 40 / 2 ^ 41 : Nat) : Int) by decide), cond_false])
  rw [am_0 ha] at key
  unfold allocate_part
  rw [show ((0 : Int), (0 : Int), (1099511627776 : Int)) = (((0 : Nat) : Int) * w / s, ((0 : Nat) : Int) * w % s, ((2 ^ 40 / 2 ^ 0 : Nat) : Int)) by simp, key]
  rfl

theorem rbit_test {a i : Nat} (ha : a ≤ 1099511627776) (h : i < 41) : decide (bitAnd .i64 (Int.fdiv (a : Int) (2 ^ shAmt .i64 (wu64 (40 - (i : Int))))) 1 = 1) = decide (am a (i + 1) % 2 = 1) := by
  have e0 : wu64 (40 - (i : Int)) = ((40 - i : Nat) : Int) := by
    show IntKind.u64.wrap _ = _
    rw [show IntKind.u64.wrap (40 - (i : Int)) = (40 - (i : Int)) % 18446744073709551616 from rfl]
    omega
  have e1 : shAmt .i64 ((40 - i : Nat) : Int) = 40 - i := by
    unfold shAmt
    simp only [IntKind.bits]
    omega
  have hle : a / 2 ^ (40 - i) ≤ a := Nat.div_le_self _ _
  rw [e0, e1, Int.fdiv_eq_ediv_of_nonneg _ (Int.le_of_lt (Int.pow_pos (by omega))), show (a : Int) / 2 ^ (40 - i) = ((a / 2 ^ (40 - i) : Nat) : Int) by rw [Int.natCast_ediv, Int.natCast_pow]; rfl,
    show (1 : Int) = ((1 : Nat) : Int) from rfl, bitAnd_nat (by omega) (by omega), Nat.and_one_is_mod]
  unfold am
  rw [show 41 - (i + 1) = 40 - i by omega]
  by_cases h1 : a / 2 ^ (40 - i) % 2 = 1
  · rw [h1]; simp
  · rw [show a / 2 ^ (40 - i) % 2 = 0 by omega]; simp

theorem rpart_eq {a : Nat} (ha : a ≤ 1099511627776) (hs : 0 < s ∧ s ≤ 288230376151711744) (hw : 0 ≤ w ∧ w ≤ s) : ref38_part (a : Int) w s = some ((a : Int) * w / s, (a : Int) * w % s) := by
  have key := iter_for (step := fun x : Int × Int × Int => ref38_part_L0 (a : Int) w s x.1 x.2.1 x.2.2) 41 (fun i => ((am a i : Int) * w / s, (am a i : Int) * w % s, 40 - (i : Int))) (e := ((a : Int) * w / s, (a : Int) * w % s)) (fun i hi => by
      obtain ⟨n1, n2⟩ := part_next (w := w) (s := s) a hi hs.1
      have hx := xNext_bd a i hs.1 hw
      have hq := quo_bd a i hs.1 hw
      have hq2 := quo_bd a (i + 1) hs.1 hw
      have hm1 := Int.emod_nonneg ((am a i : Int) * w) (show s ≠ 0 by omega)
      have hm2 := Int.emod_lt_of_pos ((am a i : Int) * w) hs.1
      have e0 : ¬ wu64 (40 - (i : Int)) < 0 := by
        rw [show wu64 (40 - (i : Int)) = (40 - (i : Int)) % 18446744073709551616 from rfl]
        omega
      have hs4 : (bif (decide (bitAnd .i64 (Int.fdiv (a : Int) (2 ^ shAmt .i64 (wu64 (40 - (i : Int))))) 1 = 1)) then some (wi64 (wi64 (2 * ((am a i : Int) * w % s)) + w)) else some (wi64 (2 * ((am a i : Int) * w % s)))) = some (xNext a i w s) := by
        rw [rbit_test ha hi, show wi64 (2 * ((am a i : Int) * w % s)) = 2 * ((am a i : Int) * w % s) from wi (by omega), show wi64 (2 * ((am a i : Int) * w % s) + w) = 2 * ((am a i : Int) * w % s) + w from wi (by omega)]
        unfold xNext
        by_cases h1 : am a (i + 1) % 2 = 1
        · rw [dec_t h1, if_pos h1]; rfl
        · rw [dec_f h1, if_neg h1]
          simp
      unfold ref38_part_L0
      simp only [dec_t (show (0 : Int) ≤ 40 - (i : Int) by omega), cond_true, dec_f e0, Bool.not_false, gd_tt, dec_f (show ¬ s = 0 by omega)]
      rw [hs4]
      simp only [Option.bind_some]
      have hxd : xNext a i w s / s ≤ xNext a i w s := Int.ediv_le_self _ hx.1
      have hxd0 := Int.ediv_nonneg hx.1 (Int.le_of_lt hs.1)
      rw [Int.tdiv_eq_ediv_of_nonneg hx.1, Int.tmod_eq_emod_of_nonneg hx.1, show wi64 (2 * ((am a i : Int) * w / s)) = 2 * ((am a i : Int) * w / s) from wi (by omega), show wi64 (xNext a i w s / s) = xNext a i w s / s from wi (by omega), ← n1, n2, wi (by omega), wi (by omega)]
      rw [show (40 : Int) - (i : Int) - 1 = 40 - ((i + 1 : Nat) : Int) by omega]) (by
      unfold ref38_part_L0
      simp only [am_41, dec_f (show ¬ (0 : Int) ≤ 40 - ((41 : Nat) : Int) by decide), cond_false])
  rw [am_0 ha] at key
  unfold ref38_part
  rw [show ((0 : Int), (0 : Int), (40 : Int)) = (((0 : Nat) : Int) * w / s, ((0 : Nat) : Int) * w % s, 40 - ((0 : Nat) : Int)) by simp, key]
  rfl
end
end Go.Proofs.Ytdmfhnpibllfeaa
