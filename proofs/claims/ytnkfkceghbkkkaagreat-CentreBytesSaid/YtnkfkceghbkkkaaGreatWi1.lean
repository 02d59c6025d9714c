/- Numbers as bytes: folding, bits of a word. No condition. -/
import Derived.Test.YtnkfkceghbkkkaaGreatSqZ
namespace Go.Proofs.YtnkfkceghbkkkaaGreat
open Go Go.Sq
set_option linter.unusedVariables false
theorem wu_nat {a : Nat} (h : a < 18446744073709551616) : wu64 (a : Int) = (a : Int) := by
  show IntKind.u64.wrap (a : Int) = _
  simp [IntKind.wrap, IntKind.bits, IntKind.signed]; omega
theorem wu_mod (a : Nat) : wu64 (a : Int) = ((a % 18446744073709551616 : Nat) : Int) := by
  show IntKind.u64.wrap (a : Int) = _
  simp [IntKind.wrap, IntKind.bits, IntKind.signed]
theorem wu_int (a : Int) : wu64 a = a % 18446744073709551616 := by
  show IntKind.u64.wrap a = _
  simp [IntKind.wrap, IntKind.bits, IntKind.signed]
theorem bv (a : Nat) : BitVec.ofInt 64 (a : Int) = BitVec.ofNat 64 a := by
  apply BitVec.eq_of_toNat_eq
  simp [BitVec.toNat_ofInt] <;> omega
theorem xor_nat {a b : Nat} (ha : a < 18446744073709551616) (hb : b < 18446744073709551616) : bitXor .u64 (a : Int) (b : Int) = ((a ^^^ b : Nat) : Int) := by
  show IntKind.u64.wrap ((BitVec.ofInt 64 (a : Int) ^^^ BitVec.ofInt 64 (b : Int)).toNat : Int) = _
  rw [bv, bv, BitVec.toNat_xor, BitVec.toNat_ofNat, BitVec.toNat_ofNat, Nat.mod_eq_of_lt (by omega), Nat.mod_eq_of_lt (by omega)]
  exact wu_nat (by
    have : a ^^^ b < 2 ^ 64 := Nat.xor_lt_two_pow (by omega) (by omega)
    omega)
theorem or_nat {a b : Nat} (ha : a < 18446744073709551616) (hb : b < 18446744073709551616) : bitOr .u64 (a : Int) (b : Int) = ((a ||| b : Nat) : Int) := by
  show IntKind.u64.wrap ((BitVec.ofInt 64 (a : Int) ||| BitVec.ofInt 64 (b : Int)).toNat : Int) = _
  rw [bv, bv, BitVec.toNat_or, BitVec.toNat_ofNat, BitVec.toNat_ofNat, Nat.mod_eq_of_lt (by omega), Nat.mod_eq_of_lt (by omega)]
  exact wu_nat (by
    have : a ||| b < 2 ^ 64 := Nat.or_lt_two_pow (by omega) (by omega)
    omega)
theorem and_one {a : Nat} (ha : a < 18446744073709551616) : bitAnd .u64 (a : Int) 1 = ((a % 2 : Nat) : Int) := by
  show IntKind.u64.wrap ((BitVec.ofInt 64 (a : Int) &&& BitVec.ofInt 64 ((1 : Nat) : Int)).toNat : Int) = _
  rw [bv, bv, BitVec.toNat_and, BitVec.toNat_ofNat, BitVec.toNat_ofNat, Nat.mod_eq_of_lt (by omega), Nat.mod_eq_of_lt (by omega), Nat.and_one_is_mod]
  exact wu_nat (by omega)
theorem not_nat {a : Nat} (ha : a < 18446744073709551616) : a ^^^ 18446744073709551615 = 18446744073709551615 - a := by
  have h := BitVec.toNat_not (x := BitVec.ofNat 64 a)
  rw [← BitVec.xor_allOnes, BitVec.toNat_xor, BitVec.toNat_ofNat, BitVec.toNat_allOnes, Nat.mod_eq_of_lt (by omega)] at h
  simpa using h
def zg (n : Int) : Nat := if 0 ≤ n then (2 * n).toNat else (-(2 * n) - 1).toNat
theorem zg_lt {n : Int} (h : (-9223372036854775808 ≤ n ∧ n ≤ 9223372036854775807)) : zg n < 18446744073709551616 := by
  have : -9223372036854775808 ≤ n ∧ n ≤ 9223372036854775807 := h
  unfold zg; split <;> omega
theorem zig {n : Int} (h : (-9223372036854775808 ≤ n ∧ n ≤ 9223372036854775807)) : bitXor .u64 (wu64 (wu64 n * 2 ^ shAmt .u64 1)) (wu64 (Int.fdiv n (2 ^ shAmt .i64 63))) = (zg n : Int) := by
  have h : -9223372036854775808 ≤ n ∧ n ≤ 9223372036854775807 := h
  have e1 : (2 : Int) ^ shAmt .u64 1 = 2 := by kernel_rfl
  have e2 : (2 : Int) ^ shAmt .i64 63 = 9223372036854775808 := by kernel_rfl
  rw [e1, e2, Int.fdiv_eq_ediv_of_nonneg _ (by omega), wu_int, wu_int, wu_int]
  by_cases h0 : 0 ≤ n
  · rw [show n / 9223372036854775808 = 0 by omega, show n % 18446744073709551616 * 2 % 18446744073709551616 = ((zg n : Nat) : Int) by unfold zg; rw [if_pos h0]; omega]
    exact (xor_nat (b := 0) (zg_lt h) (by omega)).trans (by rw [Nat.xor_zero])
  · have hz : n % 18446744073709551616 * 2 % 18446744073709551616 = ((18446744073709551615 - zg n : Nat) : Int) := by unfold zg; rw [if_neg h0]; omega
    rw [show n / 9223372036854775808 = -1 by omega, hz]
    refine (xor_nat (b := 18446744073709551615) (by omega) (by omega)).trans ?_
    rw [not_nat (by omega)]
    have := zg_lt h
    omega
def unz (u : Nat) : Int := if u % 2 = 0 then ((u / 2 : Nat) : Int) else -((u / 2 : Nat) : Int) - 1
theorem unz_zg (n : Int) : unz (zg n) = n := by
  unfold zg unz
  by_cases h : 0 ≤ n
  · rw [if_pos h, if_pos (by omega)]; omega
  · rw [if_neg h, if_neg (by omega)]; omega
theorem unz_i64 {u : Nat} (h : u < 18446744073709551616) : -9223372036854775808 ≤ unz u ∧ unz u ≤ 9223372036854775807 := by
  unfold unz; split <;> omega
theorem unzig {u : Nat} (h : u < 18446744073709551616) : bitXor .i64 (wi64 (Int.fdiv (u : Int) (2 ^ shAmt .u64 1))) (wi64 (-(wi64 (bitAnd .u64 (u : Int) 1)))) = unz u := by
  have e1 : (2 : Int) ^ shAmt .u64 1 = 2 := by kernel_rfl
  rw [e1, Int.fdiv_eq_ediv_of_nonneg _ (by omega), and_one h, show (u : Int) / 2 = ((u / 2 : Nat) : Int) by omega, wi (by omega), wi (n := ((u % 2 : Nat) : Int)) (by omega)]
  rcases Nat.mod_two_eq_zero_or_one u with h0 | h0
  · rw [h0, show wi64 (-((0 : Nat) : Int)) = ((0 : Nat) : Int) from rfl]
    show IntKind.i64.wrap ((BitVec.ofInt 64 ((u / 2 : Nat) : Int) ^^^ BitVec.ofInt 64 ((0 : Nat) : Int)).toNat : Int) = _
    rw [bv, bv, BitVec.toNat_xor, BitVec.toNat_ofNat, BitVec.toNat_ofNat, Nat.mod_eq_of_lt (by omega), Nat.zero_mod, Nat.xor_zero]
    refine (wi (by omega)).trans ?_
    unfold unz; rw [if_pos h0]
  · rw [h0, show wi64 (-((1 : Nat) : Int)) = -1 from rfl]
    show IntKind.i64.wrap ((BitVec.ofInt 64 ((u / 2 : Nat) : Int) ^^^ BitVec.ofInt 64 (-1)).toNat : Int) = _
    rw [show BitVec.ofInt 64 (-1) = BitVec.ofInt 64 ((18446744073709551615 : Nat) : Int) by decide, bv, bv, BitVec.toNat_xor, BitVec.toNat_ofNat, BitVec.toNat_ofNat, Nat.mod_eq_of_lt (by omega), Nat.mod_eq_of_lt (by omega), not_nat (by omega)]
    show IntKind.i64.wrap _ = _
    unfold unz; rw [if_neg (by omega)]
    have : u / 2 ≤ 9223372036854775807 := by omega
    generalize u / 2 = q at this ⊢
    simp [IntKind.wrap, IntKind.bits, IntKind.signed]; omega
theorem or_add {u c k : Nat} (h : u < 2 ^ k) : u ||| c * 2 ^ k = u + c * 2 ^ k := by
  rw [Nat.or_comm, Nat.mul_comm, ← Nat.two_pow_add_eq_or_of_lt h]; omega
theorem b127 : ∀ c : Fin 256, bitAnd .u8 ((c.val : Nat) : Int) 127 = ((c.val % 128 : Nat) : Int) := by decide +kernel
theorem b128 : ∀ c : Fin 256, bitOr .u8 ((c.val : Nat) : Int) 128 = ((c.val % 128 + 128 : Nat) : Int) := by decide +kernel
end Go.Proofs.YtnkfkceghbkkkaaGreat
