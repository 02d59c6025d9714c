/- Numbers as bytes: folding, bits of a word. No condition. -/
import Derived.Test.YtnkfkceghbkkkaaGreatCn5
import Derived.Test.YtnkfkceghbkkkaaGreatQu
namespace Go.Proofs.YtnkfkceghbkkkaaGreat.Wi
open Go Go.Sq
set_option linter.unusedVariables false
theorem qhn {a : Nat} (h : a < 18446744073709551616) : wu64 (a : Int) = (a : Int) := by
 show IntKind.u64.wrap (a : Int) = _
 simp [IntKind.wrap, IntKind.bits, IntKind.signed]; omega
theorem qnx (a : Int) : wu64 a = a % 18446744073709551616 := by
 show IntKind.u64.wrap a = _
 simp [IntKind.wrap, IntKind.bits, IntKind.signed]
theorem bv (a : Nat) : BitVec.ofInt 64 (a : Int) = BitVec.ofNat 64 a := by
 apply BitVec.eq_of_toNat_eq
 simp [BitVec.toNat_ofInt] <;> omega
theorem qwO {a b : Nat} (ha : a < 18446744073709551616) (hb : b < 18446744073709551616) : qoM .u64 (a : Int) (b : Int) = ((a ^^^ b : Nat) : Int) := by
 show IntKind.u64.wrap ((BitVec.ofInt 64 (a : Int) ^^^ BitVec.ofInt 64 (b : Int)).toNat : Int) = _
 rw [bv, bv, BitVec.toNat_xor, BitVec.toNat_ofNat, BitVec.toNat_ofNat, Nat.mod_eq_of_lt (by omega), Nat.mod_eq_of_lt (by omega)]
 exact qhn (by
  have : a ^^^ b < 2 ^ 64 := Nat.xor_lt_two_pow (by omega) (by omega)
  omega)
theorem qyI {a b : Nat} (ha : a < 18446744073709551616) (hb : b < 18446744073709551616) : bitOr .u64 (a : Int) (b : Int) = ((a ||| b : Nat) : Int) := by
 show IntKind.u64.wrap ((BitVec.ofInt 64 (a : Int) ||| BitVec.ofInt 64 (b : Int)).toNat : Int) = _
 rw [bv, bv, BitVec.toNat_or, BitVec.toNat_ofNat, BitVec.toNat_ofNat, Nat.mod_eq_of_lt (by omega), Nat.mod_eq_of_lt (by omega)]
 exact qhn (by
  have : a ||| b < 2 ^ 64 := Nat.or_lt_two_pow (by omega) (by omega)
  omega)
theorem qzz {a : Nat} (ha : a < 18446744073709551616) : qft .u64 (a : Int) 1 = ((a % 2 : Nat) : Int) := by
 show IntKind.u64.wrap ((BitVec.ofInt 64 (a : Int) &&& BitVec.ofInt 64 ((1 : Nat) : Int)).toNat : Int) = _
 rw [bv, bv, BitVec.toNat_and, BitVec.toNat_ofNat, BitVec.toNat_ofNat, Nat.mod_eq_of_lt (by omega), Nat.mod_eq_of_lt (by omega), Nat.and_one_is_mod]
 exact qhn (by omega)
theorem qwP {a : Nat} (ha : a < 18446744073709551616) : a ^^^ 18446744073709551615 = 18446744073709551615 - a := by
 have h := BitVec.toNat_not (x := BitVec.ofNat 64 a)
 rw [← BitVec.xor_allOnes, BitVec.toNat_xor, BitVec.toNat_ofNat, BitVec.toNat_allOnes, Nat.mod_eq_of_lt (by omega)] at h
 simpa using h
def zg (n : Int) : Nat := if 0 ≤ n then (2 * n).toNat else (-(2 * n) - 1).toNat
theorem zg_lt {n : Int} (h : (-9223372036854775808 ≤ n ∧ n ≤ 9223372036854775807)) : zg n < 18446744073709551616 := by
 have : -9223372036854775808 ≤ n ∧ n ≤ 9223372036854775807 := h
 unfold zg; split <;> omega
theorem zig {n : Int} (h : (-9223372036854775808 ≤ n ∧ n ≤ 9223372036854775807)) : qoM .u64 (wu64 (wu64 n * 2 ^ shAmt .u64 1)) (wu64 (Int.fdiv n (2 ^ shAmt .i64 63))) = (zg n : Int) := by
 have h : -9223372036854775808 ≤ n ∧ n ≤ 9223372036854775807 := h
 have e1 : (2 : Int) ^ shAmt .u64 1 = 2 := by kernel_rfl
 have e2 : (2 : Int) ^ shAmt .i64 63 = 9223372036854775808 := by kernel_rfl
 rw [e1, e2, Int.fdiv_eq_ediv_of_nonneg _ (by omega), qnx, qnx, qnx]
 by_cases h0 : 0 ≤ n
 ·rw [show n / 9223372036854775808 = 0 by omega, show n % 18446744073709551616 * 2 % 18446744073709551616 = ((zg n : Nat) : Int) by unfold zg; rw [if_pos h0]; omega]
  exact (qwO (b := 0) (zg_lt h) (by omega)).trans (by rw [Nat.xor_zero])
 ·have hz : n % 18446744073709551616 * 2 % 18446744073709551616 = ((18446744073709551615 - zg n : Nat) : Int) := by unfold zg; rw [if_neg h0]; omega
  rw [show n / 9223372036854775808 = -1 by omega, hz]
  refine (qwO (b := 18446744073709551615) (by omega) (by omega)).trans ?_
  rw [qwP (by omega)]
  have := zg_lt h
  omega
def unz (u : Nat) : Int := if u % 2 = 0 then ((u / 2 : Nat) : Int) else -((u / 2 : Nat) : Int) - 1
theorem qyJ (n : Int) : unz (zg n) = n := by
 unfold zg unz
 by_cases h : 0 ≤ n
 ·rw [if_pos h, if_pos (by omega)]; omega
 ·rw [if_neg h, if_neg (by omega)]; omega
theorem unzig {u : Nat} (h : u < 18446744073709551616) : qoM .i64 (wi64 (Int.fdiv (u : Int) (2 ^ shAmt .u64 1))) (wi64 (-(wi64 (qft .u64 (u : Int) 1)))) = unz u := by
 have e1 : (2 : Int) ^ shAmt .u64 1 = 2 := by kernel_rfl
 rw [e1, Int.fdiv_eq_ediv_of_nonneg _ (by omega), qzz h, show (u : Int) / 2 = ((u / 2 : Nat) : Int) by omega, wi (by omega), wi (n := ((u % 2 : Nat) : Int)) (by omega)]
 rcases Nat.mod_two_eq_zero_or_one u with h0 | h0
 ·rw [h0, show wi64 (-((0 : Nat) : Int)) = ((0 : Nat) : Int) from rfl]
  show IntKind.i64.wrap ((BitVec.ofInt 64 ((u / 2 : Nat) : Int) ^^^ BitVec.ofInt 64 ((0 : Nat) : Int)).toNat : Int) = _
  rw [bv, bv, BitVec.toNat_xor, BitVec.toNat_ofNat, BitVec.toNat_ofNat, Nat.mod_eq_of_lt (by omega), Nat.zero_mod, Nat.xor_zero]
  refine (wi (by omega)).trans ?_
  unfold unz; rw [if_pos h0]
 ·rw [h0, show wi64 (-((1 : Nat) : Int)) = -1 from rfl]
  show IntKind.i64.wrap ((BitVec.ofInt 64 ((u / 2 : Nat) : Int) ^^^ BitVec.ofInt 64 (-1)).toNat : Int) = _
  rw [show BitVec.ofInt 64 (-1) = BitVec.ofInt 64 ((18446744073709551615 : Nat) : Int) by decide, bv, bv, BitVec.toNat_xor, BitVec.toNat_ofNat, BitVec.toNat_ofNat, Nat.mod_eq_of_lt (by omega), Nat.mod_eq_of_lt (by omega), qwP (by omega)]
  show IntKind.i64.wrap _ = _
  unfold unz; rw [if_neg (by omega)]
  have : u / 2 ≤ 9223372036854775807 := by omega
  generalize u / 2 = q at this ⊢
  simp [IntKind.wrap, IntKind.bits, IntKind.signed]; omega
theorem qyK {u c k : Nat} (h : u < 2 ^ k) : u ||| c * 2 ^ k = u + c * 2 ^ k := by
 rw [Nat.or_comm, Nat.mul_comm, ← Nat.two_pow_add_eq_or_of_lt h]; omega
theorem b127 : ∀ c : Fin 256, qft .u8 ((c.val : Nat) : Int) 127 = ((c.val % 128 : Nat) : Int) := by decide +kernel
theorem b128 : ∀ c : Fin 256, bitOr .u8 ((c.val : Nat) : Int) 128 = ((c.val % 128 + 128 : Nat) : Int) := by decide +kernel
end Go.Proofs.YtnkfkceghbkkkaaGreat.Wi
namespace Go.Proofs.YtnkfkceghbkkkaaGreat.Wi
open Go Go.Sq
set_option linter.unusedVariables false
def enc (u : Nat) : List Int := if u < 128 then [(u : Int)] else ((u % 128 + 128 : Nat) : Int) :: enc (u / 128)
termination_by u
decreasing_by omega
theorem qny {u : Nat} (h : u < 128) : enc u = [(u : Int)] := by rw [enc, if_pos h]
theorem qpp {u : Nat} (h : 128 ≤ u) : enc u = ((u % 128 + 128 : Nat) : Int) :: enc (u / 128) := by rw [enc, if_neg (by omega)]
def encZ (n : Int) : List Int := enc (zg n)
def encs (l : List Int) : List Int := (l.map encZ).flatten
def bN (b : List Int) (i : Nat) : Nat := (b.getD i 0).toNat
def rdI (b : List Int) (p k u : Nat) : Nat → Int × Int × Int
 | 0 => (0, 0, 3)
 | f + 1 => if b.length ≤ p then (0, 0, 2) else
  if 128 ≤ bN b p then rdI b (p + 1) (k + 1) (u + bN b p % 128 * 2 ^ (7 * k)) f else
  if k = 9 ∧ 1 < bN b p ∨ 0 < k ∧ bN b p = 0 then (0, 0, 3) else (unz (u + bN b p % 128 * 2 ^ (7 * k)), ((p + 1 : Nat) : Int), 0)
def rdZ (b : List Int) (p : Int) : Int × Int × Int := if p < 0 ∨ (b.length : Int) < p then (0, 0, 1) else rdI b p.toNat 0 0 10
def qeP (b : List Int) : Prop := ∀ x ∈ b, 0 ≤ x ∧ x ≤ 255
theorem qsf : ∀ (f u : Nat), u ≤ f → qeP (enc u)
 | 0, u, h => by rw [qny (by omega)]; intro x hx; rw [List.mem_singleton.1 hx]; omega
 | f + 1, u, h => by
  by_cases h1 : u < 128
  ·rw [qny h1]; intro x hx; rw [List.mem_singleton.1 hx]; omega
  ·rw [qpp (by omega)]
   intro x hx
   rcases List.mem_cons.1 hx with rfl | hx
   ·omega
   ·exact qsf f _ (by omega) x hx
theorem qp3 (n : Int) : qeP (encZ n) := qsf _ _ (Nat.le_refl _)
theorem qq7 (u : Nat) : 0 < (enc u).length := by
 by_cases h : u < 128
 ·rw [qny h]; simp
 ·rw [qpp (by omega)]; simp
theorem bN_at {b pre post : List Int} {c : Nat} {p : Nat} (hp : p = pre.length) (e : b = pre ++ (c : Int) :: post) : bN b p = c ∧ ¬ b.length ≤ p := by
 subst e hp
 refine ⟨?_, by simp⟩
 unfold bN
 rw [List.getD_eq_getElem?_getD, List.getElem?_append_right (Nat.le_refl _), Nat.sub_self]
 simp
theorem qtk : ∀ (f k v u p : Nat) (b pre post : List Int), f + k = 10 → p = pre.length → b = pre ++ enc v ++ post → v * 2 ^ (7 * k) < 2 ^ 64 → (k = 0 ∨ 0 < v) → rdI b p k u f = (unz (u + v * 2 ^ (7 * k)), ((p + (enc v).length : Nat) : Int), 0)
 | 0, k, v, u, p, b, pre, post, hf, hp, e, hv, h0 => by
  have hk : k = 10 := by omega
  subst hk
  have : v * 2 ^ 70 < 2 ^ 64 := hv
  omega
 | f + 1, k, v, u, p, b, pre, post, hf, hp, e, hv, h0 => by
  by_cases h1 : v < 128
  ·rw [qny h1] at e ⊢
   obtain ⟨g1, g2⟩ := bN_at hp (e.trans (by simp) : b = pre ++ (v : Int) :: post)
   unfold rdI
   rw [if_neg g2, g1, if_neg (by omega), if_neg ?_, Nat.mod_eq_of_lt h1]
   ·rfl
   ·rintro (⟨hk, h⟩ | ⟨h, h'⟩)
    ·subst hk
     have : v * 2 ^ 63 < 2 ^ 64 := hv
     omega
    ·omega
  ·rw [qpp (by omega)] at e ⊢
   obtain ⟨g1, g2⟩ := bN_at hp (e.trans (by simp) : b = pre ++ ((v % 128 + 128 : Nat) : Int) :: (enc (v / 128) ++ post))
   unfold rdI
   rw [if_neg g2, g1, if_pos (by omega)]
   have hM : 2 ^ (7 * (k + 1)) = 128 * 2 ^ (7 * k) := by rw [show 7 * (k + 1) = 7 + 7 * k by omega, Nat.pow_add]
   have hv2 : v * 2 ^ (7 * k) = v / 128 * 2 ^ (7 * (k + 1)) + v % 128 * 2 ^ (7 * k) := by
    rw [hM, ← Nat.mul_assoc, ← Nat.add_mul]
    congr 1; omega
   rw [qtk f (k + 1) (v / 128) _ (p + 1) b (pre ++ [((v % 128 + 128 : Nat) : Int)]) post (by omega) (by simp; omega) (by rw [e]; simp) (by rw [hv2] at hv; omega) (by omega)]
   refine Prod.ext ?_ (Prod.ext ?_ rfl)
   ·show unz _ = unz _
    congr 1
    rw [show (v % 128 + 128) % 128 = v % 128 by omega, hv2]; omega
   ·show ((p + 1 + _ : Nat) : Int) = ((p + _ : Nat) : Int)
    simp; omega
theorem qzA {b pre post : List Int} {n : Int} (h : -9223372036854775808 ≤ n ∧ n ≤ 9223372036854775807) (e : b = pre ++ encZ n ++ post) : rdZ b (pre.length : Int) = (n, ((pre.length + (encZ n).length : Nat) : Int), 0) := by
 unfold rdZ
 rw [if_neg (by subst e; simp; omega), Int.toNat_natCast, qtk 10 0 (zg n) 0 pre.length b pre post rfl rfl e (by have := zg_lt h; simpa using this) (.inl rfl)]
 rw [Nat.zero_add, Nat.mul_zero, Nat.pow_zero, Nat.mul_one, qyJ]; rfl
end Go.Proofs.YtnkfkceghbkkkaaGreat.Wi
namespace Go.Proofs.YtnkfkceghbkkkaaGreat.Wi
open Go Go.Sq
set_option linter.unusedVariables false
theorem qq8 (a : Nat) : wu8 (a : Int) = ((a % 256 : Nat) : Int) := by
 show IntKind.u8.wrap (a : Int) = _
 simp [IntKind.wrap, IntKind.bits, IntKind.signed]
theorem qwQ : ∀ (k u : Nat), 0 < k → u < 128 ^ k → (enc u).length ≤ k
 | 0, u, h, _ => by omega
 | k + 1, u, h, hu => by
  by_cases h1 : u < 128
  ·rw [qny h1]; simp
  ·rw [qpp (by omega), List.length_cons]
   cases k with
   | zero => omega
   | succ k =>
    have : u / 128 < 128 ^ (k + 1) := by rw [Nat.div_lt_iff_lt_mul (by omega)]; rw [Nat.pow_succ] at hu; exact hu
    have := qwQ (k + 1) (u / 128) (by omega) this
    omega
theorem qho {n : Int} (h : -9223372036854775808 ≤ n ∧ n ≤ 9223372036854775807) : (encZ n).length ≤ 10 := qwQ 10 _ (by omega) (by have := zg_lt h; omega)
theorem qsg : ∀ (f u : Nat) (out : List Int), u ≤ f → out.length + (enc u).length ≤ 10000000 →
  ((iter (fun x => qcV x.1 x.2) ((u : Int), out)).bind fun s => gd (fits (s.2.length + 1) 1) (some (s.2 ++ [wu8 s.1]))) = some (out ++ enc u)
 | f, u, out, hf, hl => by
  by_cases h : u < 128
  ·have h1 : qcV (u : Int) out = some (.inr ((u : Int), out)) := by
    unfold qcV
    rw [dec_f (by omega), cond_false]
   rw [qb4]
   simp only [h1, Option.bind_some]
   rw [qaz (by omega), gd_tt, qq8, Nat.mod_eq_of_lt (by omega), qny h]
  ·rw [qpp (by omega)] at hl ⊢
   have hp := qq7 (u / 128)
   simp only [List.length_cons] at hl
   have h1 : qcV (u : Int) out = some (.inl (((u / 128 : Nat) : Int), out ++ [((u % 128 + 128 : Nat) : Int)])) := by
    unfold qcV
    have e1 : (2 : Int) ^ shAmt .u64 7 = 128 := by kernel_rfl
    rw [dec_t (by omega), cond_true, qaz (by omega), gd_tt, e1, Int.fdiv_eq_ediv_of_nonneg _ (by omega), qq8, b128 ⟨u % 256, by omega⟩]
    simp only
    rw [show u % 256 % 128 = u % 128 by omega]; rfl
   rw [qb4]
   simp only [h1]
   cases f with
   | zero => omega
   | succ f =>
    rw [qsg f (u / 128) (out ++ [((u % 128 + 128 : Nat) : Int)]) (by omega) (by simp; omega)]
    simp
theorem qwR {b : List Int} {n : Int} (h : -9223372036854775808 ≤ n ∧ n ≤ 9223372036854775807) (hb : b.length ≤ 1000000) : qgv b n = some (b ++ encZ n) := by
 have hl := qho h
 unfold qgv
 rw [qaz (by omega), gd_tt, zig h, List.nil_append]
 exact qsg _ _ _ (Nat.le_refl _) (by unfold encZ at hl; omega)
theorem qzB {n : Int} (h : -9223372036854775808 ≤ n ∧ n ≤ 9223372036854775807) : qhh n = some (zg n : Int) := by
 unfold qhh zg
 by_cases h0 : 0 ≤ n
 ·rw [dec_t h0, cond_true, if_pos h0, qnx, qnx]; congr 1; omega
 ·rw [dec_f h0, cond_false, if_neg h0, wi (n := n + 1) (by omega), wi (by omega), qnx, qnx, qnx]; congr 1; omega
theorem qsh : ∀ (f u : Nat) (out : List Int), u ≤ f → u < 18446744073709551616 → out.length + (enc u).length ≤ 10000000 →
  ((iter (fun x => qcy x.1 x.2) ((u : Int), out)).bind fun s => gd (fits (s.2.length + 1) 1) (some (s.2 ++ [wu8 s.1]))) = some (out ++ enc u)
 | f, u, out, hf, hu, hl => by
  by_cases h : u < 128
  ·have h1 : qcy (u : Int) out = some (.inr ((u : Int), out)) := by
    unfold qcy
    rw [dec_f (by omega), cond_false]
   rw [qb4]
   simp only [h1, Option.bind_some]
   rw [qaz (by omega), gd_tt, qq8, Nat.mod_eq_of_lt (by omega), qny h]
  ·rw [qpp (by omega)] at hl ⊢
   have hp := qq7 (u / 128)
   simp only [List.length_cons] at hl
   have h1 : qcy (u : Int) out = some (.inl (((u / 128 : Nat) : Int), out ++ [((u % 128 + 128 : Nat) : Int)])) := by
    unfold qcy
    rw [dec_t (by omega), cond_true, qaz (by omega), gd_tt, show Int.tdiv (u : Int) 128 = ((u / 128 : Nat) : Int) from rfl, show Int.tmod (u : Int) 128 = ((u % 128 : Nat) : Int) from rfl, qhn (by omega), show ((u % 128 : Nat) : Int) + 128 = ((u % 128 + 128 : Nat) : Int) by omega, qhn (by omega), qq8, Nat.mod_eq_of_lt (by omega)]
   rw [qb4]
   simp only [h1]
   cases f with
   | zero => omega
   | succ f =>
    rw [qsh f (u / 128) (out ++ [((u % 128 + 128 : Nat) : Int)]) (by omega) (by omega) (by simp; omega)]
    simp
theorem qzC {b : List Int} {n : Int} (h : -9223372036854775808 ≤ n ∧ n ≤ 9223372036854775807) (hb : b.length ≤ 1000000) : qhi b n = some (b ++ encZ n) := by
 have hl := qho h
 unfold qhi
 rw [qaz (by omega), gd_tt, qzB h, Option.bind_some, List.nil_append]
 exact qsh _ _ _ (Nat.le_refl _) (zg_lt h) (by unfold encZ at hl; omega)
end Go.Proofs.YtnkfkceghbkkkaaGreat.Wi
namespace Go.Proofs.YtnkfkceghbkkkaaGreat.Wi
open Go Go.Sq
set_option linter.unusedVariables false
theorem qwS {b : List Int} (hb : qeP b) {i : Nat} (h : i < b.length) : b.getD i 0 = ((bN b i : Nat) : Int) ∧ bN b i < 256 := by
 have := hb _ (qbb (d := 0) h)
 unfold bN
 omega
theorem sh7 {k : Nat} (h : k ≤ 9) : (2 : Int) ^ shAmt .u64 (wi64 (7 * (k : Int))) = ((2 ^ (7 * k) : Nat) : Int) := by
 rw [wi (by omega), show 7 * (k : Int) = ((7 * k : Nat) : Int) by omega]
 unfold shAmt
 rw [Int.toNat_natCast, Nat.min_eq_left (by show 7 * k ≤ 64; omega)]
 push_cast; rfl
theorem p7 {k : Nat} (h : k ≤ 9) : 2 ^ (7 * k) ≤ 9223372036854775808 := by
 calc 2 ^ (7 * k) ≤ 2 ^ 63 := Nat.pow_le_pow_right (by omega) (by omega)
  _ = 9223372036854775808 := by decide
theorem p8 {k c : Nat} (h : k ≤ 8) (hc : c < 128) : c * 2 ^ (7 * k) < 9223372036854775808 := by
 have h1 : 2 ^ (7 * k) ≤ 2 ^ 56 := Nat.pow_le_pow_right (by omega) (by omega)
 have h2 : c * 2 ^ (7 * k) ≤ 127 * 2 ^ 56 := Nat.mul_le_mul (by omega) h1
 have : 127 * 2 ^ 56 < 9223372036854775808 := by decide
 omega
theorem pS (k : Nat) : 2 ^ (7 * (k + 1)) = 128 * 2 ^ (7 * k) := by rw [show 7 * (k + 1) = 7 + 7 * k by omega, Nat.pow_add]
theorem uS {u c k : Nat} (hu : u < 2 ^ (7 * k)) (hc : c < 128) : u + c * 2 ^ (7 * k) < 2 ^ (7 * (k + 1)) := by
 have : (c + 1) * 2 ^ (7 * k) ≤ 128 * 2 ^ (7 * k) := Nat.mul_le_mul_right _ (by omega)
 rw [Nat.add_mul, Nat.one_mul] at this
 rw [pS]; omega
def fin3 (s : Unit ⊕ (Int × Int × Int)) : Option (Int × Int × Int) := s.elim (fun _ => some (0, 0, 3)) (fun s5 => some (s5.1, s5.2.1, s5.2.2))
theorem u64S {u c k : Nat} (hk : k ≤ 9) (hu : u < 2 ^ (7 * k)) (hc : c < 128) (h9 : k = 9 → c ≤ 1) : c * 2 ^ (7 * k) < 18446744073709551616 ∧ u < 18446744073709551616 ∧ u + c * 2 ^ (7 * k) < 18446744073709551616 := by
 have h1 := p7 hk
 by_cases h : k = 9
 ·subst h
  have : c * 2 ^ (7 * 9) ≤ 1 * 2 ^ (7 * 9) := Nat.mul_le_mul_right _ (h9 rfl)
  omega
 ·have := p8 (k := k) (by omega) hc
  omega
theorem qsi {b : List Int} (hb : qeP b) (hl : b.length ≤ 1000000) (p : Nat) (hp : p ≤ b.length) : ∀ (f k u : Nat), f + k = 10 → (k ≤ 9 → u < 2 ^ (7 * k)) → ∀ (x : Int), (k ≤ 9 → x = (u : Int)) →
  (iter (fun x => qcl b (p : Int) x.1 x.2) (x, (k : Int))).bind fin3 = some (rdI b (p + k) k u f)
 | 0, k, u, hf, hu, x, hx => by
  have hk : k = 10 := by omega
  subst hk
  have h1 : qcl b (p : Int) x ((10 : Nat) : Int) = some (.inr (.inl ())) := by
   unfold qcl; rw [dec_f (by omega), cond_false]
  rw [qb4]
  simp only [h1]; rfl
 | f + 1, k, u, hf, hu, x, hx => by
  have hk : k ≤ 9 := by omega
  have hu := hu hk
  have hx := hx hk
  subst hx
  have ea : wi64 ((p : Int) + (k : Int)) = ((p + k : Nat) : Int) := by rw [wi (by omega)]; omega
  unfold rdI
  by_cases hlen : b.length ≤ p + k
  ·rw [if_pos hlen]
   have h1 : qcl b (p : Int) (u : Int) (k : Int) = some (.inr (.inr (0, 0, 2))) := by
    unfold qcl; rw [dec_t (by omega), cond_true, ea, dec_t (by omega), cond_true]
   rw [qb4]
   simp only [h1]; rfl
  ·rw [if_neg hlen]
   obtain ⟨eb, hc⟩ := qwS hb (show p + k < b.length by omega)
   generalize bN b (p + k) = c at eb hc ⊢
   have e7 : wi64 (7 * (k : Int)) = 7 * (k : Int) := wi (by omega)
   have e127 : wu64 (qft .u8 (c : Int) 127) = ((c % 128 : Nat) : Int) := by rw [b127 ⟨c, hc⟩]; exact qhn (by omega)
   have hm : c % 128 < 128 := by omega
   have start : ∀ Z, qcl b (p : Int) (u : Int) (k : Int) = Z ↔ (bif decide (128 ≤ (c : Int)) then
     some (.inl (bitOr .u64 (u : Int) (wu64 (((c % 128 : Nat) : Int) * ((2 ^ (7 * k) : Nat) : Int))), wi64 ((k : Int) + 1)))
    else ((bif decide ((k : Int) = 9) then (bif decide (1 < (c : Int)) then some true else bif decide (0 < (k : Int)) then some (decide ((c : Int) = 0)) else some false) else bif decide (0 < (k : Int)) then some (decide ((c : Int) = 0)) else some false).bind fun s2 : Bool =>
     bif s2 then some (.inr (.inr (0, 0, 3))) else
      some (.inr (.inr (qoM .i64 (wi64 (Int.fdiv (bitOr .u64 (u : Int) (wu64 (((c % 128 : Nat) : Int) * ((2 ^ (7 * k) : Nat) : Int)))) (2 ^ shAmt .u64 1))) (wi64 (0 - (wi64 (qft .u64 (bitOr .u64 (u : Int) (wu64 (((c % 128 : Nat) : Int) * ((2 ^ (7 * k) : Nat) : Int)))) 1)))), wi64 ((wi64 ((p : Int) + (k : Int))) + 1), 0))))) = Z := by
    intro Z
    unfold qcl
    rw [dec_t (by omega), cond_true, ea, dec_f (by omega), cond_false, inB_t (by omega), gd_tt, Int.toNat_natCast, eb, sh7 hk, e127, e7, dec_f (p := 7 * (k : Int) < 0) (by omega)]
    rfl
   by_cases h128 : 128 ≤ c
   ·rw [if_pos h128]
    have h1 := (start _).2 (by rw [dec_t (by omega), cond_true])
    rw [qb4]
    simp only [h1]
    rw [show wi64 ((k : Int) + 1) = ((k + 1 : Nat) : Int) by rw [wi (by omega)]; omega]
    refine qsi hb hl p hp f (k + 1) _ (by omega) (fun h => uS hu hm) _ (fun h => ?_)
    obtain ⟨g1, g2, g3⟩ := u64S hk hu hm (by omega)
    rw [← Int.natCast_mul, qhn g1, qyI g2 g1, qyK hu]
   ·rw [if_neg h128]
    by_cases hbad : k = 9 ∧ 1 < c ∨ 0 < k ∧ c = 0
    ·rw [if_pos hbad]
     have h1 : qcl b (p : Int) (u : Int) (k : Int) = some (.inr (.inr (0, 0, 3))) := by
      refine (start _).2 ?_
      rw [dec_f (by omega), cond_false]
      by_cases h9 : k = 9
      ·rw [dec_t (by omega), cond_true]
       by_cases hc1 : 1 < c
       ·rw [dec_t (by omega), cond_true]; rfl
       ·rw [dec_f (by omega), cond_false, dec_t (by omega), cond_true, dec_t (by omega)]; rfl
      ·rw [dec_f (by omega), cond_false, dec_t (by omega), cond_true, dec_t (by omega)]; rfl
     rw [qb4]
     simp only [h1]; rfl
    ·rw [if_neg hbad]
     have hcm : c % 128 = c := Nat.mod_eq_of_lt (by omega)
     obtain ⟨g1, g2, g3⟩ := u64S hk hu hm (by omega)
     have h1 : qcl b (p : Int) (u : Int) (k : Int) = some (.inr (.inr (unz (u + c % 128 * 2 ^ (7 * k)), ((p + k + 1 : Nat) : Int), 0))) := by
      refine (start _).2 ?_
      rw [dec_f (by omega), cond_false, ← Int.natCast_mul, qhn g1, qyI g2 g1, qyK hu, Int.zero_sub, unzig g3, ea, show wi64 (((p + k : Nat) : Int) + 1) = ((p + k + 1 : Nat) : Int) by rw [wi (by omega)]; omega]
      by_cases h9 : k = 9
      ·rw [dec_t (by omega), cond_true, dec_f (by omega), cond_false, dec_t (by omega), cond_true, dec_f (by omega)]; rfl
      ·rw [dec_f (p := (k : Int) = 9) (by omega), cond_false]
       by_cases h0 : 0 < k
       ·rw [dec_t (by omega), cond_true, dec_f (by omega)]; rfl
       ·rw [dec_f (by omega), cond_false]; rfl
     rw [qb4]
     simp only [h1]; rfl
theorem qtl {b : List Int} (hb : qeP b) (hl : b.length ≤ 1000000) {p : Nat} (hp : p ≤ b.length) : qkq b (p : Int) = some (rdI b p 0 0 10) := by
 unfold qkq
 rw [dec_f (by omega), cond_false, dec_f (by omega), Option.bind_some, cond_false]
 exact qsi hb hl p hp 10 0 0 rfl (fun _ => by simp) 0 (fun _ => rfl)
end Go.Proofs.YtnkfkceghbkkkaaGreat.Wi
namespace Go.Proofs.YtnkfkceghbkkkaaGreat.Wi
open Go Go.Sq
set_option linter.unusedVariables false
theorem qAl {u : Nat} (h : u < 18446744073709551616) : qdV (u : Int) = some (unz u) := by
 unfold qdV unz
 rw [show Int.tmod (u : Int) 2 = ((u % 2 : Nat) : Int) from rfl, show Int.tdiv (u : Int) 2 = ((u / 2 : Nat) : Int) from rfl, qhn (by omega)]
 by_cases h0 : u % 2 = 0
 ·rw [dec_t (by omega), cond_true, if_pos h0, wi (by omega)]
 ·rw [dec_f (by omega), cond_false, if_neg h0, wi (n := ((u / 2 : Nat) : Int)) (by omega), wi (n := 0 - ((u / 2 : Nat) : Int)) (by omega), wi (by omega)]
  congr 1; omega
theorem qsj {b : List Int} (hb : qeP b) (hl : b.length ≤ 1000000) (p : Nat) (hp : p ≤ b.length) : ∀ (f k u : Nat), f + k = 10 → (k ≤ 9 → u < 2 ^ (7 * k)) → ∀ (x : Int), (k ≤ 9 → x = (u : Int)) →
  (iter (fun x => qbq b (p : Int) x.1 x.2) (x, (k : Int))).bind fin3 = some (rdI b (p + k) k u f)
 | 0, k, u, hf, hu, x, hx => by
  have hk : k = 10 := by omega
  subst hk
  have h1 : qbq b (p : Int) x ((10 : Nat) : Int) = some (.inr (.inl ())) := by
   unfold qbq; rw [dec_f (by omega), cond_false]
  rw [qb4]
  simp only [h1]; rfl
 | f + 1, k, u, hf, hu, x, hx => by
  have hk : k ≤ 9 := by omega
  have hu := hu hk
  have hx := hx hk
  subst hx
  have ea : wi64 ((p : Int) + (k : Int)) = ((p + k : Nat) : Int) := by rw [wi (by omega)]; omega
  unfold rdI
  by_cases hlen : b.length ≤ p + k
  ·rw [if_pos hlen]
   have h1 : qbq b (p : Int) (u : Int) (k : Int) = some (.inr (.inr (0, 0, 2))) := by
    unfold qbq; rw [dec_t (by omega), cond_true, ea, dec_t (by omega), cond_true]
   rw [qb4]
   simp only [h1]; rfl
  ·rw [if_neg hlen]
   obtain ⟨eb, hc⟩ := qwS hb (show p + k < b.length by omega)
   generalize bN b (p + k) = c at eb hc ⊢
   have e7 : wi64 (7 * (k : Int)) = 7 * (k : Int) := wi (by omega)
   have e127 : wu64 (Int.tmod (c : Int) 128) = ((c % 128 : Nat) : Int) := by rw [show Int.tmod (c : Int) 128 = ((c % 128 : Nat) : Int) from rfl]; exact qhn (by omega)
   have hm : c % 128 < 128 := by omega
   have start : ∀ Z, qbq b (p : Int) (u : Int) (k : Int) = Z ↔ ((bif decide ((k : Int) = 9) then some (decide (1 < (c : Int))) else some false).bind fun s2 : Bool =>
     bif s2 then some (.inr (.inr (0, 0, 3))) else
     bif decide ((c : Int) < 128) then ((bif decide ((c : Int) = 0) then some (decide (0 < (k : Int))) else some false).bind fun s3 : Bool =>
      bif s3 then some (.inr (.inr (0, 0, 3))) else
       (qdV (wu64 ((u : Int) + (wu64 (((c % 128 : Nat) : Int) * ((2 ^ (7 * k) : Nat) : Int)))))).bind fun r => some (.inr (.inr (r, wi64 ((wi64 ((p : Int) + (k : Int))) + 1), 0))))
     else some (.inl (wu64 ((u : Int) + (wu64 (((c % 128 : Nat) : Int) * ((2 ^ (7 * k) : Nat) : Int)))), wi64 ((k : Int) + 1)))) = Z := by
    intro Z
    unfold qbq
    rw [dec_t (by omega), cond_true, ea, dec_f (by omega), cond_false, inB_t (by omega), gd_tt, Int.toNat_natCast, eb, sh7 hk, e127, e7, dec_f (p := 7 * (k : Int) < 0) (by omega)]
    simp only [Bool.not_false, gd_tt]
   by_cases h128 : 128 ≤ c
   ·rw [if_pos h128]
    by_cases h9 : k = 9
    ·have h1 : qbq b (p : Int) (u : Int) (k : Int) = some (.inr (.inr (0, 0, 3))) := by
      refine (start _).2 ?_
      rw [dec_t (by omega), cond_true, dec_t (by omega)]; rfl
     rw [qb4]
     simp only [h1]
     have : f = 0 := by omega
     subst this; rfl
    ·obtain ⟨g1, g2, g3⟩ := u64S hk hu hm (by omega)
     have h1 : qbq b (p : Int) (u : Int) (k : Int) = some (.inl (((u + c % 128 * 2 ^ (7 * k) : Nat) : Int), ((k + 1 : Nat) : Int))) := by
      refine (start _).2 ?_
      rw [dec_f (by omega), cond_false, Option.bind_some, cond_false, dec_f (by omega), cond_false, ← Int.natCast_mul, qhn g1, ← Int.natCast_add, qhn g3, show wi64 ((k : Int) + 1) = ((k + 1 : Nat) : Int) by rw [wi (by omega)]; omega]
     rw [qb4]
     simp only [h1]
     exact qsj hb hl p hp f (k + 1) _ (by omega) (fun h => uS hu hm) _ (fun h => rfl)
   ·rw [if_neg h128]
    by_cases hbad : k = 9 ∧ 1 < c ∨ 0 < k ∧ c = 0
    ·rw [if_pos hbad]
     have h1 : qbq b (p : Int) (u : Int) (k : Int) = some (.inr (.inr (0, 0, 3))) := by
      refine (start _).2 ?_
      by_cases h91 : k = 9 ∧ 1 < c
      ·rw [dec_t (by omega), cond_true, dec_t (by omega)]; rfl
      ·have : (bif decide ((k : Int) = 9) then some (decide (1 < (c : Int))) else some false) = some false := by
        by_cases h9 : k = 9
        ·rw [dec_t (by omega), cond_true, dec_f (by omega)]
        ·rw [dec_f (by omega), cond_false]
       rw [this, Option.bind_some, cond_false, dec_t (by omega), cond_true, dec_t (by omega), cond_true, dec_t (by omega)]; rfl
     rw [qb4]
     simp only [h1]; rfl
    ·rw [if_neg hbad]
     obtain ⟨g1, g2, g3⟩ := u64S hk hu hm (by omega)
     have h1 : qbq b (p : Int) (u : Int) (k : Int) = some (.inr (.inr (unz (u + c % 128 * 2 ^ (7 * k)), ((p + k + 1 : Nat) : Int), 0))) := by
      refine (start _).2 ?_
      have : (bif decide ((k : Int) = 9) then some (decide (1 < (c : Int))) else some false) = some false := by
       by_cases h9 : k = 9
       ·rw [dec_t (by omega), cond_true, dec_f (by omega)]
       ·rw [dec_f (by omega), cond_false]
      rw [this, Option.bind_some, cond_false, dec_t (by omega), cond_true]
      have : (bif decide ((c : Int) = 0) then some (decide (0 < (k : Int))) else some false) = some false := by
       by_cases h9 : c = 0
       ·rw [dec_t (by omega), cond_true, dec_f (by omega)]
       ·rw [dec_f (by omega), cond_false]
      rw [this, Option.bind_some, cond_false, ← Int.natCast_mul, qhn g1, ← Int.natCast_add, qhn g3, qAl g3, Option.bind_some, ea, show wi64 (((p + k : Nat) : Int) + 1) = ((p + k + 1 : Nat) : Int) by rw [wi (by omega)]; omega]
     rw [qb4]
     simp only [h1]; rfl
theorem qwT {b : List Int} (hb : qeP b) (hl : b.length ≤ 1000000) {p : Nat} (hp : p ≤ b.length) : qms b (p : Int) = some (rdI b p 0 0 10) := by
 unfold qms
 rw [dec_f (by omega), cond_false, dec_f (by omega), Option.bind_some, cond_false]
 exact qsj hb hl p hp 10 0 0 rfl (fun _ => by simp) 0 (fun _ => rfl)
theorem qq9 (b : List Int) : ∀ (f p k u : Nat), p ≤ b.length → ∃ q : Nat, (rdI b p k u f).2.1 = (q : Int) ∧ q ≤ b.length
 | 0, p, k, u, h => ⟨0, rfl, by omega⟩
 | f + 1, p, k, u, h => by
  unfold rdI
  by_cases h1 : b.length ≤ p
  ·rw [if_pos h1]; exact ⟨0, rfl, by omega⟩
  ·rw [if_neg h1]
   split
   ·exact qq9 b f _ _ _ (by omega)
   ·split
    ·exact ⟨0, rfl, by omega⟩
    ·exact ⟨p + 1, rfl, by omega⟩
def num (b : List Int) (p : Nat) (ok : Bool) : Int × Nat × Bool := bif ok then (if (rdI b p 0 0 10).2.2 = 0 then ((rdI b p 0 0 10).1, (rdI b p 0 0 10).2.1.toNat, true) else (0, p, false)) else (0, p, false)
def cnt (b : List Int) (m : Int) (p : Nat) (ok : Bool) : Int × Nat × Bool := if (num b p ok).1 < 0 ∨ m < (num b p ok).1 then (0, (num b p ok).2.1, false) else num b p ok
theorem qi8 {b : List Int} {p : Nat} {ok : Bool} (hp : p ≤ b.length) : (num b p ok).2.1 ≤ b.length := by
 unfold num
 cases ok with
 | false => exact hp
 | true =>
  obtain ⟨q, h1, h2⟩ := qq9 b 10 p 0 0 hp
  rw [cond_true]
  split
  ·simp only; omega
  ·exact hp
theorem cnt_le {b : List Int} {m : Int} {p : Nat} {ok : Bool} (hp : p ≤ b.length) : (cnt b m p ok).2.1 ≤ b.length := by
 unfold cnt; split <;> exact qi8 hp
theorem qyL {b : List Int} {m : Int} (hm : 0 ≤ m) {p : Nat} {ok : Bool} : 0 ≤ (cnt b m p ok).1 ∧ (cnt b m p ok).1 ≤ m := by
 unfold cnt; split
 ·simp only; omega
 ·rename_i h; simp only [not_or] at h; omega
theorem qzD {b : List Int} (hb : qeP b) (hl : b.length ≤ 1000000) {p : Nat} (hp : p ≤ b.length) (f : Bool) : qaa b (p : Int) f = some ((num b p (!f)).1, b, ((num b p (!f)).2.1 : Int), !(num b p (!f)).2.2) := by
 obtain ⟨q, h1, h2⟩ := qq9 b 10 p 0 0 hp
 unfold qaa num
 rw [qtl hb hl hp, Option.bind_some]
 cases f with
 | true => rfl
 | false =>
  by_cases h : (rdI b p 0 0 10).2.2 = 0
  ·rw [dec_t h]
   simp only [Bool.not_false, cond_true, if_pos h]
   rw [h1, Int.toNat_natCast]; rfl
  ·rw [dec_f h]
   simp only [Bool.not_false, cond_true, if_neg h]; rfl
theorem or2 {p q : Prop} [Decidable p] [Decidable q] {A : Type} (k : Bool → Option A) : ((bif decide p then some true else some (decide q)).bind k) = k (decide (p ∨ q)) := by
 by_cases h : p
 ·rw [dec_t h, dec_t (p := p ∨ q) (Or.inl h)]; rfl
 ·rw [dec_f h, cond_false, Option.bind_some]; congr 1; exact decide_eq_decide.2 ⟨.inr, fun h' => h'.resolve_left h⟩
end Go.Proofs.YtnkfkceghbkkkaaGreat.Wi
namespace Go.Proofs.YtnkfkceghbkkkaaGreat.Wi
open Go Go.Sq
set_option linter.unusedVariables false
abbrev Rcd := Int × List Int × (Int × Int × Int × Int × Int × List (Int × Bool) × Int) × List UInt8 × Int × Int
theorem qzE {b : List Int} {p : Nat} (h : b.length < p) (ok : Bool) : num b p ok = (0, p, false) := by
 unfold num
 cases ok with
 | false => rfl
 | true =>
  have : rdI b p 0 0 10 = (0, 0, 2) := by unfold rdI; rw [if_pos (by omega)]
  rw [this, cond_true, if_neg (by decide)]
theorem wnum {b : List Int} (hb : qeP b) (hl : b.length ≤ 1000000) (p : Nat) (f : Bool) : qaa b (p : Int) f = some ((num b p (!f)).1, b, ((num b p (!f)).2.1 : Int), !(num b p (!f)).2.2) := by
 by_cases h : p ≤ b.length
 ·exact qzD hb hl h f
 ·rw [qzE (by omega)]
  unfold qaa qkq
  rw [dec_f (by omega), cond_false, dec_t (by omega)]
  cases f <;> rfl
theorem wcnt {b : List Int} (hb : qeP b) (hl : b.length ≤ 1000000) (m : Int) (p : Nat) (f : Bool) : qaF m b (p : Int) f = some ((cnt b m p (!f)).1, b, ((cnt b m p (!f)).2.1 : Int), !(cnt b m p (!f)).2.2) := by
 unfold qaF cnt
 rw [wnum hb hl, Option.bind_some, or2]
 by_cases h : (num b p !f).1 < 0 ∨ m < (num b p !f).1
 ·simp only [dec_t h, cond_true, if_pos h]; rfl
 ·simp only [dec_f h, cond_false, if_neg h]
def nums (b : List Int) : Nat → Nat → Bool → List Int → Nat × Bool × List Int
 | 0, p, ok, l => (p, ok, l)
 | n + 1, p, ok, l => nums b n (num b p ok).2.1 (num b p ok).2.2 (l ++ [(num b p ok).1])
def hops (b : List Int) : Nat → Nat → Bool → List (Int × Bool) → Nat × Bool × List (Int × Bool)
 | 0, p, ok, l => (p, ok, l)
 | n + 1, p, ok, l => hops b n (cnt b 1 (num b p ok).2.1 (num b p ok).2.2).2.1 (cnt b 1 (num b p ok).2.1 (num b p ok).2.2).2.2 (l ++ [((num b p ok).1, decide ((cnt b 1 (num b p ok).2.1 (num b p ok).2.2).1 = 1))])
section
variable {b : List Int} (hb : qeP b) (hl : b.length ≤ 1000000)
include hb hl
theorem qug (N : Nat) (hN : N ≤ 100) (c : List Int × Int × Bool) : ∀ (n j p : Nat) (f : Bool) (l : List Int), j + n = N → l.length = j →
  iter (fun x => qbn ((N : Int), c) x.1 x.2.1 x.2.2.1 x.2.2.2.1 x.2.2.2.2) ((j : Int), b, (p : Int), f, l) = some (b, ((nums b n p (!f) l).1 : Int), !(nums b n p (!f) l).2.1, (nums b n p (!f) l).2.2)
 | 0, j, p, f, l, hj, hll => by
  have h1 : qbn ((N : Int), c) (j : Int) b (p : Int) f l = some (.inr (b, (p : Int), f, l)) := by
   unfold qbn; rw [dec_f (by (try simp only); omega), cond_false]
  rw [qb4]; simp only [h1, nums, Bool.not_not]
 | n + 1, j, p, f, l, hj, hll => by
  have h1 : qbn ((N : Int), c) (j : Int) b (p : Int) f l = some (.inl (((j + 1 : Nat) : Int), b, ((num b p (!f)).2.1 : Int), !(num b p (!f)).2.2, l ++ [(num b p (!f)).1])) := by
   unfold qbn
   rw [dec_t (by (try simp only); omega), cond_true, wnum hb hl, Option.bind_some, qaz (by omega), gd_tt, show wi64 ((j : Int) + 1) = ((j + 1 : Nat) : Int) by rw [wi (by omega)]; omega]
  rw [qb4]; simp only [h1]
  rw [qug N hN c n (j + 1) _ _ _ (by omega) (by simp; omega)]
  simp only [nums, Bool.not_not]
theorem quh (N : Nat) (hN : N ≤ 100) (c : List Int × Int × Bool) (q : List Int) : ∀ (n j p : Nat) (f : Bool) (l : List (Int × Bool)), j + n = N → l.length = j →
  iter (fun x2 => qbo ((N : Int), c) x2.1 x2.2.1 x2.2.2.1 x2.2.2.2.1 x2.2.2.2.2.1 x2.2.2.2.2.2) ((j : Int), b, (p : Int), f, q, l) = some (b, ((hops b n p (!f) l).1 : Int), !(hops b n p (!f) l).2.1, q, (hops b n p (!f) l).2.2)
 | 0, j, p, f, l, hj, hll => by
  have h1 : qbo ((N : Int), c) (j : Int) b (p : Int) f q l = some (.inr (b, (p : Int), f, q, l)) := by
   unfold qbo; rw [dec_f (by (try simp only); omega), cond_false]
  rw [qb4]; simp only [h1, hops, Bool.not_not]
 | n + 1, j, p, f, l, hj, hll => by
  have h1 : qbo ((N : Int), c) (j : Int) b (p : Int) f q l = some (.inl (((j + 1 : Nat) : Int), b, ((cnt b 1 (num b p (!f)).2.1 (num b p (!f)).2.2).2.1 : Int), !(cnt b 1 (num b p (!f)).2.1 (num b p (!f)).2.2).2.2, q, l ++ [((num b p (!f)).1, decide ((cnt b 1 (num b p (!f)).2.1 (num b p (!f)).2.2).1 = 1))])) := by
   unfold qbo
   rw [dec_t (by (try simp only); omega), cond_true, wnum hb hl, Option.bind_some]
   simp only
   rw [wcnt hb hl, Option.bind_some, qaz (by omega), gd_tt, show wi64 ((j : Int) + 1) = ((j + 1 : Nat) : Int) by rw [wi (by omega)]; omega]
   simp only [Bool.not_not]
  rw [qb4]; simp only [h1]
  rw [quh N hN c q n (j + 1) _ _ _ (by omega) (by simp; omega)]
  simp only [hops, Bool.not_not]
theorem wvals (p0 : Nat) (o0 : Bool) (c : List Int × Int × Bool) (p : Nat) (f : Bool) : iter (fun x => qbn ((cnt b 21 p0 o0).1, c) x.1 x.2.1 x.2.2.1 x.2.2.2.1 x.2.2.2.2) (0, b, (p : Int), f, []) = some (b, ((nums b (cnt b 21 p0 o0).1.toNat p (!f) []).1 : Int), !(nums b (cnt b 21 p0 o0).1.toNat p (!f) []).2.1, (nums b (cnt b 21 p0 o0).1.toNat p (!f) []).2.2) := by
 obtain ⟨h1, h2⟩ := qyL (b := b) (m := 21) (by omega) (p := p0) (ok := o0)
 have e : (cnt b 21 p0 o0).1 = ((cnt b 21 p0 o0).1.toNat : Int) := by omega
 generalize (cnt b 21 p0 o0).1 = z at h1 h2 e ⊢
 obtain ⟨N, rfl⟩ : ∃ N : Nat, z = (N : Int) := ⟨_, e⟩
 rw [Int.toNat_natCast]
 exact qug hb hl N (by omega) c N 0 p f [] (by omega) rfl
theorem whops (p0 : Nat) (o0 : Bool) (c : List Int × Int × Bool) (q : List Int) (p : Nat) (f : Bool) : iter (fun x2 => qbo ((cnt b 32 p0 o0).1, c) x2.1 x2.2.1 x2.2.2.1 x2.2.2.2.1 x2.2.2.2.2.1 x2.2.2.2.2.2) (0, b, (p : Int), f, q, []) = some (b, ((hops b (cnt b 32 p0 o0).1.toNat p (!f) []).1 : Int), !(hops b (cnt b 32 p0 o0).1.toNat p (!f) []).2.1, q, (hops b (cnt b 32 p0 o0).1.toNat p (!f) []).2.2) := by
 obtain ⟨h1, h2⟩ := qyL (b := b) (m := 32) (by omega) (p := p0) (ok := o0)
 have e : (cnt b 32 p0 o0).1 = ((cnt b 32 p0 o0).1.toNat : Int) := by omega
 generalize (cnt b 32 p0 o0).1 = z at h1 h2 e ⊢
 obtain ⟨N, rfl⟩ : ∃ N : Nat, z = (N : Int) := ⟨_, e⟩
 rw [Int.toNat_natCast]
 exact quh hb hl N (by omega) c q N 0 p f [] (by omega) rfl
end
theorem qwU {b : List Int} : ∀ (n p : Nat) (ok : Bool) (l : List Int), p ≤ b.length → (nums b n p ok l).1 ≤ b.length
 | 0, p, ok, l, h => h
 | n + 1, p, ok, l, h => qwU n _ _ _ (qi8 h)
theorem qwV {b : List Int} : ∀ (n p : Nat) (ok : Bool) (l : List (Int × Bool)), p ≤ b.length → (hops b n p ok l).1 ≤ b.length
 | 0, p, ok, l, h => h
 | n + 1, p, ok, l, h => qwV n _ _ _ (cnt_le (qi8 h))
end Go.Proofs.YtnkfkceghbkkkaaGreat.Wi
namespace Go.Proofs.YtnkfkceghbkkkaaGreat.Wi
open Go Go.Sq
set_option linter.unusedVariables false
def d1 (b : List Int) := num b 0 true
def d2 (b : List Int) := cnt b 21 (d1 b).2.1 (d1 b).2.2
def dv (b : List Int) := nums b (d2 b).1.toNat (d2 b).2.1 (d2 b).2.2 []
def d3 (b : List Int) := num b (dv b).1 (dv b).2.1
def d4 (b : List Int) := num b (d3 b).2.1 (d3 b).2.2
def d5 (b : List Int) := num b (d4 b).2.1 (d4 b).2.2
def d6 (b : List Int) := num b (d5 b).2.1 (d5 b).2.2
def d7 (b : List Int) := num b (d6 b).2.1 (d6 b).2.2
def d8 (b : List Int) := cnt b 32 (d7 b).2.1 (d7 b).2.2
def dh (b : List Int) := hops b (d8 b).1.toNat (d8 b).2.1 (d8 b).2.2 []
def d9 (b : List Int) := num b (dh b).1 (dh b).2.1
def d10 (b : List Int) := num b (d9 b).2.1 (d9 b).2.2
def d11 (b : List Int) := num b (d10 b).2.1 (d10 b).2.2
def d12 (b : List Int) := cnt b 12 (d11 b).2.1 (d11 b).2.2
def zR : Rcd := (0, ([], ((0, (0, (0, (0, (0, ([], 0)))))), ([], (0, 0)))))
def decR (b : List Int) : Rcd × Int := if (d12 b).2.2 = false ∨ ¬ (b.length : Int) - ((d12 b).2.1 : Int) = (d12 b).1 then (zR, 3) else
 (((d1 b).1, ((dv b).2.2, (((d3 b).1, ((d4 b).1, ((d5 b).1, ((d6 b).1, ((d7 b).1, ((dh b).2.2, (d9 b).1)))))), (qcZ (b.drop (d12 b).2.1), ((d10 b).1, (d11 b).1))))), 0)
theorem qAm (b : List Int) : (d12 b).2.1 ≤ b.length :=
 cnt_le (qi8 (qi8 (qi8 (qwV _ _ _ _ (cnt_le (qi8 (qi8 (qi8 (qi8 (qi8 (qwU _ _ _ _ (cnt_le (qi8 (Nat.zero_le _)))))))))))))) 
theorem cut_t {b : List Int} {p : Nat} (h : p ≤ b.length) : cutG (some (.i64, (p : Int))) none b.length = true := by
 unfold cutG; simp only [Bool.and_eq_true, decide_eq_true_eq]; omega
section
variable {b : List Int} (hb : qeP b) (hl : b.length ≤ 1000000)
include hb hl
theorem wdec : qeK b = some (decR b) := by
 have hle := qAm b
 unfold qeK
 have e1 : qaa b 0 false = some ((d1 b).1, b, ((d1 b).2.1 : Int), !(d1 b).2.2) := wnum hb hl 0 false
 have e2 : qaF 21 b ((d1 b).2.1 : Int) (!(d1 b).2.2) = some ((d2 b).1, b, ((d2 b).2.1 : Int), !(d2 b).2.2) := by rw [wcnt hb hl, Bool.not_not]; rfl
 have ev := wvals hb hl (d1 b).2.1 (d1 b).2.2 (b, ((d2 b).2.1 : Int), !(d2 b).2.2) (d2 b).2.1 (!(d2 b).2.2)
 rw [Bool.not_not] at ev
 replace ev : iter (fun x => qbn ((d2 b).1, b, ((d2 b).2.1 : Int), !(d2 b).2.2) x.1 x.2.1 x.2.2.1 x.2.2.2.1 x.2.2.2.2) (0, b, ((d2 b).2.1 : Int), !(d2 b).2.2, []) = some (b, ((dv b).1 : Int), !(dv b).2.1, (dv b).2.2) := ev
 have e3 : qaa b ((dv b).1 : Int) (!(dv b).2.1) = some ((d3 b).1, b, ((d3 b).2.1 : Int), !(d3 b).2.2) := by rw [wnum hb hl, Bool.not_not]; rfl
 have e4 : qaa b ((d3 b).2.1 : Int) (!(d3 b).2.2) = some ((d4 b).1, b, ((d4 b).2.1 : Int), !(d4 b).2.2) := by rw [wnum hb hl, Bool.not_not]; rfl
 have e5 : qaa b ((d4 b).2.1 : Int) (!(d4 b).2.2) = some ((d5 b).1, b, ((d5 b).2.1 : Int), !(d5 b).2.2) := by rw [wnum hb hl, Bool.not_not]; rfl
 have e6 : qaa b ((d5 b).2.1 : Int) (!(d5 b).2.2) = some ((d6 b).1, b, ((d6 b).2.1 : Int), !(d6 b).2.2) := by rw [wnum hb hl, Bool.not_not]; rfl
 have e7 : qaa b ((d6 b).2.1 : Int) (!(d6 b).2.2) = some ((d7 b).1, b, ((d7 b).2.1 : Int), !(d7 b).2.2) := by rw [wnum hb hl, Bool.not_not]; rfl
 have e8 : qaF 32 b ((d7 b).2.1 : Int) (!(d7 b).2.2) = some ((d8 b).1, b, ((d8 b).2.1 : Int), !(d8 b).2.2) := by rw [wcnt hb hl, Bool.not_not]; rfl
 have eh := whops hb hl (d7 b).2.1 (d7 b).2.2 (b, ((d8 b).2.1 : Int), !(d8 b).2.2) (dv b).2.2 (d8 b).2.1 (!(d8 b).2.2)
 rw [Bool.not_not] at eh
 replace eh : iter (fun x2 => qbo ((d8 b).1, b, ((d8 b).2.1 : Int), !(d8 b).2.2) x2.1 x2.2.1 x2.2.2.1 x2.2.2.2.1 x2.2.2.2.2.1 x2.2.2.2.2.2) (0, b, ((d8 b).2.1 : Int), !(d8 b).2.2, (dv b).2.2, []) = some (b, ((dh b).1 : Int), !(dh b).2.1, (dv b).2.2, (dh b).2.2) := eh
 have e9 : qaa b ((dh b).1 : Int) (!(dh b).2.1) = some ((d9 b).1, b, ((d9 b).2.1 : Int), !(d9 b).2.2) := by rw [wnum hb hl, Bool.not_not]; rfl
 have e10 : qaa b ((d9 b).2.1 : Int) (!(d9 b).2.2) = some ((d10 b).1, b, ((d10 b).2.1 : Int), !(d10 b).2.2) := by rw [wnum hb hl, Bool.not_not]; rfl
 have e11 : qaa b ((d10 b).2.1 : Int) (!(d10 b).2.2) = some ((d11 b).1, b, ((d11 b).2.1 : Int), !(d11 b).2.2) := by rw [wnum hb hl, Bool.not_not]; rfl
 have e12 : qaF 12 b ((d11 b).2.1 : Int) (!(d11 b).2.2) = some ((d12 b).1, b, ((d12 b).2.1 : Int), !(d12 b).2.2) := by rw [wcnt hb hl, Bool.not_not]; rfl
 simp only [e1, e2, ev, e3, e4, e5, e6, e7, e8, eh, e9, e10, e11, e12, Option.bind_some]
 rw [wi (n := (b.length : Int) - ((d12 b).2.1 : Int)) (by omega)]
 unfold decR
 cases h : (d12 b).2.2 with
 | false => rw [if_pos (.inl rfl)]; rfl
 | true =>
  by_cases h2 : (b.length : Int) - ((d12 b).2.1 : Int) = (d12 b).1
  ·rw [dec_t h2, if_neg (by simp [h2])]
   simp only [Bool.not_true, cond_false, Option.bind_some, cut_t hle, gd_tt, Int.toNat_natCast]
  ·rw [dec_f h2, if_pos (.inr h2)]; rfl
end
end Go.Proofs.YtnkfkceghbkkkaaGreat.Wi
namespace Go.Proofs.YtnkfkceghbkkkaaGreat.Wi
open Go Go.Sq
set_option linter.unusedVariables false
def i64A (l : List Int) : Prop := ∀ x ∈ l, -9223372036854775808 ≤ x ∧ x ≤ 9223372036854775807
theorem qn6 : encs [] = [] := rfl
theorem qj4 (x : Int) (l : List Int) : encs (x :: l) = encZ x ++ encs l := rfl
theorem qui (l m : List Int) : encs (l ++ m) = encs l ++ encs m := by unfold encs; rw [List.map_append, List.flatten_append]
theorem qhp : ∀ {l : List Int}, i64A l → (encs l).length ≤ 10 * l.length
 | [], _ => by simp [qn6]
 | x :: l, h => by
  have h1 := qho (h x (by simp))
  have h2 := qhp (l := l) fun y hy => h y (by simp [hy])
  rw [qj4, List.length_append, List.length_cons]; omega
theorem qp4 : ∀ {l : List Int}, qeP (encs l)
 | [] => by intro x hx; cases hx
 | y :: l => by
  rw [qj4]
  intro x hx
  rcases List.mem_append.1 hx with hx | hx
  ·exact qp3 y x hx
  ·exact qp4 x hx
theorem quj {l : List Int} (hl : i64A l) (hn : l.length ≤ 1000) : ∀ (n j : Nat) (v : List Int), j + n = l.length → v.length + 10 * n ≤ 100000 →
  iter (fun x => qbG l x.1 x.2) ((j : Int), v) = some (v ++ encs (l.drop j))
 | 0, j, v, hj, hv => by
  have h1 : qbG l (j : Int) v = some (.inr v) := by unfold qbG; rw [dec_f (by omega), cond_false]
  rw [qb4]; simp only [h1]
  rw [List.drop_eq_nil_of_le (by omega), qn6, List.append_nil]
 | n + 1, j, v, hj, hv => by
  have hj' : j < l.length := by omega
  have hx := hl _ (qbb (d := 0) hj')
  have hxl := qho hx
  have h1 : qbG l (j : Int) v = some (.inl (((j + 1 : Nat) : Int), v ++ encZ (l.getD j 0))) := by
   unfold qbG
   rw [dec_t (by omega), cond_true, inB_t hj', gd_tt, Int.toNat_natCast, qwR hx (by omega), Option.bind_some, show wi64 ((j : Int) + 1) = ((j + 1 : Nat) : Int) by rw [wi (by omega)]; omega]
  rw [qb4]; simp only [h1]
  rw [quj hl hn n (j + 1) _ (by omega) (by rw [List.length_append]; omega), List.drop_eq_getElem_cons hj', qj4, gD_eq hj', List.append_assoc]
theorem wputs {l v : List Int} (hl : i64A l) (hn : l.length ≤ 1000) (hv : v.length ≤ 50000) : qaC l v = some (v ++ encs l) := by
 unfold qaC
 have h := quj hl hn l.length 0 v (by omega) (by omega)
 rw [List.drop_zero] at h
 exact (congrArg (fun o => Option.bind o _) h).trans rfl
def hopL (hs : List (Int × Bool)) : List Int := hs.flatMap fun h => [h.1, bif h.2 then 1 else 0]
theorem qsk (h : Int × Bool) (hs : List (Int × Bool)) : hopL (h :: hs) = [h.1, bif h.2 then 1 else 0] ++ hopL hs := rfl
theorem qra : ∀ (hs : List (Int × Bool)), (hopL hs).length = 2 * hs.length
 | [] => rfl
 | h :: hs => by rw [qsk, List.length_append, qra hs]; simp; omega
def shp (r : Rcd) : List UInt8 := r.2.2.2.1
def hps (r : Rcd) : List (Int × Bool) := r.2.2.1.2.2.2.2.2.1
def recA (r : Rcd) : List Int := [r.1, (r.2.1.length : Int)]
def recB (r : Rcd) : List Int := [r.2.2.1.1, r.2.2.1.2.1, r.2.2.1.2.2.1, r.2.2.1.2.2.2.1, r.2.2.1.2.2.2.2.1, ((hps r).length : Int)]
def recC (r : Rcd) : List Int := [r.2.2.1.2.2.2.2.2.2, r.2.2.2.2.1, r.2.2.2.2.2, ((shp r).length : Int)]
def recL (r : Rcd) : List Int := recA r ++ (r.2.1 ++ (recB r ++ (hopL (hps r) ++ recC r)))
def big (r : Rcd) : Prop := (21 : Int) < (r.2.1.length : Int) ∨ (32 : Int) < ((hps r).length : Int) ∨ (12 : Int) < ((shp r).length : Int)
instance (r : Rcd) : Decidable (big r) := by unfold big; infer_instance
def encR (r : Rcd) : Int × List Int := if big r then (4, []) else (0, encs (recL r) ++ qei (shp r))
theorem or3 {p q s : Prop} [Decidable p] [Decidable q] [Decidable s] {A : Type} (k : Bool → Option A) : ((bif decide p then some true else bif decide q then some true else some (decide s)).bind k) = k (decide (p ∨ q ∨ s)) := by
 by_cases h : p
 ·rw [dec_t h, dec_t (p := p ∨ q ∨ s) (Or.inl h)]; rfl
 ·rw [dec_f h, cond_false, or2]; congr 1; exact decide_eq_decide.2 ⟨.inr, fun h' => h'.resolve_left h⟩
theorem qx8 {hs : List (Int × Bool)} (h : ∀ x ∈ hs, -9223372036854775808 ≤ x.1 ∧ x.1 ≤ 9223372036854775807) : i64A (hopL hs) := by
 intro x hx
 unfold hopL at hx
 obtain ⟨y, hy, hx⟩ := List.mem_flatMap.1 hx
 rcases List.mem_cons.1 hx with rfl | hx
 ·exact h y hy
 ·rw [List.mem_singleton.1 hx]; cases y.2 <;> decide
theorem qzF {h : Int × Bool} (hh : -9223372036854775808 ≤ h.1 ∧ h.1 ≤ 9223372036854775807) : i64A [h.1, bif h.2 then 1 else 0] := by
 intro x hx
 rcases List.mem_cons.1 hx with rfl | hx
 ·exact hh
 ·rw [List.mem_singleton.1 hx]; cases h.2 <;> decide
theorem qwW (r : Rcd) (hh : ∀ x ∈ hps r, -9223372036854775808 ≤ x.1 ∧ x.1 ≤ 9223372036854775807) (hn : (hps r).length ≤ 100) : ∀ (n j : Nat) (v : List Int), j + n = (hps r).length → v.length + 20 * n ≤ 40000 →
  iter (fun x => qbK r x.1 x.2) ((j : Int), v) = some (v ++ encs (hopL ((hps r).drop j)))
 | 0, j, v, hj, hv => by
  have h1 : qbK r (j : Int) v = some (.inr v) := by
   unfold qbK; rw [dec_f (by show ¬ (j : Int) < ((hps r).length : Int); omega), cond_false]
  rw [qb4]; simp only [h1]
  rw [List.drop_eq_nil_of_le (by omega)]; simp [hopL, qn6]
 | n + 1, j, v, hj, hv => by
  have hj' : j < (hps r).length := by omega
  have hx := hh _ (qbb (d := (0, false)) hj')
  have hi := qzF hx
  have hxl := qhp hi
  simp only [List.length_cons, List.length_nil] at hxl
  have h1 : qbK r (j : Int) v = some (.inl (((j + 1 : Nat) : Int), v ++ encs [((hps r).getD j (0, false)).1, bif ((hps r).getD j (0, false)).2 then 1 else 0])) := by
   unfold qbK
   rw [dec_t (by show (j : Int) < ((hps r).length : Int); omega), cond_true, show inB (j : Int) r.2.2.1.2.2.2.2.2.1.length = true from inB_t hj', gd_tt, Int.toNat_natCast]
   show ((bif ((hps r).getD j (0, false)).2 then some ((1 : Int), v) else some (0, v)).bind fun s3 : Int × List Int => (qaC [((hps r).getD j (0, false)).1, s3.1] s3.2).bind fun r5 => some ((Sum.inl (wi64 ((j : Int) + 1), r5)) : (Int × List Int) ⊕ List Int)) = _
   generalize (hps r).getD j (0, false) = y at hi hxl ⊢
   obtain ⟨a, c⟩ := y
   cases c
   ·simp only [cond_false, Option.bind_some]
    rw [show qaC [a, 0] v = some (v ++ encs [a, 0]) from wputs (l := [a, 0]) hi (by simp) (by omega), Option.bind_some, show wi64 ((j : Int) + 1) = ((j + 1 : Nat) : Int) by rw [wi (by omega)]; omega]
   ·simp only [cond_true, Option.bind_some]
    rw [show qaC [a, 1] v = some (v ++ encs [a, 1]) from wputs (l := [a, 1]) hi (by simp) (by omega), Option.bind_some, show wi64 ((j : Int) + 1) = ((j + 1 : Nat) : Int) by rw [wi (by omega)]; omega]
  rw [qb4]; simp only [h1]
  rw [qwW r hh hn n (j + 1) _ (by omega) (by simp only [List.length_append]; omega), List.drop_eq_getElem_cons hj', qsk, qui, gD_eq hj', List.append_assoc]
theorem qeg {l m : List Int} : i64A (l ++ m) ↔ i64A l ∧ i64A m := by
 unfold i64A; constructor
 ·intro h; exact ⟨fun x hx => h x (by simp [hx]), fun x hx => h x (by simp [hx])⟩
 ·rintro ⟨h1, h2⟩ x hx
  rcases List.mem_append.1 hx with hx | hx
  ·exact h1 x hx
  ·exact h2 x hx
theorem wenc {r : Rcd} (hr : i64A (recL r)) (hh : ∀ x ∈ hps r, -9223372036854775808 ≤ x.1 ∧ x.1 ≤ 9223372036854775807) : qdo r = some (encR r) := by
 unfold qdo encR
 rw [or3]
 by_cases h : big r
 ·rw [if_pos h, show decide (21 < (r.2.1.length : Int) ∨ 32 < (r.2.2.1.2.2.2.2.2.1.length : Int) ∨ 12 < (r.2.2.2.1.length : Int)) = true from dec_t h]; rfl
 ·rw [if_neg h, show decide (21 < (r.2.1.length : Int) ∨ 32 < (r.2.2.1.2.2.2.2.2.1.length : Int) ∨ 12 < (r.2.2.2.1.length : Int)) = false from dec_f h]
  simp only [big, not_or] at h
  obtain ⟨h1, h2, h3⟩ := h
  obtain ⟨iA, hr⟩ := qeg.1 hr
  obtain ⟨iV, hr⟩ := qeg.1 hr
  obtain ⟨iB, hr⟩ := qeg.1 hr
  obtain ⟨iH, iC⟩ := qeg.1 hr
  have lA := qhp iA
  have lV := qhp iV
  have lB := qhp iB
  have lH := qhp iH
  have lC := qhp iC
  rw [qra] at lH
  have pA : 0 < (encs (recA r)).length := by unfold recA; rw [qj4, List.length_append]; have := qq7 (zg r.1); unfold encZ; omega
  have sA : (recA r).length = 2 := rfl
  have sB : (recB r).length = 6 := rfl
  have sC : (recC r).length = 4 := rfl
  simp only [cond_false, Option.bind_some]
  have e1 : qaC [r.1, (r.2.1.length : Int)] [] = some (encs (recA r)) := wputs (l := recA r) (v := []) iA (by omega) (by simp)
  have e2 : qaC r.2.1 (encs (recA r)) = some (encs (recA r) ++ encs r.2.1) := wputs iV (by omega) (by omega)
  have e3 : qaC [r.2.2.1.1, r.2.2.1.2.1, r.2.2.1.2.2.1, r.2.2.1.2.2.2.1, r.2.2.1.2.2.2.2.1, (r.2.2.1.2.2.2.2.2.1.length : Int)] (encs (recA r) ++ encs r.2.1) = some ((encs (recA r) ++ encs r.2.1) ++ encs (recB r)) := wputs (l := recB r) iB (by omega) (by rw [List.length_append]; omega)
  have e4 := qwW r hh (by omega) (hps r).length 0 ((encs (recA r) ++ encs r.2.1) ++ encs (recB r)) (by omega) (by simp only [List.length_append]; omega)
  rw [List.drop_zero] at e4
  replace e4 : iter (fun x => qbK r x.1 x.2) (0, (encs (recA r) ++ encs r.2.1) ++ encs (recB r)) = _ := e4
  have e5 : qaC [r.2.2.1.2.2.2.2.2.2, r.2.2.2.2.1, r.2.2.2.2.2, (r.2.2.2.1.length : Int)] (((encs (recA r) ++ encs r.2.1) ++ encs (recB r)) ++ encs (hopL (hps r))) = some ((((encs (recA r) ++ encs r.2.1) ++ encs (recB r)) ++ encs (hopL (hps r))) ++ encs (recC r)) := wputs (l := recC r) iC (by omega) (by simp only [List.length_append]; omega)
  simp only [e1, e2, e3, e4, e5, Option.bind_some]
  have eq : (((encs (recA r) ++ encs r.2.1) ++ encs (recB r)) ++ encs (hopL (hps r))) ++ encs (recC r) = encs (recL r) := by unfold recL; simp only [qui, List.append_assoc]
  have hg : (Nat.blt 0 (((((encs (recA r) ++ encs r.2.1) ++ encs (recB r)) ++ encs (hopL (hps r))) ++ encs (recC r)).length + r.2.2.2.1.length) && fits (((((encs (recA r) ++ encs r.2.1) ++ encs (recB r)) ++ encs (hopL (hps r))) ++ encs (recC r)).length + r.2.2.2.1.length) 1) = true := by
   have hs : r.2.2.2.1.length = (shp r).length := rfl
   rw [Bool.and_eq_true, Nat.blt_eq]
   exact ⟨by simp only [List.length_append]; omega, qaz (by simp only [List.length_append, hs]; omega)⟩
  rw [hg, gd_tt, eq]; rfl
end Go.Proofs.YtnkfkceghbkkkaaGreat.Wi
namespace Go.Proofs.YtnkfkceghbkkkaaGreat.Wi
open Go Go.Sq
set_option linter.unusedVariables false
def At (b : List Int) (p : Nat) (l rest : List Int) : Prop := p ≤ b.length ∧ b.drop p = encs l ++ rest
theorem qi9 {b : List Int} {p : Nat} {x : Int} {l rest : List Int} (h : At b p (x :: l) rest) (hx : -9223372036854775808 ≤ x ∧ x ≤ 9223372036854775807) : ∃ q, num b p true = (x, q, true) ∧ At b q l rest := by
 obtain ⟨h1, h2⟩ := h
 rw [qj4] at h2
 have e : b = b.take p ++ encZ x ++ (encs l ++ rest) := by
  rw [List.append_assoc, ← List.append_assoc (encZ x), ← h2, List.take_append_drop]
 have hl : (b.take p).length = p := by rw [List.length_take]; omega
 have h3 := qtk 10 0 (zg x) 0 p b (b.take p) (encs l ++ rest) rfl hl.symm e (by have := zg_lt hx; simpa using this) (.inl rfl)
 rw [Nat.zero_add, Nat.mul_zero, Nat.pow_zero, Nat.mul_one, qyJ] at h3
 refine ⟨p + (encZ x).length, ?_, ?_, ?_⟩
 ·unfold num
  rw [cond_true, h3, if_pos rfl, Int.toNat_natCast]; rfl
 ·have := congrArg List.length h2
  rw [List.length_drop, List.length_append, List.length_append] at this; omega
 ·rw [← List.drop_drop, h2, List.append_assoc, List.drop_left]
theorem quk {b : List Int} {p : Nat} {x m : Int} {l rest : List Int} (h : At b p (x :: l) rest) (hx : -9223372036854775808 ≤ x ∧ x ≤ 9223372036854775807) (h0 : 0 ≤ x) (hm : x ≤ m) : ∃ q, cnt b m p true = (x, q, true) ∧ At b q l rest := by
 obtain ⟨q, h1, h2⟩ := qi9 h hx
 refine ⟨q, ?_, h2⟩
 unfold cnt
 rw [h1, if_neg (by simp only; omega)]
theorem qwX {b : List Int} {m rest : List Int} : ∀ (l : List Int) (p : Nat) (acc : List Int), i64A l → At b p (l ++ m) rest → ∃ q, nums b l.length p true acc = (q, true, acc ++ l) ∧ At b q m rest
 | [], p, acc, _, h => ⟨p, by rw [List.append_nil]; rfl, h⟩
 | x :: l, p, acc, hi, h => by
  obtain ⟨q, h1, h2⟩ := qi9 (l := l ++ m) h (hi x (by simp))
  obtain ⟨q2, h3, h4⟩ := qwX l q (acc ++ [x]) (fun y hy => hi y (by simp [hy])) h2
  refine ⟨q2, ?_, h4⟩
  rw [List.length_cons]
  unfold nums
  rw [h1, h3]; simp
theorem qwY {b : List Int} {m rest : List Int} : ∀ (l : List (Int × Bool)) (p : Nat) (acc : List (Int × Bool)), (∀ x ∈ l, -9223372036854775808 ≤ x.1 ∧ x.1 ≤ 9223372036854775807) → At b p (hopL l ++ m) rest → ∃ q, hops b l.length p true acc = (q, true, acc ++ l) ∧ At b q m rest
 | [], p, acc, _, h => ⟨p, by rw [List.append_nil]; rfl, h⟩
 | x :: l, p, acc, hi, h => by
  obtain ⟨a, c⟩ := x
  obtain ⟨q, h1, h2⟩ := qi9 (l := (bif c then 1 else 0) :: (hopL l ++ m)) h (hi _ (by simp))
  obtain ⟨q1, g1, g2⟩ := quk (m := 1) h2 (by cases c <;> decide) (by cases c <;> decide) (by cases c <;> decide)
  obtain ⟨q2, h3, h4⟩ := qwY l q1 (acc ++ [(a, c)]) (fun y hy => hi y (by simp [hy])) g2
  refine ⟨q2, ?_, h4⟩
  rw [List.length_cons]
  unfold hops
  rw [h1]; simp only
  rw [g1]; simp only
  rw [show decide ((bif c then (1 : Int) else 0) = 1) = c by cases c <;> rfl, h3]; simp
theorem toB (l : List UInt8) : qcZ (qei l) = l := by
 unfold qcZ qei
 rw [List.map_map]
 conv => rhs; rw [← List.map_id l]
 apply List.map_congr_left
 intro x _
 simp
theorem qzG {r : Rcd} (hr : i64A (recL r)) (hh : ∀ x ∈ hps r, -9223372036854775808 ≤ x.1 ∧ x.1 ≤ 9223372036854775807) (hb : ¬ big r) : decR (encs (recL r) ++ qei (shp r)) = (r, 0) := by
 simp only [big, not_or] at hb
 obtain ⟨g1, g2, g3⟩ := hb
 obtain ⟨b, hbe⟩ : ∃ b, b = encs (recL r) ++ qei (shp r) := ⟨_, rfl⟩
 rw [← hbe]
 have A0 : At b 0 (recL r) (qei (shp r)) := ⟨Nat.zero_le _, by rw [List.drop_zero]; exact hbe⟩
 have hr' := hr
 obtain ⟨iA, hr⟩ := qeg.1 hr
 obtain ⟨iV, hr⟩ := qeg.1 hr
 obtain ⟨iB, hr⟩ := qeg.1 hr
 obtain ⟨iH, iC⟩ := qeg.1 hr
 obtain ⟨kind, vs, ⟨s1, s2, s3, s4, s5, hs, s6⟩, sh, ek, ev⟩ := r
 obtain ⟨p1, e1, A1⟩ := qi9 (x := kind) A0 (iA _ (by simp [recA]))
 have E1 : d1 b = (kind, p1, true) := e1
 obtain ⟨p2, e2, A2⟩ := quk (x := (vs.length : Int)) (m := 21) A1 (iA _ (by simp [recA])) (by omega) (by simp only at g1; omega)
 have E2 : d2 b = ((vs.length : Int), p2, true) := by unfold d2; rw [E1]; exact e2
 obtain ⟨p3, e3, A3⟩ := qwX vs p2 [] iV A2
 have E3 : dv b = (p3, true, vs) := by unfold dv; rw [E2]; simp only [Int.toNat_natCast]; rw [e3]; rfl
 obtain ⟨p4, e4, A4⟩ := qi9 (x := s1) A3 (iB _ (by simp [recB]))
 have E4 : d3 b = (s1, p4, true) := by unfold d3; rw [E3]; exact e4
 obtain ⟨p5, e5, A5⟩ := qi9 (x := s2) A4 (iB _ (by simp [recB]))
 have E5 : d4 b = (s2, p5, true) := by unfold d4; rw [E4]; exact e5
 obtain ⟨p6, e6, A6⟩ := qi9 (x := s3) A5 (iB _ (by simp [recB]))
 have E6 : d5 b = (s3, p6, true) := by unfold d5; rw [E5]; exact e6
 obtain ⟨p7, e7, A7⟩ := qi9 (x := s4) A6 (iB _ (by simp [recB]))
 have E7 : d6 b = (s4, p7, true) := by unfold d6; rw [E6]; exact e7
 obtain ⟨p8, e8, A8⟩ := qi9 (x := s5) A7 (iB _ (by simp [recB]))
 have E8 : d7 b = (s5, p8, true) := by unfold d7; rw [E7]; exact e8
 have g2' : (hs.length : Int) ≤ 32 := by have : ¬ (32 : Int) < (hs.length : Int) := g2; omega
 obtain ⟨p9, e9, A9⟩ := quk (x := (hs.length : Int)) (m := 32) A8 (by omega) (by omega) g2'
 have E9 : d8 b = ((hs.length : Int), p9, true) := by unfold d8; rw [E8]; exact e9
 obtain ⟨p10, e10, A10⟩ := qwY hs p9 [] hh A9
 have E10 : dh b = (p10, true, hs) := by unfold dh; rw [E9]; simp only [Int.toNat_natCast]; rw [e10]; rfl
 obtain ⟨p11, e11, A11⟩ := qi9 (x := s6) A10 (iC _ (by simp [recC]))
 have E11 : d9 b = (s6, p11, true) := by unfold d9; rw [E10]; exact e11
 obtain ⟨p12, e12, A12⟩ := qi9 (x := ek) A11 (iC _ (by simp [recC]))
 have E12 : d10 b = (ek, p12, true) := by unfold d10; rw [E11]; exact e12
 obtain ⟨p13, e13, A13⟩ := qi9 (x := ev) A12 (iC _ (by simp [recC]))
 have E13 : d11 b = (ev, p13, true) := by unfold d11; rw [E12]; exact e13
 have g3' : (sh.length : Int) ≤ 12 := by have : ¬ (12 : Int) < (sh.length : Int) := g3; omega
 obtain ⟨p14, e14, A14⟩ := quk (x := (sh.length : Int)) (m := 12) A13 (by omega) (by omega) g3'
 have E14 : d12 b = ((sh.length : Int), p14, true) := by unfold d12; rw [E13]; exact e14
 obtain ⟨l14, D14⟩ := A14
 rw [qn6, List.nil_append] at D14
 have hlen := congrArg List.length D14
 rw [List.length_drop] at hlen
 have hof : (qei sh).length = sh.length := by unfold qei; rw [List.length_map]
 have hlen2 : b.length - p14 = sh.length := hlen.trans hof
 unfold decR
 rw [if_neg (by rw [E14]; simp only [not_or]; exact ⟨by decide, by omega⟩), E14, E13, E12, E11, E10, E8, E7, E6, E5, E4, E3, E1]
 simp only
 rw [D14]
 show _ = _
 rw [show qcZ (qei (shp (kind, vs, (s1, s2, s3, s4, s5, hs, s6), sh, ek, ev))) = sh from toB sh]
end Go.Proofs.YtnkfkceghbkkkaaGreat.Wi
