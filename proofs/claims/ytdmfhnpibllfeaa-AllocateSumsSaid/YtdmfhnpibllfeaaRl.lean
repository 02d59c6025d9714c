/- The roots: what the twins compute. No condition. -/
import Derived.Test.YtdmfhnpibllfeaaLe
import Derived.IntWalk
namespace Go.Proofs.Ytdmfhnpibllfeaa
open Go Go.Sq

/-- The root, rounded down. -/
def isq : Nat → Nat
  | 0 => 0
  | n + 1 => if (isq n + 1) * (isq n + 1) ≤ n + 1 then isq n + 1 else isq n
theorem isq_spec : ∀ n, isq n * isq n ≤ n ∧ n < (isq n + 1) * (isq n + 1)
  | 0 => by simp [isq]
  | n + 1 => by
    obtain ⟨h1, h2⟩ := isq_spec n
    unfold isq
    split
    · rename_i h
      refine ⟨h, ?_⟩
      have : (isq n + 1) * (isq n + 1) < (isq n + 1 + 1) * (isq n + 1 + 1) := Nat.mul_lt_mul_of_lt_of_lt (by omega) (by omega)
      omega
    · omega
def rootI (n : Int) : Int := if n < 0 ∨ 4611686018427387904 < n then 0 else (isq n.toNat : Int)
theorem root_uniq {n r : Int} (h0 : 0 ≤ n) (hr : 0 ≤ r) (h1 : r * r ≤ n) (h2 : n < (r + 1) * (r + 1)) : r = (isq n.toNat : Int) := by
  obtain ⟨s1, s2⟩ := isq_spec n.toNat
  have e1 : ((isq n.toNat : Int)) * (isq n.toNat : Int) ≤ n := by
    have : ((isq n.toNat * isq n.toNat : Nat) : Int) ≤ (n.toNat : Int) := by exact_mod_cast s1
    rw [Int.natCast_mul] at this; omega
  have e2 : n < ((isq n.toNat : Int) + 1) * ((isq n.toNat : Int) + 1) := by
    have : (n.toNat : Int) < (((isq n.toNat + 1) * (isq n.toNat + 1) : Nat) : Int) := by exact_mod_cast s2
    rw [Int.natCast_mul] at this
    simp only [Int.natCast_add, Int.natCast_one] at this
    omega
  generalize (isq n.toNat : Int) = s at *
  have hs : 0 ≤ s + 1 := by
    by_cases h : 0 ≤ s + 1
    · exact h
    · exfalso
      have := Int.mul_nonneg_of_nonpos_of_nonpos (a := s) (b := s) (by omega) (by omega)
      have h3 : (r + 1) * (r + 1) > 0 := Int.mul_pos (by omega) (by omega)
      have h4 : s ≤ -2 := by omega
      have : s * s = (s+1)*(s+1) - 2 * s - 1 := by
        rw [Int.add_mul, Int.mul_add]; omega
      omega
  rcases Int.lt_trichotomy r s with h | h | h
  · exfalso
    have : (r + 1) * (r + 1) ≤ s * s := Int.mul_le_mul (by omega) (by omega) (by omega) (by omega)
    omega
  · exact h
  · exfalso
    have : (s + 1) * (s + 1) ≤ r * r := Int.mul_le_mul (by omega) (by omega) (by omega) (by omega)
    omega
/-- One state of the search for a root. -/
structure RootSt where
  r : Int
  bit : Int
def RootSt.ok (n : Int) (x : RootSt) : Prop :=
  0 ≤ x.r ∧ x.r ≤ 2147483648 ∧ 0 ≤ x.bit ∧ x.bit ≤ 2147483648 ∧ x.r * x.r ≤ n ∧ ((x.bit = 0 ∧ n < (x.r + 1) * (x.r + 1)) ∨ ∃ k : Nat, x.bit = 2 ^ k ∧ n < (x.r + 2 * x.bit) * (x.r + 2 * x.bit))
def RootSt.next (n : Int) (x : RootSt) : RootSt :=
  ⟨if x.r + x.bit ≤ 2147483648 ∧ (x.r + x.bit) * (x.r + x.bit) ≤ n then x.r + x.bit else x.r, x.bit / 2⟩
theorem root_init {n : Int} (h0 : 0 ≤ n) (h1 : n ≤ 4611686018427387904) : RootSt.ok n ⟨0, 2147483648⟩ :=
  ⟨by simp, by simp, by simp, by simp, by simpa using h0, .inr ⟨31, by decide, by show n < (0 + 2 * 2147483648) * (0 + 2 * 2147483648); omega⟩⟩
theorem root_next {n : Int} {x : RootSt} (h1 : n ≤ 4611686018427387904) (h : x.ok n) (hb : 0 < x.bit) : (x.next n).ok n := by
  obtain ⟨a1, a2, a3, a4, a5, a6⟩ := h
  rcases a6 with ⟨a6, _⟩ | ⟨k, a6, a7⟩
  · omega
  have key : n < (x.r + 2 * x.bit) * (x.r + 2 * x.bit) := a7
  -- behind the test, the root lies below r' + bit
  have hnew : 0 ≤ (x.next n).r ∧ (x.next n).r ≤ 2147483648 ∧ (x.next n).r * (x.next n).r ≤ n ∧ n < ((x.next n).r + x.bit) * ((x.next n).r + x.bit) := by
    unfold RootSt.next
    simp only
    split
    · rename_i hc
      refine ⟨by omega, hc.1, hc.2, ?_⟩
      rw [show x.r + x.bit + x.bit = x.r + 2 * x.bit by omega]; exact key
    · rename_i hc
      refine ⟨a1, a2, a5, ?_⟩
      by_cases h2 : x.r + x.bit ≤ 2147483648
      · have : ¬ (x.r + x.bit) * (x.r + x.bit) ≤ n := fun h3 => hc ⟨h2, h3⟩
        omega
      · have : (2147483649 : Int) * 2147483649 ≤ (x.r + x.bit) * (x.r + x.bit) := Int.mul_le_mul (by omega) (by omega) (by omega) (by omega)
        omega
  obtain ⟨b1, b2, b3, b4⟩ := hnew
  refine ⟨b1, b2, ?_, ?_, b3, ?_⟩
  · show 0 ≤ x.bit / 2; omega
  · show x.bit / 2 ≤ _; omega
  · cases k with
    | zero =>
      left
      have hb1 : x.bit = 1 := by rw [a6]; rfl
      refine ⟨by show x.bit / 2 = 0; omega, ?_⟩
      rw [hb1] at b4; exact b4
    | succ k =>
      right
      have e2 : x.bit = 2 * 2 ^ k := by rw [a6, Int.pow_succ]; omega
      have e3 : (x.next n).bit = 2 ^ k := by show x.bit / 2 = _; omega
      refine ⟨k, e3, ?_⟩
      rw [e3, ← e2]; exact b4
theorem root_done {n : Int} {x : RootSt} (h0 : 0 ≤ n) (h1 : n ≤ 4611686018427387904) (h : x.ok n) (hb : ¬ 0 < x.bit) : x.r = rootI n := by
  obtain ⟨a1, a2, a3, a4, a5, a6⟩ := h
  unfold rootI
  rw [if_neg (by omega)]
  rcases a6 with ⟨a6, a7⟩ | ⟨k, a6, a7⟩
  · exact root_uniq h0 a1 a5 a7
  · exfalso
    have : (0 : Int) < 2 ^ k := Int.pow_pos (by decide)
    omega
theorem rootI_bd (n : Int) : 0 ≤ rootI n ∧ rootI n ≤ 2147483648 := by
  unfold rootI
  split
  · omega
  · rename_i h
    obtain ⟨s1, _⟩ := isq_spec n.toNat
    refine ⟨by omega, ?_⟩
    generalize isq n.toNat = s at *
    by_cases hs : s ≤ 2147483648
    · omega
    · exfalso
      have : 2147483649 * 2147483649 ≤ s * s := Nat.mul_le_mul (by omega) (by omega)
      omega
def rootUpI (n : Int) : Int := if 0 < n ∧ n ≤ 4611686018427387904 ∧ rootI n * rootI n < n then rootI n + 1 else rootI n

theorem wi {n : Int} (h : -9223372036854775808 ≤ n ∧ n ≤ 9223372036854775807) : wi64 n = n := IntWalk.i64_in n h

theorem root_step {n r bit : Int} (h : RootSt.ok n ⟨r, bit⟩) : round_Root_L0 n r bit = bif decide (0 < bit) then some (.inl ((RootSt.next n ⟨r, bit⟩).r, bit / 2)) else some (.inr r) := by
  obtain ⟨a1, a2, a3, a4, _, _⟩ := h
  simp only at a1 a2 a3 a4
  unfold round_Root_L0
  by_cases hb : 0 < bit
  · simp only [hb, decide_true, cond_true]
    rw [show wi64 (r + bit) = r + bit from wi (by omega), show wi64 (Int.tdiv bit 2) = bit / 2 by rw [Int.tdiv_eq_ediv_of_nonneg a3]; exact wi (by omega)]
    by_cases h2 : r + bit ≤ 2147483648
    · have hm : (r + bit) * (r + bit) ≤ 2147483648 * 2147483648 := Int.mul_le_mul h2 h2 (by omega) (by omega)
      have hm0 : 0 ≤ (r + bit) * (r + bit) := Int.mul_nonneg (by omega) (by omega)
      rw [show wi64 ((r + bit) * (r + bit)) = (r + bit) * (r + bit) from wi ⟨by omega, by omega⟩]
      by_cases h3 : (r + bit) * (r + bit) ≤ n <;> simp [h2, h3, RootSt.next]
    · simp [h2, RootSt.next]
  · simp [hb]

theorem round_Root_eq {n : Int} (h0 : 0 ≤ n) (h1 : n ≤ 4611686018427387904) : round_Root n = some (rootI n) := by
  have key : ∃ e, iter (fun x : Int × Int => round_Root_L0 n x.1 x.2) (0, 2147483648) = some e ∧ e = rootI n := by
    refine iter_inv (fun x : Int × Int => RootSt.ok n ⟨x.1, x.2⟩) (fun x => x.2.toNat) (fun e => e = rootI n) (fun x hx => ?_) (root_init h0 h1)
    rw [root_step hx]
    by_cases hb : 0 < x.2
    · right
      refine ⟨((RootSt.next n ⟨x.1, x.2⟩).r, x.2 / 2), by simp only [hb, decide_true, cond_true], root_next h1 hx hb, ?_⟩
      show (x.2 / 2).toNat < x.2.toNat
      omega
    · left
      exact ⟨x.1, by simp [hb], root_done h0 h1 hx hb⟩
  obtain ⟨e, h2, rfl⟩ := key
  unfold round_Root
  simp [show ¬ n < 0 by omega, show ¬ 4611686018427387904 < n by omega, h2]

theorem root_sq {n : Int} (h0 : 0 ≤ n) (h1 : n ≤ 4611686018427387904) : rootI n * rootI n ≤ n ∧ n < (rootI n + 1) * (rootI n + 1) := by
  obtain ⟨s1, s2⟩ := isq_spec n.toNat
  unfold rootI
  rw [if_neg (by omega)]
  constructor
  · have : ((isq n.toNat * isq n.toNat : Nat) : Int) ≤ (n.toNat : Int) := by exact_mod_cast s1
    rw [Int.natCast_mul] at this; omega
  · have : (n.toNat : Int) < (((isq n.toNat + 1) * (isq n.toNat + 1) : Nat) : Int) := by exact_mod_cast s2
    rw [Int.natCast_mul] at this
    simp only [Int.natCast_add, Int.natCast_one] at this
    omega

theorem round_RootUp_eq {n : Int} (h0 : 0 ≤ n) (h1 : n ≤ 4611686018427387904) : round_RootUp n = some (rootUpI n) := by
  obtain ⟨b1, b2⟩ := rootI_bd n
  obtain ⟨s1, s2⟩ := root_sq h0 h1
  have hr : 0 ≤ rootI n * rootI n := Int.mul_nonneg b1 b1
  unfold round_RootUp rootUpI
  rw [round_Root_eq h0 h1]
  simp only [Option.bind_some]
  rw [show wi64 (rootI n * rootI n) = rootI n * rootI n from wi ⟨by omega, by omega⟩, show wi64 (rootI n + 1) = rootI n + 1 from wi (by omega)]
  by_cases c1 : 0 < n
  · by_cases c3 : rootI n * rootI n < n <;> simp [c1, h1, c3]
  · simp [c1]

theorem roots_true {n : Int} (b : (0 : Int) ≤ n ∧ n ≤ 18446744073709551615) : law01_RoundRoots n = some true := by
  have hm : Int.tmod n 4611686018427387904 = n % 4611686018427387904 := Int.tmod_eq_emod_of_nonneg b.1
  unfold law01_RoundRoots
  rw [hm, show wi64 (n % 4611686018427387904) = n % 4611686018427387904 from wi (by omega)]
  have m0 : 0 ≤ n % 4611686018427387904 := by omega
  have m1 : n % 4611686018427387904 < 4611686018427387904 := by omega
  generalize n % 4611686018427387904 = m at m0 m1
  rw [round_Root_eq m0 (by omega), round_RootUp_eq m0 (by omega)]
  obtain ⟨b1, b2⟩ := rootI_bd m
  obtain ⟨s1, s2⟩ := root_sq m0 (by omega : m ≤ 4611686018427387904)
  unfold rootUpI
  generalize rootI m = r at *
  have hr : 0 ≤ r * r := Int.mul_nonneg b1 b1
  have r2 : r < 2147483648 := by
    by_cases h : r < 2147483648
    · exact h
    · have : (2147483648 : Int) * 2147483648 ≤ r * r := Int.mul_le_mul (by omega) (by omega) (by omega) (by omega)
      omega
  have hp : (r + 1) * (r + 1) ≤ 2147483648 * 2147483648 := Int.mul_le_mul (by omega) (by omega) (by omega) (by omega)
  have hp0 : 0 ≤ (r + 1) * (r + 1) := Int.mul_nonneg (by omega) (by omega)
  simp only [Option.bind_some, awake_true]
  rw [show wi64 (r * r) = r * r from wi ⟨by omega, by omega⟩, show wi64 (r + 1) = r + 1 from wi (by omega), show wi64 ((r + 1) * (r + 1)) = (r + 1) * (r + 1) from wi ⟨by omega, by omega⟩]
  by_cases c1 : 0 < m ∧ m ≤ 4611686018427387904 ∧ r * r < m
  · rw [if_pos c1]
    have e1 : wi64 (r + 1 - r) = 1 := by rw [show r + 1 - r = 1 by omega]; exact wi (by omega)
    have e2 : ¬ r * r = m := by omega
    have e3 : ¬ r + 1 = r := by omega
    have e4 : r ≤ r + 1 := by omega
    simp [b1, r2, s1, s2, e1, e2, e3, e4]
  · rw [if_neg c1]
    have e1 : wi64 (r - r) = 0 := by rw [show r - r = 0 by omega]; exact wi (by omega)
    have e2 : r * r = m := by omega
    have e3 : m < (r + 1) * (r + 1) := s2
    have e4 : wi64 0 = 0 := wi (by omega)
    simp [b1, r2, e2, e3, e4]
end Go.Proofs.Ytdmfhnpibllfeaa
