/- Numbers as bytes: the functions that read them. No condition. -/
import Derived.Test.YtnkfkceghbkkkaaGreatWi3
namespace Go.Proofs.YtnkfkceghbkkkaaGreat
open Go Go.Sq
set_option linter.unusedVariables false
theorem byte_at {b : List Int} (hb : bytesP b) {i : Nat} (h : i < b.length) : b.getD i 0 = ((bN b i : Nat) : Int) ∧ bN b i < 256 := by
  have := hb _ (gD_mem (d := 0) h)
  unfold bN
  omega
theorem sh7 {k : Nat} (h : k ≤ 9) : (2 : Int) ^ shAmt .u64 (wi64 (7 * (k : Int))) = ((2 ^ (7 * k) : Nat) : Int) := by
  rw [wi (by omega), show 7 * (k : Int) = ((7 * k : Nat) : Int) by omega]
  unfold shAmt
  rw [Int.toNat_natCast, Nat.min_eq_left (by show 7 * k ≤ 64; omega)]
  push_cast; rfl
theorem p7 {k : Nat} (h : k ≤ 9) : 2 ^ (7 * k) ≤ 9223372036854775808 := by
  calc 2 ^ (7 * k) ≤ 2 ^ 63 := Nat.pow_le_pow_right (by omega) (by omega)
    _ = 9223372036854775808 := by decide
theorem p8 {k c : Nat} (h : k ≤ 8) (hc : c < 128) : c * 2 ^ (7 * k) < 9223372036854775808 := by
  have h1 : 2 ^ (7 * k) ≤ 2 ^ 56 := Nat.pow_le_pow_right (by omega) (by omega)
  have h2 : c * 2 ^ (7 * k) ≤ 127 * 2 ^ 56 := Nat.mul_le_mul (by omega) h1
  have : 127 * 2 ^ 56 < 9223372036854775808 := by decide
  omega
theorem pS (k : Nat) : 2 ^ (7 * (k + 1)) = 128 * 2 ^ (7 * k) := by rw [show 7 * (k + 1) = 7 + 7 * k by omega, Nat.pow_add]
theorem uS {u c k : Nat} (hu : u < 2 ^ (7 * k)) (hc : c < 128) : u + c * 2 ^ (7 * k) < 2 ^ (7 * (k + 1)) := by
  have : (c + 1) * 2 ^ (7 * k) ≤ 128 * 2 ^ (7 * k) := Nat.mul_le_mul_right _ (by omega)
  rw [Nat.add_mul, Nat.one_mul] at this
  rw [pS]; omega
def fin3 (s : Unit ⊕ (Int × Int × Int)) : Option (Int × Int × Int) := s.elim (fun _ => some (0, 0, 3)) (fun s5 => some (s5.1, s5.2.1, s5.2.2))
theorem u64S {u c k : Nat} (hk : k ≤ 9) (hu : u < 2 ^ (7 * k)) (hc : c < 128) (h9 : k = 9 → c ≤ 1) : c * 2 ^ (7 * k) < 18446744073709551616 ∧ u < 18446744073709551616 ∧ u + c * 2 ^ (7 * k) < 18446744073709551616 := by
  have h1 := p7 hk
  by_cases h : k = 9
  · subst h
    have : c * 2 ^ (7 * 9) ≤ 1 * 2 ^ (7 * 9) := Nat.mul_le_mul_right _ (h9 rfl)
    omega
  · have := p8 (k := k) (by omega) hc
    omega
theorem wint_loop {b : List Int} (hb : bytesP b) (hl : b.length ≤ 1000000) (p : Nat) (hp : p ≤ b.length) : ∀ (f k u : Nat), f + k = 10 → (k ≤ 9 → u < 2 ^ (7 * k)) → ∀ (x : Int), (k ≤ 9 → x = (u : Int)) →
    (iter (fun x => wire_Int_L0 b (p : Int) x.1 x.2) (x, (k : Int))).bind fin3 = some (rdI b (p + k) k u f)
  | 0, k, u, hf, hu, x, hx => by
    have hk : k = 10 := by omega
    subst hk
    have h1 : wire_Int_L0 b (p : Int) x ((10 : Nat) : Int) = some (.inr (.inl ())) := by
      unfold wire_Int_L0; rw [dec_f (by omega), cond_false]
    rw [iter_eq]
    simp only [h1]; rfl
  | f + 1, k, u, hf, hu, x, hx => by
    have hk : k ≤ 9 := by omega
    have hu := hu hk
    have hx := hx hk
    subst hx
    have ea : wi64 ((p : Int) + (k : Int)) = ((p + k : Nat) : Int) := by rw [wi (by omega)]; omega
    unfold rdI
    by_cases hlen : b.length ≤ p + k
    · rw [if_pos hlen]
      have h1 : wire_Int_L0 b (p : Int) (u : Int) (k : Int) = some (.inr (.inr (0, 0, 2))) := by
        unfold wire_Int_L0; rw [dec_t (by omega), cond_true, ea, dec_t (by omega), cond_true]
      rw [iter_eq]
      simp only [h1]; rfl
    · rw [if_neg hlen]
      obtain ⟨eb, hc⟩ := byte_at hb (show p + k < b.length by omega)
      generalize bN b (p + k) = c at eb hc ⊢
      have e7 : wi64 (7 * (k : Int)) = 7 * (k : Int) := wi (by omega)
      have e127 : wu64 (bitAnd .u8 (c : Int) 127) = ((c % 128 : Nat) : Int) := by rw [b127 ⟨c, hc⟩]; exact wu_nat (by omega)
      have hm : c % 128 < 128 := by omega
      have start : ∀ Z, wire_Int_L0 b (p : Int) (u : Int) (k : Int) = Z ↔ (bif decide (128 ≤ (c : Int)) then
          some (.inl (bitOr .u64 (u : Int) (wu64 (((c % 128 : Nat) : Int) * ((2 ^ (7 * k) : Nat) : Int))), wi64 ((k : Int) + 1)))
        else ((bif decide ((k : Int) = 9) then (bif decide (1 < (c : Int)) then some true else bif decide (0 < (k : Int)) then some (decide ((c : Int) = 0)) else some false) else bif decide (0 < (k : Int)) then some (decide ((c : Int) = 0)) else some false).bind fun s2 : Bool =>
          bif s2 then some (.inr (.inr (0, 0, 3))) else
            some (.inr (.inr (bitXor .i64 (wi64 (Int.fdiv (bitOr .u64 (u : Int) (wu64 (((c % 128 : Nat) : Int) * ((2 ^ (7 * k) : Nat) : Int)))) (2 ^ shAmt .u64 1))) (wi64 (0 - (wi64 (bitAnd .u64 (bitOr .u64 (u : Int) (wu64 (((c % 128 : Nat) : Int) * ((2 ^ (7 * k) : Nat) : Int)))) 1)))), wi64 ((wi64 ((p : Int) + (k : Int))) + 1), 0))))) = Z := by
        intro Z
        unfold wire_Int_L0
        rw [dec_t (by omega), cond_true, ea, dec_f (by omega), cond_false, inB_t (by omega), gd_tt, Int.toNat_natCast, eb, sh7 hk, e127, e7, dec_f (p := 7 * (k : Int) < 0) (by omega)]
        rfl
      by_cases h128 : 128 ≤ c
      · rw [if_pos h128]
        have h1 := (start _).2 (by rw [dec_t (by omega), cond_true])
        rw [iter_eq]
        simp only [h1]
        rw [show wi64 ((k : Int) + 1) = ((k + 1 : Nat) : Int) by rw [wi (by omega)]; omega]
        refine wint_loop hb hl p hp f (k + 1) _ (by omega) (fun h => uS hu hm) _ (fun h => ?_)
        obtain ⟨g1, g2, g3⟩ := u64S hk hu hm (by omega)
        rw [← Int.natCast_mul, wu_nat g1, or_nat g2 g1, or_add hu]
      · rw [if_neg h128]
        by_cases hbad : k = 9 ∧ 1 < c ∨ 0 < k ∧ c = 0
        · rw [if_pos hbad]
          have h1 : wire_Int_L0 b (p : Int) (u : Int) (k : Int) = some (.inr (.inr (0, 0, 3))) := by
            refine (start _).2 ?_
            rw [dec_f (by omega), cond_false]
            by_cases h9 : k = 9
            · rw [dec_t (by omega), cond_true]
              by_cases hc1 : 1 < c
              · rw [dec_t (by omega), cond_true]; rfl
              · rw [dec_f (by omega), cond_false, dec_t (by omega), cond_true, dec_t (by omega)]; rfl
            · rw [dec_f (by omega), cond_false, dec_t (by omega), cond_true, dec_t (by omega)]; rfl
          rw [iter_eq]
          simp only [h1]; rfl
        · rw [if_neg hbad]
          have hcm : c % 128 = c := Nat.mod_eq_of_lt (by omega)
          obtain ⟨g1, g2, g3⟩ := u64S hk hu hm (by omega)
          have h1 : wire_Int_L0 b (p : Int) (u : Int) (k : Int) = some (.inr (.inr (unz (u + c % 128 * 2 ^ (7 * k)), ((p + k + 1 : Nat) : Int), 0))) := by
            refine (start _).2 ?_
            rw [dec_f (by omega), cond_false, ← Int.natCast_mul, wu_nat g1, or_nat g2 g1, or_add hu, Int.zero_sub, unzig g3, ea, show wi64 (((p + k : Nat) : Int) + 1) = ((p + k + 1 : Nat) : Int) by rw [wi (by omega)]; omega]
            by_cases h9 : k = 9
            · rw [dec_t (by omega), cond_true, dec_f (by omega), cond_false, dec_t (by omega), cond_true, dec_f (by omega)]; rfl
            · rw [dec_f (p := (k : Int) = 9) (by omega), cond_false]
              by_cases h0 : 0 < k
              · rw [dec_t (by omega), cond_true, dec_f (by omega)]; rfl
              · rw [dec_f (by omega), cond_false]; rfl
          rw [iter_eq]
          simp only [h1]; rfl
theorem wint_eq {b : List Int} (hb : bytesP b) (hl : b.length ≤ 1000000) {p : Nat} (hp : p ≤ b.length) : wire_Int b (p : Int) = some (rdI b p 0 0 10) := by
  unfold wire_Int
  rw [dec_f (by omega), cond_false, dec_f (by omega), Option.bind_some, cond_false]
  exact wint_loop hb hl p hp 10 0 0 rfl (fun _ => by simp) 0 (fun _ => rfl)
end Go.Proofs.YtnkfkceghbkkkaaGreat
