/- Numbers as bytes: the functions that write them. No condition. -/
import Derived.Test.YtnkfkceghbkkkaaGreatWi2
import Derived.Test.YtnkfkceghbkkkaaGreatQu
namespace Go.Proofs.YtnkfkceghbkkkaaGreat
open Go Go.Sq
set_option linter.unusedVariables false
theorem wu8_nat (a : Nat) : wu8 (a : Int) = ((a % 256 : Nat) : Int) := by
  show IntKind.u8.wrap (a : Int) = _
  simp [IntKind.wrap, IntKind.bits, IntKind.signed]
theorem enc_len : ∀ (k u : Nat), 0 < k → u < 128 ^ k → (enc u).length ≤ k
  | 0, u, h, _ => by omega
  | k + 1, u, h, hu => by
    by_cases h1 : u < 128
    · rw [enc_lt h1]; simp
    · rw [enc_ge (by omega), List.length_cons]
      cases k with
      | zero => omega
      | succ k =>
        have : u / 128 < 128 ^ (k + 1) := by rw [Nat.div_lt_iff_lt_mul (by omega)]; rw [Nat.pow_succ] at hu; exact hu
        have := enc_len (k + 1) (u / 128) (by omega) this
        omega
theorem encZ_len {n : Int} (h : -9223372036854775808 ≤ n ∧ n ≤ 9223372036854775807) : (encZ n).length ≤ 10 := enc_len 10 _ (by omega) (by have := zg_lt h; omega)
theorem wput_loop : ∀ (f u : Nat) (out : List Int), u ≤ f → out.length + (enc u).length ≤ 10000000 →
    ((iter (fun x => wire_PutInt_L0 x.1 x.2) ((u : Int), out)).bind fun s => gd (fits (s.2.length + 1) 1) (some (s.2 ++ [wu8 s.1]))) = some (out ++ enc u)
  | f, u, out, hf, hl => by
    by_cases h : u < 128
    · have h1 : wire_PutInt_L0 (u : Int) out = some (.inr ((u : Int), out)) := by
        unfold wire_PutInt_L0
        rw [dec_f (by omega), cond_false]
      rw [iter_eq]
      simp only [h1, Option.bind_some]
      rw [fits_t (by omega), gd_tt, wu8_nat, Nat.mod_eq_of_lt (by omega), enc_lt h]
    · rw [enc_ge (by omega)] at hl ⊢
      have hp := enc_pos (u / 128)
      simp only [List.length_cons] at hl
      have h1 : wire_PutInt_L0 (u : Int) out = some (.inl (((u / 128 : Nat) : Int), out ++ [((u % 128 + 128 : Nat) : Int)])) := by
        unfold wire_PutInt_L0
        have e1 : (2 : Int) ^ shAmt .u64 7 = 128 := by kernel_rfl
        rw [dec_t (by omega), cond_true, fits_t (by omega), gd_tt, e1, Int.fdiv_eq_ediv_of_nonneg _ (by omega), wu8_nat, b128 ⟨u % 256, by omega⟩]
        simp only
        rw [show u % 256 % 128 = u % 128 by omega]; rfl
      rw [iter_eq]
      simp only [h1]
      cases f with
      | zero => omega
      | succ f =>
        rw [wput_loop f (u / 128) (out ++ [((u % 128 + 128 : Nat) : Int)]) (by omega) (by simp; omega)]
        simp
theorem wput_eq {b : List Int} {n : Int} (h : -9223372036854775808 ≤ n ∧ n ≤ 9223372036854775807) (hb : b.length ≤ 1000000) : wire_PutInt b n = some (b ++ encZ n) := by
  have hl := encZ_len h
  unfold wire_PutInt
  rw [fits_t (by omega), gd_tt, zig h, List.nil_append]
  exact wput_loop _ _ _ (Nat.le_refl _) (by unfold encZ at hl; omega)
theorem fold_eq {n : Int} (h : -9223372036854775808 ≤ n ∧ n ≤ 9223372036854775807) : ref02_Folded n = some (zg n : Int) := by
  unfold ref02_Folded zg
  by_cases h0 : 0 ≤ n
  · rw [dec_t h0, cond_true, if_pos h0, wu_int, wu_int]; congr 1; omega
  · rw [dec_f h0, cond_false, if_neg h0, wi (n := n + 1) (by omega), wi (by omega), wu_int, wu_int, wu_int]; congr 1; omega
theorem rput_loop : ∀ (f u : Nat) (out : List Int), u ≤ f → u < 18446744073709551616 → out.length + (enc u).length ≤ 10000000 →
    ((iter (fun x => ref02_PutInt_L0 x.1 x.2) ((u : Int), out)).bind fun s => gd (fits (s.2.length + 1) 1) (some (s.2 ++ [wu8 s.1]))) = some (out ++ enc u)
  | f, u, out, hf, hu, hl => by
    by_cases h : u < 128
    · have h1 : ref02_PutInt_L0 (u : Int) out = some (.inr ((u : Int), out)) := by
        unfold ref02_PutInt_L0
        rw [dec_f (by omega), cond_false]
      rw [iter_eq]
      simp only [h1, Option.bind_some]
      rw [fits_t (by omega), gd_tt, wu8_nat, Nat.mod_eq_of_lt (by omega), enc_lt h]
    · rw [enc_ge (by omega)] at hl ⊢
      have hp := enc_pos (u / 128)
      simp only [List.length_cons] at hl
      have h1 : ref02_PutInt_L0 (u : Int) out = some (.inl (((u / 128 : Nat) : Int), out ++ [((u % 128 + 128 : Nat) : Int)])) := by
        unfold ref02_PutInt_L0
        rw [dec_t (by omega), cond_true, fits_t (by omega), gd_tt, show Int.tdiv (u : Int) 128 = ((u / 128 : Nat) : Int) from rfl, show Int.tmod (u : Int) 128 = ((u % 128 : Nat) : Int) from rfl, wu_nat (by omega), show ((u % 128 : Nat) : Int) + 128 = ((u % 128 + 128 : Nat) : Int) by omega, wu_nat (by omega), wu8_nat, Nat.mod_eq_of_lt (by omega)]
      rw [iter_eq]
      simp only [h1]
      cases f with
      | zero => omega
      | succ f =>
        rw [rput_loop f (u / 128) (out ++ [((u % 128 + 128 : Nat) : Int)]) (by omega) (by omega) (by simp; omega)]
        simp
theorem rput_eq {b : List Int} {n : Int} (h : -9223372036854775808 ≤ n ∧ n ≤ 9223372036854775807) (hb : b.length ≤ 1000000) : ref02_PutInt b n = some (b ++ encZ n) := by
  have hl := encZ_len h
  unfold ref02_PutInt
  rw [fits_t (by omega), gd_tt, fold_eq h, Option.bind_some, List.nil_append]
  exact rput_loop _ _ _ (Nat.le_refl _) (zg_lt h) (by unfold encZ at hl; omega)
end Go.Proofs.YtnkfkceghbkkkaaGreat
