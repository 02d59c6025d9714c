/- CentreBytes, for what the law is called with. No condition. -/
import Derived.Test.YtnkfkceghbkkkaaGreatWi11
import Derived.Test.YtnkfkceghbkkkaaGreatSqZ
namespace Go.Proofs.YtnkfkceghbkkkaaGreat
open Go Go.Sq
set_option linter.unusedVariables false
theorem mod_eq {x n : Int} (hx : -9223372036854775808 ≤ x ∧ x ≤ 9223372036854775807) (h1 : 1 ≤ n) (h2 : n ≤ 4611686018427387904) : keep_Mod x n = some (x % n) := by
  have e := Int.emod_add_mul_ediv x n
  have b1 := Int.emod_nonneg x (show n ≠ 0 by omega)
  have b2 := Int.emod_lt_of_pos x (show 0 < n by omega)
  unfold keep_Mod
  rw [dec_f (show ¬ n < 1 by omega), dec_f (show ¬ n = 0 by omega)]
  simp only [cond_false, Bool.not_false, gd_tt]
  by_cases h0 : 0 ≤ x
  · rw [Int.tmod_eq_emod_of_nonneg h0, dec_f (by omega)]; rfl
  · have e2 : Int.tmod x n = if x % n = 0 then 0 else x % n - n := by
      rw [Int.tmod_eq_emod]
      by_cases hd : n ∣ x
      · rw [if_pos (.inr hd), if_pos (Int.emod_eq_zero_of_dvd hd)]
        rw [Int.emod_eq_zero_of_dvd hd]; rfl
      · rw [if_neg (by simp [hd]; omega), if_neg (fun hh => hd (Int.dvd_of_emod_eq_zero hh))]
        congr 1; omega
    rw [e2]
    by_cases hz : x % n = 0
    · rw [if_pos hz, dec_f (by omega), hz]; rfl
    · rw [if_neg hz, dec_t (by omega)]
      simp only [cond_true]
      rw [show x % n - n + n = x % n by omega, wi (by omega)]

theorem wf64 {n : Int} (h : (Lit.int .i64 n).wf = true) : -9223372036854775808 ≤ n ∧ n ≤ 9223372036854775807 := by simpa [Lit.wf, IntKind.min, IntKind.max, IntKind.signed, IntKind.bits] using h
theorem len64 {n : Nat} (h : n ≤ maxLen) : -9223372036854775808 ≤ (n : Int) ∧ (n : Int) ≤ 9223372036854775807 := by simp only [maxLen] at h; omega
abbrev tRcd : Ty := .pair (.int .i64) (.pair (.sl (.int .i64)) (.pair (.pair (.int .i64) (.pair (.int .i64) (.pair (.int .i64) (.pair (.int .i64) (.pair (.int .i64) (.pair (.sl (.pair (.int .i64) (.bool))) (.int .i64))))))) (.pair (.str) (.pair (.int .i64) (.int .i64)))))
theorem rcd_i64 {r : Rcd} (h : WfT tRcd r) : i64A (recL r) ∧ ∀ x ∈ hps r, -9223372036854775808 ≤ x.1 ∧ x.1 ≤ 9223372036854775807 := by
  obtain ⟨h1, ⟨h2, h3⟩, ⟨s1, s2, s3, s4, s5, ⟨s6, s7⟩, s8⟩, h4, h5, h6⟩ := h
  have hh : ∀ x ∈ hps r, -9223372036854775808 ≤ x.1 ∧ x.1 ≤ 9223372036854775807 := fun x hx => wf64 (s7 x hx).1
  refine ⟨i64A_app.2 ⟨?_, i64A_app.2 ⟨fun x hx => wf64 (h3 x hx), i64A_app.2 ⟨?_, i64A_app.2 ⟨hopL_i64 hh, ?_⟩⟩⟩⟩, hh⟩
  · intro x hx
    simp only [recA, List.mem_cons, List.not_mem_nil, or_false] at hx
    rcases hx with rfl | rfl
    · exact wf64 h1
    · exact len64 h2
  · intro x hx
    simp only [recB, List.mem_cons, List.not_mem_nil, or_false] at hx
    rcases hx with rfl | rfl | rfl | rfl | rfl | rfl
    · exact wf64 s1
    · exact wf64 s2
    · exact wf64 s3
    · exact wf64 s4
    · exact wf64 s5
    · exact len64 s6
  · intro x hx
    simp only [recC, List.mem_cons, List.not_mem_nil, or_false] at hx
    rcases hx with rfl | rfl | rfl | rfl
    · exact wf64 s8
    · exact wf64 h5
    · exact wf64 h6
    · exact len64 h4
theorem all_true (b : List Int) (hb : ∀ x ∈ b, (0 : Int) ≤ x ∧ x ≤ 255) (r : Rcd) (hr : WfT tRcd r) (at_ : Int) (ha : (-9223372036854775808 : Int) ≤ at_ ∧ at_ ≤ 9223372036854775807) (by_ : Int) (hy : (0 : Int) ≤ by_ ∧ by_ ≤ 255) : law41_CentreBytes b r at_ by_ = some true := by
  obtain ⟨h1, h2⟩ := rcd_i64 hr
  refine bytes_true b hb r h1 h2 at_ by_ ha hy fun k k1 k2 => ?_
  unfold second_Mod
  rw [mod_eq ha (by omega) (by omega)]; rfl
end Go.Proofs.YtnkfkceghbkkkaaGreat
