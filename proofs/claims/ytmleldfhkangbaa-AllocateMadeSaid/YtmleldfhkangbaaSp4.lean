/- The stable sort: merging in place. No condition. -/
import Derived.Test.YtmleldfhkangbaaSp3
namespace Go.Proofs.Ytmleldfhkangbaa
open Go Go.Sq

theorem half_nat {i j : Nat} (h : i + j ≤ 4611686018427387904) : wi64 (Int.fdiv (wu64 (wi64 ((i : Int) + (j : Int)))) (2 ^ shAmt .u64 1)) = (((i + j) / 2 : Nat) : Int) := by
  have e0 : wi64 ((i : Int) + (j : Int)) = (i : Int) + (j : Int) := wi (by omega)
  have e1 : wu64 ((i : Int) + (j : Int)) = (i : Int) + (j : Int) := by
    show IntKind.u64.wrap _ = _
    rw [show IntKind.u64.wrap ((i : Int) + (j : Int)) = ((i : Int) + (j : Int)) % 18446744073709551616 from rfl]
    omega
  have e2 : (2 : Int) ^ shAmt .u64 1 = 2 := by kernel_rfl
  rw [e0, e1, e2, Int.fdiv_eq_ediv_of_nonneg _ (by omega), wi (by omega)]
  omega

theorem bsearch {step : Int × Int × List Int → Option ((Int × Int × List Int) ⊕ (Int × List Int))} {d : List Int} {lo hi : Nat} (P : Nat → Bool)
    (hs : ∀ i j : Nat, lo ≤ i → i < j → j ≤ hi → step ((i : Int), (j : Int), d) = some (.inl (bif P ((i + j) / 2) then ((((i + j) / 2 + 1 : Nat) : Int), (j : Int), d) else ((i : Int), (((i + j) / 2 : Nat) : Int), d))))
    (hd : ∀ i : Nat, step ((i : Int), (i : Int), d) = some (.inr ((i : Int), d))) (h : lo ≤ hi) :
    ∃ k : Nat, iter step ((lo : Int), (hi : Int), d) = some ((k : Int), d) ∧ lo ≤ k ∧ k ≤ hi ∧ (k = lo ∨ P (k - 1) = true) ∧ (k = hi ∨ P k = false) := by
  have key : ∃ e, iter step ((lo : Int), (hi : Int), d) = some e ∧ ∃ k : Nat, e = ((k : Int), d) ∧ lo ≤ k ∧ k ≤ hi ∧ (k = lo ∨ P (k - 1) = true) ∧ (k = hi ∨ P k = false) := by
    refine iter_inv (fun z => ∃ i j : Nat, z = ((i : Int), (j : Int), d) ∧ lo ≤ i ∧ i ≤ j ∧ j ≤ hi ∧ (i = lo ∨ P (i - 1) = true) ∧ (j = hi ∨ P j = false)) (fun z => (z.2.1 - z.1).toNat) _ ?_ ⟨lo, hi, rfl, Nat.le_refl _, h, Nat.le_refl _, .inl rfl, .inl rfl⟩
    rintro _ ⟨i, j, rfl, h1, h2, h3, h4, h5⟩
    by_cases hij : i < j
    · right
      refine ⟨_, hs i j h1 hij h3, ?_, ?_⟩
      · cases hP : P ((i + j) / 2) with
        | true => exact ⟨(i + j) / 2 + 1, j, rfl, by omega, by omega, h3, .inr (by simpa using hP), h5⟩
        | false => exact ⟨i, (i + j) / 2, rfl, h1, by omega, by omega, h4, .inr hP⟩
      · cases hP : P ((i + j) / 2) with
        | true => simp only [cond_true]; omega
        | false => simp only [cond_false]; omega
    · left
      obtain rfl : i = j := by omega
      exact ⟨_, hd i, i, rfl, h1, h3, h4, h5⟩
  obtain ⟨e, q1, k, rfl, q2⟩ := key
  exact ⟨k, q1, q2⟩

/-- An element moves to the right. -/
theorem shiftR_eq {s : Int × List Int} {P B R : List Int} {x : Int} (hs : s.1 = ((P.length + 1 + B.length : Nat) : Int)) (hl : P.length + B.length + R.length ≤ 2305843009213693952) :
    iter (fun z : Int × List Int => slices_symMergeCmpFunc_int_L1 s z.1 z.2) ((P.length : Int), P ++ x :: (B ++ R)) = some (P ++ (B ++ x :: R)) := by
  have key : ∃ e, iter (fun z : Int × List Int => slices_symMergeCmpFunc_int_L1 s z.1 z.2) ((P.length : Int), P ++ x :: (B ++ R)) = some e ∧ e = P ++ (B ++ x :: R) := by
    refine iter_inv (fun z => ∃ B1 B2, B = B1 ++ B2 ∧ z = (((P.length + B1.length : Nat) : Int), P ++ (B1 ++ x :: (B2 ++ R)))) (fun z => (((P.length + B.length : Nat) : Int) - z.1).toNat) _ ?_ ⟨[], B, rfl, by simp⟩
    rintro _ ⟨B1, B2, h1, rfl⟩
    have hlen : B.length = B1.length + B2.length := by rw [h1]; simp
    unfold slices_symMergeCmpFunc_int_L1
    simp only [hs]
    rw [show wi64 (((P.length + 1 + B.length : Nat) : Int) - 1) = ((P.length + B.length : Nat) : Int) by rw [wi (by omega)]; omega]
    cases B2 with
    | nil =>
      left
      refine ⟨P ++ (B1 ++ x :: R), ?_, by rw [h1]; simp⟩
      rw [show decide (((P.length + B1.length : Nat) : Int) < ((P.length + B.length : Nat) : Int)) = false by simp only [decide_eq_false_iff_not]; simp at hlen; omega]
      simp
    | cons e B2 =>
      right
      simp only [List.length_cons] at hlen
      refine ⟨(((P.length + (B1 ++ [e]).length : Nat) : Int), P ++ ((B1 ++ [e]) ++ x :: (B2 ++ R))), ?_, ⟨B1 ++ [e], B2, by rw [h1]; simp, rfl⟩, ?_⟩
      · rw [show decide (((P.length + B1.length : Nat) : Int) < ((P.length + B.length : Nat) : Int)) = true by simp only [decide_eq_true_eq]; omega]
        have hd : P ++ (B1 ++ x :: (e :: B2 ++ R)) = (P ++ B1) ++ x :: e :: (B2 ++ R) := by simp
        have hPT : P.length + B1.length = (P ++ B1).length := by simp
        rw [hd, hPT, show wi64 (((P ++ B1).length : Int) + 1) = (((P ++ B1).length + 1 : Nat) : Int) by rw [wi (by simp; omega)]; omega]
        have g1 : inB (((P ++ B1).length + 1 : Nat) : Int) ((P ++ B1) ++ x :: e :: (B2 ++ R)).length = true := inB_iff.2 ⟨by omega, by simp; omega⟩
        have g0 : inB ((P ++ B1).length : Int) ((P ++ B1) ++ x :: e :: (B2 ++ R)).length = true := inB_iff.2 ⟨by omega, by simp; omega⟩
        simp only [cond_true, List.length_set, gd_t g1, gd_t g0, Int.toNat_natCast, get_0, get_1]
        rw [List.set_comm _ _ (by omega), set_swap]
        simp; omega
      · simp only [List.length_append, List.length_singleton]; omega
  obtain ⟨e, q, rfl⟩ := key
  exact q

/-- An element moves to the left. -/
theorem shiftL_eq {s : Int × List Int} {P B R : List Int} {x : Int} (hs : s.1 = (P.length : Int)) (hl : P.length + B.length + R.length ≤ 2305843009213693952) :
    iter (fun z : Int × List Int => slices_symMergeCmpFunc_int_L3 s z.1 z.2) (((P.length + B.length : Nat) : Int), P ++ (B ++ x :: R)) = some (P ++ x :: (B ++ R)) := by
  have key : ∃ e, iter (fun z : Int × List Int => slices_symMergeCmpFunc_int_L3 s z.1 z.2) (((P.length + B.length : Nat) : Int), P ++ (B ++ x :: R)) = some e ∧ e = P ++ x :: (B ++ R) := by
    refine iter_inv (fun z => ∃ B1 B2, B = B1 ++ B2 ∧ z = (((P.length + B1.length : Nat) : Int), P ++ (B1 ++ x :: (B2 ++ R)))) (fun z => z.1.toNat) _ ?_ ⟨B, [], by simp, by simp⟩
    rintro _ ⟨B1, B2, h1, rfl⟩
    have hlen : B.length = B1.length + B2.length := by rw [h1]; simp
    unfold slices_symMergeCmpFunc_int_L3
    simp only [hs]
    rcases List.eq_nil_or_concat B1 with rfl | ⟨T, e, rfl⟩
    · left
      refine ⟨P ++ x :: (B2 ++ R), ?_, by rw [h1]; simp⟩
      simp
    · right
      rw [List.concat_eq_append] at *
      simp only [List.length_append, List.length_singleton] at hlen
      refine ⟨(((P.length + T.length : Nat) : Int), P ++ (T ++ x :: ((e :: B2) ++ R))), ?_, ⟨T, e :: B2, by rw [h1]; simp, rfl⟩, ?_⟩
      · rw [show decide ((P.length : Int) < ((P.length + (T ++ [e]).length : Nat) : Int)) = true by simp; omega]
        have hd : P ++ ((T ++ [e]) ++ x :: (B2 ++ R)) = (P ++ T) ++ e :: x :: (B2 ++ R) := by simp
        have hPT : P.length + (T ++ [e]).length = (P ++ T).length + 1 := by simp; omega
        rw [hd, hPT, show wi64 ((((P ++ T).length + 1 : Nat) : Int) - 1) = ((P ++ T).length : Int) by rw [wi (by simp; omega)]; omega]
        have g1 : inB (((P ++ T).length + 1 : Nat) : Int) ((P ++ T) ++ e :: x :: (B2 ++ R)).length = true := inB_iff.2 ⟨by omega, by simp; omega⟩
        have g0 : inB ((P ++ T).length : Int) ((P ++ T) ++ e :: x :: (B2 ++ R)).length = true := inB_iff.2 ⟨by omega, by simp; omega⟩
        simp only [cond_true, List.length_set, gd_t g1, gd_t g0, Int.toNat_natCast, get_0, get_1]
        rw [set_swap]
        simp
      · show (((P.length + T.length : Nat) : Int)).toNat < (((P.length + (T ++ [e]).length : Nat) : Int)).toNat
        simp only [Int.toNat_natCast, List.length_append, List.length_singleton]; omega
  obtain ⟨e, q, rfl⟩ := key
  exact q
end Go.Proofs.Ytmleldfhkangbaa
