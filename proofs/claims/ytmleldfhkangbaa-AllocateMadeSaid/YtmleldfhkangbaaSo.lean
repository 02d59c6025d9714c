/- The stable sort: what its twins compute (begun). No condition. -/
import Derived.Test.YtmleldfhkangbaaQu
import Derived.Test.YtmleldfhkangbaaSqY
namespace Go.Proofs.Ytmleldfhkangbaa
open Go Go.Sq

theorem getD_set (l : List Int) (j k : Nat) (v : Int) : (l.set j v).getD k 0 = if j = k ∧ j < l.length then v else l.getD k 0 := by
  rw [List.getD_eq_getElem?_getD, List.getD_eq_getElem?_getD, List.getElem?_set]
  by_cases h : j = k
  · subst h
    by_cases h2 : j < l.length
    · simp [h2]
    · simp [h2]
  · simp [h]

/-- Two parts of a list change places. -/
def swapped (A B n : Nat) (l : List Int) (k : Nat) : Int := if A ≤ k ∧ k < A + n then l.getD (B + (k - A)) 0 else if B ≤ k ∧ k < B + n then l.getD (A + (k - B)) 0 else l.getD k 0

theorem swapRange_eq {A B n : Nat} {cmp : Int × Int × Unit → Option Int} {l : List Int} (h1 : A + n ≤ B) (h2 : B + n ≤ l.length) (h3 : l.length ≤ 4611686018427387904) :
    ∃ r, slices_swapRangeCmpFunc_int A B n cmp l = some r ∧ r.length = l.length ∧ ∀ k, r.getD k 0 = swapped A B n l k := by
  have key : ∃ r, iter (fun x : Int × List Int => slices_swapRangeCmpFunc_int_L0 A B n x.1 x.2) (0, l) = some r ∧ (r.length = l.length ∧ ∀ k, r.getD k 0 = swapped A B n l k) := by
    refine iter_inv (fun x : Int × List Int => ∃ i : Nat, x.1 = i ∧ i ≤ n ∧ x.2.length = l.length ∧ ∀ k, x.2.getD k 0 = swapped A B i l k) (fun x => (n - x.1).toNat) _ ?_ ⟨0, rfl, by omega, rfl, fun k => ?_⟩
    · rintro ⟨x1, x2⟩ ⟨i, h4, h5, h6, h7⟩
      simp only at h4 h6 h7
      subst h4
      unfold slices_swapRangeCmpFunc_int_L0
      simp only
      by_cases hi : i < n
      · right
        have e1 : wi64 ((B : Int) + i) = ((B + i : Nat) : Int) := by rw [wi (by omega)]; simp
        have e2 : wi64 ((A : Int) + i) = ((A + i : Nat) : Int) := by rw [wi (by omega)]; simp
        have e3 : wi64 ((i : Int) + 1) = ((i + 1 : Nat) : Int) := by rw [wi (by omega)]; simp
        have g1 : inB ((B + i : Nat) : Int) x2.length = true := inB_iff.2 (by omega)
        have g2 : inB ((A + i : Nat) : Int) x2.length = true := inB_iff.2 (by omega)
        refine ⟨(((i + 1 : Nat) : Int), (x2.set (A + i) (x2.getD (B + i) 0)).set (B + i) (x2.getD (A + i) 0)), by
          rw [e1, e2, e3]
          simp only [show (i : Int) < n by omega, decide_true, cond_true, Int.toNat_natCast, List.length_set, gd_t g1, gd_t g2], ⟨i + 1, rfl, by omega, by simp [h6], fun k => ?_⟩, ?_⟩
        · rw [getD_set, getD_set, h7, h7, h7]
          simp only [List.length_set, h6]
          unfold swapped
          by_cases c1 : B + i = k
          · subst c1
            rw [if_pos (by omega), if_neg (by omega), if_neg (by omega), if_neg (by omega), if_pos (by omega)]
            congr 1; omega
          · rw [if_neg (by omega)]
            by_cases c2 : A + i = k
            · subst c2
              rw [if_pos (by omega), if_neg (by omega), if_neg (by omega), if_pos (by omega)]
              congr 1; omega
            · rw [if_neg (by omega)]
              by_cases c3 : A ≤ k ∧ k < A + i
              · rw [if_pos c3, if_pos (by omega)]
              · rw [if_neg c3, if_neg (show ¬ (A ≤ k ∧ k < A + (i + 1)) by omega)]
                by_cases c4 : B ≤ k ∧ k < B + i
                · rw [if_pos c4, if_pos (by omega)]
                · rw [if_neg c4, if_neg (by omega)]
        · show ((n : Int) - ((i + 1 : Nat) : Int)).toNat < ((n : Int) - (i : Int)).toNat
          omega
      · left
        obtain rfl : i = n := by omega
        exact ⟨x2, by simp, h6, h7⟩
    · unfold swapped
      rw [if_neg (by omega), if_neg (by omega)]
  obtain ⟨r, q1, q2, q3⟩ := key
  exact ⟨r, by unfold slices_swapRangeCmpFunc_int; rw [q1]; rfl, q2, q3⟩

/-- A list whose parts [a, m) and [m, b) have changed places. -/
def rotated (a m b : Nat) (l : List Int) (k : Nat) : Int := if a ≤ k ∧ k < a + (b - m) then l.getD (m + (k - a)) 0 else if a + (b - m) ≤ k ∧ k < b then l.getD (a + (k - (a + (b - m)))) 0 else l.getD k 0

theorem rotate_eq {a m b : Nat} {cmp : Int × Int × Unit → Option Int} {l : List Int} (h0 : a < m) (h1 : m < b) (h2 : b ≤ l.length) (h3 : l.length ≤ 2305843009213693952) :
    ∃ r, slices_rotateCmpFunc_int a m b cmp l = some r ∧ r.length = l.length ∧ ∀ k, r.getD k 0 = rotated a m b l k := by
  have key : ∃ e : Int × List Int, iter (fun x : Int × Int × List Int => slices_rotateCmpFunc_int_L0 m cmp x.1 x.2.1 x.2.2) (((m - a : Nat) : Int), ((b - m : Nat) : Int), l) = some e ∧
      ∃ i : Nat, e.1 = i ∧ 0 < i ∧ i ≤ m - a ∧ m + i ≤ b ∧ e.2.length = l.length ∧ ∀ k, rotated (m - i) m (m + i) e.2 k = rotated a m b l k := by
    refine iter_inv (fun x : Int × Int × List Int => ∃ i j : Nat, x.1 = i ∧ x.2.1 = j ∧ 0 < i ∧ 0 < j ∧ i ≤ m - a ∧ j ≤ b - m ∧ x.2.2.length = l.length ∧ ∀ k, rotated (m - i) m (m + j) x.2.2 k = rotated a m b l k)
      (fun x => (x.1 + x.2.1).toNat) _ ?_ ⟨m - a, b - m, rfl, rfl, by omega, by omega, by omega, by omega, rfl, fun k => by rw [show m - (m - a) = a by omega, show m + (b - m) = b by omega]⟩
    rintro ⟨x1, x2, x3⟩ ⟨i, j, h4, h5, h6, h7, h8, h9, h10, h11⟩
    simp only at h4 h5 h10 h11
    subst h4 h5
    unfold slices_rotateCmpFunc_int_L0
    simp only
    by_cases hij : i = j
    · subst hij
      left
      exact ⟨((i : Int), x3), by simp, i, rfl, h6, h8, by omega, h10, h11⟩
    · right
      have c0 : ¬ (i : Int) = j := by omega
      by_cases hlt : j < i
      · have e1 : wi64 ((m : Int) - i) = ((m - i : Nat) : Int) := by rw [wi (by omega)]; omega
        have e2 : wi64 ((i : Int) - j) = ((i - j : Nat) : Int) := by rw [wi (by omega)]; omega
        obtain ⟨r, r1, r2, r3⟩ := swapRange_eq (A := m - i) (B := m) (n := j) (cmp := cmp) (l := x3) (by omega) (by omega) (by omega)
        refine ⟨(((i - j : Nat) : Int), (j : Int), r), by
          rw [e1, e2]
          simp only [c0, decide_false, Bool.not_false, cond_true, show (j : Int) < i by omega, decide_true, r1, Option.bind_some], ⟨i - j, j, rfl, rfl, by omega, h7, by omega, h9, by simp [r2, h10], fun k => ?_⟩, ?_⟩
        · rw [← h11 k]
          unfold rotated
          simp only [r3]
          unfold swapped
          repeat' split
          all_goals first | omega | (congr 1; omega) | rfl
        · show (((i - j : Nat) : Int) + (j : Int)).toNat < ((i : Int) + j).toNat
          omega
      · have e1 : wi64 ((m : Int) - i) = ((m - i : Nat) : Int) := by rw [wi (by omega)]; omega
        have e2 : wi64 ((j : Int) - i) = ((j - i : Nat) : Int) := by rw [wi (by omega)]; omega
        have e3 : wi64 (wi64 ((m : Int) + j) - i) = ((m + j - i : Nat) : Int) := by rw [show wi64 ((m : Int) + j) = (m : Int) + j from wi (by omega), wi (by omega)]; omega
        obtain ⟨r, r1, r2, r3⟩ := swapRange_eq (A := m - i) (B := m + j - i) (n := i) (cmp := cmp) (l := x3) (by omega) (by omega) (by omega)
        refine ⟨((i : Int), ((j - i : Nat) : Int), r), by
          rw [e1, e2, e3]
          simp only [c0, decide_false, Bool.not_false, cond_true, show ¬ (j : Int) < i by omega, cond_false, r1, Option.bind_some], ⟨i, j - i, rfl, rfl, h6, by omega, h8, by omega, by simp [r2, h10], fun k => ?_⟩, ?_⟩
        · rw [← h11 k]
          unfold rotated
          simp only [r3]
          unfold swapped
          repeat' split
          all_goals first | omega | (congr 1; omega) | rfl
        · show ((i : Int) + ((j - i : Nat) : Int)).toNat < ((i : Int) + j).toNat
          omega
  obtain ⟨⟨e1, e2⟩, q1, i, q2, q3, q4, q5, q6, q7⟩ := key
  simp only at q2 q6 q7
  subst q2
  obtain ⟨r, r1, r2, r3⟩ := swapRange_eq (A := m - i) (B := m) (n := i) (cmp := cmp) (l := e2) (by omega) (by omega) (by omega)
  refine ⟨r, ?_, by rw [r2, q6], fun k => ?_⟩
  · unfold slices_rotateCmpFunc_int
    rw [show wi64 ((m : Int) - a) = ((m - a : Nat) : Int) by rw [wi (by omega)]; omega, show wi64 ((b : Int) - m) = ((b - m : Nat) : Int) by rw [wi (by omega)]; omega, q1]
    simp only [Option.bind_some]
    rw [show wi64 ((m : Int) - i) = ((m - i : Nat) : Int) by rw [wi (by omega)]; omega, r1]; rfl
  · rw [r3, ← q7 k]
    unfold swapped rotated
    repeat' split
    all_goals first | omega | (congr 1; omega) | rfl
end Go.Proofs.Ytmleldfhkangbaa
