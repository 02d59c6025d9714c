/- Texts in lines of words, in plain Lean: what the functions compute. No condition. -/
import Derived.Test.YtmhoomlmmecmdaaDoorLi1
namespace Go.Proofs.YtmhoomlmmecmdaaDoor
open Go Go.Sq
abbrev Str := List UInt8

/-! ### The parts between bytes c -/
def splB (c : UInt8) : Str → List Str
  | [] => [[]]
  | x :: l => bif x == c then [] :: splB c l else match splB c l with
    | [] => [[x]]
    | h :: t => (x :: h) :: t
theorem splB_ne (c : UInt8) (s : Str) : splB c s ≠ [] := by
  cases s with
  | nil => simp [splB]
  | cons x l =>
    unfold splB
    cases x == c with
    | true => simp
    | false => simp only [cond_false]; split <;> simp
theorem splB_no {c : UInt8} : ∀ {X : Str}, c ∉ X → splB c X = [X]
  | [], _ => rfl
  | x :: l, h => by
    simp only [List.mem_cons, not_or] at h
    unfold splB
    rw [show (x == c) = false by rw [beq_eq_false_iff_ne]; exact fun e => h.1 e.symm, cond_false, splB_no h.2]
theorem splB_app {c : UInt8} (r : Str) : ∀ {X : Str}, c ∉ X → splB c (X ++ c :: r) = X :: splB c r
  | [], _ => by simp [splB]
  | x :: l, h => by
    simp only [List.mem_cons, not_or] at h
    rw [List.cons_append]
    conv => lhs; unfold splB
    rw [show (x == c) = false by rw [beq_eq_false_iff_ne]; exact fun e => h.1 e.symm, cond_false, splB_app r h.2]
theorem splB_len (c : UInt8) : ∀ s : Str, (splB c s).length = s.count c + 1
  | [] => rfl
  | x :: l => by
    unfold splB
    rw [List.count_cons]
    have ih := splB_len c l
    cases hx : x == c with
    | true => simp [ih]
    | false =>
      simp only [cond_false, Bool.false_eq_true, if_false, Nat.add_zero]
      split
      · rename_i h; exact absurd h (splB_ne c l)
      · rename_i h t hs
        rw [hs] at ih
        exact ih
/-! ### The lines of a text -/
def lns : Str → List Str
  | [] => []
  | x :: l => bif x == 10 then [] :: lns l else match lns l with
    | [] => [[x]]
    | h :: t => (x :: h) :: t
theorem lns_no : ∀ {X : Str}, (10 : UInt8) ∉ X → lns X = if X = [] then [] else [X]
  | [], _ => rfl
  | x :: l, h => by
    simp only [List.mem_cons, not_or] at h
    unfold lns
    rw [show (x == (10 : UInt8)) = false by rw [beq_eq_false_iff_ne]; exact fun e => h.1 e.symm, cond_false, lns_no h.2]
    by_cases hl : l = []
    · subst hl; rfl
    · rw [if_neg hl, if_neg (by simp)]
theorem lns_app (r : Str) : ∀ {X : Str}, (10 : UInt8) ∉ X → lns (X ++ 10 :: r) = X :: lns r
  | [], _ => by simp [lns]
  | x :: l, h => by
    simp only [List.mem_cons, not_or] at h
    rw [List.cons_append]
    conv => lhs; unfold lns
    rw [show (x == (10 : UInt8)) = false by rw [beq_eq_false_iff_ne]; exact fun e => h.1 e.symm, cond_false, lns_app r h.2]
theorem lns_len : ∀ s : Str, (lns s).length = s.count 10 + (if s = [] ∨ s.getLast? = some 10 then 0 else 1)
  | [] => rfl
  | x :: l => by
    unfold lns
    rw [List.count_cons]
    have ih := lns_len l
    have e0 : (x :: l = [] ∨ (x :: l).getLast? = some 10) ↔ (if l = [] then x = 10 else l.getLast? = some 10) := by
      cases l with
      | nil => simp
      | cons y r => simp [List.getLast?_cons_cons]
    cases hx : x == (10 : UInt8) with
    | true =>
      rw [beq_iff_eq] at hx; subst hx
      simp only [cond_true, List.length_cons, ih, if_true]
      by_cases hl : l = []
      · subst hl; simp
      · have e1 : (l = [] ∨ l.getLast? = some 10) ↔ ((10 : UInt8) :: l = [] ∨ ((10 : UInt8) :: l).getLast? = some 10) := by rw [e0, if_neg hl]; simp [hl]
        simp only [e1]; omega
    | false =>
      rw [beq_eq_false_iff_ne] at hx
      simp only [cond_false, Bool.false_eq_true, if_false, Nat.add_zero]
      split
      · rename_i h
        rw [h] at ih
        have hl : l = [] := by
          by_cases hl : l = []
          · exact hl
          · exfalso
            cases l with
            | nil => exact hl rfl
            | cons y r =>
              have : lns (y :: r) ≠ [] := by
                unfold lns
                cases y == (10 : UInt8) with
                | true => simp
                | false => simp only [cond_false]; split <;> simp
              exact this h
        subst hl
        simp [hx]
      · rename_i h t hs
        rw [hs] at ih
        have hl : l ≠ [] := fun e => by rw [e] at hs; cases hs
        have e1 : (l = [] ∨ l.getLast? = some 10) ↔ (x :: l = [] ∨ (x :: l).getLast? = some 10) := by rw [e0, if_neg hl]; simp [hl]
        simp only [e1] at ih
        exact ih
/-! ### The first byte c -/
theorem idx_spec (c : UInt8) : ∀ s : Str, (c ∉ s ∧ Lib.indexByte s c = -1) ∨ ∃ X r, s = X ++ c :: r ∧ c ∉ X ∧ Lib.indexByte s c = (X.length : Int)
  | [] => .inl ⟨by simp, rfl⟩
  | b :: l => by
    unfold Lib.indexByte
    cases hb : b == c with
    | true =>
      rw [beq_iff_eq] at hb; subst hb
      exact .inr ⟨[], l, rfl, by simp, by simp⟩
    | false =>
      rw [beq_eq_false_iff_ne] at hb
      simp only [Bool.false_eq_true, if_false]
      rcases idx_spec c l with ⟨h1, h2⟩ | ⟨X, r, rfl, h2, h3⟩
      · refine .inl ⟨by simp only [List.mem_cons, not_or]; exact ⟨fun e => hb e.symm, h1⟩, by rw [h2]; rfl⟩
      · refine .inr ⟨b :: X, r, rfl, by simp only [List.mem_cons, not_or]; exact ⟨fun e => hb e.symm, h2⟩, ?_⟩
        rw [h3]
        have : ((X.length : Int) == -1) = false := by rw [beq_eq_false_iff_ne]; omega
        rw [this]
        simp

theorem c_eq (c : UInt8) : (Int.ofNat (([c] : Str).getD 0 0).toNat).toNat.toUInt8 = c := by
  show c.toNat.toUInt8 = c
  simp
theorem index_eq (s : Str) (c : UInt8) : internal_stringslite_Index s [c] = some (Lib.indexByte s c) := by
  unfold internal_stringslite_Index internal_stringslite_IndexByte idxB
  rw [dec_f (show ¬ ((([c] : Str).length : Int) = 0) by simp), cond_false, Option.bind_some]
  by_cases h : [c] = s
  · rw [dec_t h, cond_true, ← h]
    unfold Lib.indexByte
    simp
  · rw [dec_f h, cond_false, dec_t (show (([c] : Str).length : Int) = 1 by simp), cond_true, gd_t (inB0 (by simp)), c_eq]; rfl
theorem count_eq (s : Str) (c : UInt8) : strings_Count s [c] = some ((s.count c : Nat) : Int) := by
  unfold strings_Count cntB
  rw [dec_f (show ¬ ((([c] : Str).length : Int) = 0) by simp), cond_false, dec_t (show (([c] : Str).length : Int) = 1 by simp), cond_true, gd_t (inB0 (by simp)), c_eq]
  rfl
theorem cut_no {s : Str} (h : (10 : UInt8) ∉ s) : strings_Cut s [10] = some (s, [], false) := by
  unfold strings_Cut internal_stringslite_Cut
  rcases idx_spec 10 s with ⟨_, h2⟩ | ⟨X, r, rfl, _, _⟩
  · rw [index_eq, h2]; rfl
  · simp at h
theorem cut_app {X r : Str} (h : (10 : UInt8) ∉ X) (hl : (X ++ 10 :: r).length ≤ 4611686018427387904) : strings_Cut (X ++ 10 :: r) [10] = some (X, r, true) := by
  unfold strings_Cut internal_stringslite_Cut
  have hi : Lib.indexByte (X ++ 10 :: r) 10 = (X.length : Int) := by
    rcases idx_spec 10 (X ++ 10 :: r) with ⟨h1, _⟩ | ⟨Y, q, e, h2, h3⟩
    · simp at h1
    · have : splB 10 (X ++ 10 :: r) = splB 10 (Y ++ 10 :: q) := by rw [e]
      rw [splB_app _ h, splB_app _ h2] at this
      injection this with e1 _
      rw [h3, e1]
  simp only [List.length_append, List.length_cons] at hl
  rw [index_eq, hi, Option.bind_some, dec_t (show (0 : Int) ≤ (X.length : Int) by omega), cond_true]
  have e1 : wi64 ((X.length : Int) + (([10] : Str).length : Int)) = ((X.length + 1 : Nat) : Int) := by
    rw [show (([10] : Str).length : Int) = 1 from rfl, wi (by omega)]; omega
  have e2 : (X ++ 10 :: r).take X.length = X := List.take_left
  have e3 : (X ++ 10 :: r).drop (X.length + 1) = r := by simp [List.drop_append]
  rw [e1, gd_t (by simp [cutG]; omega), gd_t (by simp [cutG]; omega), Int.toNat_natCast, Int.toNat_natCast, e2, e3]; rfl
end Go.Proofs.YtmhoomlmmecmdaaDoor
