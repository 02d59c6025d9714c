/- Sorting by insertion, string. No condition. -/
import Derived.Test.YtmleldfhkangbaaQu
import Derived.Test.YtmleldfhkangbaaSqY
namespace Go.Proofs.Ytmleldfhkangbaa.Sstring
open Go Go.Sq

theorem set_swap (P T : List (List UInt8)) (e x : List UInt8) : ((P ++ e :: x :: T).set (P.length + 1) e).set P.length x = P ++ x :: e :: T := by
  induction P with
  | nil => rfl
  | cons y P ih => simp only [List.cons_append, List.length_cons, List.set_cons_succ, ih]
theorem get_0 (P T : List (List UInt8)) (e : List UInt8) : (P ++ e :: T).getD P.length ([]) = e := by
  rw [List.getD_eq_getElem?_getD, List.getElem?_append_right (Nat.le_refl _)]; simp
theorem get_1 (P T : List (List UInt8)) (e x : List UInt8) : (P ++ e :: x :: T).getD (P.length + 1) ([]) = x := by
  rw [List.getD_eq_getElem?_getD, List.getElem?_append_right (by omega)]; simp

/-- What the comparison says of the elements. -/
def CmpOn (cmp : List UInt8 × List UInt8 × Unit → Option Int) (c : List UInt8 → List UInt8 → Int) (ok : List UInt8 → Prop) : Prop := ∀ x y, ok x → ok y → cmp (x, y, ()) = some (c x y)

theorem insert_eq {cmp : List UInt8 × List UInt8 × Unit → Option Int} {c : List UInt8 → List UInt8 → Int} {ok : List UInt8 → Prop} (hc : CmpOn cmp c ok) {P S R : List (List UInt8)} {x : List UInt8} (hx : ok x) (hS : ∀ e ∈ S, ok e) (hl : P.length + S.length + R.length ≤ 2305843009213693952) :
    ∃ S1 S2, S = S1 ++ S2 ∧ (∀ e ∈ S2, c x e < 0) ∧ (∀ e, S1.getLast? = some e → ¬ c x e < 0) ∧
      iter (fun z : Int × List (List UInt8) => slices_insertionSortCmpFunc_string_L1 (P.length : Int) cmp z.1 z.2) (((P.length + S.length : Nat) : Int), P ++ (S ++ x :: R)) = some (P ++ (S1 ++ x :: (S2 ++ R))) := by
  have key : ∃ r, iter (fun z : Int × List (List UInt8) => slices_insertionSortCmpFunc_string_L1 (P.length : Int) cmp z.1 z.2) (((P.length + S.length : Nat) : Int), P ++ (S ++ x :: R)) = some r ∧
      ∃ S1 S2, S = S1 ++ S2 ∧ (∀ e ∈ S2, c x e < 0) ∧ (∀ e, S1.getLast? = some e → ¬ c x e < 0) ∧ r = P ++ (S1 ++ x :: (S2 ++ R)) := by
    refine iter_inv (fun z : Int × List (List UInt8) => ∃ S1 S2, S = S1 ++ S2 ∧ (∀ e ∈ S2, c x e < 0) ∧ z.1 = ((P.length + S1.length : Nat) : Int) ∧ z.2 = P ++ (S1 ++ x :: (S2 ++ R))) (fun z => z.1.toNat) _ ?_ ⟨S, [], by simp, by simp, rfl, by simp⟩
    rintro ⟨j, d⟩ ⟨S1, S2, h1, h2, h3, h4⟩
    simp only at h3 h4
    subst h3 h4
    have hlen : S.length = S1.length + S2.length := by rw [h1]; simp
    unfold slices_insertionSortCmpFunc_string_L1
    simp only
    rcases List.eq_nil_or_concat S1 with rfl | ⟨T, e, rfl⟩
    · left
      exact ⟨_, by simp, [], S2, h1, h2, by simp, rfl⟩
    · rw [List.concat_eq_append] at *
      have hd : P ++ ((T ++ [e]) ++ x :: (S2 ++ R)) = (P ++ T) ++ e :: x :: (S2 ++ R) := by simp
      simp only [List.length_append, List.length_singleton] at hlen
      have ejl : P.length + (T ++ [e]).length = (P ++ T).length + 1 := by simp; omega
      rw [ejl]
      have he : ok e := hS e (by rw [h1]; simp)
      have hPT : (P ++ T).length = P.length + T.length := by simp
      have ej : wi64 ((((P ++ T).length + 1 : Nat) : Int) - 1) = (((P ++ T).length : Nat) : Int) := by rw [wi (by omega)]; omega
      have g1 : inB (((P ++ T).length + 1 : Nat) : Int) ((P ++ T) ++ e :: x :: (S2 ++ R)).length = true := inB_iff.2 ⟨by omega, by simp; omega⟩
      have g0 : inB (((P ++ T).length : Nat) : Int) ((P ++ T) ++ e :: x :: (S2 ++ R)).length = true := inB_iff.2 ⟨by omega, by simp; omega⟩
      have hlt : decide ((P.length : Int) < (((P ++ T).length + 1 : Nat) : Int)) = true := by simp; omega
      by_cases hcx : c x e < 0
      · right
        refine ⟨((((P ++ T).length : Nat) : Int), P ++ (T ++ x :: (e :: S2 ++ R))), ?_, ⟨T, e :: S2, by rw [h1]; simp, fun y hy => (List.mem_cons.1 hy).elim (fun h => by rw [h]; exact hcx) (h2 y), by simp, by simp⟩, ?_⟩
        · rw [hd, ej, hlt]
          simp only [cond_true, gd_t g1, gd_t g0, Int.toNat_natCast, get_0, get_1, hc x e hx he, Option.bind_some, hcx, decide_true, List.length_set, set_swap]
          simp
        · show (((P ++ T).length : Nat) : Int).toNat < (((P ++ T).length + 1 : Nat) : Int).toNat
          omega
      · left
        refine ⟨P ++ ((T ++ [e]) ++ x :: (S2 ++ R)), ?_, T ++ [e], S2, h1, h2, by simpa using hcx, rfl⟩
        rw [hd, ej, hlt]
        simp only [cond_true, gd_t g1, gd_t g0, Int.toNat_natCast, get_0, get_1, hc x e hx he, Option.bind_some, hcx, decide_false, cond_false]
  obtain ⟨r, q1, S1, S2, q2, q3, q4, rfl⟩ := key
  exact ⟨S1, S2, q2, q3, q4, q1⟩

/-- In order: no later one is less than an earlier one. -/
def Srt (c : List UInt8 → List UInt8 → Int) (l : List (List UInt8)) : Prop := l.Pairwise fun x y => ¬ c y x < 0
/-- The comparison is an order. -/
structure Ord (c : List UInt8 → List UInt8 → Int) : Prop where
  asym : ∀ x y, c x y < 0 → ¬ c y x < 0
  trans : ∀ x y z, ¬ c y x < 0 → ¬ c z y < 0 → ¬ c z x < 0
theorem insert_srt {c : List UInt8 → List UInt8 → Int} (ho : Ord c) {S1 S2 : List (List UInt8)} {x : List UInt8} (h : Srt c (S1 ++ S2)) (h2 : ∀ e ∈ S2, c x e < 0) (h1 : ∀ e, S1.getLast? = some e → ¬ c x e < 0) : Srt c (S1 ++ x :: S2) := by
  unfold Srt at h ⊢
  rw [List.pairwise_append] at h ⊢
  rw [List.pairwise_cons]
  refine ⟨h.1, ⟨fun y hy => ho.asym x y (h2 y hy), h.2.1⟩, fun y hy z hz => ?_⟩
  rcases List.mem_cons.1 hz with rfl | hz
  · rcases List.eq_nil_or_concat S1 with rfl | ⟨T, e, rfl⟩
    · cases hy
    · rw [List.concat_eq_append] at *
      have he := h1 e (by simp)
      rcases List.mem_append.1 hy with hy | hy
      · have := (List.pairwise_append.1 h.1).2.2 y hy e (by simp)
        exact ho.trans y e z this he
      · rw [List.mem_singleton.1 hy]; exact he
  · exact h.2.2 y hy z hz

theorem insertionSort_ok {cmp : List UInt8 × List UInt8 × Unit → Option Int} {c : List UInt8 → List UInt8 → Int} {ok : List UInt8 → Prop} (hc : CmpOn cmp c ok) (ho : Ord c) {P S R : List (List UInt8)} (hS : ∀ e ∈ S, ok e) (hl : P.length + S.length + R.length ≤ 2305843009213693952) :
    ∃ T, T.Perm S ∧ Srt c T ∧ slices_insertionSortCmpFunc_string (P.length : Int) ((P.length + S.length : Nat) : Int) cmp (P ++ (S ++ R)) = some (P ++ (T ++ R)) := by
  have key : ∃ r, iter (fun z : Int × List (List UInt8) => slices_insertionSortCmpFunc_string_L0 (P.length : Int) ((P.length + S.length : Nat) : Int) cmp z.1 z.2) (((P.length + 1 : Nat) : Int), P ++ (S ++ R)) = some r ∧ ∃ T, T.Perm S ∧ Srt c T ∧ r = P ++ (T ++ R) := by
    refine iter_inv (fun z : Int × List (List UInt8) => ∃ (k : Nat) (T : List (List UInt8)), z.1 = ((P.length + k : Nat) : Int) ∧ 1 ≤ k ∧ T.Perm (S.take k) ∧ Srt c T ∧ z.2 = P ++ (T ++ (S.drop k ++ R))) (fun z => (((P.length + S.length : Nat) : Int) - z.1).toNat) _ ?_ ⟨1, S.take 1, rfl, by omega, .refl _, ?_, ?_⟩
    · rintro ⟨j, d⟩ ⟨k, T, h1, h2, hp, hs, h3⟩
      simp only at h1 h3
      subst h1 h3
      unfold slices_insertionSortCmpFunc_string_L0
      simp only
      by_cases hk : k < S.length
      · right
        have hx : S.drop k = S[k] :: S.drop (k + 1) := List.drop_eq_getElem_cons hk
        have hlen : T.length = k := by rw [hp.length_eq]; simp; omega
        obtain ⟨S1, S2, q1, q2, q3, q4⟩ := insert_eq hc (P := P) (S := T) (R := S.drop (k + 1) ++ R) (x := S[k]) (hS _ (List.getElem_mem hk)) (fun e he => hS e (List.mem_of_mem_take (hp.mem_iff.1 he))) (by rw [hlen]; simp; omega)
        rw [hlen] at q4
        subst q1
        refine ⟨(((P.length + (k + 1) : Nat) : Int), P ++ ((S1 ++ S[k] :: S2) ++ (S.drop (k + 1) ++ R))), ?_, ⟨k + 1, S1 ++ S[k] :: S2, rfl, by omega, ?_, insert_srt ho hs q2 q3, rfl⟩, ?_⟩
        · rw [show decide (((P.length + k : Nat) : Int) < ((P.length + S.length : Nat) : Int)) = true by simp; omega, hx]
          simp only [cond_true, List.cons_append]
          rw [q4]
          simp only [Option.bind_some]
          rw [wi (by omega)]
          simp
          omega
        · rw [List.take_succ_eq_append_getElem hk]
          have h5 : (S1 ++ S[k] :: S2).Perm ((S1 ++ S2) ++ [S[k]]) := List.perm_middle.trans (List.perm_append_comm (l₁ := [S[k]]) (l₂ := S1 ++ S2))
          exact h5.trans (hp.append_right _)
        · show (((P.length + S.length : Nat) : Int) - ((P.length + (k + 1) : Nat) : Int)).toNat < (((P.length + S.length : Nat) : Int) - ((P.length + k : Nat) : Int)).toNat
          omega
      · left
        refine ⟨P ++ (T ++ (S.drop k ++ R)), ?_, T, ?_, hs, ?_⟩
        · rw [show decide (((P.length + k : Nat) : Int) < ((P.length + S.length : Nat) : Int)) = false by simp; omega]; rfl
        · rwa [List.take_of_length_le (by omega)] at hp
        · rw [List.drop_of_length_le (by omega)]; simp
    · unfold Srt
      cases S with
      | nil => simp
      | cons x S => simp
    · cases S <;> simp
  obtain ⟨r, q1, T, q2, q3, rfl⟩ := key
  refine ⟨T, q2, q3, ?_⟩
  unfold slices_insertionSortCmpFunc_string
  rw [show wi64 ((P.length : Int) + 1) = ((P.length + 1 : Nat) : Int) by rw [wi (by omega)]; simp, q1]; rfl

theorem len_some (n : Nat) (h : n ≤ 12) : ∃ r, math_bits_Len (wu64 (n : Int)) = some r := by
  have h0 : (List.range 13).all (fun n => (math_bits_Len (wu64 (n : Int))).isSome) = true := by kernel_rfl
  have := List.all_eq_true.1 h0 n (List.mem_range.2 (by omega))
  exact Option.isSome_iff_exists.1 this
theorem pdq_succ (n : Nat) : slices_pdqsortCmpFunc_string_F (n + 1) = slices_pdqsortCmpFunc_string_S (slices_pdqsortCmpFunc_string_F n) := rfl
/-- Short lists are sorted. -/
theorem sort_short {cmp : List UInt8 × List UInt8 × Unit → Option Int} {c : List UInt8 → List UInt8 → Int} {ok : List UInt8 → Prop} (hc : CmpOn cmp c ok) (ho : Ord c) {S : List (List UInt8)} (hS : ∀ e ∈ S, ok e) (hl : S.length ≤ 12) : ∃ T, T.Perm S ∧ Srt c T ∧ slices_SortFunc_string_string cmp S = some T := by
  obtain ⟨r, hr⟩ := len_some S.length hl
  obtain ⟨T, h1, h2, h3⟩ := insertionSort_ok hc ho (P := []) (S := S) (R := []) hS (by simp; omega)
  simp only [List.length_nil, Nat.zero_add, List.nil_append, List.append_nil] at h3
  refine ⟨T, h1, h2, ?_⟩
  unfold slices_SortFunc_string_string slices_pdqsortCmpFunc_string
  rw [hr, show (18446744073709551616 : Nat) = 18446744073709551615 + 1 from rfl, pdq_succ]
  simp only [Option.bind_some]
  unfold slices_pdqsortCmpFunc_string_S
  have h4 : iter (fun x : Int × Int × Int × Bool × Bool × List (List UInt8) => slices_pdqsortCmpFunc_string_L0 cmp (slices_pdqsortCmpFunc_string_F 18446744073709551615) x.1 x.2.1 x.2.2.1 x.2.2.2.1 x.2.2.2.2.1 x.2.2.2.2.2) (0, (S.length : Int), r, true, true, S) = some T := by
    refine iter_inr ?_
    unfold slices_pdqsortCmpFunc_string_L0
    simp only
    rw [show wi64 ((S.length : Int) - 0) = (S.length : Int) by rw [wi (by omega)]; omega, dec_t (show (S.length : Int) ≤ 12 by omega), show ((0 : Int)) = ((0 : Nat) : Int) from rfl, h3]; rfl
  rw [h4]; rfl

end Go.Proofs.Ytmleldfhkangbaa.Sstring
