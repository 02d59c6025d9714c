/- The stable sort: inserting. No condition. -/
import Derived.Test.YtmleldfhkangbaaSo
namespace Go.Proofs.Ytmleldfhkangbaa
open Go Go.Sq

theorem set_swap (P T : List Int) (e x : Int) : ((P ++ e :: x :: T).set (P.length + 1) e).set P.length x = P ++ x :: e :: T := by
  induction P with
  | nil => rfl
  | cons y P ih => simp only [List.cons_append, List.length_cons, List.set_cons_succ, ih]
theorem get_0 (P T : List Int) (e : Int) : (P ++ e :: T).getD P.length 0 = e := by
  rw [List.getD_eq_getElem?_getD, List.getElem?_append_right (Nat.le_refl _)]; simp
theorem get_1 (P T : List Int) (e x : Int) : (P ++ e :: x :: T).getD (P.length + 1) 0 = x := by
  rw [List.getD_eq_getElem?_getD, List.getElem?_append_right (by omega)]; simp

/-- What the comparison says of the elements. -/
def CmpOn (cmp : Int × Int × Unit → Option Int) (c : Int → Int → Int) (ok : Int → Prop) : Prop := ∀ x y, ok x → ok y → cmp (x, y, ()) = some (c x y)

theorem insert_eq {cmp : Int × Int × Unit → Option Int} {c : Int → Int → Int} {ok : Int → Prop} (hc : CmpOn cmp c ok) {P S R : List Int} {x : Int} (hx : ok x) (hS : ∀ e ∈ S, ok e) (hl : P.length + S.length + R.length ≤ 2305843009213693952) :
    ∃ S1 S2, S = S1 ++ S2 ∧ (∀ e ∈ S2, c x e < 0) ∧ (∀ e, S1.getLast? = some e → ¬ c x e < 0) ∧
      iter (fun z : Int × List Int => slices_insertionSortCmpFunc_int_L1 (P.length : Int) cmp z.1 z.2) (((P.length + S.length : Nat) : Int), P ++ (S ++ x :: R)) = some (P ++ (S1 ++ x :: (S2 ++ R))) := by
  have key : ∃ r, iter (fun z : Int × List Int => slices_insertionSortCmpFunc_int_L1 (P.length : Int) cmp z.1 z.2) (((P.length + S.length : Nat) : Int), P ++ (S ++ x :: R)) = some r ∧
      ∃ S1 S2, S = S1 ++ S2 ∧ (∀ e ∈ S2, c x e < 0) ∧ (∀ e, S1.getLast? = some e → ¬ c x e < 0) ∧ r = P ++ (S1 ++ x :: (S2 ++ R)) := by
    refine iter_inv (fun z : Int × List Int => ∃ S1 S2, S = S1 ++ S2 ∧ (∀ e ∈ S2, c x e < 0) ∧ z.1 = ((P.length + S1.length : Nat) : Int) ∧ z.2 = P ++ (S1 ++ x :: (S2 ++ R))) (fun z => z.1.toNat) _ ?_ ⟨S, [], by simp, by simp, rfl, by simp⟩
    rintro ⟨j, d⟩ ⟨S1, S2, h1, h2, h3, h4⟩
    simp only at h3 h4
    subst h3 h4
    have hlen : S.length = S1.length + S2.length := by rw [h1]; simp
    unfold slices_insertionSortCmpFunc_int_L1
    simp only
    rcases List.eq_nil_or_concat S1 with rfl | ⟨T, e, rfl⟩
    · left
      exact ⟨_, by simp, [], S2, h1, h2, by simp, rfl⟩
    · rw [List.concat_eq_append] at *
      have hd : P ++ ((T ++ [e]) ++ x :: (S2 ++ R)) = (P ++ T) ++ e :: x :: (S2 ++ R) := by simp
      simp only [List.length_append, List.length_singleton] at hlen
      have ejl : P.length + (T ++ [e]).length = (P ++ T).length + 1 := by simp; omega
      rw [ejl]
      have he : ok e := hS e (by rw [h1]; simp)
      have hPT : (P ++ T).length = P.length + T.length := by simp
      have ej : wi64 ((((P ++ T).length + 1 : Nat) : Int) - 1) = (((P ++ T).length : Nat) : Int) := by rw [wi (by omega)]; omega
      have g1 : inB (((P ++ T).length + 1 : Nat) : Int) ((P ++ T) ++ e :: x :: (S2 ++ R)).length = true := inB_iff.2 ⟨by omega, by simp; omega⟩
      have g0 : inB (((P ++ T).length : Nat) : Int) ((P ++ T) ++ e :: x :: (S2 ++ R)).length = true := inB_iff.2 ⟨by omega, by simp; omega⟩
      have hlt : decide ((P.length : Int) < (((P ++ T).length + 1 : Nat) : Int)) = true := by simp; omega
      by_cases hcx : c x e < 0
      · right
        refine ⟨((((P ++ T).length : Nat) : Int), P ++ (T ++ x :: (e :: S2 ++ R))), ?_, ⟨T, e :: S2, by rw [h1]; simp, fun y hy => (List.mem_cons.1 hy).elim (fun h => by rw [h]; exact hcx) (h2 y), by simp, by simp⟩, ?_⟩
        · rw [hd, ej, hlt]
          simp only [cond_true, gd_t g1, gd_t g0, Int.toNat_natCast, get_0, get_1, hc x e hx he, Option.bind_some, hcx, decide_true, List.length_set, set_swap]
          simp
        · show (((P ++ T).length : Nat) : Int).toNat < (((P ++ T).length + 1 : Nat) : Int).toNat
          omega
      · left
        refine ⟨P ++ ((T ++ [e]) ++ x :: (S2 ++ R)), ?_, T ++ [e], S2, h1, h2, by simpa using hcx, rfl⟩
        rw [hd, ej, hlt]
        simp only [cond_true, gd_t g1, gd_t g0, Int.toNat_natCast, get_0, get_1, hc x e hx he, Option.bind_some, hcx, decide_false, cond_false]
  obtain ⟨r, q1, S1, S2, q2, q3, q4, rfl⟩ := key
  exact ⟨S1, S2, q2, q3, q4, q1⟩

/-- An element is inserted from the right, behind all that it is not less than. -/
def insR (c : Int → Int → Int) (S : List Int) (x : Int) : List Int := (S.reverse.dropWhile fun e => decide (c x e < 0)).reverse ++ x :: (S.reverse.takeWhile fun e => decide (c x e < 0)).reverse
theorem insR_eq {c : Int → Int → Int} {S1 S2 : List Int} {x : Int} (h2 : ∀ e ∈ S2, c x e < 0) (h1 : ∀ e, S1.getLast? = some e → ¬ c x e < 0) : insR c (S1 ++ S2) x = S1 ++ x :: S2 := by
  unfold insR
  rw [List.reverse_append]
  have hall : ∀ e ∈ S2.reverse, decide (c x e < 0) = true := fun e he => by simpa using h2 e (by simpa using he)
  have hd : (S1.reverse.dropWhile fun e => decide (c x e < 0)) = S1.reverse ∧ (S1.reverse.takeWhile fun e => decide (c x e < 0)) = [] := by
    cases hr : S1.reverse with
    | nil => exact ⟨rfl, rfl⟩
    | cons y r =>
      have : S1.getLast? = some y := by rw [← List.head?_reverse, hr]; rfl
      have := h1 y this
      simp [List.dropWhile, List.takeWhile, this]
  rw [List.dropWhile_append_of_pos (by simpa using hall), List.takeWhile_append_of_pos (by simpa using hall), hd.1, hd.2]
  simp
def isort (c : Int → Int → Int) (S : List Int) : List Int := S.foldl (insR c) []
theorem insR_perm (c : Int → Int → Int) (S : List Int) (x : Int) : (insR c S x).Perm (x :: S) := by
  unfold insR
  have h : S = (S.reverse.dropWhile fun e => decide (c x e < 0)).reverse ++ (S.reverse.takeWhile fun e => decide (c x e < 0)).reverse := by
    rw [← List.reverse_append, List.takeWhile_append_dropWhile, List.reverse_reverse]
  refine List.perm_middle.trans ?_
  rw [← h]
theorem foldl_perm (c : Int → Int → Int) : ∀ (S acc : List Int), (S.foldl (insR c) acc).Perm (acc ++ S)
  | [], acc => by simp
  | x :: S, acc => by
    refine (foldl_perm c S (insR c acc x)).trans ?_
    refine ((insR_perm c acc x).append_right S).trans ?_
    exact List.perm_middle.symm
theorem isort_perm (c : Int → Int → Int) (S : List Int) : (isort c S).Perm S := by simpa [isort] using foldl_perm c S []
theorem isort_concat (c : Int → Int → Int) (S : List Int) (x : Int) : isort c (S ++ [x]) = insR c (isort c S) x := by simp [isort]

theorem insertionSort_eq {cmp : Int × Int × Unit → Option Int} {c : Int → Int → Int} {ok : Int → Prop} (hc : CmpOn cmp c ok) {P S R : List Int} (hS : ∀ e ∈ S, ok e) (hl : P.length + S.length + R.length ≤ 2305843009213693952) :
    slices_insertionSortCmpFunc_int (P.length : Int) ((P.length + S.length : Nat) : Int) cmp (P ++ (S ++ R)) = some (P ++ (isort c S ++ R)) := by
  have key : ∃ r, iter (fun z : Int × List Int => slices_insertionSortCmpFunc_int_L0 (P.length : Int) ((P.length + S.length : Nat) : Int) cmp z.1 z.2) (((P.length + 1 : Nat) : Int), P ++ (S ++ R)) = some r ∧ r = P ++ (isort c S ++ R) := by
    refine iter_inv (fun z : Int × List Int => ∃ k : Nat, z.1 = ((P.length + k : Nat) : Int) ∧ 1 ≤ k ∧ z.2 = P ++ (isort c (S.take k) ++ (S.drop k ++ R))) (fun z => (((P.length + S.length : Nat) : Int) - z.1).toNat) _ ?_ ⟨1, rfl, by omega, ?_⟩
    · rintro ⟨j, d⟩ ⟨k, h1, h2, h3⟩
      simp only at h1 h3
      subst h1 h3
      unfold slices_insertionSortCmpFunc_int_L0
      simp only
      by_cases hk : k < S.length
      · right
        have hx : S.drop k = S[k] :: S.drop (k + 1) := List.drop_eq_getElem_cons hk
        have hlen : (isort c (S.take k)).length = k := by rw [(isort_perm c _).length_eq]; simp; omega
        obtain ⟨S1, S2, q1, q2, q3, q4⟩ := insert_eq hc (P := P) (S := isort c (S.take k)) (R := S.drop (k + 1) ++ R) (x := S[k]) (hS _ (List.getElem_mem hk)) (fun e he => hS e (List.mem_of_mem_take ((isort_perm c _).mem_iff.1 he))) (by rw [hlen]; simp; omega)
        rw [hlen] at q4
        refine ⟨(((P.length + (k + 1) : Nat) : Int), P ++ (isort c (S.take (k + 1)) ++ (S.drop (k + 1) ++ R))), ?_, ⟨k + 1, rfl, by omega, rfl⟩, ?_⟩
        · rw [show decide (((P.length + k : Nat) : Int) < ((P.length + S.length : Nat) : Int)) = true by simp; omega, hx]
          simp only [cond_true, List.cons_append]
          rw [q4]
          simp only [Option.bind_some]
          rw [wi (by omega), List.take_succ_eq_append_getElem hk, isort_concat, q1, insR_eq q2 q3]
          simp
          omega
        · show (((P.length + S.length : Nat) : Int) - ((P.length + (k + 1) : Nat) : Int)).toNat < (((P.length + S.length : Nat) : Int) - ((P.length + k : Nat) : Int)).toNat
          omega
      · left
        refine ⟨P ++ (isort c (S.take k) ++ (S.drop k ++ R)), ?_, ?_⟩
        · rw [show decide (((P.length + k : Nat) : Int) < ((P.length + S.length : Nat) : Int)) = false by simp; omega]; rfl
        · rw [List.take_of_length_le (by omega), List.drop_of_length_le (by omega)]; simp
    · cases S with
      | nil => simp [isort]
      | cons x S => simp [isort, insR]
  obtain ⟨r, q1, rfl⟩ := key
  unfold slices_insertionSortCmpFunc_int
  rw [show wi64 ((P.length : Int) + 1) = ((P.length + 1 : Nat) : Int) by rw [wi (by omega)]; simp, q1]; rfl

/-- Short lists: one block. -/
theorem sort_short {cmp : Int × Int × Unit → Option Int} {c : Int → Int → Int} {ok : Int → Prop} (hc : CmpOn cmp c ok) {S : List Int} (hS : ∀ e ∈ S, ok e) (hl : S.length < 20) : slices_SortStableFunc_int_int cmp S = some (isort c S) := by
  have h0 : iter (fun x : Int × Int × List Int => slices_stableCmpFunc_int_L0 (S.length : Int) cmp x.1 x.2.1 x.2.2) (0, 20, S) = some (0, S) := by
    refine iter_inr ?_
    unfold slices_stableCmpFunc_int_L0
    simp only [show decide ((20 : Int) ≤ (S.length : Int)) = false by simp; omega, cond_false]
  have h1 := insertionSort_eq hc (P := []) (S := S) (R := []) hS (by simp; omega)
  simp only [List.length_nil, Nat.zero_add, List.nil_append, List.append_nil] at h1
  have h2 : iter (fun x : Int × List Int => slices_stableCmpFunc_int_L1 (S.length : Int) cmp x.1 x.2) (20, isort c S) = some (isort c S) := by
    refine iter_inr ?_
    unfold slices_stableCmpFunc_int_L1
    simp only [show decide ((20 : Int) < (S.length : Int)) = false by simp; omega, cond_false]
  unfold slices_SortStableFunc_int_int slices_stableCmpFunc_int
  rw [h0]
  simp only [Option.bind_some]
  rw [show ((0 : Int)) = ((0 : Nat) : Int) from rfl, h1]
  simp only [Option.bind_some, h2]
end Go.Proofs.Ytmleldfhkangbaa
