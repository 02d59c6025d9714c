/- The stable sort: merging in place, whole. No condition. -/
import Derived.Test.YtmleldfhkangbaaSp4
namespace Go.Proofs.Ytmleldfhkangbaa
open Go Go.Sq

theorem getD_mem {S : List Int} {k : Nat} (h : k < S.length) : S.getD k 0 ∈ S := by
  rw [List.getD_eq_getElem?_getD, List.getElem?_eq_getElem h]; exact List.getElem_mem h
theorem mem_getD {S : List Int} {x : Int} (h : x ∈ S) : ∃ k, k < S.length ∧ S.getD k 0 = x := by
  obtain ⟨k, hk, rfl⟩ := List.mem_iff_getElem.1 h
  exact ⟨k, hk, by rw [List.getD_eq_getElem?_getD, List.getElem?_eq_getElem hk]; rfl⟩
theorem mem_take_getD {S : List Int} {x : Int} {i : Nat} (h : x ∈ S.take i) : ∃ k, k < i ∧ k < S.length ∧ S.getD k 0 = x := by
  obtain ⟨k, hk, e⟩ := mem_getD h
  simp only [List.length_take] at hk
  refine ⟨k, by omega, by omega, ?_⟩
  rw [← e, List.getD_eq_getElem?_getD, List.getD_eq_getElem?_getD, List.getElem?_take, if_pos (by omega)]
theorem mem_drop_getD {S : List Int} {x : Int} {i : Nat} (h : x ∈ S.drop i) : ∃ k, i ≤ k ∧ k < S.length ∧ S.getD k 0 = x := by
  obtain ⟨k, hk, e⟩ := mem_getD h
  simp only [List.length_drop] at hk
  refine ⟨i + k, by omega, by omega, ?_⟩
  rw [← e, List.getD_eq_getElem?_getD, List.getD_eq_getElem?_getD, List.getElem?_drop]
theorem Srt.idx {c : Int → Int → Int} (h : Pre c) {S : List Int} (hs : Srt c S) {i j : Nat} (hij : i ≤ j) (hj : j < S.length) : c (S.getD i 0) (S.getD j 0) ≤ 0 := by
  rw [List.getD_eq_getElem?_getD, List.getD_eq_getElem?_getD, List.getElem?_eq_getElem hj, List.getElem?_eq_getElem (by omega : i < S.length)]
  rcases Nat.lt_or_eq_of_le hij with h1 | h1
  · exact List.pairwise_iff_getElem.1 hs i j (by omega) hj h1
  · subst h1; exact Int.le_of_eq (h.refl _)
theorem Srt.take {c : Int → Int → Int} {S : List Int} (hs : Srt c S) (i : Nat) : Srt c (S.take i) := List.Pairwise.sublist (List.take_sublist i S) hs
theorem Srt.drop {c : Int → Int → Int} {S : List Int} (hs : Srt c S) (i : Nat) : Srt c (S.drop i) := List.Pairwise.sublist (List.drop_sublist i S) hs

theorem getD_P {P S : List Int} {k : Nat} (h : P.length ≤ k) : (P ++ S).getD k 0 = S.getD (k - P.length) 0 := by
  rw [getD_app, if_neg (by omega)]
theorem getD_A {A S : List Int} {k : Nat} (h : k < A.length) : (A ++ S).getD k 0 = A.getD k 0 := by
  rw [getD_app, if_pos h]

section
variable {cmp : Int × Int × Unit → Option Int} {c : Int → Int → Int} {ok : Int → Prop}

/-- One element ahead of sorted ones. -/
theorem merge_1 (hc : CmpOn cmp c ok) (hp : Pre c) {P B Q : List Int} {x : Int} (hx : ok x) (hB : ∀ e ∈ B, ok e) (sB : Srt c B) (hl : P.length + 1 + B.length + Q.length ≤ 2305843009213693952) (rec : Int → Int → Int → (Int × Int × Unit → Option Int) → List Int → Option (List Int)) :
    ∃ R, slices_symMergeCmpFunc_int_S rec (P.length : Int) ((P.length + 1 : Nat) : Int) ((P.length + 1 + B.length : Nat) : Int) cmp (P ++ x :: (B ++ Q)) = some (P ++ (R ++ Q)) ∧ Srt c R ∧ Stab c R (x :: B) := by
  obtain ⟨k, q1, q2, q3, q4, q5⟩ := bsearch (step := fun z : Int × Int × List Int => slices_symMergeCmpFunc_int_L0 (P.length : Int) cmp z.1 z.2.1 z.2.2) (d := P ++ x :: (B ++ Q)) (lo := P.length + 1) (hi := P.length + 1 + B.length) (fun h => decide (c (B.getD (h - (P.length + 1)) 0) x < 0))
    (fun i j h1 h2 h3 => by
      have hd : ∀ h : Nat, P.length + 1 ≤ h → h < P.length + 1 + B.length → (P ++ x :: (B ++ Q)).getD h 0 = B.getD (h - (P.length + 1)) 0 := fun h h4 h5 => by
        rw [getD_P (by omega), show x :: (B ++ Q) = [x] ++ (B ++ Q) from rfl, getD_P (by simp; omega), getD_A (by simp; omega), show h - P.length - [x].length = h - (P.length + 1) by simp; omega]
      have hm : P.length + 1 ≤ (i + j) / 2 ∧ (i + j) / 2 < P.length + 1 + B.length := by omega
      have hh := half_nat (i := i) (j := j) (by omega)
      unfold slices_symMergeCmpFunc_int_L0
      simp only [hh]
      rw [show decide ((i : Int) < (j : Int)) = true by simp only [decide_eq_true_eq]; omega,
        gd_t (show inB (((i + j) / 2 : Nat) : Int) (P ++ x :: (B ++ Q)).length = true from inB_iff.2 ⟨by omega, by simp; omega⟩),
        gd_t (show inB (P.length : Int) (P ++ x :: (B ++ Q)).length = true from inB_iff.2 ⟨by omega, by simp; omega⟩)]
      simp only [cond_true, Int.toNat_natCast, get_0]
      rw [hd _ hm.1 hm.2, hc _ _ (hB _ (getD_mem (by omega))) hx, show wi64 ((((i + j) / 2 : Nat) : Int) + 1) = (((i + j) / 2 + 1 : Nat) : Int) by rw [wi (by omega)]; omega]
      cases hP : decide (c (B.getD ((i + j) / 2 - (P.length + 1)) 0) x < 0) <;> simp only [Option.bind_some, hP, cond_true, cond_false])
    (fun i => by
      unfold slices_symMergeCmpFunc_int_L0
      simp) (by omega)
  obtain ⟨i, rfl⟩ : ∃ i, k = P.length + 1 + i := ⟨k - (P.length + 1), by omega⟩
  have hBe : B = B.take i ++ B.drop i := (List.take_append_drop i B).symm
  have h1 : ∀ e ∈ B.take i, c e x < 0 := by
    intro e he
    obtain ⟨j, j1, j2, rfl⟩ := mem_take_getD he
    have hlt : c (B.getD (i - 1) 0) x < 0 := by
      rcases q4 with h | h
      · omega
      · have h' := of_decide_eq_true h
        rwa [show P.length + 1 + i - 1 - (P.length + 1) = i - 1 by omega] at h'
    exact hp.le_lt (sB.idx hp (by omega) (by omega)) hlt
  have h2 : ∀ e ∈ B.drop i, c x e ≤ 0 := by
    intro e he
    obtain ⟨j, j1, j2, rfl⟩ := mem_drop_getD he
    have hlt : ¬ c (B.getD i 0) x < 0 := by
      rcases q5 with h | h
      · omega
      · simpa [show P.length + 1 + i - (P.length + 1) = i by omega] using h
    exact hp.trans _ _ _ (hp.le.1 hlt) (sB.idx hp (by omega) (by omega))
  have hlt : (B.take i).length = i := by simp; omega
  have hsh := shiftR_eq (s := (((P.length + 1 + i : Nat) : Int), P ++ x :: (B ++ Q))) (P := P) (B := B.take i) (R := B.drop i ++ Q) (x := x) (by simp only; rw [hlt]) (by simp; omega)
  rw [← List.append_assoc (B.take i), ← hBe] at hsh
  refine ⟨B.take i ++ x :: B.drop i, ?_, ?_, ?_⟩
  · unfold slices_symMergeCmpFunc_int_S
    rw [show wi64 (((P.length + 1 : Nat) : Int) - (P.length : Int)) = 1 by rw [wi (by omega)]; omega]
    simp only [decide_true, cond_true, q1, Option.bind_some, hsh]
    simp
  · exact Srt.app.2 ⟨sB.take i, .cons h2 (sB.drop i), fun y hy w hw => by
      rcases List.mem_cons.1 hw with rfl | hw
      · exact Int.le_of_lt (h1 y hy)
      · exact hp.trans _ _ _ (Int.le_of_lt (h1 y hy)) (h2 w hw)⟩
  · have := (Stab.swap hp (A := [x]) (B := B.take i) fun y hy w hw => by rw [List.mem_singleton.1 hy]; exact h1 w hw).app (Stab.refl (c := c) (B.drop i))
    simpa using this

/-- One element behind sorted ones. -/
theorem merge_2 (hc : CmpOn cmp c ok) (hp : Pre c) {P A Q : List Int} {x : Int} (hx : ok x) (hA : ∀ e ∈ A, ok e) (sA : Srt c A) (h2A : A.length ≠ 1) (hl : P.length + A.length + 1 + Q.length ≤ 2305843009213693952) (rec : Int → Int → Int → (Int × Int × Unit → Option Int) → List Int → Option (List Int)) :
    ∃ R, slices_symMergeCmpFunc_int_S rec (P.length : Int) ((P.length + A.length : Nat) : Int) ((P.length + A.length + 1 : Nat) : Int) cmp (P ++ (A ++ x :: Q)) = some (P ++ (R ++ Q)) ∧ Srt c R ∧ Stab c R (A ++ [x]) := by
  obtain ⟨k, q1, q2, q3, q4, q5⟩ := bsearch (step := fun z : Int × Int × List Int => slices_symMergeCmpFunc_int_L2 ((P.length + A.length : Nat) : Int) cmp z.1 z.2.1 z.2.2) (d := P ++ (A ++ x :: Q)) (lo := P.length) (hi := P.length + A.length) (fun h => !decide (c x (A.getD (h - P.length) 0) < 0))
    (fun i j h1 h2 h3 => by
      have hd : ∀ h : Nat, P.length ≤ h → h < P.length + A.length → (P ++ (A ++ x :: Q)).getD h 0 = A.getD (h - P.length) 0 := fun h h4 h5 => by
        rw [getD_P (by omega), getD_A (by omega)]
      have hdx : (P ++ (A ++ x :: Q)).getD (P.length + A.length) 0 = x := by
        rw [getD_P (by omega), getD_P (by omega), show P.length + A.length - P.length - A.length = 0 by omega]; rfl
      have hm : P.length ≤ (i + j) / 2 ∧ (i + j) / 2 < P.length + A.length := by omega
      have hh := half_nat (i := i) (j := j) (by omega)
      unfold slices_symMergeCmpFunc_int_L2
      simp only [hh]
      rw [show decide ((i : Int) < (j : Int)) = true by simp only [decide_eq_true_eq]; omega,
        gd_t (show inB (((i + j) / 2 : Nat) : Int) (P ++ (A ++ x :: Q)).length = true from inB_iff.2 ⟨by omega, by simp; omega⟩),
        gd_t (show inB ((P.length + A.length : Nat) : Int) (P ++ (A ++ x :: Q)).length = true from inB_iff.2 ⟨by omega, by simp; omega⟩)]
      simp only [cond_true, Int.toNat_natCast, hdx]
      rw [hd _ hm.1 hm.2, hc _ _ hx (hA _ (getD_mem (by omega))), show wi64 ((((i + j) / 2 : Nat) : Int) + 1) = (((i + j) / 2 + 1 : Nat) : Int) by rw [wi (by omega)]; omega]
      cases hP : decide (c x (A.getD ((i + j) / 2 - P.length) 0) < 0) <;> simp only [Option.bind_some, hP, cond_true, cond_false, Bool.not_true, Bool.not_false])
    (fun i => by
      unfold slices_symMergeCmpFunc_int_L2
      simp) (by omega)
  obtain ⟨i, rfl⟩ : ∃ i, k = P.length + i := ⟨k - P.length, by omega⟩
  have hAe : A = A.take i ++ A.drop i := (List.take_append_drop i A).symm
  have h1 : ∀ e ∈ A.take i, c e x ≤ 0 := by
    intro e he
    obtain ⟨j, j1, j2, rfl⟩ := mem_take_getD he
    have hlt : ¬ c x (A.getD (i - 1) 0) < 0 := by
      rcases q4 with h | h
      · omega
      · simpa [show P.length + i - 1 - P.length = i - 1 by omega] using h
    exact hp.trans _ _ _ (sA.idx hp (by omega) (by omega)) (hp.le.1 hlt)
  have h2 : ∀ e ∈ A.drop i, c x e < 0 := by
    intro e he
    obtain ⟨j, j1, j2, rfl⟩ := mem_drop_getD he
    have hlt : c x (A.getD i 0) < 0 := by
      rcases q5 with h | h
      · omega
      · simpa [show P.length + i - P.length = i by omega] using h
    exact hp.lt_le hlt (sA.idx hp (by omega) (by omega))
  have hlt : (A.take i).length = i := by simp; omega
  have hsh := shiftL_eq (s := (((P.length + i : Nat) : Int), P ++ (A ++ x :: Q))) (P := P ++ A.take i) (B := A.drop i) (R := Q) (x := x) (by simp; omega) (by simp; omega)
  rw [show (P ++ A.take i).length + (A.drop i).length = P.length + A.length by simp; omega, show (P ++ A.take i) ++ (A.drop i ++ x :: Q) = P ++ (A ++ x :: Q) by rw [List.append_assoc, ← List.append_assoc (A.take i), ← hAe]] at hsh
  refine ⟨A.take i ++ x :: A.drop i, ?_, ?_, ?_⟩
  · unfold slices_symMergeCmpFunc_int_S
    rw [show wi64 (((P.length + A.length : Nat) : Int) - (P.length : Int)) = (A.length : Int) by rw [wi (by omega)]; omega,
      show wi64 (((P.length + A.length + 1 : Nat) : Int) - ((P.length + A.length : Nat) : Int)) = 1 by rw [wi (by omega)]; omega,
      show decide ((A.length : Int) = 1) = false by simp only [decide_eq_false_iff_not]; omega]
    simp only [decide_true, cond_true, cond_false, q1, Option.bind_some, hsh]
    simp
  · exact Srt.app.2 ⟨sA.take i, .cons (fun w hw => Int.le_of_lt (h2 w hw)) (sA.drop i), fun y hy w hw => by
      rcases List.mem_cons.1 hw with rfl | hw
      · exact h1 y hy
      · exact hp.trans _ _ _ (h1 y hy) (Int.le_of_lt (h2 w hw))⟩
  · have := (Stab.refl (c := c) (A.take i)).app (Stab.swap hp (A := A.drop i) (B := [x]) fun y hy w hw => by rw [List.mem_singleton.1 hw]; exact h2 y hy)
    rw [← List.append_assoc (List.take i A) (List.drop i A) [x], ← hAe] at this
    simpa using this
end
end Go.Proofs.Ytmleldfhkangbaa
