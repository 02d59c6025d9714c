/- The stable sort: merging in place, by recursion. No condition. -/
import Derived.Test.YtmleldfhkangbaaSp5
namespace Go.Proofs.Ytmleldfhkangbaa
open Go Go.Sq

section
variable {cmp : Int × Int × Unit → Option Int} {c : Int → Int → Int} {ok : Int → Prop}

/-- Where the parts are cut. -/
theorem merge_cut (hc : CmpOn cmp c ok) (hp : Pre c) {P A B Q : List Int} {a m b mid lo hi : Nat} (ea : a = P.length) (em : m = P.length + A.length) (eb : b = P.length + A.length + B.length) (emid : mid = (a + b) / 2)
    (hlo : lo = if mid < m then mid + m - b else a) (hhi : hi = if mid < m then mid else m)
    (hA : ∀ e ∈ A, ok e) (hB : ∀ e ∈ B, ok e) (sA : Srt c A) (sB : Srt c B) (h0A : A ≠ []) (h0B : B ≠ []) (hl : P.length + A.length + B.length + Q.length ≤ 2305843009213693952) :
    ∃ i k : Nat, i ≤ A.length ∧ k ≤ B.length ∧ mid = a + i + k ∧ (∀ x ∈ A.drop i, ∀ y ∈ B.take k, c y x < 0) ∧ (∀ x ∈ A.take i, ∀ y ∈ B.drop k, c x y ≤ 0) ∧
      iter (fun z : Int × Int × List Int => slices_symMergeCmpFunc_int_L4 (a : Int) (m : Int) (b : Int) cmp z.1 z.2.1 z.2.2) ((lo : Int), (hi : Int), P ++ (A ++ (B ++ Q))) = some (((a + i : Nat) : Int), P ++ (A ++ (B ++ Q))) := by
  have pA := List.length_pos_iff.2 h0A
  have pB := List.length_pos_iff.2 h0B
  have hlo1 : a ≤ lo ∧ mid + m - b ≤ lo := by split at hlo <;> omega
  have hhi1 : hi ≤ m ∧ hi ≤ mid := by split at hhi <;> omega
  have hlh : lo ≤ hi := by split at hlo <;> rename_i h <;> simp only [h, if_true, if_false] at hhi <;> omega
  have hd : ∀ h : Nat, a ≤ h → h < m → (P ++ (A ++ (B ++ Q))).getD h 0 = A.getD (h - a) 0 := fun h h4 h5 => by
    rw [getD_P (by omega), getD_A (by omega), ea]
  have hdB : ∀ h : Nat, m ≤ h → h < b → (P ++ (A ++ (B ++ Q))).getD h 0 = B.getD (h - m) 0 := fun h h4 h5 => by
    rw [getD_P (by omega), getD_P (by omega), getD_A (by omega), show h - P.length - A.length = h - m by omega]
  obtain ⟨s, q1, q2, q3, q4, q5⟩ := bsearch (step := fun z : Int × Int × List Int => slices_symMergeCmpFunc_int_L4 (a : Int) (m : Int) (b : Int) cmp z.1 z.2.1 z.2.2) (d := P ++ (A ++ (B ++ Q))) (lo := lo) (hi := hi) (fun h => !decide (c (B.getD (mid + m - 1 - h - m) 0) (A.getD (h - a) 0) < 0))
    (fun i j h1 h2 h3 => by
      have hm : lo ≤ (i + j) / 2 ∧ (i + j) / 2 < hi := by omega
      have hm2 : m ≤ mid + m - 1 - (i + j) / 2 ∧ mid + m - 1 - (i + j) / 2 < b := by omega
      have hh := half_nat (i := i) (j := j) (by omega)
      have hab := half_nat (i := a) (j := b) (by omega)
      rw [← emid] at hab
      have e1 : wi64 ((mid : Int) + (m : Int)) = ((mid + m : Nat) : Int) := by rw [wi (by omega)]; omega
      have e2 : wi64 (((mid + m : Nat) : Int) - 1) = ((mid + m - 1 : Nat) : Int) := by rw [wi (by omega)]; omega
      have e3 : wi64 (((mid + m - 1 : Nat) : Int) - (((i + j) / 2 : Nat) : Int)) = ((mid + m - 1 - (i + j) / 2 : Nat) : Int) := by rw [wi (by omega)]; omega
      have e4 : wi64 ((((i + j) / 2 : Nat) : Int) + 1) = (((i + j) / 2 + 1 : Nat) : Int) := by rw [wi (by omega)]; omega
      unfold slices_symMergeCmpFunc_int_L4
      simp only [hh, hab, e1, e2, e3, e4]
      rw [show decide ((i : Int) < (j : Int)) = true by simp only [decide_eq_true_eq]; omega,
        gd_t (show inB ((mid + m - 1 - (i + j) / 2 : Nat) : Int) (P ++ (A ++ (B ++ Q))).length = true from inB_iff.2 ⟨by omega, by simp; omega⟩),
        gd_t (show inB (((i + j) / 2 : Nat) : Int) (P ++ (A ++ (B ++ Q))).length = true from inB_iff.2 ⟨by omega, by simp; omega⟩)]
      simp only [cond_true, Int.toNat_natCast]
      rw [hd ((i + j) / 2) (by omega) (by omega), hdB _ hm2.1 hm2.2, hc _ _ (hB _ (getD_mem (by omega))) (hA _ (getD_mem (by omega)))]
      cases hP : decide (c (B.getD (mid + m - 1 - (i + j) / 2 - m) 0) (A.getD ((i + j) / 2 - a) 0) < 0) <;> simp only [Option.bind_some, hP, cond_true, cond_false, Bool.not_true, Bool.not_false])
    (fun i => by
      unfold slices_symMergeCmpFunc_int_L4
      simp) hlh
  have hsb : mid + m - s ≤ b := by omega
  have hms : m ≤ mid + m - s := by omega
  refine ⟨s - a, mid - s, by omega, by omega, by omega, ?_, ?_, by rw [q1, show a + (s - a) = s by omega]⟩
  · intro x hx y hy
    obtain ⟨i, i1, i2, rfl⟩ := mem_drop_getD hx
    obtain ⟨j, j1, j2, rfl⟩ := mem_take_getD hy
    rcases q5 with h | h
    · exfalso
      split at hhi <;> omega
    · have h' : c (B.getD (mid + m - 1 - s - m) 0) (A.getD (s - a) 0) < 0 := by simpa only [Bool.not_eq_false', decide_eq_true_eq] using h
      have r1 := sB.idx hp (i := j) (j := mid + m - 1 - s - m) (by omega) (by omega)
      have r2 := sA.idx hp (i := s - a) (j := i) (by omega) (by omega)
      exact hp.le_lt r1 (hp.lt_le h' r2)
  · intro x hx y hy
    obtain ⟨i, i1, i2, rfl⟩ := mem_take_getD hx
    obtain ⟨j, j1, j2, rfl⟩ := mem_drop_getD hy
    rcases q4 with h | h
    · exfalso
      split at hlo <;> omega
    · have h' : ¬ c (B.getD (mid + m - 1 - (s - 1) - m) 0) (A.getD (s - 1 - a) 0) < 0 := by simpa only [Bool.not_eq_true', decide_eq_false_iff_not] using h
      have r1 := sA.idx hp (i := i) (j := s - 1 - a) (by omega) (by omega)
      have r2 := sB.idx hp (i := mid + m - 1 - (s - 1) - m) (j := j) (by omega) (by omega)
      exact hp.trans _ _ _ r1 (hp.trans _ _ _ (hp.le.1 h') r2)

/-- What a merge in place gives. -/
def MergeOk (cmp : Int × Int × Unit → Option Int) (c : Int → Int → Int) (ok : Int → Prop) (rec : Int → Int → Int → (Int × Int × Unit → Option Int) → List Int → Option (List Int)) (n : Nat) : Prop :=
  ∀ P A B Q : List Int, A ≠ [] → B ≠ [] → A.length + B.length ≤ n → Srt c A → Srt c B → (∀ e ∈ A, ok e) → (∀ e ∈ B, ok e) → P.length + A.length + B.length + Q.length ≤ 2305843009213693952 →
    ∃ R, rec (P.length : Int) ((P.length + A.length : Nat) : Int) ((P.length + A.length + B.length : Nat) : Int) cmp (P ++ (A ++ (B ++ Q))) = some (P ++ (R ++ Q)) ∧ Srt c R ∧ Stab c R (A ++ B)

theorem merge_rec {rec : Int → Int → Int → (Int × Int × Unit → Option Int) → List Int → Option (List Int)} {n : Nat} (hr : MergeOk cmp c ok rec n) {P A B Q : List Int} {x y z : Int} (hx : x = (P.length : Int)) (hy : y = ((P.length + A.length : Nat) : Int)) (hz : z = ((P.length + A.length + B.length : Nat) : Int))
    (hn : A.length + B.length ≤ n) (sA : Srt c A) (sB : Srt c B) (hA : ∀ e ∈ A, ok e) (hB : ∀ e ∈ B, ok e) (hl : P.length + A.length + B.length + Q.length ≤ 2305843009213693952) :
    ∃ R, (bif decide (x < y) && decide (y < z) then (rec x y z cmp (P ++ (A ++ (B ++ Q)))).bind (fun r => some r) else some (P ++ (A ++ (B ++ Q)))) = some (P ++ (R ++ Q)) ∧ Srt c R ∧ Stab c R (A ++ B) := by
  subst hx hy hz
  by_cases h1 : A = []
  · subst h1
    exact ⟨B, by simp, sB, by simpa using Stab.refl B⟩
  by_cases h2 : B = []
  · subst h2
    exact ⟨A, by simp, sA, by simpa using Stab.refl A⟩
  obtain ⟨R, q1, q2⟩ := hr P A B Q h1 h2 hn sA sB hA hB hl
  have pA := List.length_pos_iff.2 h1
  have pB := List.length_pos_iff.2 h2
  refine ⟨R, ?_, q2⟩
  rw [show decide ((P.length : Int) < ((P.length + A.length : Nat) : Int)) = true by simp only [decide_eq_true_eq]; omega, show decide (((P.length + A.length : Nat) : Int) < ((P.length + A.length + B.length : Nat) : Int)) = true by simp only [decide_eq_true_eq]; omega, q1]
  rfl

theorem bif_pair {A B : Type} {p q : Bool} {d : A} {f : Bool × A → Option B} : (Option.bind (bif p then some (q, d) else some (false, d)) f) = f (p && q, d) := by cases p <;> rfl

theorem merge_S (hc : CmpOn cmp c ok) (hp : Pre c) {rec : Int → Int → Int → (Int × Int × Unit → Option Int) → List Int → Option (List Int)} {n : Nat} (hr : MergeOk cmp c ok rec n) : MergeOk cmp c ok (slices_symMergeCmpFunc_int_S rec) (n + 1) := by
  intro P A B Q h0A h0B hn sA sB hA hB hl
  have pA := List.length_pos_iff.2 h0A
  have pB := List.length_pos_iff.2 h0B
  by_cases h1 : A.length = 1
  · obtain ⟨x, rfl⟩ := List.length_eq_one_iff.1 h1
    have := merge_1 hc hp (P := P) (B := B) (Q := Q) (x := x) (hA x (by simp)) hB sB (by simpa using hl) rec
    simpa using this
  by_cases h2 : B.length = 1
  · obtain ⟨x, rfl⟩ := List.length_eq_one_iff.1 h2
    have := merge_2 hc hp (P := P) (A := A) (Q := Q) (x := x) (hB x (by simp)) hA sA h1 (by simpa using hl) rec
    simpa using this
  obtain ⟨a, ea⟩ : ∃ a, a = P.length := ⟨_, rfl⟩
  obtain ⟨m, em⟩ : ∃ m, m = P.length + A.length := ⟨_, rfl⟩
  obtain ⟨b, eb⟩ : ∃ b, b = P.length + A.length + B.length := ⟨_, rfl⟩
  obtain ⟨mid, emid⟩ : ∃ mid, mid = (a + b) / 2 := ⟨_, rfl⟩
  obtain ⟨i, k, k1, k2, k3, k4, k5, k6⟩ := merge_cut hc hp (Q := Q) ea em eb emid rfl rfl hA hB sA sB h0A h0B hl
  rw [← eb, ← em, ← ea]
  have hab := half_nat (i := a) (j := b) (by omega)
  rw [← emid] at hab
  have e0 : wi64 ((m : Int) - (a : Int)) = ((m - a : Nat) : Int) := by rw [wi (by omega)]; omega
  have e0' : wi64 ((b : Int) - (m : Int)) = ((b - m : Nat) : Int) := by rw [wi (by omega)]; omega
  have e1 : wi64 ((mid : Int) + (m : Int)) = ((mid + m : Nat) : Int) := by rw [wi (by omega)]; omega
  have e2 : wi64 (((mid + m : Nat) : Int) - ((a + i : Nat) : Int)) = ((m + k : Nat) : Int) := by rw [wi (by omega)]; omega
  have hs5 : (bif decide ((mid : Int) < (m : Int)) then some (wi64 (((mid + m : Nat) : Int) - (b : Int)), (mid : Int), P ++ (A ++ (B ++ Q))) else some ((a : Int), (m : Int), P ++ (A ++ (B ++ Q)))) = some (((if mid < m then mid + m - b else a : Nat) : Int), ((if mid < m then mid else m : Nat) : Int), P ++ (A ++ (B ++ Q))) := by
    by_cases hmm : mid < m
    · rw [show decide ((mid : Int) < (m : Int)) = true by simp only [decide_eq_true_eq]; omega, if_pos hmm, if_pos hmm, show wi64 (((mid + m : Nat) : Int) - (b : Int)) = ((mid + m - b : Nat) : Int) by rw [wi (by omega)]; omega]; rfl
    · rw [show decide ((mid : Int) < (m : Int)) = false by simp only [decide_eq_false_iff_not]; omega, if_neg hmm, if_neg hmm]; rfl
  obtain ⟨A1, eA1⟩ : ∃ A1, A1 = A.take i := ⟨_, rfl⟩
  obtain ⟨A2, eA2⟩ : ∃ A2, A2 = A.drop i := ⟨_, rfl⟩
  obtain ⟨B1, eB1⟩ : ∃ B1, B1 = B.take k := ⟨_, rfl⟩
  obtain ⟨B2, eB2⟩ : ∃ B2, B2 = B.drop k := ⟨_, rfl⟩
  have eA : A = A1 ++ A2 := by rw [eA1, eA2, List.take_append_drop]
  have eB : B = B1 ++ B2 := by rw [eB1, eB2, List.take_append_drop]
  have lA1 : A1.length = i := by rw [eA1]; simp; omega
  have lB1 : B1.length = k := by rw [eB1]; simp; omega
  have lA : A.length = A1.length + A2.length := by rw [eA]; simp
  have lB : B.length = B1.length + B2.length := by rw [eB]; simp
  rw [← eA2, ← eB1] at k4
  rw [← eA1, ← eB2] at k5
  have sA1 : Srt c A1 := eA1 ▸ sA.take i
  have sA2 : Srt c A2 := eA2 ▸ sA.drop i
  have sB1 : Srt c B1 := eB1 ▸ sB.take k
  have sB2 : Srt c B2 := eB2 ▸ sB.drop k
  have oA1 : ∀ e ∈ A1, ok e := fun e he => hA e (by rw [eA]; simp [he])
  have oA2 : ∀ e ∈ A2, ok e := fun e he => hA e (by rw [eA]; simp [he])
  have oB1 : ∀ e ∈ B1, ok e := fun e he => hB e (by rw [eB]; simp [he])
  have oB2 : ∀ e ∈ B2, ok e := fun e he => hB e (by rw [eB]; simp [he])
  have hrot : (bif decide (((a + i : Nat) : Int) < (m : Int)) && decide ((m : Int) < ((m + k : Nat) : Int)) then (slices_rotateCmpFunc_int ((a + i : Nat) : Int) (m : Int) ((m + k : Nat) : Int) cmp (P ++ (A ++ (B ++ Q)))).bind (fun r => some r) else some (P ++ (A ++ (B ++ Q)))) = some (P ++ (A1 ++ (B1 ++ (A2 ++ (B2 ++ Q))))) := by
    by_cases hA2 : A2 = []
    · rw [hA2] at lA eA
      rw [show decide (((a + i : Nat) : Int) < (m : Int)) = false by simp only [decide_eq_false_iff_not]; simp at lA; omega, eA, eB, hA2]
      simp
    by_cases hB1 : B1 = []
    · rw [hB1] at lB1
      rw [show decide ((m : Int) < ((m + k : Nat) : Int)) = false by simp only [decide_eq_false_iff_not]; simp at lB1; omega, eA, eB, hB1]
      simp
    have pA2 := List.length_pos_iff.2 hA2
    have pB1 := List.length_pos_iff.2 hB1
    have := rotate_list (cmp := cmp) (X := P ++ A1) (U := A2) (V := B1) (Y := B2 ++ Q) hA2 hB1 (by simp; omega)
    rw [show (P ++ A1).length = a + i by simp; omega, show a + i + A2.length = m by omega, show m + B1.length = m + k by omega] at this
    rw [show decide (((a + i : Nat) : Int) < (m : Int)) = true by simp only [decide_eq_true_eq]; omega, show decide ((m : Int) < ((m + k : Nat) : Int)) = true by simp only [decide_eq_true_eq]; omega, eA, eB]
    simp only [List.append_assoc] at this ⊢
    rw [this]; rfl
  obtain ⟨R1, r1, r2, r3⟩ := merge_rec hr (P := P) (A := A1) (B := B1) (Q := A2 ++ (B2 ++ Q)) (x := (a : Int)) (y := ((a + i : Nat) : Int)) (z := (mid : Int)) (by omega) (by omega) (by omega) (by omega) sA1 sB1 oA1 oB1 (by simp; omega)
  have lR1 : R1.length = i + k := by rw [r3.len]; simp; omega
  obtain ⟨R2, r4, r5, r6⟩ := merge_rec hr (P := P ++ R1) (A := A2) (B := B2) (Q := Q) (x := (mid : Int)) (y := ((m + k : Nat) : Int)) (z := (b : Int)) (by simp; omega) (by simp; omega) (by simp; omega) (by omega) sA2 sB2 oA2 oB2 (by simp; omega)
  simp only [List.append_assoc] at r4
  refine ⟨R1 ++ R2, ?_, ?_, ?_⟩
  · unfold slices_symMergeCmpFunc_int_S
    simp only [hab, e0, e0', e1]
    rw [show decide (((m - a : Nat) : Int) = 1) = false by simp only [decide_eq_false_iff_not]; omega, show decide (((b - m : Nat) : Int) = 1) = false by simp only [decide_eq_false_iff_not]; omega]
    simp only [cond_false]
    rw [hs5]
    simp only [Option.bind_some, k6, e2, bif_pair, hrot, r1, r4]
    simp
  · refine Srt.app.2 ⟨r2, r5, fun x hx y hy => ?_⟩
    have sA' := sA; have sB' := sB
    rw [eA] at sA'; rw [eB] at sB'
    rcases List.mem_append.1 (r3.mem.1 hx) with h | h <;> rcases List.mem_append.1 (r6.mem.1 hy) with h' | h'
    · exact (Srt.app.1 sA').2.2 x h y h'
    · exact k5 x h y h'
    · exact Int.le_of_lt (k4 y h' x h)
    · exact (Srt.app.1 sB').2.2 x h y h'
  · rw [eA, eB]
    refine (r3.app r6).trans ?_
    have := ((Stab.refl (c := c) A1).app (Stab.swap hp (A := A2) (B := B1) k4)).app (Stab.refl (c := c) B2)
    simpa using this

theorem merge_F (hc : CmpOn cmp c ok) (hp : Pre c) : ∀ n, MergeOk cmp c ok (slices_symMergeCmpFunc_int_F n) n
  | 0 => fun P A B Q h0A h0B hn => by
    have pA := List.length_pos_iff.2 h0A
    omega
  | n + 1 => merge_S hc hp (merge_F hc hp n)

theorem merge_eq (hc : CmpOn cmp c ok) (hp : Pre c) : MergeOk cmp c ok slices_symMergeCmpFunc_int 18446744073709551616 := merge_F hc hp _
end
end Go.Proofs.Ytmleldfhkangbaa
