/- The stable sort, whole: a sorted list, ties in their order. No condition. -/
import Derived.Test.YtmleldfhkangbaaSp6
namespace Go.Proofs.Ytmleldfhkangbaa
open Go Go.Sq

/-- A list of sorted blocks. -/
inductive Blk (c : Int → Int → Int) (bs : Nat) : List Int → Prop
  | last (l : List Int) : l.length ≤ bs → Srt c l → Blk c bs l
  | cons (l r : List Int) : l.length = bs → Srt c l → Blk c bs r → Blk c bs (l ++ r)
theorem Blk.cut {c : Int → Int → Int} {bs : Nat} {l : List Int} (h : Blk c bs l) (hl : bs ≤ l.length) : ∃ A r, l = A ++ r ∧ A.length = bs ∧ Srt c A ∧ Blk c bs r := by
  cases h with
  | last l h1 h2 => exact ⟨l, [], by simp, by omega, h2, .last [] (by simp) .nil⟩
  | cons l r h1 h2 h3 => exact ⟨l, r, rfl, h1, h2, h3⟩
theorem Blk.srt {c : Int → Int → Int} {bs : Nat} {l : List Int} (h : Blk c bs l) (hl : l.length ≤ bs) : Srt c l := by
  cases h with
  | last l h1 h2 => exact h2
  | cons l r h1 h2 h3 =>
    obtain rfl : r = [] := List.eq_nil_of_length_eq_zero (by simp at hl; omega)
    simpa using h2
/-- Whole blocks ahead of the rest. -/
def Front (c : Int → Int → Int) (bs : Nat) (D : List Int) : Prop := ∀ r, Blk c bs r → Blk c bs (D ++ r)
theorem Front.snoc {c : Int → Int → Int} {bs : Nat} {D A : List Int} (h : Front c bs D) (hA : A.length = bs) (sA : Srt c A) : Front c bs (D ++ A) := fun r hr => by
  rw [List.append_assoc]; exact h _ (.cons A r hA sA hr)

section
variable {cmp : Int × Int × Unit → Option Int} {c : Int → Int → Int} {ok : Int → Prop}

theorem sort_blocks (hc : CmpOn cmp c ok) (hp : Pre c) {S : List Int} (hS : ∀ e ∈ S, ok e) (hl : S.length ≤ 1152921504606846976) :
    ∃ d, ((iter (fun x : Int × Int × List Int => slices_stableCmpFunc_int_L0 (S.length : Int) cmp x.1 x.2.1 x.2.2) (0, 20, S)).bind fun s => slices_insertionSortCmpFunc_int s.1 (S.length : Int) cmp s.2) = some d ∧ Blk c 20 d ∧ Stab c d S := by
  have key : ∃ s, iter (fun x : Int × Int × List Int => slices_stableCmpFunc_int_L0 (S.length : Int) cmp x.1 x.2.1 x.2.2) (0, 20, S) = some s ∧
      ∃ D S1 S2, s = ((D.length : Int), D ++ S2) ∧ S = S1 ++ S2 ∧ Stab c D S1 ∧ Front c 20 D ∧ S2.length < 20 := by
    refine iter_inv (fun x => ∃ D S1 S2, x = ((D.length : Int), ((D.length + 20 : Nat) : Int), D ++ S2) ∧ S = S1 ++ S2 ∧ Stab c D S1 ∧ Front c 20 D) (fun x => ((S.length : Int) - x.1).toNat) _ ?_ ⟨[], [], S, rfl, rfl, .refl _, fun r h => h⟩
    rintro _ ⟨D, S1, S2, rfl, h1, h2, h3⟩
    have hlen : S.length = D.length + S2.length := by rw [h1, List.length_append, h2.len]
    unfold slices_stableCmpFunc_int_L0
    simp only
    by_cases h20 : 20 ≤ S2.length
    · right
      have hS2 : S2 = S2.take 20 ++ S2.drop 20 := (List.take_append_drop 20 S2).symm
      have ht : (S2.take 20).length = 20 := by simp; omega
      have q := insertionSort_eq hc (P := D) (S := S2.take 20) (R := S2.drop 20) (fun e he => hS e (by rw [h1]; simp [List.mem_of_mem_take he])) (by simp; omega)
      rw [ht, ← hS2] at q
      obtain ⟨s1, s2⟩ := srt_isort hp (S2.take 20)
      have li : (isort c (S2.take 20)).length = 20 := by rw [s2.len, ht]
      refine ⟨(((D ++ isort c (S2.take 20)).length : Int), (((D ++ isort c (S2.take 20)).length + 20 : Nat) : Int), (D ++ isort c (S2.take 20)) ++ S2.drop 20), ?_, ⟨_, S1 ++ S2.take 20, S2.drop 20, rfl, by rw [List.append_assoc, ← hS2]; exact h1, h2.app s2, h3.snoc li s1⟩, ?_⟩
      · rw [show decide (((D.length + 20 : Nat) : Int) ≤ (S.length : Int)) = true by simp only [decide_eq_true_eq]; omega]
        simp only [cond_true]
        rw [q]
        simp only [Option.bind_some]
        rw [show wi64 (((D.length + 20 : Nat) : Int) + 20) = ((D.length + 20 + 20 : Nat) : Int) by rw [wi (by omega)]; omega]
        simp [li]
      · simp only [List.length_append, li]; omega
    · left
      refine ⟨_, ?_, D, S1, S2, rfl, h1, h2, h3, by omega⟩
      rw [show decide (((D.length + 20 : Nat) : Int) ≤ (S.length : Int)) = false by simp only [decide_eq_false_iff_not]; omega]
      rfl
  obtain ⟨_, q1, D, S1, S2, rfl, h1, h2, h3, h4⟩ := key
  have hlen : S.length = D.length + S2.length := by rw [h1, List.length_append, h2.len]
  have q := insertionSort_eq hc (P := D) (S := S2) (R := []) (fun e he => hS e (by rw [h1]; simp [he])) (by simp; omega)
  rw [List.append_nil, List.append_nil, ← hlen] at q
  obtain ⟨s1, s2⟩ := srt_isort hp S2
  refine ⟨D ++ isort c S2, by rw [q1]; exact q, h3 _ (.last _ (by rw [s2.len]; omega) s1), ?_⟩
  rw [h1]; exact h2.app s2

theorem merge_blocks (hc : CmpOn cmp c ok) (hp : Pre c) {S : List Int} {bs : Nat} (hS : ∀ e ∈ S, ok e) (hl : S.length ≤ 1152921504606846976) (hb : 0 < bs) (hbs : bs < S.length) (sS : Blk c bs S) :
    ∃ d, slices_stableCmpFunc_int_L1 (S.length : Int) cmp (bs : Int) S = some (.inl (((2 * bs : Nat) : Int), d)) ∧ Blk c (2 * bs) d ∧ Stab c d S := by
  have e0 : wi64 (2 * (bs : Int)) = ((2 * bs : Nat) : Int) := by rw [wi (by omega)]; omega
  have key : ∃ s, iter (fun x : Int × Int × List Int => slices_stableCmpFunc_int_L2 (S.length : Int) cmp (bs : Int) x.1 x.2.1 x.2.2) (0, ((2 * bs : Nat) : Int), S) = some s ∧
      ∃ D S1 S2, s = ((D.length : Int), D ++ S2) ∧ S = S1 ++ S2 ∧ Stab c D S1 ∧ Front c (2 * bs) D ∧ Blk c bs S2 ∧ S2.length < 2 * bs := by
    refine iter_inv (fun x => ∃ D S1 S2, x = ((D.length : Int), ((D.length + 2 * bs : Nat) : Int), D ++ S2) ∧ S = S1 ++ S2 ∧ Stab c D S1 ∧ Front c (2 * bs) D ∧ Blk c bs S2) (fun x => ((S.length : Int) - x.1).toNat) _ ?_ ⟨[], [], S, by simp, rfl, .refl _, fun r h => h, sS⟩
    rintro _ ⟨D, S1, S2, rfl, h1, h2, h3, h4⟩
    have hlen : S.length = D.length + S2.length := by rw [h1, List.length_append, h2.len]
    unfold slices_stableCmpFunc_int_L2
    simp only
    by_cases h20 : 2 * bs ≤ S2.length
    · right
      obtain ⟨A, r, e1, lA, sA, hr⟩ := h4.cut (by omega)
      obtain ⟨B, r2, e2, lB, sB, hr2⟩ := hr.cut (by rw [e1] at h20; simp at h20; omega)
      have hS2 : S2 = A ++ (B ++ r2) := by rw [e1, e2]
      obtain ⟨R, q1, q2, q3⟩ := merge_eq hc hp D A B r2 (List.length_pos_iff.1 (by omega)) (List.length_pos_iff.1 (by omega)) (by omega) sA sB (fun e he => hS e (by rw [h1, hS2]; simp [he])) (fun e he => hS e (by rw [h1, hS2]; simp [he])) (by rw [hS2] at hlen; simp at hlen; omega)
      rw [← hS2] at q1
      have lR : R.length = 2 * bs := by rw [q3.len]; simp; omega
      refine ⟨(((D ++ R).length : Int), (((D ++ R).length + 2 * bs : Nat) : Int), (D ++ R) ++ r2), ?_, ⟨_, S1 ++ (A ++ B), r2, rfl, by rw [h1, hS2]; simp, h2.app q3, h3.snoc lR q2, hr2⟩, ?_⟩
      · rw [show decide (((D.length + 2 * bs : Nat) : Int) ≤ (S.length : Int)) = true by simp only [decide_eq_true_eq]; omega, show wi64 ((D.length : Int) + (bs : Int)) = ((D.length + A.length : Nat) : Int) by rw [wi (by omega)]; omega,
          show D.length + 2 * bs = D.length + A.length + B.length by omega]
        simp only [cond_true]
        rw [q1]
        simp only [Option.bind_some, e0]
        rw [show wi64 (((D.length + A.length + B.length : Nat) : Int) + ((2 * bs : Nat) : Int)) = ((D.length + A.length + B.length + 2 * bs : Nat) : Int) by rw [wi (by omega)]; omega]
        simp [lR]; omega
      · simp only [List.length_append, lR]; omega
    · left
      refine ⟨_, ?_, D, S1, S2, rfl, h1, h2, h3, h4, by omega⟩
      rw [show decide (((D.length + 2 * bs : Nat) : Int) ≤ (S.length : Int)) = false by simp only [decide_eq_false_iff_not]; omega]
      rfl
  obtain ⟨_, q1, D, S1, S2, rfl, h1, h2, h3, h4, h5⟩ := key
  have hlen : S.length = D.length + S2.length := by rw [h1, List.length_append, h2.len]
  have e1 : wi64 ((bs : Int) * 2) = ((2 * bs : Nat) : Int) := by rw [wi (by omega)]; omega
  have e2 : wi64 ((D.length : Int) + (bs : Int)) = ((D.length + bs : Nat) : Int) := by rw [wi (by omega)]; omega
  unfold slices_stableCmpFunc_int_L1
  rw [show decide ((bs : Int) < (S.length : Int)) = true by simp only [decide_eq_true_eq]; omega]
  simp only [e0, e1, q1, Option.bind_some, e2, cond_true]
  by_cases hm : bs < S2.length
  · obtain ⟨A, r, e3, lA, sA, hr⟩ := h4.cut (by omega)
    have hr1 : r.length ≤ bs := by rw [e3] at h5; simp at h5; omega
    have hr0 : 0 < r.length := by rw [e3] at hm; simp at hm; omega
    have sr := hr.srt hr1
    obtain ⟨R, r1, r2, r3⟩ := merge_eq hc hp D A r [] (List.length_pos_iff.1 (by omega)) (List.length_pos_iff.1 (by omega)) (by omega) sA sr (fun e he => hS e (by rw [h1, e3]; simp [he])) (fun e he => hS e (by rw [h1, e3]; simp [he])) (by simp; omega)
    have lS2 : S2.length = A.length + r.length := by rw [e3]; simp
    rw [List.append_nil, ← e3, List.append_nil, show D.length + A.length + r.length = S.length by omega, lA] at r1
    refine ⟨D ++ R, ?_, h3 R (.last R (by rw [r3.len]; simp; omega) r2), ?_⟩
    · rw [show decide (((D.length + bs : Nat) : Int) < (S.length : Int)) = true by simp only [decide_eq_true_eq]; omega]
      simp only [cond_true, r1, Option.bind_some]
    · rw [h1, e3]; exact h2.app r3
  · refine ⟨D ++ S2, ?_, h3 S2 (.last S2 (by omega) (h4.srt (by omega))), by rw [h1]; exact h2.app (.refl _)⟩
    rw [show decide (((D.length + bs : Nat) : Int) < (S.length : Int)) = false by simp only [decide_eq_false_iff_not]; omega]
    simp only [cond_false, Option.bind_some]

/-- The stable sort. -/
theorem sort_stable (hc : CmpOn cmp c ok) (hp : Pre c) {S : List Int} (hS : ∀ e ∈ S, ok e) (hl : S.length ≤ 1152921504606846976) :
    ∃ d, slices_SortStableFunc_int_int cmp S = some d ∧ Srt c d ∧ Stab c d S := by
  obtain ⟨d0, q1, q2, q3⟩ := sort_blocks hc hp hS hl
  have key : ∃ d, iter (fun x : Int × List Int => slices_stableCmpFunc_int_L1 (S.length : Int) cmp x.1 x.2) (20, d0) = some d ∧ (Srt c d ∧ Stab c d S) := by
    refine iter_inv (fun x => ∃ bs : Nat, x.1 = (bs : Int) ∧ 0 < bs ∧ Blk c bs x.2 ∧ Stab c x.2 S) (fun x => ((S.length : Int) - x.1).toNat) _ ?_ ⟨20, rfl, by omega, q2, q3⟩
    rintro ⟨x, d⟩ ⟨bs, h1, h2, h3, h4⟩
    simp only at h1 h3 h4
    subst h1
    by_cases hb : bs < S.length
    · right
      obtain ⟨d', r1, r2, r3⟩ := merge_blocks hc hp (S := d) (fun e he => hS e (h4.mem.1 he)) (by rw [h4.len]; exact hl) h2 (by rw [h4.len]; exact hb) h3
      rw [h4.len] at r1
      refine ⟨_, r1, ⟨2 * bs, rfl, by omega, r2, r3.trans h4⟩, ?_⟩
      show ((S.length : Int) - ((2 * bs : Nat) : Int)).toNat < ((S.length : Int) - (bs : Int)).toNat
      omega
    · left
      refine ⟨d, ?_, h3.srt (by rw [h4.len]; omega), h4⟩
      unfold slices_stableCmpFunc_int_L1
      rw [show decide ((bs : Int) < (S.length : Int)) = false by simp only [decide_eq_false_iff_not]; omega]
      rfl
  obtain ⟨d, r1, r2, r3⟩ := key
  refine ⟨d, ?_, r2, r3⟩
  obtain ⟨s, u1, u2⟩ := Option.bind_eq_some_iff.1 q1
  unfold slices_SortStableFunc_int_int slices_stableCmpFunc_int
  rw [u1]
  simp only [Option.bind_some, u2, r1]
end
end Go.Proofs.Ytmleldfhkangbaa
