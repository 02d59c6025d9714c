/- pdqsort: what it computes, part 2: scans, partitions, the partial insertion sort. No condition. -/
import Derived.Test.YtiojagjejddocaaGreatDoorPdA
namespace Go.Proofs.YtiojagjejddocaaGreatDoor.PG
open Go Go.Sq
variable {E : Type} [Inhabited E]
section
variable {cmp : E × E × Unit → Option Int} {lt : E → E → Bool}

/-! ### Scans -/
theorem scanUp_gen {f : Int × List E → Option ((Int × List E) ⊕ (Int × List E))} {p : E → Bool} {l : List E} {j : Nat} (hs : ∀ i : Nat, f ((i : Int), l) = if (decide (i ≤ j) && p (l.toArray)[i]!) = true then some (.inl (((i + 1 : Nat) : Int), l)) else some (.inr ((i : Int), l))) :
    ∀ (m i : Nat), j + 1 - i = m → iter f ((i : Int), l) = some (((Sort.scanUp p l.toArray j i : Nat) : Int), l) := by
  intro m
  induction m with
  | zero =>
    intro i hm
    have h := hs i
    unfold Sort.scanUp
    rw [dec_f (show ¬ i ≤ j by omega), Bool.false_and] at h ⊢
    rw [if_neg (by simp)] at h ⊢
    exact iter_inr h
  | succ m ih =>
    intro i hm
    have h := hs i
    unfold Sort.scanUp
    by_cases hc : (decide (i ≤ j) && p (l.toArray)[i]!) = true
    · rw [if_pos hc] at h ⊢
      rw [iter_inl h]
      exact ih (i + 1) (by omega)
    · rw [if_neg hc] at h ⊢
      exact iter_inr h
theorem scanDown_gen {f : Int × List E → Option ((Int × List E) ⊕ (Int × List E))} {p : E → Bool} {l : List E} {i : Nat} (hi : 1 ≤ i) (hs : ∀ j : Nat, j < l.length → f ((j : Int), l) = if (decide (i ≤ j) && p (l.toArray)[j]!) = true then some (.inl ((j : Int) - 1, l)) else some (.inr ((j : Int), l))) :
    ∀ j : Nat, j < l.length → iter f ((j : Int), l) = some (((Sort.scanDown p l.toArray i j : Nat) : Int), l)
  | 0, hj => by
    have h := hs 0 hj
    rw [dec_f (show ¬ i ≤ 0 by omega), Bool.false_and, if_neg (by simp)] at h
    rw [iter_inr h]; rfl
  | j + 1, hj => by
    have h := hs (j + 1) hj
    unfold Sort.scanDown
    by_cases hc : (decide (i ≤ j + 1) && p (l.toArray)[j + 1]!) = true
    · rw [if_pos hc] at h ⊢
      rw [iter_inl h, show ((j + 1 : Nat) : Int) - 1 = (j : Int) by omega]
      exact scanDown_gen hi hs j (by omega)
    · rw [if_neg hc] at h ⊢
      exact iter_inr h

theorem partUp0 (hc : CmpLt cmp lt) {a b : Nat} {l : List E} (hab : a < b) (hb : b ≤ l.length) (hB : l.length ≤ 1099511627776) (i : Nat) : gs_partitionCmpFunc_L0 dE (a : Int) (b : Int) cmp (i : Int) l = if (decide (i ≤ b - 1) && lt (l.toArray)[i]! (l.toArray)[a]!) = true then some (.inl (((i + 1 : Nat) : Int), l)) else some (.inr ((i : Int), l)) := by
  unfold gs_partitionCmpFunc_L0
  rw [at_get, at_get, show wi64 ((b : Int) - 1) = ((b - 1 : Nat) : Int) by rw [wi (by omega)]; omega]
  by_cases h : i ≤ b - 1
  · obtain ⟨r, q1, q2⟩ := hc (l.getD i dE) (l.getD a dE)
    simp only [dec_t (show (i : Int) ≤ ((b - 1 : Nat) : Int) by omega), dec_t h, Bool.true_and, cond_true, gd_t (inB_t (show i < l.length by omega)), gd_t (inB_t (show a < l.length by omega)), Int.toNat_natCast, q1, Option.bind_some, q2]
    cases lt (l.getD i dE) (l.getD a dE) with
    | true => rw [wi (by omega)]; rfl
    | false => rfl
  · simp only [dec_f (show ¬ (i : Int) ≤ ((b - 1 : Nat) : Int) by omega), dec_f h, Bool.false_and, cond_false, Option.bind_some]; rfl
theorem partUp3 (hc : CmpLt cmp lt) {a j : Nat} {l : List E} (ha : a < l.length) (hj : j < l.length) (hB : l.length ≤ 1099511627776) (i : Nat) : gs_partitionCmpFunc_L3 dE (a : Int) cmp (j : Int) (i : Int) l = if (decide (i ≤ j) && lt (l.toArray)[i]! (l.toArray)[a]!) = true then some (.inl (((i + 1 : Nat) : Int), l)) else some (.inr ((i : Int), l)) := by
  unfold gs_partitionCmpFunc_L3
  rw [at_get, at_get]
  by_cases h : i ≤ j
  · obtain ⟨r, q1, q2⟩ := hc (l.getD i dE) (l.getD a dE)
    simp only [dec_t (show (i : Int) ≤ (j : Int) by omega), dec_t h, Bool.true_and, cond_true, gd_t (inB_t (show i < l.length by omega)), gd_t (inB_t ha), Int.toNat_natCast, q1, Option.bind_some, q2]
    cases lt (l.getD i dE) (l.getD a dE) with
    | true => rw [wi (by omega)]; rfl
    | false => rfl
  · simp only [dec_f (show ¬ (i : Int) ≤ (j : Int) by omega), dec_f h, Bool.false_and, cond_false, Option.bind_some]; rfl
theorem partDn1 (hc : CmpLt cmp lt) {a i : Nat} {l : List E} (x : List E) (ha : a < l.length) (hB : l.length ≤ 1099511627776) (j : Nat) (hj : j < l.length) : gs_partitionCmpFunc_L1 dE (a : Int) cmp ((i : Int), x) (j : Int) l = if (decide (i ≤ j) && !lt (l.toArray)[j]! (l.toArray)[a]!) = true then some (.inl ((j : Int) - 1, l)) else some (.inr ((j : Int), l)) := by
  unfold gs_partitionCmpFunc_L1
  rw [at_get, at_get]
  by_cases h : i ≤ j
  · obtain ⟨r, q1, q2⟩ := hc (l.getD j dE) (l.getD a dE)
    simp only [dec_t (show (i : Int) ≤ (j : Int) by omega), dec_t h, Bool.true_and, cond_true, gd_t (inB_t hj), gd_t (inB_t ha), Int.toNat_natCast, q1, Option.bind_some, q2]
    cases lt (l.getD j dE) (l.getD a dE) with
    | false => rw [wi (by omega)]; rfl
    | true => rfl
  · simp only [dec_f (show ¬ (i : Int) ≤ (j : Int) by omega), dec_f h, Bool.false_and, cond_false, Option.bind_some]; rfl
theorem partDn4 (hc : CmpLt cmp lt) {a i : Nat} {l : List E} (x : List E) (ha : a < l.length) (hB : l.length ≤ 1099511627776) (j : Nat) (hj : j < l.length) : gs_partitionCmpFunc_L4 dE (a : Int) cmp ((i : Int), x) (j : Int) l = if (decide (i ≤ j) && !lt (l.toArray)[j]! (l.toArray)[a]!) = true then some (.inl ((j : Int) - 1, l)) else some (.inr ((j : Int), l)) := by
  unfold gs_partitionCmpFunc_L4
  rw [at_get, at_get]
  by_cases h : i ≤ j
  · obtain ⟨r, q1, q2⟩ := hc (l.getD j dE) (l.getD a dE)
    simp only [dec_t (show (i : Int) ≤ (j : Int) by omega), dec_t h, Bool.true_and, cond_true, gd_t (inB_t hj), gd_t (inB_t ha), Int.toNat_natCast, q1, Option.bind_some, q2]
    cases lt (l.getD j dE) (l.getD a dE) with
    | false => rw [wi (by omega)]; rfl
    | true => rfl
  · simp only [dec_f (show ¬ (i : Int) ≤ (j : Int) by omega), dec_f h, Bool.false_and, cond_false, Option.bind_some]; rfl
theorem eqUp1 (hc : CmpLt cmp lt) {a j : Nat} {l : List E} (ha : a < l.length) (hj : j < l.length) (hB : l.length ≤ 1099511627776) (i : Nat) : gs_partitionEqualCmpFunc_L1 dE (a : Int) cmp (j : Int) (i : Int) l = if (decide (i ≤ j) && !lt (l.toArray)[a]! (l.toArray)[i]!) = true then some (.inl (((i + 1 : Nat) : Int), l)) else some (.inr ((i : Int), l)) := by
  unfold gs_partitionEqualCmpFunc_L1
  rw [at_get, at_get]
  by_cases h : i ≤ j
  · obtain ⟨r, q1, q2⟩ := hc (l.getD a dE) (l.getD i dE)
    simp only [dec_t (show (i : Int) ≤ (j : Int) by omega), dec_t h, Bool.true_and, cond_true, gd_t (inB_t (show i < l.length by omega)), gd_t (inB_t ha), Int.toNat_natCast, q1, Option.bind_some, q2]
    cases lt (l.getD a dE) (l.getD i dE) with
    | false => rw [wi (by omega)]; rfl
    | true => rfl
  · simp only [dec_f (show ¬ (i : Int) ≤ (j : Int) by omega), dec_f h, Bool.false_and, cond_false, Option.bind_some]; rfl
theorem eqDn2 (hc : CmpLt cmp lt) {a i : Nat} {l : List E} (x : List E) (ha : a < l.length) (hB : l.length ≤ 1099511627776) (j : Nat) (hj : j < l.length) : gs_partitionEqualCmpFunc_L2 dE (a : Int) cmp ((i : Int), x) (j : Int) l = if (decide (i ≤ j) && lt (l.toArray)[a]! (l.toArray)[j]!) = true then some (.inl ((j : Int) - 1, l)) else some (.inr ((j : Int), l)) := by
  unfold gs_partitionEqualCmpFunc_L2
  rw [at_get, at_get]
  by_cases h : i ≤ j
  · obtain ⟨r, q1, q2⟩ := hc (l.getD a dE) (l.getD j dE)
    simp only [dec_t (show (i : Int) ≤ (j : Int) by omega), dec_t h, Bool.true_and, cond_true, gd_t (inB_t hj), gd_t (inB_t ha), Int.toNat_natCast, q1, Option.bind_some, q2]
    cases lt (l.getD a dE) (l.getD j dE) with
    | true => rw [wi (by omega)]; rfl
    | false => rfl
  · simp only [dec_f (show ¬ (i : Int) ≤ (j : Int) by omega), dec_f h, Bool.false_and, cond_false, Option.bind_some]; rfl

/-! ### Partitions -/
def SimI (x : Option (Int × List E)) (r : Nat × Array E) (n : Nat) : Prop := ∃ l, x = some ((r.1 : Int), l) ∧ l.toArray = r.2 ∧ l.length = n
theorem partLoop_sim (hc : CmpLt cmp lt) {a : Nat} : ∀ (m i j : Nat) (l : List E), j + 1 - i ≤ m → a < i → j < l.length → a < l.length → l.length ≤ 1099511627776 → SimI (iter (fun x : Int × Int × List E => gs_partitionCmpFunc_L2 dE (a : Int) cmp x.1 x.2.1 x.2.2) ((i : Int), (j : Int), l)) (Sort.partLoop lt a i j l.toArray) l.length := by
  intro m
  induction m using Nat.strongRecOn with
  | _ m ih =>
    intro i j l hm hai hj ha hB
    have u := scanUp_gen (f := fun x : Int × List E => gs_partitionCmpFunc_L3 dE (a : Int) cmp (j : Int) x.1 x.2) (p := fun x => lt x (l.toArray)[a]!) (partUp3 hc ha hj hB) _ i rfl
    have hge := Sort.scanUp_ge (fun x => lt x (l.toArray)[a]!) l.toArray j i
    rw [Sort.partLoop_eq]
    generalize Sort.scanUp (fun x => lt x (l.toArray)[a]!) l.toArray j i = i2 at u hge ⊢
    have v := scanDown_gen (f := fun x : Int × List E => gs_partitionCmpFunc_L4 dE (a : Int) cmp ((i2 : Int), l) x.1 x.2) (p := fun x => !lt x (l.toArray)[a]!) (i := i2) (by omega) (fun j hj => partDn4 hc l ha hB j hj) j hj
    have hle := Sort.scanDown_le (fun x => !lt x (l.toArray)[a]!) l.toArray i2 j
    generalize Sort.scanDown (fun x => !lt x (l.toArray)[a]!) l.toArray i2 j = j2 at v hle ⊢
    by_cases hc2 : i2 > j2
    · have k : gs_partitionCmpFunc_L2 dE (a : Int) cmp (i : Int) (j : Int) l = some (.inr ((j2 : Int), l)) := by
        unfold gs_partitionCmpFunc_L2
        rw [u, Option.bind_some]
        simp only
        rw [v, Option.bind_some, dec_t (by simp only; omega)]; rfl
      rw [if_pos hc2]
      exact ⟨l, iter_inr k, rfl, rfl⟩
    · have k : gs_partitionCmpFunc_L2 dE (a : Int) cmp (i : Int) (j : Int) l = some (.inl (((i2 + 1 : Nat) : Int), ((j2 - 1 : Nat) : Int), (l.set i2 (l.getD j2 dE)).set j2 (l.getD i2 dE))) := by
        unfold gs_partitionCmpFunc_L2
        rw [u, Option.bind_some]
        simp only
        rw [v, Option.bind_some, dec_f (by simp only; omega)]
        simp only [cond_false, gd_t (inB_t (show j2 < l.length by omega)), gd_t (inB_t (show i2 < l.length by omega)), List.length_set, Int.toNat_natCast]
        rw [wi (by omega), wi (by omega), show (j2 : Int) - 1 = ((j2 - 1 : Nat) : Int) by omega]; rfl
      rw [if_neg hc2]
      obtain ⟨l', h1, h2, h3⟩ := ih ((j2 - 1) + 1 - (i2 + 1)) (by omega) (i2 + 1) (j2 - 1) ((l.set i2 (l.getD j2 dE)).set j2 (l.getD i2 dE)) (Nat.le_refl _) (by omega) (by rw [len2]; omega) (by rw [len2]; exact ha) (by rw [len2]; exact hB)
      rw [swp_l]
      exact ⟨l', by rw [iter_inl k]; exact h1, h2, by rw [h3, len2]⟩
theorem partition_sim (hc : CmpLt cmp lt) {a b pivot : Nat} (l : List E) (hap : a ≤ pivot) (hpb : pivot < b) (hb : b ≤ l.length) (hB : l.length ≤ 1099511627776) :
    ∃ l', gs_partitionCmpFunc dE (a : Int) (b : Int) (pivot : Int) cmp l = some (((Sort.partition lt l.toArray a b pivot).1 : Int), (Sort.partition lt l.toArray a b pivot).2.1, l') ∧ l'.toArray = (Sort.partition lt l.toArray a b pivot).2.2 ∧ l'.length = l.length ∧ a ≤ (Sort.partition lt l.toArray a b pivot).1 ∧ (Sort.partition lt l.toArray a b pivot).1 < b := by
  obtain ⟨l1, hl1⟩ : ∃ l1, l1 = (l.set a (l.getD pivot dE)).set pivot (l.getD a dE) := ⟨_, rfl⟩
  have hn1 : l1.length = l.length := by rw [hl1, len2]
  have hs1 : Sort.swp l.toArray a pivot = l1.toArray := by rw [hl1, swp_l]
  have hr : a ≤ (Sort.partition lt l.toArray a b pivot).1 ∧ (Sort.partition lt l.toArray a b pivot).1 < b := by
    rw [Sort.partition_fst, hs1]
    obtain ⟨r1, r2, _⟩ := Sort.partLoop_spec lt a b _ (a + 1) (b - 1) l1.toArray (Nat.le_refl _) (Nat.lt_succ_self a) (by omega) (by omega) (by simp; omega) (fun t h1 h2 => by omega) (fun t h1 h2 => by omega)
    exact ⟨r1, r2⟩
  have u := scanUp_gen (f := fun x : Int × List E => gs_partitionCmpFunc_L0 dE (a : Int) (b : Int) cmp x.1 x.2) (p := fun x => lt x (l1.toArray)[a]!) (partUp0 hc (a := a) (b := b) (l := l1) (by omega) (by omega) (by omega)) _ (a + 1) rfl
  have hge := Sort.scanUp_ge (fun x => lt x (l1.toArray)[a]!) l1.toArray (b - 1) (a + 1)
  have hfst := Sort.partition_fst (lt := lt) l.toArray a b pivot
  rw [hs1, Sort.partLoop_eq] at hfst
  have hU : Sort.partition lt l.toArray a b pivot = Sort.partition lt l.toArray a b pivot := rfl
  conv at hU => rhs; unfold Sort.partition
  rw [hs1] at hU
  simp only at hU
  generalize Sort.scanUp (fun x => lt x (l1.toArray)[a]!) l1.toArray (b - 1) (a + 1) = i2 at u hge hU hfst
  have v := scanDown_gen (f := fun x : Int × List E => gs_partitionCmpFunc_L1 dE (a : Int) cmp ((i2 : Int), l1) x.1 x.2) (p := fun x => !lt x (l1.toArray)[a]!) (i := i2) (by omega) (fun j hj => partDn1 hc (l := l1) l1 (by omega) (by omega) j hj) (b - 1) (by omega)
  have hle := Sort.scanDown_le (fun x => !lt x (l1.toArray)[a]!) l1.toArray i2 (b - 1)
  generalize Sort.scanDown (fun x => !lt x (l1.toArray)[a]!) l1.toArray i2 (b - 1) = j2 at v hle hU hfst
  have hT : gs_partitionCmpFunc dE (a : Int) (b : Int) (pivot : Int) cmp l = gs_partitionCmpFunc dE (a : Int) (b : Int) (pivot : Int) cmp l := rfl
  conv at hT => rhs; unfold gs_partitionCmpFunc
  simp only [gd_t (inB_t (show pivot < l.length by omega)), gd_t (inB_t (show a < l.length by omega)), List.length_set, Int.toNat_natCast] at hT
  rw [← hl1, show wi64 ((a : Int) + 1) = ((a + 1 : Nat) : Int) by rw [wi (by omega)]; rfl, u, Option.bind_some] at hT
  simp only at hT
  rw [show wi64 ((b : Int) - 1) = ((b - 1 : Nat) : Int) by rw [wi (by omega)]; omega, v, Option.bind_some] at hT
  simp only at hT
  by_cases hc2 : i2 > j2
  · rw [if_pos hc2] at hU
    rw [dec_t (show (j2 : Int) < (i2 : Int) by omega)] at hT
    have hj2 : j2 < b := by omega
    simp only [cond_true, gd_t (inB_t (show j2 < l1.length by omega)), gd_t (inB_t (show a < l1.length by omega)), List.length_set, Int.toNat_natCast] at hT
    rw [hU] at hr ⊢
    exact ⟨_, hT, by rw [swp_l], by rw [len2]; exact hn1, hr⟩
  · rw [if_neg hc2] at hU hfst
    rw [dec_f (show ¬ (j2 : Int) < (i2 : Int) by omega)] at hT
    simp only [cond_false, gd_t (inB_t (show j2 < l1.length by omega)), gd_t (inB_t (show i2 < l1.length by omega)), List.length_set, Int.toNat_natCast] at hT
    rw [show wi64 ((i2 : Int) + 1) = ((i2 + 1 : Nat) : Int) by rw [wi (by omega)]; rfl, show wi64 ((j2 : Int) - 1) = ((j2 - 1 : Nat) : Int) by rw [wi (by omega)]; omega] at hT
    obtain ⟨l3, h1, h2, h3⟩ := partLoop_sim hc (a := a) _ (i2 + 1) (j2 - 1) ((l1.set i2 (l1.getD j2 dE)).set j2 (l1.getD i2 dE)) (Nat.le_refl _) (by omega) (by rw [len2]; omega) (by rw [len2]; omega) (by rw [len2]; omega)
    rw [len2] at h3
    rw [swp_l] at hU hfst
    rw [h1, Option.bind_some] at hT
    have hr2 := hr.2
    rw [hfst] at hr2
    simp only [gd_t (inB_t (show (Sort.partLoop lt a (i2 + 1) (j2 - 1) ((l1.set i2 (l1.getD j2 dE)).set j2 (l1.getD i2 dE)).toArray).1 < l3.length by omega)), gd_t (inB_t (show a < l3.length by omega)), List.length_set, Int.toNat_natCast] at hT
    rw [hU] at hr ⊢
    exact ⟨_, hT, by rw [← h2, swp_l], by rw [len2]; omega, hr⟩
theorem partEqLoop_sim (hc : CmpLt cmp lt) {a : Nat} : ∀ (m i j : Nat) (l : List E), j + 1 - i ≤ m → a < i → j < l.length → a < l.length → l.length ≤ 1099511627776 → SimI (iter (fun x : Int × Int × List E => gs_partitionEqualCmpFunc_L0 dE (a : Int) cmp x.1 x.2.1 x.2.2) ((i : Int), (j : Int), l)) (Sort.partEqLoop lt a i j l.toArray) l.length := by
  intro m
  induction m using Nat.strongRecOn with
  | _ m ih =>
    intro i j l hm hai hj ha hB
    have u := scanUp_gen (f := fun x : Int × List E => gs_partitionEqualCmpFunc_L1 dE (a : Int) cmp (j : Int) x.1 x.2) (p := fun x => !lt (l.toArray)[a]! x) (eqUp1 hc ha hj hB) _ i rfl
    have hge := Sort.scanUp_ge (fun x => !lt (l.toArray)[a]! x) l.toArray j i
    rw [Sort.partEqLoop_eq]
    generalize Sort.scanUp (fun x => !lt (l.toArray)[a]! x) l.toArray j i = i2 at u hge ⊢
    have v := scanDown_gen (f := fun x : Int × List E => gs_partitionEqualCmpFunc_L2 dE (a : Int) cmp ((i2 : Int), l) x.1 x.2) (p := fun x => lt (l.toArray)[a]! x) (i := i2) (by omega) (fun j hj => eqDn2 hc l ha hB j hj) j hj
    have hle := Sort.scanDown_le (fun x => lt (l.toArray)[a]! x) l.toArray i2 j
    generalize Sort.scanDown (fun x => lt (l.toArray)[a]! x) l.toArray i2 j = j2 at v hle ⊢
    by_cases hc2 : i2 > j2
    · have k : gs_partitionEqualCmpFunc_L0 dE (a : Int) cmp (i : Int) (j : Int) l = some (.inr ((i2 : Int), l)) := by
        unfold gs_partitionEqualCmpFunc_L0
        rw [u, Option.bind_some]
        simp only
        rw [v, Option.bind_some, dec_t (by simp only; omega)]; rfl
      rw [if_pos hc2]
      exact ⟨l, iter_inr k, rfl, rfl⟩
    · have k : gs_partitionEqualCmpFunc_L0 dE (a : Int) cmp (i : Int) (j : Int) l = some (.inl (((i2 + 1 : Nat) : Int), ((j2 - 1 : Nat) : Int), (l.set i2 (l.getD j2 dE)).set j2 (l.getD i2 dE))) := by
        unfold gs_partitionEqualCmpFunc_L0
        rw [u, Option.bind_some]
        simp only
        rw [v, Option.bind_some, dec_f (by simp only; omega)]
        simp only [cond_false, gd_t (inB_t (show j2 < l.length by omega)), gd_t (inB_t (show i2 < l.length by omega)), List.length_set, Int.toNat_natCast]
        rw [wi (by omega), wi (by omega), show (j2 : Int) - 1 = ((j2 - 1 : Nat) : Int) by omega]; rfl
      rw [if_neg hc2]
      obtain ⟨l', h1, h2, h3⟩ := ih ((j2 - 1) + 1 - (i2 + 1)) (by omega) (i2 + 1) (j2 - 1) ((l.set i2 (l.getD j2 dE)).set j2 (l.getD i2 dE)) (Nat.le_refl _) (by omega) (by rw [len2]; omega) (by rw [len2]; exact ha) (by rw [len2]; exact hB)
      rw [swp_l]
      exact ⟨l', by rw [iter_inl k]; exact h1, h2, by rw [h3, len2]⟩
theorem partEqual_sim (hc : CmpLt cmp lt) {a b pivot : Nat} (l : List E) (hap : a ≤ pivot) (hpb : pivot < b) (hb : b ≤ l.length) (hB : l.length ≤ 1099511627776) :
    ∃ l', gs_partitionEqualCmpFunc dE (a : Int) (b : Int) (pivot : Int) cmp l = some (((Sort.partitionEqual lt l.toArray a b pivot).1 : Int), l') ∧ l'.toArray = (Sort.partitionEqual lt l.toArray a b pivot).2 ∧ l'.length = l.length ∧ a < (Sort.partitionEqual lt l.toArray a b pivot).1 ∧ (Sort.partitionEqual lt l.toArray a b pivot).1 ≤ b := by
  obtain ⟨l1, hl1⟩ : ∃ l1, l1 = (l.set a (l.getD pivot dE)).set pivot (l.getD a dE) := ⟨_, rfl⟩
  have hn1 : l1.length = l.length := by rw [hl1, len2]
  have hs1 : Sort.swp l.toArray a pivot = l1.toArray := by rw [hl1, swp_l]
  unfold Sort.partitionEqual
  rw [hs1]
  obtain ⟨r1, r2, _⟩ := Sort.partEqLoop_spec lt a b _ (a + 1) (b - 1) l1.toArray (Nat.le_refl _) (Nat.lt_succ_self a) (by omega) (by omega) (by simp; omega) (fun t h1 h2 => by omega) (fun t h1 h2 => by omega)
  obtain ⟨l3, h1, h2, h3⟩ := partEqLoop_sim hc (a := a) _ (a + 1) (b - 1) l1 (Nat.le_refl _) (by omega) (by omega) (by omega) (by omega)
  refine ⟨l3, ?_, h2, by omega, r1, r2⟩
  unfold gs_partitionEqualCmpFunc
  simp only [gd_t (inB_t (show pivot < l.length by omega)), gd_t (inB_t (show a < l.length by omega)), List.length_set, Int.toNat_natCast]
  rw [← hl1, show wi64 ((a : Int) + 1) = ((a + 1 : Nat) : Int) by rw [wi (by omega)]; rfl, show wi64 ((b : Int) - 1) = ((b - 1 : Nat) : Int) by rw [wi (by omega)]; omega, h1]; rfl

/-! ### The partial insertion sort -/
theorem scanSorted_sim (hc : CmpLt cmp lt) {b : Nat} {l : List E} (hb : b ≤ l.length) (hB : l.length ≤ 1099511627776) : ∀ (m i : Nat), b - i = m → 1 ≤ i → iter (fun x : Int × List E => gs_partialInsertionSortCmpFunc_L1 dE (b : Int) cmp x.1 x.2) ((i : Int), l) = some (((Sort.scanSorted lt l.toArray b i : Nat) : Int), l) := by
  intro m
  induction m with
  | zero =>
    intro i hm hi
    have k : gs_partialInsertionSortCmpFunc_L1 dE (b : Int) cmp (i : Int) l = some (.inr ((i : Int), l)) := by
      unfold gs_partialInsertionSortCmpFunc_L1
      simp only [dec_f (show ¬ (i : Int) < (b : Int) by omega), cond_false, Option.bind_some]
    unfold Sort.scanSorted
    rw [dec_f (show ¬ i < b by omega), Bool.false_and, if_neg (by simp)]
    exact iter_inr k
  | succ m ih =>
    intro i hm hi
    obtain ⟨r, q1, q2⟩ := hc (l.getD i dE) (l.getD (i - 1) dE)
    have e1 : wi64 ((i : Int) - 1) = ((i - 1 : Nat) : Int) := by rw [wi (by omega)]; omega
    unfold Sort.scanSorted
    rw [dec_t (show i < b by omega), Bool.true_and, at_get, at_get]
    cases hl : lt (l.getD i dE) (l.getD (i - 1) dE) with
    | true =>
      have k : gs_partialInsertionSortCmpFunc_L1 dE (b : Int) cmp (i : Int) l = some (.inr ((i : Int), l)) := by
        unfold gs_partialInsertionSortCmpFunc_L1
        simp only [dec_t (show (i : Int) < (b : Int) by omega), cond_true, e1, gd_t (inB_t (show i < l.length by omega)), gd_t (inB_t (show i - 1 < l.length by omega)), Int.toNat_natCast, q1, Option.bind_some, q2, hl, Bool.not_true, cond_false]
      rw [if_neg (by simp)]
      exact iter_inr k
    | false =>
      have k : gs_partialInsertionSortCmpFunc_L1 dE (b : Int) cmp (i : Int) l = some (.inl (((i + 1 : Nat) : Int), l)) := by
        unfold gs_partialInsertionSortCmpFunc_L1
        simp only [dec_t (show (i : Int) < (b : Int) by omega), cond_true, e1, gd_t (inB_t (show i < l.length by omega)), gd_t (inB_t (show i - 1 < l.length by omega)), Int.toNat_natCast, q1, Option.bind_some, q2, hl, Bool.not_false]
        rw [wi (by omega)]; rfl
      rw [if_pos (by simp), iter_inl k]
      exact ih (i + 1) (by omega) (by omega)
theorem scanSorted_le {b : Nat} {d : Array E} : ∀ (m i : Nat), b - i = m → i ≤ b → i ≤ Sort.scanSorted lt d b i ∧ Sort.scanSorted lt d b i ≤ b := by
  intro m
  induction m with
  | zero =>
    intro i hm hi
    unfold Sort.scanSorted
    rw [dec_f (show ¬ i < b by omega), Bool.false_and, if_neg (by simp)]
    exact ⟨Nat.le_refl _, hi⟩
  | succ m ih =>
    intro i hm hi
    unfold Sort.scanSorted
    split
    · have := ih (i + 1) (by omega) (by omega)
      omega
    · exact ⟨Nat.le_refl _, hi⟩
theorem shiftDown_sim (hc : CmpLt cmp lt) : ∀ (j : Nat) (l : List E), j < l.length → l.length ≤ 1099511627776 → Sim (iter (fun x : Int × List E => gs_partialInsertionSortCmpFunc_L2 dE cmp x.1 x.2) ((j : Int), l)) (Sort.shiftDown lt j l.toArray) l.length
  | 0, l, hj, hB => by
    have k : gs_partialInsertionSortCmpFunc_L2 dE cmp ((0 : Nat) : Int) l = some (.inr l) := by
      unfold gs_partialInsertionSortCmpFunc_L2
      rw [dec_f (by omega)]; rfl
    exact ⟨l, iter_inr k, rfl, rfl⟩
  | j + 1, l, hj, hB => by
    obtain ⟨r, q1, q2⟩ := hc (l.getD (j + 1) dE) (l.getD j dE)
    have e1 : wi64 (((j + 1 : Nat) : Int) - 1) = (j : Int) := by rw [wi (by omega)]; omega
    unfold Sort.shiftDown
    rw [at_get, at_get]
    cases hl : lt (l.getD (j + 1) dE) (l.getD j dE) with
    | false =>
      have k : gs_partialInsertionSortCmpFunc_L2 dE cmp ((j + 1 : Nat) : Int) l = some (.inr l) := by
        unfold gs_partialInsertionSortCmpFunc_L2
        simp only [dec_t (show (1 : Int) ≤ ((j + 1 : Nat) : Int) by omega), cond_true, e1, gd_t (inB_t hj), gd_t (inB_t (show j < l.length by omega)), Int.toNat_natCast, q1, Option.bind_some, q2, hl, Bool.not_false]
      exact ⟨l, iter_inr k, by simp, rfl⟩
    | true =>
      have k : gs_partialInsertionSortCmpFunc_L2 dE cmp ((j + 1 : Nat) : Int) l = some (.inl ((j : Int), (l.set (j + 1) (l.getD j dE)).set j (l.getD (j + 1) dE))) := by
        unfold gs_partialInsertionSortCmpFunc_L2
        simp only [dec_t (show (1 : Int) ≤ ((j + 1 : Nat) : Int) by omega), cond_true, e1, gd_t (inB_t hj), gd_t (inB_t (show j < l.length by omega)), List.length_set, Int.toNat_natCast, q1, Option.bind_some, q2, hl, Bool.not_true, cond_false]
      obtain ⟨l', h1, h2, h3⟩ := shiftDown_sim hc j ((l.set (j + 1) (l.getD j dE)).set j (l.getD (j + 1) dE)) (by rw [len2]; omega) (by rw [len2]; exact hB)
      refine ⟨l', by rw [iter_inl k]; exact h1, ?_, by rw [h3, len2]⟩
      rw [h2, if_neg (by simp), swp_l]
theorem shiftUp_sim (hc : CmpLt cmp lt) {b : Nat} : ∀ (m j : Nat) (l : List E), b - j = m → 1 ≤ j → b ≤ l.length → l.length ≤ 1099511627776 → Sim (iter (fun x : Int × List E => gs_partialInsertionSortCmpFunc_L3 dE (b : Int) cmp x.1 x.2) ((j : Int), l)) (Sort.shiftUp lt b j l.toArray) l.length := by
  intro m
  induction m with
  | zero =>
    intro j l hm hj hb hB
    have k : gs_partialInsertionSortCmpFunc_L3 dE (b : Int) cmp (j : Int) l = some (.inr l) := by
      unfold gs_partialInsertionSortCmpFunc_L3
      rw [dec_f (by omega)]; rfl
    exact ⟨l, iter_inr k, by unfold Sort.shiftUp; rw [if_neg (by omega)], rfl⟩
  | succ m ih =>
    intro j l hm hj hb hB
    obtain ⟨r, q1, q2⟩ := hc (l.getD j dE) (l.getD (j - 1) dE)
    have e1 : wi64 ((j : Int) - 1) = ((j - 1 : Nat) : Int) := by rw [wi (by omega)]; omega
    unfold Sort.shiftUp
    rw [if_pos (by omega), at_get, at_get]
    cases hl : lt (l.getD j dE) (l.getD (j - 1) dE) with
    | false =>
      have k : gs_partialInsertionSortCmpFunc_L3 dE (b : Int) cmp (j : Int) l = some (.inr l) := by
        unfold gs_partialInsertionSortCmpFunc_L3
        simp only [dec_t (show (j : Int) < (b : Int) by omega), cond_true, e1, gd_t (inB_t (show j < l.length by omega)), gd_t (inB_t (show j - 1 < l.length by omega)), Int.toNat_natCast, q1, Option.bind_some, q2, hl, Bool.not_false]
      exact ⟨l, iter_inr k, by simp, rfl⟩
    | true =>
      have k : gs_partialInsertionSortCmpFunc_L3 dE (b : Int) cmp (j : Int) l = some (.inl (((j + 1 : Nat) : Int), (l.set j (l.getD (j - 1) dE)).set (j - 1) (l.getD j dE))) := by
        unfold gs_partialInsertionSortCmpFunc_L3
        simp only [dec_t (show (j : Int) < (b : Int) by omega), cond_true, e1, gd_t (inB_t (show j < l.length by omega)), gd_t (inB_t (show j - 1 < l.length by omega)), List.length_set, Int.toNat_natCast, q1, Option.bind_some, q2, hl, Bool.not_true, cond_false]
        rw [wi (by omega)]; rfl
      obtain ⟨l', h1, h2, h3⟩ := ih (j + 1) ((l.set j (l.getD (j - 1) dE)).set (j - 1) (l.getD j dE)) (by omega) (by omega) (by rw [len2]; exact hb) (by rw [len2]; exact hB)
      refine ⟨l', by rw [iter_inl k]; exact h1, ?_, by rw [h3, len2]⟩
      rw [h2, if_neg (by simp), swp_l]
theorem partialIns_sim (hc : CmpLt cmp lt) {a b : Nat} (hab : a < b) : ∀ (s i : Nat) (l : List E), s ≤ 5 → a + 1 ≤ i → i ≤ b → b ≤ l.length → l.length ≤ 1099511627776 →
    ∃ l', l'.toArray = (Sort.partialIns lt a b s i l.toArray).1 ∧ l'.length = l.length ∧ ((iter (fun x : Int × Int × List E => gs_partialInsertionSortCmpFunc_L0 dE (a : Int) (b : Int) cmp x.1 x.2.1 x.2.2) ((i : Int), ((5 - s : Nat) : Int), l) = some (.inl l') ∧ (Sort.partialIns lt a b s i l.toArray).2 = false) ∨
      iter (fun x : Int × Int × List E => gs_partialInsertionSortCmpFunc_L0 dE (a : Int) (b : Int) cmp x.1 x.2.1 x.2.2) ((i : Int), ((5 - s : Nat) : Int), l) = some (.inr ((Sort.partialIns lt a b s i l.toArray).2, l')))
  | 0, i, l, hs, hai, hib, hb, hB => by
    have k : gs_partialInsertionSortCmpFunc_L0 dE (a : Int) (b : Int) cmp (i : Int) ((5 - 0 : Nat) : Int) l = some (.inr (.inl l)) := by
      unfold gs_partialInsertionSortCmpFunc_L0
      rw [dec_f (by omega)]; rfl
    exact ⟨l, rfl, rfl, .inl ⟨iter_inr k, rfl⟩⟩
  | s + 1, i, l, hs, hai, hib, hb, hB => by
    rw [Sort.partialIns_succ]
    have u := scanSorted_sim hc (b := b) (l := l) hb hB _ i rfl (by omega)
    have hle := scanSorted_le (lt := lt) (b := b) (d := l.toArray) _ i rfl hib
    generalize Sort.scanSorted lt l.toArray b i = i2 at u hle ⊢
    have hT : gs_partialInsertionSortCmpFunc_L0 dE (a : Int) (b : Int) cmp (i : Int) ((5 - (s + 1) : Nat) : Int) l = gs_partialInsertionSortCmpFunc_L0 dE (a : Int) (b : Int) cmp (i : Int) ((5 - (s + 1) : Nat) : Int) l := rfl
    conv at hT => rhs; unfold gs_partialInsertionSortCmpFunc_L0
    rw [dec_t (show ((5 - (s + 1) : Nat) : Int) < 5 by omega)] at hT
    simp only [cond_true] at hT
    rw [u, Option.bind_some] at hT
    simp only at hT
    by_cases h1 : i2 = b
    · rw [dec_t (show (i2 : Int) = (b : Int) by omega)] at hT
      rw [if_pos h1]
      exact ⟨l, rfl, rfl, .inr (iter_inr hT)⟩
    · rw [dec_f (show ¬ (i2 : Int) = (b : Int) by omega)] at hT
      rw [if_neg h1]
      have e0 : wi64 ((b : Int) - (a : Int)) = ((b - a : Nat) : Int) := by rw [wi (by omega)]; omega
      simp only [cond_false, e0] at hT
      by_cases h2 : b - a < 50
      · rw [dec_t (show ((b - a : Nat) : Int) < 50 by omega)] at hT
        rw [if_pos h2]
        exact ⟨l, rfl, rfl, .inr (iter_inr hT)⟩
      · rw [dec_f (show ¬ ((b - a : Nat) : Int) < 50 by omega)] at hT
        rw [if_neg h2]
        have e1 : wi64 ((i2 : Int) - 1) = ((i2 - 1 : Nat) : Int) := by rw [wi (by omega)]; omega
        have e2 : wi64 ((i2 : Int) - (a : Int)) = ((i2 - a : Nat) : Int) := by rw [wi (by omega)]; omega
        have e3 : wi64 ((b : Int) - (i2 : Int)) = ((b - i2 : Nat) : Int) := by rw [wi (by omega)]; omega
        have e4 : wi64 ((i2 : Int) + 1) = ((i2 + 1 : Nat) : Int) := by rw [wi (by omega)]; rfl
        simp only [cond_false, e1, e2, e3, e4, gd_t (inB_t (show i2 < l.length by omega)), gd_t (inB_t (show i2 - 1 < l.length by omega)), List.length_set, Int.toNat_natCast] at hT
        obtain ⟨l1, hl1⟩ : ∃ l1, l1 = (l.set i2 (l.getD (i2 - 1) dE)).set (i2 - 1) (l.getD i2 dE) := ⟨_, rfl⟩
        have hn1 : l1.length = l.length := by rw [hl1, len2]
        rw [← hl1] at hT
        simp only [swp_l]
        rw [← hl1]
        have s1 : ∃ l2, (bif decide (2 ≤ ((i2 - a : Nat) : Int)) then ((iter (fun x2 : Int × List E => gs_partialInsertionSortCmpFunc_L2 dE cmp x2.1 x2.2) (((i2 - 1 : Nat) : Int), l1)).bind fun s3 => some s3) else some l1) = some l2 ∧ l2.toArray = Sort.fixDown lt a i2 l1.toArray ∧ l2.length = l1.length := by
          unfold Sort.fixDown
          by_cases h3 : i2 - a ≥ 2
          · rw [dec_t (show (2 : Int) ≤ ((i2 - a : Nat) : Int) by omega), if_pos h3]
            obtain ⟨l2, k1, k2, k3⟩ := shiftDown_sim hc (i2 - 1) l1 (by omega) (by omega)
            exact ⟨l2, by rw [cond_true, k1]; rfl, k2, k3⟩
          · rw [dec_f (show ¬ (2 : Int) ≤ ((i2 - a : Nat) : Int) by omega), if_neg h3]
            exact ⟨l1, rfl, rfl, rfl⟩
        obtain ⟨l2, k1, k2, k3⟩ := s1
        rw [k1, Option.bind_some] at hT
        rw [← k2]
        have s2 : ∃ l3, (bif decide (2 ≤ ((b - i2 : Nat) : Int)) then ((iter (fun x3 : Int × List E => gs_partialInsertionSortCmpFunc_L3 dE (b : Int) cmp x3.1 x3.2) (((i2 + 1 : Nat) : Int), l2)).bind fun s5 => some s5) else some l2) = some l3 ∧ l3.toArray = Sort.fixUp lt b i2 l2.toArray ∧ l3.length = l2.length := by
          unfold Sort.fixUp
          by_cases h3 : b - i2 ≥ 2
          · rw [dec_t (show (2 : Int) ≤ ((b - i2 : Nat) : Int) by omega), if_pos h3]
            obtain ⟨l3, k1, k2, k3⟩ := shiftUp_sim hc (b := b) _ (i2 + 1) l2 rfl (by omega) (by omega) (by omega)
            exact ⟨l3, by rw [cond_true, k1]; rfl, k2, k3⟩
          · rw [dec_f (show ¬ (2 : Int) ≤ ((b - i2 : Nat) : Int) by omega), if_neg h3]
            exact ⟨l2, rfl, rfl, rfl⟩
        obtain ⟨l3, m1, m2, m3⟩ := s2
        rw [m1, Option.bind_some, show wi64 (((5 - (s + 1) : Nat) : Int) + 1) = ((5 - s : Nat) : Int) by rw [wi (by omega)]; omega] at hT
        rw [← m2]
        obtain ⟨l', n1, n2, n3⟩ := partialIns_sim hc hab s i2 l3 (by omega) (by omega) (by omega) (by omega) (by omega)
        refine ⟨l', n1, by omega, ?_⟩
        rw [iter_inl hT]
        exact n3
theorem partial_sim (hc : CmpLt cmp lt) {a b : Nat} (l : List E) (hab : a < b) (hb : b ≤ l.length) (hB : l.length ≤ 1099511627776) :
    ∃ l', gs_partialInsertionSortCmpFunc dE (a : Int) (b : Int) cmp l = some ((Sort.partialInsertionSort lt l.toArray a b).2, l') ∧ l'.toArray = (Sort.partialInsertionSort lt l.toArray a b).1 ∧ l'.length = l.length := by
  obtain ⟨l', n1, n2, n3⟩ := partialIns_sim hc hab 5 (a + 1) l (by omega) (by omega) (by omega) hb hB
  refine ⟨l', ?_, n1, n2⟩
  unfold gs_partialInsertionSortCmpFunc
  rw [show wi64 ((a : Int) + 1) = ((a + 1 : Nat) : Int) by rw [wi (by omega)]; rfl]
  rcases n3 with ⟨n3, n4⟩ | n3
  · rw [show (0 : Int) = ((5 - 5 : Nat) : Int) from rfl, n3]
    unfold Sort.partialInsertionSort
    rw [n4]; rfl
  · rw [show (0 : Int) = ((5 - 5 : Nat) : Int) from rfl, n3]; rfl
end
end Go.Proofs.YtiojagjejddocaaGreatDoor.PG
