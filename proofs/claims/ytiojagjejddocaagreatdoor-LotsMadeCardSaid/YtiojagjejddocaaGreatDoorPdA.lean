/- pdqsort: what it computes, part 1: insertion, heap, scans, partitions. No condition. -/
import Derived.Test.YtiojagjejddocaaGreatDoorQv
import Derived.Test.YtiojagjejddocaaGreatDoorSqZ
import Derived.Sort.AssemblyPlain
import Derived.Sort.LotD5
namespace Go.Proofs.YtiojagjejddocaaGreatDoor.PG
open Go Go.Sq
variable {E : Type} [Inhabited E]
abbrev dE : E := default

def Sim (x : Option (List E)) (d : Array E) (n : Nat) : Prop := ∃ l, x = some l ∧ l.toArray = d ∧ l.length = n
def CmpLt (cmp : E × E × Unit → Option Int) (lt : E → E → Bool) : Prop := ∀ x y, ∃ r, cmp (x, y, ()) = some r ∧ decide (r < 0) = lt x y
theorem at_get (l : List E) (i : Nat) : (l.toArray)[i]! = l.getD i dE := by
  by_cases h : i < l.length
  · rw [getElem!_pos l.toArray i (by simpa using h), gD_eq h]; simp
  · rw [getElem!_neg l.toArray i (by simpa using h), gD_out (by omega)]
theorem swp_l (l : List E) (i j : Nat) : Sort.swp l.toArray i j = ((l.set i (l.getD j dE)).set j (l.getD i dE)).toArray := by
  unfold Sort.swp
  rw [at_get, at_get]; simp
theorem len2 {A : Type} (l : List A) (i j : Nat) (x y : A) : ((l.set i x).set j y).length = l.length := by simp

section
variable {cmp : E × E × Unit → Option Int} {lt : E → E → Bool}

/-! ### Insertion -/
theorem insInner_sim (hc : CmpLt cmp lt) {a : Nat} : ∀ (j : Nat) (l : List E), j < l.length → l.length ≤ 1099511627776 → Sim (iter (fun x : Int × List E => gs_insertionSortCmpFunc_L1 dE (a : Int) cmp x.1 x.2) ((j : Int), l)) (Sort.insInner lt a j l.toArray) l.length
  | 0, l, h, hB => by
    have k : gs_insertionSortCmpFunc_L1 dE (a : Int) cmp ((0 : Nat) : Int) l = some (.inr l) := by
      unfold gs_insertionSortCmpFunc_L1
      simp only [dec_f (show ¬ (a : Int) < ((0 : Nat) : Int) by omega), cond_false, Option.bind_some]
    exact ⟨l, iter_inr k, rfl, rfl⟩
  | j + 1, l, h, hB => by
    have e1 : wi64 (((j + 1 : Nat) : Int) - 1) = (j : Int) := by rw [wi (by omega)]; omega
    unfold Sort.insInner
    by_cases ha : a < j + 1
    · obtain ⟨r, q1, q2⟩ := hc (l.getD (j + 1) dE) (l.getD j dE)
      cases hl : lt (l.getD (j + 1) dE) (l.getD j dE) with
      | true =>
        have k : gs_insertionSortCmpFunc_L1 dE (a : Int) cmp ((j + 1 : Nat) : Int) l = some (.inl ((j : Int), (l.set (j + 1) (l.getD j dE)).set j (l.getD (j + 1) dE))) := by
          unfold gs_insertionSortCmpFunc_L1
          simp only [dec_t (show (a : Int) < ((j + 1 : Nat) : Int) by omega), cond_true, e1, gd_t (inB_t h), gd_t (inB_t (show j < l.length by omega)), Int.toNat_natCast, q1, Option.bind_some, q2, hl, List.length_set]
        obtain ⟨l', h1, h2, h3⟩ := insInner_sim hc (a := a) j ((l.set (j + 1) (l.getD j dE)).set j (l.getD (j + 1) dE)) (by rw [len2]; omega) (by rw [len2]; exact hB)
        refine ⟨l', by rw [iter_inl k]; exact h1, ?_, by rw [h3, len2]⟩
        rw [h2, at_get, at_get, hl, Bool.and_true, if_pos (by simpa using ha), swp_l]
      | false =>
        have k : gs_insertionSortCmpFunc_L1 dE (a : Int) cmp ((j + 1 : Nat) : Int) l = some (.inr l) := by
          unfold gs_insertionSortCmpFunc_L1
          simp only [dec_t (show (a : Int) < ((j + 1 : Nat) : Int) by omega), cond_true, e1, gd_t (inB_t h), gd_t (inB_t (show j < l.length by omega)), Int.toNat_natCast, q1, Option.bind_some, q2, hl, cond_false]
        refine ⟨l, iter_inr k, ?_, rfl⟩
        rw [at_get, at_get, hl, Bool.and_false, if_neg (by simp)]
    · have k : gs_insertionSortCmpFunc_L1 dE (a : Int) cmp ((j + 1 : Nat) : Int) l = some (.inr l) := by
        unfold gs_insertionSortCmpFunc_L1
        simp only [dec_f (show ¬ (a : Int) < ((j + 1 : Nat) : Int) by omega), cond_false, Option.bind_some]
      refine ⟨l, iter_inr k, ?_, rfl⟩
      rw [if_neg]
      rw [dec_f (by omega), Bool.false_and]; simp
theorem insOuter_sim (hc : CmpLt cmp lt) {a b : Nat} : ∀ (m i : Nat) (l : List E), b - i = m → b ≤ l.length → l.length ≤ 1099511627776 → Sim (iter (fun x : Int × List E => gs_insertionSortCmpFunc_L0 dE (a : Int) (b : Int) cmp x.1 x.2) ((i : Int), l)) (Sort.insOuter lt a b i l.toArray) l.length := by
  intro m
  induction m with
  | zero =>
    intro i l hm hb hB
    have k : gs_insertionSortCmpFunc_L0 dE (a : Int) (b : Int) cmp (i : Int) l = some (.inr l) := by
      unfold gs_insertionSortCmpFunc_L0
      rw [dec_f (by omega)]; rfl
    exact ⟨l, iter_inr k, by unfold Sort.insOuter; rw [if_neg (by omega)], rfl⟩
  | succ m ih =>
    intro i l hm hb hB
    obtain ⟨l1, h1, h2, h3⟩ := insInner_sim hc (a := a) i l (by omega) hB
    have k : gs_insertionSortCmpFunc_L0 dE (a : Int) (b : Int) cmp (i : Int) l = some (.inl (((i + 1 : Nat) : Int), l1)) := by
      unfold gs_insertionSortCmpFunc_L0
      rw [dec_t (show (i : Int) < (b : Int) by omega)]
      simp only [cond_true]
      rw [h1, Option.bind_some, wi (by omega)]; rfl
    obtain ⟨l', k1, k2, k3⟩ := ih (i + 1) l1 (by omega) (by omega) (by omega)
    refine ⟨l', by rw [iter_inl k]; exact k1, ?_, by omega⟩
    rw [k2, h2]
    conv => rhs; unfold Sort.insOuter
    rw [if_pos (by omega)]
theorem insertionSort_sim (hc : CmpLt cmp lt) {a b : Nat} (l : List E) (hb : b ≤ l.length) (hab : a ≤ b) (hB : l.length ≤ 1099511627776) : Sim (gs_insertionSortCmpFunc dE (a : Int) (b : Int) cmp l) (Sort.insertionSort lt l.toArray a b) l.length := by
  obtain ⟨l', k1, k2, k3⟩ := insOuter_sim hc (a := a) (b := b) _ (a + 1) l rfl hb hB
  refine ⟨l', ?_, k2, k3⟩
  unfold gs_insertionSortCmpFunc
  rw [wi (by omega), show ((a : Int) + 1) = ((a + 1 : Nat) : Int) from rfl, k1]; rfl

/-! ### Heap -/
theorem siftLoop_sim (hc : CmpLt cmp lt) {hi first : Nat} : ∀ (m root : Nat) (l : List E), hi - root ≤ m → first + hi ≤ l.length → l.length ≤ 1099511627776 → root ≤ 1099511627776 →
    ∃ l', (iter (fun x : Int × List E => gs_siftDownCmpFunc_L0 dE (hi : Int) (first : Int) cmp x.1 x.2) ((root : Int), l) = some (.inl l') ∨ iter (fun x : Int × List E => gs_siftDownCmpFunc_L0 dE (hi : Int) (first : Int) cmp x.1 x.2) ((root : Int), l) = some (.inr l')) ∧ l'.toArray = Sort.siftDown lt hi first root l.toArray ∧ l'.length = l.length := by
  intro m
  induction m with
  | zero =>
    intro root l hm hf hB hr
    have k : gs_siftDownCmpFunc_L0 dE (hi : Int) (first : Int) cmp (root : Int) l = some (.inr (.inl l)) := by
      unfold gs_siftDownCmpFunc_L0
      rw [show wi64 (2 * (root : Int)) = 2 * (root : Int) from wi (by omega), wi (by omega), dec_t (by omega)]; rfl
    refine ⟨l, .inl (iter_inr k), ?_, rfl⟩
    unfold Sort.siftDown
    rw [dif_pos (by omega)]
  | succ m ih =>
    intro root l hm hf hB hr
    by_cases hh : hi ≤ 2 * root + 1
    · have k : gs_siftDownCmpFunc_L0 dE (hi : Int) (first : Int) cmp (root : Int) l = some (.inr (.inl l)) := by
        unfold gs_siftDownCmpFunc_L0
        rw [show wi64 (2 * (root : Int)) = 2 * (root : Int) from wi (by omega), wi (by omega), dec_t (by omega)]; rfl
      refine ⟨l, .inl (iter_inr k), ?_, rfl⟩
      unfold Sort.siftDown
      rw [dif_pos (by omega)]
    · have w1 : wi64 (wi64 (2 * (root : Int)) + 1) = ((2 * root + 1 : Nat) : Int) := by rw [wi (n := 2 * (root : Int)) (by omega), wi (by omega)]; omega
      have w2 : wi64 (((2 * root + 1 : Nat) : Int) + 1) = ((2 * root + 2 : Nat) : Int) := by rw [wi (by omega)]; omega
      have w3 : wi64 ((first : Int) + ((2 * root + 1 : Nat) : Int)) = ((first + (2 * root + 1) : Nat) : Int) := by rw [wi (by omega)]; omega
      have w4 : wi64 (((first + (2 * root + 1) : Nat) : Int) + 1) = ((first + (2 * root + 1) + 1 : Nat) : Int) := by rw [wi (by omega)]; omega
      have w5 : wi64 ((first : Int) + (root : Int)) = ((first + root : Nat) : Int) := by rw [wi (by omega)]; omega
      have fin : ∀ c : Nat, (c = 2 * root + 1 ∨ c = 2 * root + 2) → c < hi → ∀ (R : Array E), R = (if (!lt (l.toArray)[first + root]! (l.toArray)[first + c]!) = true then l.toArray else Sort.siftDown lt hi first c (Sort.swp l.toArray (first + root) (first + c))) →
          gs_siftDownCmpFunc_L0 dE (hi : Int) (first : Int) cmp (root : Int) l = (gd (inB (wi64 ((first : Int) + (root : Int))) l.length) <|
   gd (inB (wi64 ((first : Int) + (c : Int))) l.length) <|
   (cmp (l.getD ((wi64 ((first : Int) + (root : Int))).toNat) dE, l.getD ((wi64 ((first : Int) + (c : Int))).toNat) dE, ())).bind fun r2 =>
   bif !(decide (r2 < 0)) then (
    some (.inr (.inr l)))
   else (
    gd (inB (wi64 ((first : Int) + (c : Int))) l.length) <|
    gd (inB (wi64 ((first : Int) + (root : Int))) l.length) <|
    gd (inB (wi64 ((first : Int) + (root : Int))) l.length) <|
    gd (inB (wi64 ((first : Int) + (c : Int))) (l.set ((wi64 ((first : Int) + (root : Int))).toNat) (l.getD ((wi64 ((first : Int) + (c : Int))).toNat) dE)).length) <|
    some (.inl ((c : Int), (l.set ((wi64 ((first : Int) + (root : Int))).toNat) (l.getD ((wi64 ((first : Int) + (c : Int))).toNat) dE)).set ((wi64 ((first : Int) + (c : Int))).toNat) (l.getD ((wi64 ((first : Int) + (root : Int))).toNat) dE))))) →
          ∃ l', (iter (fun x : Int × List E => gs_siftDownCmpFunc_L0 dE (hi : Int) (first : Int) cmp x.1 x.2) ((root : Int), l) = some (.inl l') ∨ iter (fun x : Int × List E => gs_siftDownCmpFunc_L0 dE (hi : Int) (first : Int) cmp x.1 x.2) ((root : Int), l) = some (.inr l')) ∧ l'.toArray = R ∧ l'.length = l.length := by
        intro c hc1 hc2 R hR hk
        have w6 : wi64 ((first : Int) + (c : Int)) = ((first + c : Nat) : Int) := by rw [wi (by omega)]; omega
        obtain ⟨r, q1, q2⟩ := hc (l.getD (first + root) dE) (l.getD (first + c) dE)
        simp only [w5, w6, gd_t (inB_t (show first + root < l.length by omega)), gd_t (inB_t (show first + c < l.length by omega)), Int.toNat_natCast, q1, Option.bind_some, q2, List.length_set] at hk
        rw [at_get, at_get] at hR
        cases hl : lt (l.getD (first + root) dE) (l.getD (first + c) dE) with
        | false =>
          rw [hl] at hk hR
          exact ⟨l, .inr (iter_inr hk), by rw [hR]; rfl, rfl⟩
        | true =>
          rw [hl] at hk hR
          obtain ⟨l', h1, h2, h3⟩ := ih c ((l.set (first + root) (l.getD (first + c) dE)).set (first + c) (l.getD (first + root) dE)) (by omega) (by rw [len2]; exact hf) (by rw [len2]; exact hB) (by omega)
          refine ⟨l', ?_, ?_, by rw [h3, len2]⟩
          · rw [iter_inl hk]; exact h1
          · rw [h2, hR, if_neg (by simp), swp_l]
      have hk0 : gs_siftDownCmpFunc_L0 dE (hi : Int) (first : Int) cmp (root : Int) l = gs_siftDownCmpFunc_L0 dE (hi : Int) (first : Int) cmp (root : Int) l := rfl
      conv at hk0 => rhs; unfold gs_siftDownCmpFunc_L0
      rw [w1, dec_f (show ¬ (hi : Int) ≤ ((2 * root + 1 : Nat) : Int) by omega)] at hk0
      simp only [cond_false, w2] at hk0
      have hU : Sort.siftDown lt hi first root l.toArray = Sort.siftDown lt hi first root l.toArray := rfl
      conv at hU => rhs; unfold Sort.siftDown
      rw [dif_neg (by omega)] at hU
      by_cases h2 : 2 * root + 2 < hi
      · rw [dec_t (show ((2 * root + 2 : Nat) : Int) < (hi : Int) by omega)] at hk0
        obtain ⟨r, q1, q2⟩ := hc (l.getD (first + (2 * root + 1)) dE) (l.getD (first + (2 * root + 1) + 1) dE)
        simp only [cond_true, w3, w4, gd_t (inB_t (show first + (2 * root + 1) < l.length by omega)), gd_t (inB_t (show first + (2 * root + 1) + 1 < l.length by omega)), Int.toNat_natCast, q1, Option.bind_some, q2] at hk0
        rw [dec_t (show 2 * root + 1 + 1 < hi by omega), Bool.true_and, at_get, at_get] at hU
        cases hl : lt (l.getD (first + (2 * root + 1)) dE) (l.getD (first + (2 * root + 1) + 1) dE) with
        | true =>
          rw [hl] at hk0 hU
          rw [if_pos rfl] at hU
          rw [hU]
          refine fin (2 * root + 2) (.inr rfl) h2 _ ?_ hk0
          split
          · rfl
          · first | rfl | rw [dif_pos h2]
        | false =>
          rw [hl] at hk0 hU
          rw [if_neg (by simp)] at hU
          rw [hU]
          exact fin (2 * root + 1) (.inl rfl) (by omega) _ (by simp only [at_get]) hk0
      · rw [dec_f (show ¬ ((2 * root + 2 : Nat) : Int) < (hi : Int) by omega)] at hk0
        rw [dec_f (show ¬ 2 * root + 1 + 1 < hi by omega), Bool.false_and, if_neg (by simp)] at hU
        rw [hU]
        exact fin (2 * root + 1) (.inl rfl) (by omega) _ (by simp only [at_get]) hk0
theorem siftDown_sim (hc : CmpLt cmp lt) {hi first root : Nat} (l : List E) (hf : first + hi ≤ l.length) (hB : l.length ≤ 1099511627776) (hr : root ≤ 1099511627776) : Sim (gs_siftDownCmpFunc dE (root : Int) (hi : Int) (first : Int) cmp l) (Sort.siftDown lt hi first root l.toArray) l.length := by
  obtain ⟨l', h1, h2, h3⟩ := siftLoop_sim hc (hi := hi) (first := first) _ root l (Nat.le_refl _) hf hB hr
  refine ⟨l', ?_, h2, h3⟩
  unfold gs_siftDownCmpFunc
  rcases h1 with h1 | h1 <;> (rw [h1]; rfl)
theorem heapBuild_sim (hc : CmpLt cmp lt) {a b : Nat} (hab : a ≤ b) : ∀ (k : Nat) (l : List E), b ≤ l.length → l.length ≤ 1099511627776 → k ≤ 1099511627776 → Sim (iter (fun x : Int × List E => gs_heapSortCmpFunc_L0 dE (a : Int) (b : Int) cmp x.1 x.2) ((k : Int) - 1, l)) (Sort.heapBuild lt (b - a) a k l.toArray) l.length
  | 0, l, hb, hB, hk => by
    have k : gs_heapSortCmpFunc_L0 dE (a : Int) (b : Int) cmp (((0 : Nat) : Int) - 1) l = some (.inr l) := by
      unfold gs_heapSortCmpFunc_L0
      rw [dec_f (by omega)]; rfl
    exact ⟨l, iter_inr k, rfl, rfl⟩
  | k + 1, l, hb, hB, hk => by
    obtain ⟨l1, h1, h2, h3⟩ := siftDown_sim hc (hi := b - a) (first := a) (root := k) l (by omega) hB (by omega)
    have e : gs_heapSortCmpFunc_L0 dE (a : Int) (b : Int) cmp (((k + 1 : Nat) : Int) - 1) l = some (.inl ((k : Int) - 1, l1)) := by
      unfold gs_heapSortCmpFunc_L0
      rw [show ((k + 1 : Nat) : Int) - 1 = (k : Int) by omega, dec_t (by omega), show wi64 ((b : Int) - (a : Int)) = ((b - a : Nat) : Int) by rw [wi (by omega)]; omega]
      simp only [cond_true]
      rw [h1, Option.bind_some, wi (by omega)]
    obtain ⟨l', k1, k2, k3⟩ := heapBuild_sim hc hab k l1 (by omega) (by omega) (by omega)
    refine ⟨l', by rw [iter_inl e]; exact k1, ?_, by omega⟩
    rw [k2, h2]; rfl
theorem heapPop_sim (hc : CmpLt cmp lt) {a : Nat} : ∀ (k : Nat) (l : List E), a + k ≤ l.length → l.length ≤ 1099511627776 → Sim (iter (fun x : Int × List E => gs_heapSortCmpFunc_L1 dE (a : Int) cmp x.1 x.2) ((k : Int) - 1, l)) (Sort.heapPop lt a k l.toArray) l.length
  | 0, l, hb, hB => by
    have k : gs_heapSortCmpFunc_L1 dE (a : Int) cmp (((0 : Nat) : Int) - 1) l = some (.inr l) := by
      unfold gs_heapSortCmpFunc_L1
      rw [dec_f (by omega)]; rfl
    exact ⟨l, iter_inr k, rfl, rfl⟩
  | k + 1, l, hb, hB => by
    obtain ⟨l1, h1, h2, h3⟩ := siftDown_sim hc (hi := k) (first := a) (root := 0) ((l.set a (l.getD (a + k) dE)).set (a + k) (l.getD a dE)) (by rw [len2]; omega) (by rw [len2]; exact hB) (by omega)
    rw [len2] at h3
    have e : gs_heapSortCmpFunc_L1 dE (a : Int) cmp (((k + 1 : Nat) : Int) - 1) l = some (.inl ((k : Int) - 1, l1)) := by
      unfold gs_heapSortCmpFunc_L1
      rw [show ((k + 1 : Nat) : Int) - 1 = (k : Int) by omega, dec_t (by omega), show wi64 ((a : Int) + (k : Int)) = ((a + k : Nat) : Int) by rw [wi (by omega)]; omega]
      simp only [cond_true, gd_t (inB_t (show a + k < l.length by omega)), gd_t (inB_t (show a < l.length by omega)), List.length_set, Int.toNat_natCast]
      rw [show ((0 : Nat) : Int) = 0 from rfl] at h1
      rw [h1, Option.bind_some, wi (by omega)]
    obtain ⟨l', k1, k2, k3⟩ := heapPop_sim hc (a := a) k l1 (by omega) (by omega)
    refine ⟨l', by rw [iter_inl e]; exact k1, ?_, by omega⟩
    rw [k2, h2, ← swp_l]; rfl
theorem heapSort_sim (hc : CmpLt cmp lt) {a b : Nat} (l : List E) (hb : b ≤ l.length) (hab : a < b) (hB : l.length ≤ 1099511627776) : Sim (gs_heapSortCmpFunc dE (a : Int) (b : Int) cmp l) (Sort.heapSort lt l.toArray a b) l.length := by
  obtain ⟨l1, h1, h2, h3⟩ := heapBuild_sim hc (a := a) (b := b) (by omega) ((b - a - 1) / 2 + 1) l hb hB (by omega)
  obtain ⟨l2, k1, k2, k3⟩ := heapPop_sim hc (a := a) (b - a) l1 (by omega) (by omega)
  refine ⟨l2, ?_, by rw [k2, h2]; rfl, by omega⟩
  unfold gs_heapSortCmpFunc
  have e1 : wi64 (wi64 ((b : Int) - (a : Int)) - 1) = ((b - a : Nat) : Int) - 1 := by rw [wi (n := (b : Int) - a) (by omega), wi (by omega)]; omega
  rw [e1, Int.tdiv_eq_ediv_of_nonneg (by omega), show wi64 ((((b - a : Nat) : Int) - 1) / 2) = (((b - a - 1) / 2 + 1 : Nat) : Int) - 1 by rw [wi (by omega)]; omega, h1, Option.bind_some, k1]
  rfl
end
end Go.Proofs.YtiojagjejddocaaGreatDoor.PG
