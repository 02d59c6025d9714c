/- pdqsort: what it computes, part 4: the whole. No condition. -/
import Derived.Test.YtiojagjejddocaaGreatDoorPdC
namespace Go.Proofs.YtiojagjejddocaaGreatDoor.PG
open Go Go.Sq
variable {E : Type} [Inhabited E]
section
variable {cmp : E × E × Unit → Option Int} {lt : E → E → Bool}

/-! ### Patterns are broken -/
theorem len41 {x : Nat} (hx : x ≤ 1099511627776) : Sort.bitsLen x ≤ 41 := (Sort.bitsLen_le_iff x 41).2 (by omega)
theorem pow41 {k : Nat} (hk : k ≤ 41) : 1 ≤ 2 ^ k ∧ 2 ^ k ≤ 2199023255552 := ⟨Nat.one_le_two_pow, Nat.le_trans (Nat.pow_le_pow_right (by omega) hk) (by decide)⟩
theorem nextPow_sim {x : Nat} (hx : x ≤ 1099511627776) : slices_nextPowerOfTwo (x : Int) = some ((2 ^ Sort.bitsLen x : Nat) : Int) := by
  have hk := len41 hx
  have hp := pow41 hk
  unfold slices_nextPowerOfTwo
  rw [wu_nat (by omega), len_sim hx]
  simp only [Option.bind_some]
  rw [dec_f (by omega)]
  have e : shAmt .u64 ((Sort.bitsLen x : Nat) : Int) = Sort.bitsLen x := by simp [shAmt, IntKind.bits]; omega
  rw [e, Int.one_mul, show ((2 : Int) ^ Sort.bitsLen x) = ((2 ^ Sort.bitsLen x : Nat) : Int) by simp, wu_nat (by omega)]; rfl
theorem break_step {a b : Nat} (l : List E) (u : UInt64) (idx : Nat) (hab : a + 8 ≤ b) (hb : b ≤ l.length) (hB : l.length ≤ 1099511627776) (hi : idx ≤ a + (b - a) / 4 * 2 + 1) :
    ∃ l', gs_breakPatternsCmpFunc_L0 dE (a : Int) (b : Int) ((2 ^ Sort.bitsLen (b - a) : Nat) : Int) (idx : Int) ((u.toNat : Nat) : Int) l = some (.inl (((idx + 1 : Nat) : Int), (((Sort.breakStep a (b - a) (1 <<< Sort.bitsLen (b - a)) (u, l.toArray) idx).1.toNat : Nat) : Int), l')) ∧ l'.toArray = (Sort.breakStep a (b - a) (1 <<< Sort.bitsLen (b - a)) (u, l.toArray) idx).2 ∧ l'.length = l.length := by
  have hk := len41 (x := b - a) (by omega)
  have hp := pow41 hk
  have h2 := Sort.two_pow_bitsLen_le (n := b - a) (by omega)
  have hu := u.toNat_lt
  have hx := Sort.xorNextN_lt u.toNat (by omega)
  have e0 : wi64 ((b : Int) - (a : Int)) = ((b - a : Nat) : Int) := by rw [wi (by omega)]; omega
  have e1 : wi64 (Int.tdiv ((b - a : Nat) : Int) 4) = (((b - a) / 4 : Nat) : Int) := by rw [Int.tdiv_eq_ediv_of_nonneg (by omega), wi (by omega)]; omega
  have e2 : wi64 (wi64 ((a : Int) + wi64 ((((b - a) / 4 : Nat) : Int) * 2)) + 1) = ((a + (b - a) / 4 * 2 + 1 : Nat) : Int) := by
    rw [wi (n := (((b - a) / 4 : Nat) : Int) * 2) (by omega), wi (n := (a : Int) + _) (by omega), wi (by omega)]; omega
  unfold gs_breakPatternsCmpFunc_L0 Sort.breakStep
  simp only [e0, e1, e2, Nat.one_shiftLeft]
  rw [dec_t (show (idx : Int) ≤ ((a + (b - a) / 4 * 2 + 1 : Nat) : Int) by omega), next_sim (by omega)]
  simp only [cond_true, Option.bind_some, Sort.xorNext_toNat]
  have hand : Sort.xorNextN u.toNat &&& (2 ^ Sort.bitsLen (b - a) - 1) < 2 ^ Sort.bitsLen (b - a) := by
    rw [Nat.and_two_pow_sub_one_eq_mod]; exact Nat.mod_lt _ hp.1
  have e3 : wi64 (bitAnd .u64 ((Sort.xorNextN u.toNat : Nat) : Int) (wu64 (((2 ^ Sort.bitsLen (b - a) : Nat) : Int) - 1))) = ((Sort.xorNextN u.toNat &&& (2 ^ Sort.bitsLen (b - a) - 1) : Nat) : Int) := by
    rw [show ((2 ^ Sort.bitsLen (b - a) : Nat) : Int) - 1 = ((2 ^ Sort.bitsLen (b - a) - 1 : Nat) : Int) by omega, wu_nat (by omega), and_nat hx (by omega), wi (by omega)]
  rw [e3]
  generalize Sort.xorNextN u.toNat &&& (2 ^ Sort.bitsLen (b - a) - 1) = o at hand ⊢
  have hs : (bif decide (((b - a : Nat) : Int) ≤ (o : Int)) then some (wi64 ((o : Int) - ((b - a : Nat) : Int)), l) else some ((o : Int), l)) = some ((((if o ≥ b - a then o - (b - a) else o) : Nat) : Int), l) := by
    by_cases h : b - a ≤ o
    · rw [dec_t (show ((b - a : Nat) : Int) ≤ (o : Int) by omega), if_pos h, wi (by omega), show (o : Int) - ((b - a : Nat) : Int) = ((o - (b - a) : Nat) : Int) by omega]; rfl
    · rw [dec_f (show ¬ ((b - a : Nat) : Int) ≤ (o : Int) by omega), if_neg h]; rfl
  rw [hs]
  have ho : (if o ≥ b - a then o - (b - a) else o) < b - a := by split <;> omega
  generalize (if o ≥ b - a then o - (b - a) else o) = o2 at ho ⊢
  simp only [Option.bind_some]
  have e4 : wi64 ((a : Int) + (o2 : Int)) = ((a + o2 : Nat) : Int) := by rw [wi (by omega)]; rfl
  have hi2 : idx < l.length := by omega
  simp only [e4, gd_t (inB_t (show a + o2 < l.length by omega)), gd_t (inB_t hi2), List.length_set, Int.toNat_natCast]
  rw [wi (by omega)]
  exact ⟨_, rfl, by rw [swp_l], by rw [len2]⟩
theorem break_sim {a b : Nat} (l : List E) (hab : a + 8 ≤ b) (hb : b ≤ l.length) (hB : l.length ≤ 1099511627776) : Sim (gs_breakPatternsCmpFunc dE (a : Int) (b : Int) cmp l) (Sort.breakPatterns l.toArray a b) l.length := by
  have e0 : wi64 ((b : Int) - (a : Int)) = ((b - a : Nat) : Int) := by rw [wi (by omega)]; omega
  have e1 : wi64 (Int.tdiv ((b - a : Nat) : Int) 4) = (((b - a) / 4 : Nat) : Int) := by rw [Int.tdiv_eq_ediv_of_nonneg (by omega), wi (by omega)]; omega
  have e2 : wi64 (wi64 ((a : Int) + wi64 ((((b - a) / 4 : Nat) : Int) * 2)) - 1) = ((a + (b - a) / 4 * 2 - 1 : Nat) : Int) := by
    rw [wi (n := (((b - a) / 4 : Nat) : Int) * 2) (by omega), wi (n := (a : Int) + _) (by omega), wi (by omega)]; omega
  have e3 : wi64 (wi64 ((a : Int) + wi64 ((((b - a) / 4 : Nat) : Int) * 2)) + 1) = ((a + (b - a) / 4 * 2 + 1 : Nat) : Int) := by
    rw [wi (n := (((b - a) / 4 : Nat) : Int) * 2) (by omega), wi (n := (a : Int) + _) (by omega), wi (by omega)]; omega
  have eu : wu64 (((b - a : Nat) : Int)) = (((UInt64.ofNat (b - a)).toNat : Nat) : Int) := by
    rw [wu_nat (by omega), UInt64.toNat_ofNat', Nat.mod_eq_of_lt (by omega)]
  obtain ⟨l1, k1, k2, k3⟩ := break_step l (UInt64.ofNat (b - a)) (a + (b - a) / 4 * 2 - 1) hab hb hB (by omega)
  obtain ⟨l2, m1, m2, m3⟩ := break_step l1 (Sort.breakStep a (b - a) (1 <<< Sort.bitsLen (b - a)) (UInt64.ofNat (b - a), l.toArray) (a + (b - a) / 4 * 2 - 1)).1 (a + (b - a) / 4 * 2 - 1 + 1) hab (by omega) (by omega) (by omega)
  rw [k2] at m1 m2
  obtain ⟨l3, n1, n2, n3⟩ := break_step l2 (Sort.breakStep a (b - a) (1 <<< Sort.bitsLen (b - a)) (Sort.breakStep a (b - a) (1 <<< Sort.bitsLen (b - a)) (UInt64.ofNat (b - a), l.toArray) (a + (b - a) / 4 * 2 - 1)) (a + (b - a) / 4 * 2 - 1 + 1)).1 (a + (b - a) / 4 * 2 - 1 + 2) hab (by omega) (by omega) (by omega)
  rw [m2] at n1 n2
  refine ⟨l3, ?_, ?_, by omega⟩
  · unfold gs_breakPatternsCmpFunc
    rw [e0, dec_t (show (8 : Int) ≤ ((b - a : Nat) : Int) by omega)]
    simp only [cond_true]
    rw [nextPow_sim (by omega), Option.bind_some, e1, e2, wi (n := ((b - a : Nat) : Int)) (by omega) |> fun _ => eu]
    rw [iter_inl k1, iter_inl m1, iter_inl n1]
    have fin : ∀ (r : Int) (l : List E), gs_breakPatternsCmpFunc_L0 dE (a : Int) (b : Int) ((2 ^ Sort.bitsLen (b - a) : Nat) : Int) ((a + (b - a) / 4 * 2 - 1 + 2 + 1 : Nat) : Int) r l = some (.inr l) := fun r l => by
      unfold gs_breakPatternsCmpFunc_L0
      simp only [e0, e1, e3]
      rw [dec_f (by omega)]; rfl
    rw [iter_inr (fin _ _)]; rfl
  · rw [n2]
    unfold Sort.breakPatterns
    simp only [if_pos (show b - a ≥ 8 by omega)]

/-! ### The whole -/
theorem pdq_succ (n : Nat) : gs_pdqsortCmpFunc_F (dE : E) (n + 1) = gs_pdqsortCmpFunc_S (dE : E) (gs_pdqsortCmpFunc_F (dE : E) n) := rfl
theorem pdq_sim (hc : CmpLt cmp lt) : ∀ (m n a b limit : Nat) (wb wp : Bool) (l : List E), m ≤ n → b - a ≤ m → a ≤ b → b ≤ l.length → l.length ≤ 1099511627776 → limit ≤ 100 →
    Sim (iter (fun x : Int × Int × Int × Bool × Bool × List E => gs_pdqsortCmpFunc_L0 dE cmp (gs_pdqsortCmpFunc_F dE n) x.1 x.2.1 x.2.2.1 x.2.2.2.1 x.2.2.2.2.1 x.2.2.2.2.2) ((a : Int), (b : Int), (limit : Int), wb, wp, l)) (Sort.pdq lt l.toArray a b limit wb wp) l.length := by
  intro m
  induction m using Nat.strongRecOn with
  | _ m ih =>
  intro n a b limit wb wp l hmn hm hab hb hB hlim
  have e0 : wi64 ((b : Int) - (a : Int)) = ((b - a : Nat) : Int) := by rw [wi (by omega)]; omega
  have hT : gs_pdqsortCmpFunc_L0 dE cmp (gs_pdqsortCmpFunc_F dE n) (a : Int) (b : Int) (limit : Int) wb wp l = gs_pdqsortCmpFunc_L0 dE cmp (gs_pdqsortCmpFunc_F dE n) (a : Int) (b : Int) (limit : Int) wb wp l := rfl
  conv at hT => rhs; unfold gs_pdqsortCmpFunc_L0
  rw [e0] at hT
  conv => arg 2; unfold Sort.pdq
  by_cases h12 : b - a ≤ 12
  · rw [dec_t (show ((b - a : Nat) : Int) ≤ 12 by omega)] at hT
    obtain ⟨l1, k1, k2, k3⟩ := insertionSort_sim hc (a := a) (b := b) l hb hab hB
    rw [cond_true, k1] at hT
    rw [if_pos h12]
    exact ⟨l1, iter_inr hT, k2, k3⟩
  rw [dec_f (show ¬ ((b - a : Nat) : Int) ≤ 12 by omega)] at hT
  rw [if_neg h12]
  simp only [cond_false] at hT
  by_cases hl0 : limit = 0
  · rw [dec_t (show (limit : Int) = 0 by omega)] at hT
    obtain ⟨l1, k1, k2, k3⟩ := heapSort_sim hc (a := a) (b := b) l hb (by omega) hB
    rw [cond_true, k1] at hT
    rw [if_pos hl0]
    exact ⟨l1, iter_inr hT, k2, k3⟩
  rw [dec_f (show ¬ (limit : Int) = 0 by omega)] at hT
  rw [if_neg hl0]
  simp only [cond_false] at hT
  -- patterns
  have s1 : ∃ l1, (bif !wb then (gs_breakPatternsCmpFunc dE (a : Int) (b : Int) cmp l).bind fun r3 => some (wi64 ((limit : Int) - 1), r3) else some ((limit : Int), l)) = some ((((if (!wb) = true then limit - 1 else limit) : Nat) : Int), l1) ∧ l1.toArray = (if (!wb) = true then Sort.breakPatterns l.toArray a b else l.toArray) ∧ l1.length = l.length := by
    cases wb with
    | true => exact ⟨l, rfl, rfl, rfl⟩
    | false =>
      obtain ⟨l1, k1, k2, k3⟩ := break_sim (cmp := cmp) (a := a) (b := b) l (by omega) hb hB
      refine ⟨l1, ?_, k2, k3⟩
      rw [Bool.not_false, cond_true, k1, Option.bind_some, wi (by omega), if_pos rfl, show (limit : Int) - 1 = ((limit - 1 : Nat) : Int) by omega]
  obtain ⟨l1, k1, k2, k3⟩ := s1
  have hlim1 : (if (!wb) = true then limit - 1 else limit) ≤ 100 := by split <;> omega
  rw [k1, Option.bind_some] at hT
  simp only [← k2]
  simp only at hT
  generalize (if (!wb) = true then limit - 1 else limit) = lim1 at hT hlim1 ⊢
  -- the pivot
  have cp := Sort.choosePivot_holds lt l1.toArray a b (by omega)
  rw [choosePivot_sim hc (l := l1) (by omega) (by omega) (by omega), Option.bind_some] at hT
  simp only at hT
  generalize Sort.choosePivot lt l1.toArray a b = c at hT cp ⊢
  have s2 : ∃ l2, (bif decide (hintI c.2 = 2) then (gs_reverseRangeCmpFunc dE (a : Int) (b : Int) cmp l1).bind fun r5 => some (wi64 (wi64 ((b : Int) - 1) - wi64 ((c.1 : Int) - (a : Int))), 1, r5) else some ((c.1 : Int), hintI c.2, l1)) = some ((((if c.2 = .decreasing then (b - 1) - (c.1 - a) else c.1) : Nat) : Int), hintI (if c.2 = .decreasing then .increasing else c.2), l2) ∧ l2.toArray = (if c.2 = .decreasing then Sort.reverseRange l1.toArray a b else l1.toArray) ∧ l2.length = l1.length := by
    by_cases h : c.2 = .decreasing
    · obtain ⟨l2, m1, m2, m3⟩ := reverse_sim (cmp := cmp) (a := a) (b := b) l1 (by omega) (by omega) (by omega)
      refine ⟨l2, ?_, by rw [m2, if_pos h], m3⟩
      rw [h, dec_t (show hintI .decreasing = 2 from rfl), cond_true, m1, Option.bind_some, if_pos rfl, if_pos rfl, wi (n := (b : Int) - 1) (by omega), wi (n := (c.1 : Int) - (a : Int)) (by omega), wi (by omega), show (b : Int) - 1 - ((c.1 : Int) - (a : Int)) = ((b - 1 - (c.1 - a) : Nat) : Int) by omega]; rfl
    · have h2 : ¬ hintI c.2 = 2 := by
        cases hh : c.2 with
        | unknown => decide
        | increasing => decide
        | decreasing => exact absurd hh h
      exact ⟨l1, by rw [dec_f h2, if_neg h, if_neg h]; rfl, by rw [if_neg h], rfl⟩
  obtain ⟨l2, m1, m2, m3⟩ := s2
  have hpv : a ≤ (if c.2 = .decreasing then (b - 1) - (c.1 - a) else c.1) ∧ (if c.2 = .decreasing then (b - 1) - (c.1 - a) else c.1) < b := by split <;> omega
  rw [m1, Option.bind_some] at hT
  simp only [← m2]
  simp only at hT
  generalize (if c.2 = .decreasing then (b - 1) - (c.1 - a) else c.1) = pv at hT hpv ⊢
  generalize (if c.2 = Sort.Hint.decreasing then Sort.Hint.increasing else c.2) = ht at hT ⊢
  -- perhaps it is sorted nearly
  have s3 : (bif wb then (bif wp then some (decide (hintI ht = 1), l2) else some (false, l2)) else some (false, l2)) = some ((wb && wp && decide (ht = .increasing)), l2) := by
    have hh : decide (hintI ht = 1) = decide (ht = .increasing) := by cases ht <;> rfl
    rw [hh]
    cases wb <;> cases wp <;> rfl
  rw [s3, Option.bind_some] at hT
  simp only at hT
  generalize (wb && wp && decide (ht = .increasing)) = tr at hT ⊢
  have s4 : ∃ l3, (bif tr then (gs_partialInsertionSortCmpFunc dE (a : Int) (b : Int) cmp l2).bind fun r6 => (bif r6.1 then some (Sum.inr (α := List E) r6.2) else some (Sum.inl r6.2)) else some (Sum.inl l2)) = some (bif (if tr = true then Sort.partialInsertionSort lt l2.toArray a b else (l2.toArray, false)).2 then Sum.inr l3 else Sum.inl l3) ∧ l3.toArray = (if tr = true then Sort.partialInsertionSort lt l2.toArray a b else (l2.toArray, false)).1 ∧ l3.length = l2.length := by
    cases tr with
    | false => exact ⟨l2, rfl, rfl, rfl⟩
    | true =>
      obtain ⟨l3, n1, n2, n3⟩ := partial_sim hc (a := a) (b := b) l2 (by omega) (by omega) (by omega)
      refine ⟨l3, ?_, n2, n3⟩
      rw [cond_true, n1, Option.bind_some, if_pos rfl]
      cases (Sort.partialInsertionSort lt l2.toArray a b).2 <;> rfl
  obtain ⟨l3, n1, n2, n3⟩ := s4
  rw [n1, Option.bind_some] at hT
  simp only [← n2]
  cases hq : (if tr = true then Sort.partialInsertionSort lt l2.toArray a b else (l2.toArray, false)).2 with
  | true =>
    rw [hq] at hT
    rw [if_pos rfl]
    exact ⟨l3, iter_inr hT, rfl, by omega⟩
  | false =>
  rw [hq] at hT
  simp only [cond_false, Sum.elim_inl] at hT
  rw [if_neg (by simp)]
  have s5 : (bif decide ((0 : Int) < (a : Int)) then (gd (inB (wi64 ((a : Int) - 1)) l3.length) <| gd (inB (pv : Int) l3.length) <| (cmp (l3.getD ((wi64 ((a : Int) - 1)).toNat) dE, l3.getD ((pv : Int)).toNat dE, ())).bind fun r7 => some ((!(decide (r7 < 0))), l3)) else some (false, l3)) = some ((decide (a > 0) && !lt (l3.toArray)[a - 1]! (l3.toArray)[pv]!), l3) := by
    rw [at_get, at_get]
    by_cases h : 0 < a
    · obtain ⟨r, q1, q2⟩ := hc (l3.getD (a - 1) dE) (l3.getD pv dE)
      rw [dec_t (show (0 : Int) < (a : Int) by omega), dec_t h, show wi64 ((a : Int) - 1) = ((a - 1 : Nat) : Int) by rw [wi (by omega)]; omega]
      simp only [cond_true, gd_t (inB_t (show a - 1 < l3.length by omega)), gd_t (inB_t (show pv < l3.length by omega)), Int.toNat_natCast, q1, Option.bind_some, q2, Bool.true_and]
    · rw [dec_f (show ¬ (0 : Int) < (a : Int) by omega), dec_f (show ¬ a > 0 by omega)]; rfl
  rw [s5, Option.bind_some] at hT
  simp only at hT
  have hl3 : l3.length = l.length := by omega
  by_cases hcd : (decide (a > 0) && !lt (l3.toArray)[a - 1]! (l3.toArray)[pv]!) = true
  · rw [if_pos hcd]
    rw [hcd, cond_true] at hT
    obtain ⟨l4, p1, p2, p3, p4, p5⟩ := partEqual_sim hc (a := a) (b := b) (pivot := pv) l3 hpv.1 hpv.2 (by omega) (by omega)
    rw [p1, Option.bind_some] at hT
    simp only at hT
    generalize Sort.partitionEqual lt l3.toArray a b pv = R at hT p2 p4 p5 ⊢
    obtain ⟨mid, d4⟩ := R
    simp only at hT p2 p4 p5 ⊢
    rw [dif_pos ⟨p4, p5⟩, ← p2]
    obtain ⟨l5, t1, t2, t3⟩ := ih (b - mid) (by omega) n mid b lim1 wb wp l4 (by omega) (Nat.le_refl _) p5 (by omega) (by omega) hlim1
    exact ⟨l5, by rw [iter_inl hT]; exact t1, t2, by omega⟩
  · rw [if_neg hcd]
    rw [Bool.eq_false_iff.2 hcd, cond_false] at hT
    obtain ⟨l4, p1, p2, p3, p4, p5⟩ := partition_sim hc (a := a) (b := b) (pivot := pv) l3 hpv.1 hpv.2 (by omega) (by omega)
    rw [p1, Option.bind_some] at hT
    simp only at hT
    generalize Sort.partition lt l3.toArray a b pv = R at hT p2 p4 p5 ⊢
    obtain ⟨mid, ap, d4⟩ := R
    simp only at hT p2 p4 p5 ⊢
    rw [dif_pos ⟨p4, p5⟩, ← p2]
    have e1 : wi64 ((mid : Int) - (a : Int)) = ((mid - a : Nat) : Int) := by rw [wi (by omega)]; omega
    have e2 : wi64 ((b : Int) - (mid : Int)) = ((b - mid : Nat) : Int) := by rw [wi (by omega)]; omega
    have e3 : wi64 (Int.tdiv ((b - a : Nat) : Int) 8) = (((b - a) / 8 : Nat) : Int) := by rw [Int.tdiv_eq_ediv_of_nonneg (by omega), wi (by omega)]; omega
    have e4 : wi64 ((mid : Int) + 1) = ((mid + 1 : Nat) : Int) := by rw [wi (by omega)]; rfl
    have callF : ∀ (a' b' : Nat), b' - a' < m → a' ≤ b' → b' ≤ l4.length → ∃ l5, gs_pdqsortCmpFunc_F dE n (a' : Int) (b' : Int) (lim1 : Int) cmp l4 = some l5 ∧ l5.toArray = Sort.pdq lt l4.toArray a' b' lim1 true true ∧ l5.length = l4.length := by
      intro a' b' h1 h2 h3
      obtain ⟨k, rfl⟩ : ∃ k, n = k + 1 := ⟨n - 1, by omega⟩
      obtain ⟨l5, t1, t2, t3⟩ := ih (b' - a') h1 k a' b' lim1 true true l4 (by omega) (Nat.le_refl _) h2 h3 (by omega) hlim1
      refine ⟨l5, ?_, t2, t3⟩
      rw [pdq_succ]
      unfold gs_pdqsortCmpFunc_S
      rw [t1]; rfl
    rw [e1, e2, e3, e4] at hT
    by_cases hlt : mid - a < b - mid
    · rw [dec_t (show ((mid - a : Nat) : Int) < ((b - mid : Nat) : Int) by omega)] at hT
      rw [if_pos hlt]
      obtain ⟨l5, t1, t2, t3⟩ := callF a mid (by omega) p4 (by omega)
      rw [cond_true, t1, Option.bind_some, show decide ((((b - a) / 8 : Nat) : Int) ≤ ((mid - a : Nat) : Int)) = decide (mid - a ≥ (b - a) / 8) from decide_eq_decide.2 (by omega)] at hT
      obtain ⟨l6, v1, v2, v3⟩ := ih (b - (mid + 1)) (by omega) n (mid + 1) b lim1 (decide (mid - a ≥ (b - a) / 8)) ap l5 (by omega) (Nat.le_refl _) (by omega) (by omega) (by omega) hlim1
      refine ⟨l6, by rw [iter_inl hT]; exact v1, ?_, by omega⟩
      rw [v2, t2]
    · rw [dec_f (show ¬ ((mid - a : Nat) : Int) < ((b - mid : Nat) : Int) by omega)] at hT
      rw [if_neg hlt]
      obtain ⟨l5, t1, t2, t3⟩ := callF (mid + 1) b (by omega) (by omega) (by omega)
      rw [cond_false, t1, Option.bind_some, show decide ((((b - a) / 8 : Nat) : Int) ≤ ((b - mid : Nat) : Int)) = decide (b - mid ≥ (b - a) / 8) from decide_eq_decide.2 (by omega)] at hT
      obtain ⟨l6, v1, v2, v3⟩ := ih (mid - a) (by omega) n a mid lim1 (decide (b - mid ≥ (b - a) / 8)) ap l5 (by omega) (Nat.le_refl _) p4 (by omega) (by omega) hlim1
      refine ⟨l6, by rw [iter_inl hT]; exact v1, ?_, by omega⟩
      rw [v2, t2]
theorem sort_sim (hc : CmpLt cmp lt) (l : List E) (hB : l.length ≤ 1099511627776) : Sim (gs_SortFunc dE cmp l) (Sort.sort lt l.toArray) l.length := by
  have hk := len41 hB
  obtain ⟨l', h1, h2, h3⟩ := pdq_sim hc l.length 18446744073709551615 0 l.length (Sort.bitsLen l.length) true true l (by omega) (by omega) (by omega) (Nat.le_refl _) hB (by omega)
  refine ⟨l', ?_, by rw [h2]; unfold Sort.sort; simp, h3⟩
  unfold gs_SortFunc gs_pdqsortCmpFunc
  rw [wu_nat (by omega), len_sim hB, Option.bind_some, show (18446744073709551616 : Nat) = 18446744073709551615 + 1 from rfl, pdq_succ]
  unfold gs_pdqsortCmpFunc_S
  rw [show (0 : Int) = ((0 : Nat) : Int) from rfl, h1]; rfl
theorem sort_ok (hc : CmpLt cmp lt) (ho : Sort.SWO lt) (l : List E) (hB : l.length ≤ 1099511627776) : ∃ T, gs_SortFunc dE cmp l = some T ∧ T.Perm l ∧ T.Pairwise fun x y => lt y x = false := by
  obtain ⟨T, h1, h2, h3⟩ := sort_sim hc l hB
  obtain ⟨p1, p2⟩ := Sort.sort_sorts lt ho l.toArray
  rw [← h2] at p1 p2
  have hsz : l.toArray.size = l.length := by simp
  refine ⟨T, h1, ?_, ?_⟩
  · have := p1.2.2
    rw [hsz] at this
    simp at this
    rwa [← h3, List.take_length] at this
  · rw [List.pairwise_iff_getElem]
    intro i j hi hj hij
    have := p2 i j (by omega) hij (by rw [hsz]; omega)
    rw [at_get, at_get, gD_eq hi, gD_eq hj] at this
    exact this
end
end Go.Proofs.YtiojagjejddocaaGreatDoor.PG
