/- pdqsort: what it computes, part 3: pivots, patterns, the whole. No condition. -/
import Derived.Test.YtiojagjejddocaaGreatDoorPdB
import Derived.Sort.LotD4
namespace Go.Proofs.YtiojagjejddocaaGreatDoor.PG
open Go Go.Sq
variable {E : Type} [Inhabited E]
section
variable {cmp : E × E × Unit → Option Int} {lt : E → E → Bool}

/-! ### The pivot -/
theorem order2_sim (hc : CmpLt cmp lt) {l : List E} {a b s : Nat} (ha : a < l.length) (hb : b < l.length) (hs : s ≤ 1000) : gs_order2CmpFunc dE l (a : Int) (b : Int) cmp (s : Int) = some (((Sort.order2 lt l.toArray a b s).1 : Int), ((Sort.order2 lt l.toArray a b s).2.1 : Int), ((Sort.order2 lt l.toArray a b s).2.2 : Int)) := by
  obtain ⟨r, q1, q2⟩ := hc (l.getD b dE) (l.getD a dE)
  unfold gs_order2CmpFunc Sort.order2
  simp only [gd_t (inB_t ha), gd_t (inB_t hb), Int.toNat_natCast, q1, Option.bind_some, q2]
  rw [at_get, at_get]
  cases lt (l.getD b dE) (l.getD a dE) with
  | true => rw [wi (by omega)]; rfl
  | false => rfl
theorem median_sim (hc : CmpLt cmp lt) {l : List E} {a b c s : Nat} (ha : a < l.length) (hb : b < l.length) (hcl : c < l.length) (hs : s ≤ 900) : gs_medianCmpFunc dE l (a : Int) (b : Int) (c : Int) cmp (s : Int) = some (((Sort.median lt l.toArray a b c s).1 : Int), ((Sort.median lt l.toArray a b c s).2 : Int)) := by
  unfold gs_medianCmpFunc Sort.median
  have m1 := Sort.order2_mem lt l.toArray a b s
  have n1 := Sort.order2_count lt l.toArray a b s
  rw [order2_sim hc ha hb (by omega), Option.bind_some]
  simp only
  generalize Sort.order2 lt l.toArray a b s = r1 at m1 n1 ⊢
  have h1 : r1.1 < l.length ∧ r1.2.1 < l.length := by rcases m1 with h | h <;> omega
  have m2 := Sort.order2_mem lt l.toArray r1.2.1 c r1.2.2
  have n2 := Sort.order2_count lt l.toArray r1.2.1 c r1.2.2
  rw [order2_sim hc h1.2 hcl (by omega), Option.bind_some]
  simp only
  generalize Sort.order2 lt l.toArray r1.2.1 c r1.2.2 = r2 at m2 n2 ⊢
  have h2 : r2.1 < l.length ∧ r2.2.1 < l.length := by rcases m2 with h | h <;> omega
  rw [order2_sim hc h1.1 h2.1 (by omega), Option.bind_some]
theorem medAdj_sim (hc : CmpLt cmp lt) {l : List E} {a s : Nat} (h1 : 1 ≤ a) (ha : a + 1 < l.length) (hB : l.length ≤ 1099511627776) (hs : s ≤ 900) : gs_medianAdjacentCmpFunc dE l (a : Int) cmp (s : Int) = some (((Sort.medianAdjacent lt l.toArray a s).1 : Int), ((Sort.medianAdjacent lt l.toArray a s).2 : Int)) := by
  unfold gs_medianAdjacentCmpFunc Sort.medianAdjacent
  rw [show wi64 ((a : Int) - 1) = ((a - 1 : Nat) : Int) by rw [wi (by omega)]; omega, show wi64 ((a : Int) + 1) = ((a + 1 : Nat) : Int) by rw [wi (by omega)]; rfl, median_sim hc (by omega) (by omega) ha hs]; rfl
def hintI : Sort.Hint → Int
  | .unknown => 0
  | .increasing => 1
  | .decreasing => 2
theorem choosePivot_sim (hc : CmpLt cmp lt) {l : List E} {a b : Nat} (hab : a + 12 < b) (hb : b ≤ l.length) (hB : l.length ≤ 1099511627776) : gs_choosePivotCmpFunc dE l (a : Int) (b : Int) cmp = some (((Sort.choosePivot lt l.toArray a b).1 : Int), hintI (Sort.choosePivot lt l.toArray a b).2) := by
  have e0 : wi64 ((b : Int) - (a : Int)) = ((b - a : Nat) : Int) := by rw [wi (by omega)]; omega
  have e1 : wi64 (Int.tdiv ((b - a : Nat) : Int) 4) = (((b - a) / 4 : Nat) : Int) := by rw [Int.tdiv_eq_ediv_of_nonneg (by omega), wi (by omega)]; omega
  have e2 : ∀ k : Nat, k ≤ 3 → wi64 ((a : Int) + wi64 ((((b - a) / 4 : Nat) : Int) * (k : Int))) = ((a + (b - a) / 4 * k : Nat) : Int) := fun k hk => by
    have hk4 : (b - a) / 4 * k ≤ (b - a) / 4 * 3 := Nat.mul_le_mul_left _ hk
    have hle : (b - a) / 4 * 3 ≤ b - a := by omega
    rw [← Int.natCast_mul, wi (n := (((b - a) / 4 * k : Nat) : Int)) (by omega), wi (by omega)]; omega
  have g1 : wi64 ((a : Int) + wi64 ((((b - a) / 4 : Nat) : Int) * 1)) = ((a + (b - a) / 4 * 1 : Nat) : Int) := e2 1 (by omega)
  have g2 : wi64 ((a : Int) + wi64 ((((b - a) / 4 : Nat) : Int) * 2)) = ((a + (b - a) / 4 * 2 : Nat) : Int) := e2 2 (by omega)
  have g3 : wi64 ((a : Int) + wi64 ((((b - a) / 4 : Nat) : Int) * 3)) = ((a + (b - a) / 4 * 3 : Nat) : Int) := e2 3 (by omega)
  unfold gs_choosePivotCmpFunc
  simp only [e0, e1, g1, g2, g3]
  rw [dec_t (show (8 : Int) ≤ ((b - a : Nat) : Int) by omega)]
  simp only [cond_true]
  have key : ∃ r : Nat × Nat, r = (if b - a ≥ 50 then Sort.median lt l.toArray (Sort.medianAdjacent lt l.toArray (a + (b - a) / 4 * 1) 0).1 (Sort.medianAdjacent lt l.toArray (a + (b - a) / 4 * 2) (Sort.medianAdjacent lt l.toArray (a + (b - a) / 4 * 1) 0).2).1 (Sort.medianAdjacent lt l.toArray (a + (b - a) / 4 * 3) (Sort.medianAdjacent lt l.toArray (a + (b - a) / 4 * 2) (Sort.medianAdjacent lt l.toArray (a + (b - a) / 4 * 1) 0).2).2).1 (Sort.medianAdjacent lt l.toArray (a + (b - a) / 4 * 3) (Sort.medianAdjacent lt l.toArray (a + (b - a) / 4 * 2) (Sort.medianAdjacent lt l.toArray (a + (b - a) / 4 * 1) 0).2).2).2
      else Sort.median lt l.toArray (a + (b - a) / 4 * 1) (a + (b - a) / 4 * 2) (a + (b - a) / 4 * 3) 0) := ⟨_, rfl⟩
  obtain ⟨r, hr⟩ := key
  have hP : Sort.choosePivot lt l.toArray a b = (r.1, if r.2 = 0 then .increasing else if r.2 = 12 then .decreasing else .unknown) := by
    rw [hr]
    unfold Sort.choosePivot
    simp only [if_pos (show b - a ≥ 8 by omega)]
  rw [hP]
  clear hP e1 e2 g1 g2 g3 e0
  have bi : 1 ≤ a + (b - a) / 4 * 1 ∧ a + (b - a) / 4 * 1 + 1 < l.length := by omega
  have bj : 1 ≤ a + (b - a) / 4 * 2 ∧ a + (b - a) / 4 * 2 + 1 < l.length := by omega
  have bk : 1 ≤ a + (b - a) / 4 * 3 ∧ a + (b - a) / 4 * 3 + 1 < l.length := by omega
  generalize a + (b - a) / 4 * 1 = i at hr bi ⊢
  generalize a + (b - a) / 4 * 2 = j at hr bj ⊢
  generalize a + (b - a) / 4 * 3 = k at hr bk ⊢
  have hT : (Option.bind (α := Int × Int × Int × Int) (bif decide ((50 : Int) ≤ ((b - a : Nat) : Int)) then ((gs_medianAdjacentCmpFunc dE l (i : Int) cmp 0).bind fun r => (gs_medianAdjacentCmpFunc dE l (j : Int) cmp r.2).bind fun r2 => (gs_medianAdjacentCmpFunc dE l (k : Int) cmp r2.2).bind fun r3 => some (r.1, r2.1, r3.1, r3.2)) else some ((i : Int), (j : Int), (k : Int), 0)) fun s => (gs_medianCmpFunc dE l s.1 s.2.1 s.2.2.1 cmp s.2.2.2).bind fun r4 => some (r4.1, r4.2)) = some ((r.1 : Int), (r.2 : Int)) := by
    by_cases h50 : b - a ≥ 50
    · rw [if_pos h50] at hr
      rw [dec_t (show (50 : Int) ≤ ((b - a : Nat) : Int) by omega)]
      simp only [cond_true]
      have m1 := Sort.medianAdjacent_mem lt l.toArray i 0
      have n1 := Sort.medianAdjacent_count lt l.toArray i 0
      rw [show (0 : Int) = ((0 : Nat) : Int) from rfl, medAdj_sim hc (by omega) (by omega) hB (by omega), Option.bind_some]
      simp only
      generalize Sort.medianAdjacent lt l.toArray i 0 = r1 at m1 n1 hr ⊢
      have m2 := Sort.medianAdjacent_mem lt l.toArray j r1.2
      have n2 := Sort.medianAdjacent_count lt l.toArray j r1.2
      rw [medAdj_sim hc (by omega) (by omega) hB (by omega), Option.bind_some]
      simp only
      generalize Sort.medianAdjacent lt l.toArray j r1.2 = r2 at m2 n2 hr ⊢
      have m3 := Sort.medianAdjacent_mem lt l.toArray k r2.2
      have n3 := Sort.medianAdjacent_count lt l.toArray k r2.2
      rw [medAdj_sim hc (by omega) (by omega) hB (by omega), Option.bind_some, Option.bind_some]
      simp only
      generalize Sort.medianAdjacent lt l.toArray k r2.2 = r3 at m3 n3 hr ⊢
      rw [median_sim hc (by omega) (by omega) (by omega) (by omega), hr]; rfl
    · rw [if_neg h50] at hr
      rw [dec_f (show ¬ (50 : Int) ≤ ((b - a : Nat) : Int) by omega)]
      simp only [cond_false, Option.bind_some]
      rw [show (0 : Int) = ((0 : Nat) : Int) from rfl, median_sim hc (by omega) (by omega) (by omega) (by omega), hr]; rfl
  rw [hT]
  simp only [Option.bind_some]
  by_cases h0 : r.2 = 0
  · rw [dec_t (show (r.2 : Int) = 0 by omega), if_pos h0]; rfl
  · rw [dec_f (show ¬ (r.2 : Int) = 0 by omega), if_neg h0]
    by_cases h12 : r.2 = 12
    · rw [dec_t (show (r.2 : Int) = 12 by omega), if_pos h12]; rfl
    · rw [dec_f (show ¬ (r.2 : Int) = 12 by omega), if_neg h12]; rfl

/-! ### A range is turned -/
theorem reverseLoop_sim : ∀ (m i j : Nat) (l : List E), j - i ≤ m → j < l.length → l.length ≤ 1099511627776 → Sim (iter (fun x : Int × Int × List E => gs_reverseRangeCmpFunc_L0 dE x.1 x.2.1 x.2.2) ((i : Int), (j : Int), l)) (Sort.reverseLoop i j l.toArray) l.length := by
  intro m
  induction m using Nat.strongRecOn with
  | _ m ih =>
    intro i j l hm hj hB
    by_cases h : i < j
    · have k : gs_reverseRangeCmpFunc_L0 dE (i : Int) (j : Int) l = some (.inl (((i + 1 : Nat) : Int), ((j - 1 : Nat) : Int), (l.set i (l.getD j dE)).set j (l.getD i dE))) := by
        unfold gs_reverseRangeCmpFunc_L0
        rw [dec_t (show (i : Int) < (j : Int) by omega)]
        simp only [cond_true, gd_t (inB_t hj), gd_t (inB_t (show i < l.length by omega)), List.length_set, Int.toNat_natCast]
        rw [wi (by omega), wi (by omega), show (j : Int) - 1 = ((j - 1 : Nat) : Int) by omega]; rfl
      obtain ⟨l', h1, h2, h3⟩ := ih (j - 1 - (i + 1)) (by omega) (i + 1) (j - 1) ((l.set i (l.getD j dE)).set j (l.getD i dE)) (Nat.le_refl _) (by rw [len2]; omega) (by rw [len2]; exact hB)
      refine ⟨l', by rw [iter_inl k]; exact h1, ?_, by rw [h3, len2]⟩
      conv => rhs; unfold Sort.reverseLoop
      rw [if_pos h, h2, swp_l]
    · have k : gs_reverseRangeCmpFunc_L0 dE (i : Int) (j : Int) l = some (.inr l) := by
        unfold gs_reverseRangeCmpFunc_L0
        rw [dec_f (show ¬ (i : Int) < (j : Int) by omega)]; rfl
      exact ⟨l, iter_inr k, by unfold Sort.reverseLoop; rw [if_neg h], rfl⟩
theorem reverse_sim {a b : Nat} (l : List E) (hab : a < b) (hb : b ≤ l.length) (hB : l.length ≤ 1099511627776) : Sim (gs_reverseRangeCmpFunc dE (a : Int) (b : Int) cmp l) (Sort.reverseRange l.toArray a b) l.length := by
  obtain ⟨l', h1, h2, h3⟩ := reverseLoop_sim _ a (b - 1) l (Nat.le_refl _) (by omega) hB
  refine ⟨l', ?_, h2, h3⟩
  unfold gs_reverseRangeCmpFunc
  rw [show wi64 ((b : Int) - 1) = ((b - 1 : Nat) : Int) by rw [wi (by omega)]; omega, h1]; rfl

/-! ### Numbers of 64 bits -/
theorem wu_nat {a : Nat} (h : a < 18446744073709551616) : wu64 (a : Int) = (a : Int) := by
  show IntKind.u64.wrap (a : Int) = _
  simp [IntKind.wrap, IntKind.bits, IntKind.signed]; omega
theorem wu_mod (a : Nat) : wu64 (a : Int) = ((a % 18446744073709551616 : Nat) : Int) := by
  show IntKind.u64.wrap (a : Int) = _
  simp [IntKind.wrap, IntKind.bits, IntKind.signed]
theorem bv (a : Nat) : BitVec.ofInt 64 (a : Int) = BitVec.ofNat 64 a := by
  apply BitVec.eq_of_toNat_eq
  simp [BitVec.toNat_ofInt] <;> omega
theorem xor_nat {a b : Nat} (ha : a < 18446744073709551616) (hb : b < 18446744073709551616) : bitXor .u64 (a : Int) (b : Int) = ((a ^^^ b : Nat) : Int) := by
  show IntKind.u64.wrap ((BitVec.ofInt 64 (a : Int) ^^^ BitVec.ofInt 64 (b : Int)).toNat : Int) = _
  rw [bv, bv, BitVec.toNat_xor, BitVec.toNat_ofNat, BitVec.toNat_ofNat, Nat.mod_eq_of_lt (by omega), Nat.mod_eq_of_lt (by omega)]
  exact wu_nat (by
    have : a ^^^ b < 2 ^ 64 := Nat.xor_lt_two_pow (by omega) (by omega)
    omega)
theorem and_nat {a b : Nat} (ha : a < 18446744073709551616) (hb : b < 18446744073709551616) : bitAnd .u64 (a : Int) (b : Int) = ((a &&& b : Nat) : Int) := by
  show IntKind.u64.wrap ((BitVec.ofInt 64 (a : Int) &&& BitVec.ofInt 64 (b : Int)).toNat : Int) = _
  rw [bv, bv, BitVec.toNat_and, BitVec.toNat_ofNat, BitVec.toNat_ofNat, Nat.mod_eq_of_lt (by omega), Nat.mod_eq_of_lt (by omega)]
  exact wu_nat (by
    have : a &&& b ≤ a := Nat.and_le_left
    omega)
theorem next_sim {x : Nat} (h : x < 18446744073709551616) : slices_xorshift_Next (x : Int) = some (((Sort.xorNextN x : Nat) : Int), ((Sort.xorNextN x : Nat) : Int)) := by
  have p : (18446744073709551616 : Nat) = 2 ^ 64 := by decide
  have ha : x ^^^ (x * 8192 % 18446744073709551616) < 18446744073709551616 := by rw [p]; exact Nat.xor_lt_two_pow (by omega) (by omega)
  obtain ⟨A, hA⟩ : ∃ A, A = x ^^^ (x * 8192 % 18446744073709551616) := ⟨_, rfl⟩
  rw [← hA] at ha
  have hb : A ^^^ (A / 128) < 18446744073709551616 := by rw [p]; exact Nat.xor_lt_two_pow (by omega) (by omega)
  obtain ⟨B, hBe⟩ : ∃ B, B = A ^^^ (A / 128) := ⟨_, rfl⟩
  rw [← hBe] at hb
  have e1 : wu64 ((x : Int) * 2 ^ shAmt .u64 13) = ((x * 8192 % 18446744073709551616 : Nat) : Int) := by
    rw [← wu_mod, show (2 : Int) ^ shAmt .u64 13 = 8192 from by decide, Int.natCast_mul]; rfl
  have e2 : bitXor .u64 (x : Int) (wu64 ((x : Int) * 2 ^ shAmt .u64 13)) = (A : Int) := by rw [e1, xor_nat h (by omega), hA]
  have e3 : Int.fdiv (A : Int) (2 ^ shAmt .u64 7) = ((A / 128 : Nat) : Int) := by
    rw [show (2 : Int) ^ shAmt .u64 7 = 128 from by decide, Int.fdiv_eq_ediv_of_nonneg _ (by omega)]; omega
  have e4 : bitXor .u64 (A : Int) (Int.fdiv (A : Int) (2 ^ shAmt .u64 7)) = (B : Int) := by rw [e3, xor_nat ha (by omega), hBe]
  have e5 : wu64 ((B : Int) * 2 ^ shAmt .u64 17) = ((B * 131072 % 18446744073709551616 : Nat) : Int) := by
    rw [← wu_mod, show (2 : Int) ^ shAmt .u64 17 = 131072 from by decide, Int.natCast_mul]; rfl
  have e6 : bitXor .u64 (B : Int) (wu64 ((B : Int) * 2 ^ shAmt .u64 17)) = ((Sort.xorNextN x : Nat) : Int) := by
    rw [e5, xor_nat hb (by omega)]
    unfold Sort.xorNextN
    simp only
    rw [← hA, ← hBe]
  unfold slices_xorshift_Next
  simp only [e2, e4, e6]

/-! ### bits.Len -/
theorem bitsLen_div {x k : Nat} (h : 2 ^ k ≤ x) : Sort.bitsLen x = Sort.bitsLen (x / 2 ^ k) + k := by
  have hk : k ≤ Sort.bitsLen x := by
    rcases Nat.lt_or_ge (Sort.bitsLen x) k with h1 | h1
    · have := (Sort.bitsLen_le_iff x (Sort.bitsLen x)).1 (Nat.le_refl _)
      have h2 : 2 ^ Sort.bitsLen x ≤ 2 ^ k := Nat.pow_le_pow_right (by omega) (by omega)
      omega
    · exact h1
  have key : ∀ m, Sort.bitsLen x ≤ m + k ↔ Sort.bitsLen (x / 2 ^ k) ≤ m := fun m => by
    rw [Sort.bitsLen_le_iff, Sort.bitsLen_le_iff, Nat.div_lt_iff_lt_mul (Nat.pow_pos (by omega)), Nat.pow_add]
  have h1 := (key (Sort.bitsLen (x / 2 ^ k))).2 (Nat.le_refl _)
  have h2 := (key (Sort.bitsLen x - k)).1 (by omega)
  omega
theorem len_tab : (List.range 256).all (fun i => decide ((str_0.getD i 0).toNat = Sort.bitsLen i)) = true := by decide +kernel
theorem len_tabl : str_0.length = 256 := by decide +kernel
theorem len_sim {x : Nat} (hx : x ≤ 1099511627776) : math_bits_Len (x : Int) = some ((Sort.bitsLen x : Nat) : Int) := by
  unfold math_bits_Len math_bits_Len64
  have fin : ∀ (y n : Nat), y < 256 → n ≤ 64 → Sort.bitsLen x = Sort.bitsLen y + n → (gd (inB (wu8 (y : Int)) str_0.length) <| some (wi64 ((n : Int) + (wi64 (Int.ofNat (str_0.getD (wu8 (y : Int)).toNat 0).toNat))))) = some ((Sort.bitsLen x : Nat) : Int) := fun y n hy hn he => by
    have h8 : wu8 (y : Int) = (y : Int) := by
      show IntKind.u8.wrap (y : Int) = _
      simp [IntKind.wrap, IntKind.bits, IntKind.signed]; omega
    have ht := of_decide_eq_true (List.all_eq_true.1 len_tab y (List.mem_range.2 hy))
    have hle : Sort.bitsLen y ≤ 8 := (Sort.bitsLen_le_iff y 8).2 (by omega)
    rw [h8, gd_t (inB_t (show y < str_0.length by rw [len_tabl]; exact hy)), Int.toNat_natCast, ht, wi (n := Int.ofNat _) (by simp only [Int.ofNat_eq_natCast]; omega), wi (by simp only [Int.ofNat_eq_natCast]; omega), he]
    congr 1
    simp only [Int.ofNat_eq_natCast]; omega
  by_cases h32 : 2 ^ 32 ≤ x
  · have b1 := bitsLen_div h32
    rw [dec_t (show (4294967296 : Int) ≤ (x : Int) by omega)]
    have e32 : Int.fdiv (x : Int) (2 ^ shAmt .u64 32) = ((x / 4294967296 : Nat) : Int) := by
      rw [show (2 : Int) ^ shAmt .u64 32 = 4294967296 from by decide, Int.fdiv_eq_ediv_of_nonneg _ (by omega)]; omega
    simp only [cond_true, Option.bind_some, e32]
    have hb : x / 4294967296 ≤ 256 := by omega
    rw [dec_f (show ¬ (65536 : Int) ≤ ((x / 4294967296 : Nat) : Int) by omega)]
    simp only [cond_false, Option.bind_some]
    rw [show (2 : Nat) ^ 32 = 4294967296 by decide] at b1
    by_cases h8 : 256 ≤ x / 4294967296
    · have b2 := bitsLen_div (x := x / 4294967296) (k := 8) (by omega)
      rw [dec_t (show (256 : Int) ≤ ((x / 4294967296 : Nat) : Int) by omega)]
      have e8 : Int.fdiv ((x / 4294967296 : Nat) : Int) (2 ^ shAmt .u64 8) = ((x / 4294967296 / 256 : Nat) : Int) := by
        rw [show (2 : Int) ^ shAmt .u64 8 = 256 from by decide, Int.fdiv_eq_ediv_of_nonneg _ (by omega)]; omega
      simp only [cond_true, Option.bind_some, e8]
      rw [show wi64 (32 + 8 : Int) = ((40 : Nat) : Int) from rfl]
      rw [fin (x / 4294967296 / 256) 40 (by omega) (by omega) (by rw [b1, b2, show (2 : Nat) ^ 8 = 256 by decide])]; rfl
    · rw [dec_f (show ¬ (256 : Int) ≤ ((x / 4294967296 : Nat) : Int) by omega)]
      simp only [cond_false, Option.bind_some]
      rw [show (32 : Int) = ((32 : Nat) : Int) from rfl, fin (x / 4294967296) 32 (by omega) (by omega) b1]; rfl
  · rw [dec_f (show ¬ (4294967296 : Int) ≤ (x : Int) by omega)]
    simp only [cond_false, Option.bind_some]
    by_cases h16 : 2 ^ 16 ≤ x
    · have b1 := bitsLen_div h16
      rw [dec_t (show (65536 : Int) ≤ (x : Int) by omega)]
      have e16 : Int.fdiv (x : Int) (2 ^ shAmt .u64 16) = ((x / 65536 : Nat) : Int) := by
        rw [show (2 : Int) ^ shAmt .u64 16 = 65536 from by decide, Int.fdiv_eq_ediv_of_nonneg _ (by omega)]; omega
      simp only [cond_true, Option.bind_some, e16]
      rw [show (2 : Nat) ^ 16 = 65536 by decide] at b1
      rw [show wi64 (0 + 16 : Int) = ((16 : Nat) : Int) from rfl]
      by_cases h8 : 256 ≤ x / 65536
      · have b2 := bitsLen_div (x := x / 65536) (k := 8) (by omega)
        rw [dec_t (show (256 : Int) ≤ ((x / 65536 : Nat) : Int) by omega)]
        have e8 : Int.fdiv ((x / 65536 : Nat) : Int) (2 ^ shAmt .u64 8) = ((x / 65536 / 256 : Nat) : Int) := by
          rw [show (2 : Int) ^ shAmt .u64 8 = 256 from by decide, Int.fdiv_eq_ediv_of_nonneg _ (by omega)]; omega
        simp only [cond_true, Option.bind_some, e8]
        rw [show wi64 (((16 : Nat) : Int) + 8) = ((24 : Nat) : Int) from rfl]
        rw [fin (x / 65536 / 256) 24 (by omega) (by omega) (by rw [b1, b2, show (2 : Nat) ^ 8 = 256 by decide])]; rfl
      · rw [dec_f (show ¬ (256 : Int) ≤ ((x / 65536 : Nat) : Int) by omega)]
        simp only [cond_false, Option.bind_some]
        rw [fin (x / 65536) 16 (by omega) (by omega) b1]; rfl
    · rw [dec_f (show ¬ (65536 : Int) ≤ (x : Int) by omega)]
      simp only [cond_false, Option.bind_some]
      by_cases h8 : 256 ≤ x
      · have b2 := bitsLen_div (x := x) (k := 8) (by omega)
        rw [dec_t (show (256 : Int) ≤ (x : Int) by omega)]
        have e8 : Int.fdiv (x : Int) (2 ^ shAmt .u64 8) = ((x / 256 : Nat) : Int) := by
          rw [show (2 : Int) ^ shAmt .u64 8 = 256 from by decide, Int.fdiv_eq_ediv_of_nonneg _ (by omega)]; omega
        simp only [cond_true, Option.bind_some, e8]
        rw [show wi64 (0 + 8 : Int) = ((8 : Nat) : Int) from rfl]
        rw [fin (x / 256) 8 (by omega) (by omega) (by rw [b2, show (2 : Nat) ^ 8 = 256 by decide])]; rfl
      · rw [dec_f (show ¬ (256 : Int) ≤ (x : Int) by omega)]
        simp only [cond_false, Option.bind_some]
        rw [show (0 : Int) = ((0 : Nat) : Int) from rfl, fin x 0 (by omega) (by omega) rfl]; rfl
end
end Go.Proofs.YtiojagjejddocaaGreatDoor.PG
