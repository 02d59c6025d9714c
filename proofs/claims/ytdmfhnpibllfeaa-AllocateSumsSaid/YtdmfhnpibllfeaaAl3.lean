/- The laws AllocateShares and AllocateSums. No condition. -/
import Derived.Test.YtdmfhnpibllfeaaAl2
import Derived.Test.YtdmfhnpibllfeaaLe2
import Derived.Test.YtdmfhnpibllfeaaSqZ
namespace Go.Proofs.Ytdmfhnpibllfeaa
open Go Go.Sq

theorem same_eq {a : List Int} (h : a.length ≤ 4611686018427387904) : ref23_SameInts a a = some true := by
  have := iter_for (step := fun x => ref23_SameInts_L0 a a x) a.length (fun i => (i : Int)) (e := .inl ()) (fun i hi => by
      unfold ref23_SameInts_L0
      simp only [dec_t (show (i : Int) < (a.length : Int) by omega), cond_true, gd_t (inB_t hi), decide_true, Bool.not_true, cond_false]
      rw [wi (by omega)]; rfl) (by
      unfold ref23_SameInts_L0
      simp only [dec_f (show ¬ (a.length : Int) < (a.length : Int) by omega), cond_false])
  unfold ref23_SameInts
  simp only [decide_true, Bool.not_true, cond_false]
  rw [show ((0 : Int)) = ((0 : Nat) : Int) from rfl, this]; rfl

theorem smod_eq {x n : Int} (hx : i64P x) (h1 : 1 ≤ n) (h2 : n ≤ 4611686018427387904) : second_Mod x n = some (x % n) := by
  unfold second_Mod; rw [mod_eq hx h1 h2]; rfl

theorem as_L0 {w : List Int} {how : Int} (hw : ∀ x ∈ w, i64P x) (hl : w.length ≤ 100) : ∃ e, iter (fun x : Int × List Int => law38_AllocateShares_L0 w how x.1 x.2) (0, []) = some e := by
  have key : ∃ e, iter (fun x : Int × List Int => law38_AllocateShares_L0 w how x.1 x.2) (0, []) = some e ∧ True := by
    refine iter_inv (fun x => ∃ (i : Nat) (v : List Int), x = ((i : Int), v) ∧ i ≤ w.length ∧ v.length = i) (fun x => ((w.length : Int) - x.1).toNat) _ ?_ ⟨0, [], rfl, by omega, rfl⟩
    rintro _ ⟨i, v, rfl, h1, h2⟩
    unfold law38_AllocateShares_L0
    simp only
    by_cases hi : i < w.length
    · right
      have hx := hw _ (gD_mem (d := 0) hi)
      simp only [dec_t (show (i : Int) < (w.length : Int) by omega), cond_true, gd_t (inB_t hi), Int.toNat_natCast, smod_eq hx (show (1 : Int) ≤ 1125899906842625 by omega) (by omega), smod_eq hx (show (1 : Int) ≤ 9 by omega) (by omega), smod_eq hx (show (1 : Int) ≤ 100000 by omega) (by omega), Option.bind_some]
      rw [wi (show _ by omega)]
      have fin : ∀ z : Int, ∃ y, gd (fits ((z, v).2.length + 1) 8) (some (Sum.inl ((i : Int) + 1, (z, v).2 ++ [(z, v).1]) : (Int × List Int) ⊕ List Int)) = some (.inl y) ∧ (∃ (i : Nat) (v : List Int), y = ((i : Int), v) ∧ i ≤ w.length ∧ v.length = i) ∧ ((w.length : Int) - y.1).toNat < ((w.length : Int) - (i : Int)).toNat := by
        intro z
        refine ⟨((i : Int) + 1, v ++ [z]), by rw [gd_t (fits_t (by simp only; omega))], ⟨i + 1, v ++ [z], rfl, by omega, by simp; omega⟩, ?_⟩
        simp only; omega
      cases decide (Int.tmod how 4 = 0)
      · cases decide (Int.tmod how 4 = 1)
        · cases decide (Int.tmod how 4 = 2)
          · exact fin _
          · exact fin _
        · exact fin _
      · exact fin _
    · left
      simp only [dec_f (show ¬ (i : Int) < (w.length : Int) by omega), cond_false]
      exact ⟨_, rfl, trivial⟩
  obtain ⟨e, q, _⟩ := key
  exact ⟨e, q⟩

theorem ashares_true {t how : Int} {w : List Int} (ht : i64P t) (hw : ∀ x ∈ w, i64P x) : law38_AllocateShares t w how = some true := by
  unfold law38_AllocateShares
  by_cases h100 : (100 : Int) < (w.length : Int)
  · rw [dec_t h100, Two.awake38_true]; rfl
  rw [dec_f h100]
  obtain ⟨v, q⟩ := as_L0 (how := how) hw (by omega)
  simp only [cond_false, q, Option.bind_some, smod_eq ht (show (1 : Int) ≤ 4001 by omega) (by omega), smod_eq ht (show (1 : Int) ≤ 2199023255555 by omega) (by omega)]
  have fin : ∀ y : Int, (allocate_Share (y, v).1 (y, v).2).bind (fun r7 => (ref38_Share (y, v).1 (y, v).2).bind fun r8 => bif decide (r7.2 = r8.2) then ((ref23_SameInts r7.1 r8.1).bind fun r9 => bif r9 then ((law38_awake).bind fun r10 => some r10) else some false) else some false) = some true := by
    intro y
    obtain ⟨r, q1, q2, q3⟩ := allot_both y v
    simp only [q1, q2, Option.bind_some, decide_true, cond_true, same_eq (show r.1.length ≤ 4611686018427387904 by omega), Two.awake38_true]
  cases decide (2 < Int.tmod how 8)
  · cases decide (0 < Int.tmod how 8)
    · exact fin _
    · exact fin _
  · exact fin _

/-! ### AllocateSums -/
theorem am_L0 {w : List Int} (hw : ∀ x ∈ w, 0 ≤ x ∧ x ≤ 65535) (hl : w.length ≤ 64) : iter (fun x : Int × Int × List Int => law38_AllocateSums_L0 w x.1 x.2.1 x.2.2) (0, 0, []) = some (isum w, w) := by
  have key := iter_for (step := fun x : Int × Int × List Int => law38_AllocateSums_L0 w x.1 x.2.1 x.2.2) w.length (fun i => (isum (w.take i), (i : Int), w.take i)) (e := (isum w, w)) (fun i hi => by
      have b := hw _ (gD_mem (d := 0) hi)
      have b2 := isum_bd (l := w.take i) (a := 0) (b := 65535) fun x hx => hw x (List.mem_of_mem_take hx)
      rw [List.length_take] at b2
      have l1 : (w.take i).length = i := by rw [List.length_take]; omega
      unfold law38_AllocateSums_L0
      simp only [dec_t (show (i : Int) < (w.length : Int) by omega), cond_true, gd_t (inB_t hi), Int.toNat_natCast, l1, gd_t (fits_t (n := i + 1) (b := 8) (by omega))]
      rw [show wi64 (w.getD i 0) = w.getD i 0 from wi (by omega), wi (by omega), wi (by omega), isum_next hi, take_next 0 hi]; rfl) (by
      unfold law38_AllocateSums_L0
      simp only [dec_f (show ¬ (w.length : Int) < (w.length : Int) by omega), cond_false, List.take_length])
  simpa [isum] using key

/-- What is known of allotments. -/
structure AtOk (t : Int) (w x : List Int) : Prop where
  len : x.length = w.length
  all : isum x = t
  sg : ∀ i, i < w.length → max (x.getD i 0) (-(x.getD i 0)) = max t (-t) * w.getD i 0 / isum w ∨ (max (x.getD i 0) (-(x.getD i 0)) = max t (-t) * w.getD i 0 / isum w + 1 ∧ w.getD i 0 ≠ 0)

theorem at_L2 {w x : List Int} {t : Int} (h : AtOk t w x) (hw : ∀ x ∈ w, 0 ≤ x ∧ x ≤ 65535) (hl : w.length ≤ 64) (hs : 0 < isum w) (hb : ∀ i, i < w.length → -4294967296 ≤ x.getD i 0 ∧ x.getD i 0 ≤ 4294967296) {i : Nat} (hi : i < w.length) :
    iter (fun y => law38_AllocateSums_L2 (isum w, w) (x, 0) (i : Int) y) 0 = some (.inl ()) := by
  have xl := h.len
  have := iter_for (step := fun y => law38_AllocateSums_L2 (isum w, w) (x, 0) (i : Int) y) i (fun k => (k : Int)) (e := .inl ()) (fun k hk => by
      have b1 := hb i hi
      have b2 := hb k (by omega)
      have s1 := h.sg i hi
      have s2 := h.sg k (by omega)
      have e1 : wi64 (0 - x.getD i 0) = -(x.getD i 0) := by rw [wi (by omega)]; omega
      have e2 : wi64 (0 - x.getD k 0) = -(x.getD k 0) := by rw [wi (by omega)]; omega
      have mono1 : w.getD k 0 ≤ w.getD i 0 → max t (-t) * w.getD k 0 / isum w ≤ max t (-t) * w.getD i 0 / isum w := fun hh => Int.ediv_le_ediv hs (Int.mul_le_mul_of_nonneg_left hh (by omega))
      have mono2 : w.getD i 0 ≤ w.getD k 0 → max t (-t) * w.getD i 0 / isum w ≤ max t (-t) * w.getD k 0 / isum w := fun hh => Int.ediv_le_ediv hs (Int.mul_le_mul_of_nonneg_left hh (by omega))
      unfold law38_AllocateSums_L2
      simp only [dec_t (show (k : Int) < (i : Int) by omega), cond_true, gd_t (inB_t (show k < x.length by omega)), gd_t (inB_t hi), gd_t (inB_t (show k < w.length by omega)), Int.toNat_natCast, e1, e2]
      simp only [show wi64 (max (x.getD k 0) (-(x.getD k 0)) - 1) = max (x.getD k 0) (-(x.getD k 0)) - 1 from wi (by omega), show wi64 (max (x.getD k 0) (-(x.getD k 0)) + 1) = max (x.getD k 0) (-(x.getD k 0)) + 1 from wi (by omega), show wi64 ((k : Int) + 1) = ((k + 1 : Nat) : Int) by rw [wi (by omega)]; omega]
      by_cases c1 : w.getD k 0 ≤ w.getD i 0
      · have m1 := mono1 c1
        by_cases c2 : w.getD i 0 ≤ w.getD k 0
        · have m2 := mono2 c2
          simp only [dec_t c1, dec_t c2, dec_f (show ¬ max (x.getD i 0) (-(x.getD i 0)) < max (x.getD k 0) (-(x.getD k 0)) - 1 by omega), dec_f (show ¬ max (x.getD k 0) (-(x.getD k 0)) + 1 < max (x.getD i 0) (-(x.getD i 0)) by omega)]; rfl
        · simp only [dec_t c1, dec_f c2, dec_f (show ¬ max (x.getD i 0) (-(x.getD i 0)) < max (x.getD k 0) (-(x.getD k 0)) - 1 by omega)]; rfl
      · have c2 : w.getD i 0 ≤ w.getD k 0 := by omega
        have m2 := mono2 c2
        simp only [dec_f c1, dec_t c2, dec_f (show ¬ max (x.getD k 0) (-(x.getD k 0)) + 1 < max (x.getD i 0) (-(x.getD i 0)) by omega)]; rfl) (by
      unfold law38_AllocateSums_L2
      simp only [dec_f (show ¬ (i : Int) < (i : Int) by omega), cond_false])
  simpa using this

theorem at_L1 {w x y : List Int} {t : Int} (h : AtOk t w x) (hy : y.length = w.length) (hxy : ∀ i, i < w.length → x.getD i 0 = -(y.getD i 0)) (hw : ∀ x ∈ w, 0 ≤ x ∧ x ≤ 65535) (hl : w.length ≤ 64) (hs : 0 < isum w) (ht : -2147483648 ≤ t ∧ t ≤ 2147483647) :
    iter (fun z : Int × Int => law38_AllocateSums_L1 t (isum w, w) (x, 0) (y, 0) z.1 z.2) (0, 0) = some (.inl t) := by
  have xl := h.len
  have hq : ∀ i, i < w.length → 0 ≤ max t (-t) * w.getD i 0 ∧ max t (-t) * w.getD i 0 ≤ 2147483648 * 65535 ∧ 0 ≤ max t (-t) * w.getD i 0 / isum w ∧ max t (-t) * w.getD i 0 / isum w ≤ max t (-t) := fun i hi => by
    have b := hw _ (gD_mem (d := 0) hi)
    have bs := isum_mem (fun x hx => (hw x hx).1) (gD_mem (d := 0) hi)
    have p0 : 0 ≤ max t (-t) * w.getD i 0 := Int.mul_nonneg (by omega) b.1
    have p1 : max t (-t) * w.getD i 0 ≤ 2147483648 * 65535 := Int.mul_le_mul (by omega) b.2 b.1 (by omega)
    have p2 : max t (-t) * w.getD i 0 ≤ max t (-t) * isum w := Int.mul_le_mul_of_nonneg_left bs (by omega)
    exact ⟨p0, p1, Int.ediv_nonneg p0 (by omega), Int.ediv_le_of_le_mul hs p2⟩
  have hb : ∀ i, i < w.length → -4294967296 ≤ x.getD i 0 ∧ x.getD i 0 ≤ 4294967296 := fun i hi => by
    have := hq i hi
    have := h.sg i hi
    omega
  have key := iter_for (step := fun z : Int × Int => law38_AllocateSums_L1 t (isum w, w) (x, 0) (y, 0) z.1 z.2) w.length (fun i => (isum (x.take i), (i : Int))) (e := .inl t) (fun i hi => by
      have q := hq i hi
      have b := hb i hi
      have s := h.sg i hi
      have exy := hxy i hi
      have hsum := isum_bd (l := x.take i) (a := -4294967296) (b := 4294967296) fun z hz => by
        obtain ⟨k, h1, h2, rfl⟩ := mem_take_getD hz
        exact hb k (by omega)
      rw [List.length_take] at hsum
      have et : wi64 t = t := wi (by omega)
      have e0 : wi64 (0 - t) = -t := by rw [wi (by omega)]; omega
      have e1 : wi64 (0 - x.getD i 0) = -(x.getD i 0) := by rw [wi (by omega)]; omega
      have e2 : wi64 (0 - y.getD i 0) = x.getD i 0 := by rw [wi (by omega)]; omega
      have e3 : wi64 (max t (-t) * w.getD i 0) = max t (-t) * w.getD i 0 := wi (by omega)
      have e4 : Int.tdiv (max t (-t) * w.getD i 0) (isum w) = max t (-t) * w.getD i 0 / isum w := Int.tdiv_eq_ediv_of_nonneg q.1
      have e5 : wi64 (max t (-t) * w.getD i 0 / isum w) = max t (-t) * w.getD i 0 / isum w := wi (by omega)
      have e6 : wi64 (max t (-t) * w.getD i 0 / isum w + 1) = max t (-t) * w.getD i 0 / isum w + 1 := wi (by omega)
      have hz : w.getD i 0 = 0 → x.getD i 0 = 0 := fun hz => by
        rw [hz, Int.mul_zero, Int.zero_ediv] at s
        rcases s with s | s
        · omega
        · exact absurd rfl s.2
      unfold law38_AllocateSums_L1
      simp only [dec_t (show (i : Int) < (x.length : Int) by omega), cond_true, gd_t (inB_t (show i < x.length by omega)), gd_t (inB_t hi), gd_t (inB_t (show i < y.length by omega)), Int.toNat_natCast, dec_f (show ¬ isum w = 0 by omega), Bool.not_false, gd_tt, et, e0, e1, e2, e3, e4, e5, e6, decide_true, Bool.not_true, cond_false, at_L2 h hw hl hs hb hi,
        dec_f (show ¬ max (x.getD i 0) (-(x.getD i 0)) < max t (-t) * w.getD i 0 / isum w by omega), dec_f (show ¬ max t (-t) * w.getD i 0 / isum w + 1 < max (x.getD i 0) (-(x.getD i 0)) by omega)]
      rw [show wi64 (isum (x.take i) + x.getD i 0) = isum (x.take i) + x.getD i 0 from wi (by omega), show wi64 ((i : Int) + 1) = ((i + 1 : Nat) : Int) by rw [wi (by omega)]; omega, isum_next (show i < x.length by omega)]
      by_cases c : w.getD i 0 = 0
      · simp only [dec_t c, dec_t (hz c)]; rfl
      · simp only [dec_f c]; rfl) (by
      unfold law38_AllocateSums_L1
      simp only [dec_f (show ¬ ((w.length : Nat) : Int) < (x.length : Int) by omega), cond_false]
      rw [List.take_of_length_le (by omega), h.all])
  simpa [isum] using key

theorem allot_ok {t : Int} {a : Nat} {w : List Int} {o : List Nat} (h : AlIn a w) (hm : max t (-t) = (a : Int)) (h0 : t ≠ 0) (ho : Ordered (rmd a (isum w) w) w.length o) : AtOk t w (allotOf t a w o) := by
  have hok := shares_ok (t := a) h.s.1 ho
  have hl : (shareOf a w o).length = w.length := hok.len
  have hb := (share_bd h ho).2
  refine ⟨by simp [allotOf, hl], ?_, fun i hi => ?_⟩
  · unfold allotOf
    rw [isum_map_mul (fun x => x * sgn t) (sgn t) _ (fun x _ => Int.mul_comm _ _), show isum (shareOf a w o) = (a : Int) from hok.all]
    unfold sgn
    split <;> omega
  · have e := hok.each i hi
    have b := hb _ (gD_mem (d := 0) (show i < (shareOf a w o).length by omega))
    have ev : (allotOf t a w o).getD i 0 = (shareOf a w o).getD i 0 * sgn t := gD_map _ _ _ _ _ (by omega)
    have em : max ((allotOf t a w o).getD i 0) (-((allotOf t a w o).getD i 0)) = (shareOf a w o).getD i 0 := by
      rw [ev]; unfold sgn; split <;> omega
    rw [em, hm]
    rcases e with e | ⟨e, e'⟩
    · left; exact e
    · right
      refine ⟨e, fun hz => ?_⟩
      rw [hz, Int.mul_zero, Int.zero_emod] at e'
      omega

theorem asums_fin {t : Int} {w x y : List Int} (ht : -2147483648 ≤ t ∧ t ≤ 2147483647) (hw : ∀ x ∈ w, 0 ≤ x ∧ x ≤ 65535) (hn : w.length ≤ 64) (hs0 : 0 < isum w) (a1 : AtOk t w x) (a2 : y.length = w.length) (a3 : ∀ i, i < w.length → x.getD i 0 = -(y.getD i 0))
    (a4 : allocate_Share t w = some (x, 0)) (a5 : allocate_Share (-t) w = some (y, 0)) : law38_AllocateSums t w = some true := by
  have xl := a1.len
  have et : wi64 t = t := wi (by omega)
  have e0 : wi64 (0 - t) = -t := by rw [wi (by omega)]; omega
  unfold law38_AllocateSums
  simp only [dec_f (show ¬ (64 : Int) < (w.length : Int) by omega), cond_false, am_L0 hw hn, Option.bind_some, et, e0, a4, a5, dec_f (show ¬ isum w = 0 by omega), decide_true, Bool.not_true, xl, a2, at_L1 a1 a2 a3 hw hn hs0 ht, Sum.elim_inl, cond_true, Two.awake38_true]

theorem asums_true {t : Int} {w : List Int} (ht : -2147483648 ≤ t ∧ t ≤ 2147483647) (hw : ∀ x ∈ w, 0 ≤ x ∧ x ≤ 65535) : law38_AllocateSums t w = some true := by
  by_cases h64 : (64 : Int) < (w.length : Int)
  · unfold law38_AllocateSums
    rw [dec_t h64, Two.awake38_true]; rfl
  have hn : w.length ≤ 64 := by omega
  have hw2 : ∀ x ∈ w, 0 ≤ x ∧ x ≤ 1125899906842624 := fun x hx => by have := hw x hx; omega
  have et : wi64 t = t := wi (by omega)
  have e0 : wi64 (0 - t) = -t := by rw [wi (by omega)]; omega
  have zero : ∀ t : Int, t = 0 → allocate_Share t w = some (List.replicate w.length 0, 0) := by
    intro t h5
    unfold allocate_Share
    rw [dec_f (show ¬ (64 : Int) < (w.length : Int) by omega), signed_eq, dec_t (show (-1099511627776 ≤ t ∧ t ≤ 1099511627776) by omega), al_contains (by omega), vOk_iff.2 hw2, al_L0 (by omega) hw2]
    simp only [cond_false, cond_true, Option.bind_some, Bool.not_true, dec_t h5, Int.toNat_natCast]
    rw [gd_t (makeG_t (show w.length * 8 ≤ _ by omega))]
  have bad : ∀ t : Int, -1099511627776 ≤ t → t ≤ 1099511627776 → t ≠ 0 → isum w = 0 → allocate_Share t w = some ([], 9) := by
    intro t h1 h2 h5 h4
    unfold allocate_Share
    rw [dec_f (show ¬ (64 : Int) < (w.length : Int) by omega), signed_eq, dec_t (show (-1099511627776 ≤ t ∧ t ≤ 1099511627776) by omega), al_contains (by omega), vOk_iff.2 hw2, al_L0 (by omega) hw2]
    simp only [cond_false, cond_true, Option.bind_some, Bool.not_true, dec_f h5, dec_t h4]
    rw [gd_t (makeG_t (show w.length * 8 ≤ _ by omega))]
  by_cases hs : isum w = 0
  · unfold law38_AllocateSums
    simp only [dec_f h64, cond_false, am_L0 hw hn, Option.bind_some, et, e0]
    by_cases h0 : t = 0
    · rw [zero t h0, zero (-t) (by omega)]
      simp only [Option.bind_some, dec_t hs, dec_t h0, decide_true, cond_true, beq_self_eq_true, Two.awake38_true]
    · rw [bad t (by omega) (by omega) h0 hs, bad (-t) (by omega) (by omega) (by omega) hs]
      simp only [Option.bind_some, dec_t hs, dec_f h0, decide_true, cond_true, Two.awake38_true]
      rfl
  · have hs0 : 0 < isum w := by
      have := isum_nn (l := w) fun x hx => (hw x hx).1
      omega
    by_cases h0 : t = 0
    · refine asums_fin ht hw hn hs0 (x := List.replicate w.length 0) (y := List.replicate w.length 0) ⟨by simp, ?_, fun i hi => ?_⟩ (by simp) (fun i hi => by rw [gD_rep _ _ _ _ hi]; omega) (zero t h0) (zero (-t) (by omega))
      · have := isum_bd (l := List.replicate w.length (0 : Int)) (a := 0) (b := 0) fun x hx => by
          rw [(List.mem_replicate.1 hx).2]; omega
        omega
      · left
        rw [gD_rep _ _ _ _ hi, h0]
        simp
    · have hm : max t (-t) = ((max t (-t)).toNat : Int) := by omega
      have hin : AlIn (max t (-t)).toNat w := ⟨hn, by omega, hw2, hs⟩
      obtain ⟨o, ho, q1, q2⟩ := al_main hin hm h0
      have hl : (shareOf (max t (-t)).toNat w o).length = w.length := (share_bd hin ho).1
      refine asums_fin ht hw hn hs0 (allot_ok hin hm h0 ho) (by simp only [allotOf, List.length_map]; exact hl) (fun i hi => ?_) q1 q2
      have v1 : (allotOf t (max t (-t)).toNat w o).getD i 0 = (shareOf (max t (-t)).toNat w o).getD i 0 * sgn t := gD_map _ _ _ _ _ (by omega)
      have v2 : (allotOf (-t) (max t (-t)).toNat w o).getD i 0 = (shareOf (max t (-t)).toNat w o).getD i 0 * sgn (-t) := gD_map _ _ _ _ _ (by omega)
      rw [v1, v2]
      unfold sgn
      split <;> split <;> omega
end Go.Proofs.Ytdmfhnpibllfeaa
