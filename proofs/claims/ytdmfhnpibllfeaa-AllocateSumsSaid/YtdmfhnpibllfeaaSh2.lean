/- Shares: the program's and the document's are the same. No condition. -/
import Derived.Test.YtdmfhnpibllfeaaSh1
namespace Go.Proofs.Ytdmfhnpibllfeaa
open Go Go.Sq

theorem idx_len (n : Nat) : (idx n).length = n := by simp [idx]
theorem idx_get {n i : Nat} (h : i < n) : (idx n).getD i 0 = (i : Int) := gD_range (fun i => (i : Int)) n i h

def i64P (x : Int) : Prop := -9223372036854775808 ≤ x ∧ x ≤ 9223372036854775807
def wOkP (w : List Int) (i : Nat) : Bool := decide (0 ≤ w.getD i 0) && decide (w.getD i 0 ≤ 1048576)
def wOk (w : List Int) : Bool := (List.range w.length).all (wOkP w)
theorem wOk_iff {w : List Int} : wOk w = true ↔ ∀ x ∈ w, 0 ≤ x ∧ x ≤ 1048576 := by
  unfold wOk
  rw [all_range]
  constructor
  · intro h x hx
    obtain ⟨k, hk, rfl⟩ := mem_gD 0 hx
    have := h k hk
    simpa [wOkP] using this
  · intro h i hi
    simpa [wOkP] using h _ (gD_mem (d := 0) hi)
theorem wTake {w : List Int} {i : Nat} (hi : i ≤ w.length) (hn : w.length ≤ 64) (h : ∀ j, j < i → wOkP w j = true) : 0 ≤ isum (w.take i) ∧ isum (w.take i) ≤ 67108864 := by
  have := isum_bd (l := w.take i) (a := 0) (b := 1048576) fun x hx => by
    obtain ⟨k, h1, h2, rfl⟩ := mem_take_getD hx
    have := h k h1
    simpa [wOkP] using this
  rw [List.length_take] at this
  omega

theorem sh_L0 {w : List Int} (hn : w.length ≤ 64) (hw : ∀ x ∈ w, i64P x) : iter (fun x : Int × Int => round_Shares_L0 w x.1 x.2) (0, 0) = some (bif wOk w then .inl (isum w) else .inr ([], 1)) := by
  refine iter_all (step := fun x : Int × Int => round_Shares_L0 w x.1 x.2) w.length (fun i => ((i : Int), isum (w.take i))) (wOkP w) (fun i hi hj hp => ?_) (fun i hi hj hp => ?_) (fun hj => ?_)
  all_goals unfold round_Shares_L0
  · obtain ⟨b1, b2⟩ := wTake (i := i) (by omega) hn hj
    have b3 := hp
    simp only [wOkP, Bool.and_eq_true, decide_eq_true_eq] at b3
    rw [isum_next hi]
    simp only [dec_t (show (i : Int) < (w.length : Int) by omega), cond_true, gd_t (inB_t hi), Int.toNat_natCast, dec_f (show ¬ w.getD i 0 < 0 by omega), dec_f (show ¬ 1048576 < w.getD i 0 by omega), cond_false, Option.bind_some]
    rw [wi (by omega), wi (by omega)]; rfl
  · simp only [dec_t (show (i : Int) < (w.length : Int) by omega), cond_true, gd_t (inB_t hi), Int.toNat_natCast]
    simp only [wOkP, Bool.and_eq_false_iff, decide_eq_false_iff_not] at hp
    by_cases h1 : w.getD i 0 < 0
    · rw [dec_t h1]; rfl
    · rw [dec_f h1, dec_t (show 1048576 < w.getD i 0 by omega)]; rfl
  · rw [List.take_of_length_le (Nat.le_refl _)]
    simp only [dec_f (show ¬ ((w.length : Nat) : Int) < (w.length : Int) by omega), cond_false]
theorem rf_L0 {w : List Int} (hn : w.length ≤ 64) (hw : ∀ x ∈ w, i64P x) : iter (fun x : Int × Int => ref01_Shares_L0 w x.1 x.2) (0, 0) = some (bif wOk w then .inl (isum w) else .inr ([], 1)) := by
  refine iter_all (step := fun x : Int × Int => ref01_Shares_L0 w x.1 x.2) w.length (fun i => (isum (w.take i), (i : Int))) (wOkP w) (fun i hi hj hp => ?_) (fun i hi hj hp => ?_) (fun hj => ?_)
  all_goals unfold ref01_Shares_L0
  · obtain ⟨b1, b2⟩ := wTake (i := i) (by omega) hn hj
    have b3 := hp
    simp only [wOkP, Bool.and_eq_true, decide_eq_true_eq] at b3
    rw [isum_next hi]
    simp only [dec_t (show (i : Int) < (w.length : Int) by omega), cond_true, gd_t (inB_t hi), Int.toNat_natCast, dec_f (show ¬ w.getD i 0 < 0 by omega), dec_f (show ¬ 1048576 < w.getD i 0 by omega), cond_false, Option.bind_some]
    rw [wi (by omega), wi (by omega)]; rfl
  · simp only [dec_t (show (i : Int) < (w.length : Int) by omega), cond_true, gd_t (inB_t hi), Int.toNat_natCast]
    simp only [wOkP, Bool.and_eq_false_iff, decide_eq_false_iff_not] at hp
    by_cases h1 : w.getD i 0 < 0
    · rw [dec_t h1]; rfl
    · rw [dec_f h1, dec_t (show 1048576 < w.getD i 0 by omega)]; rfl
  · rw [List.take_of_length_le (Nat.le_refl _)]
    simp only [dec_f (show ¬ ((w.length : Nat) : Int) < (w.length : Int) by omega), cond_false]

/-- Weights and a total that are divided. -/
structure ShIn (t : Int) (w : List Int) : Prop where
  n : w.length ≤ 64
  t0 : 0 ≤ t
  t1 : t ≤ 1099511627776
  w01 : ∀ x ∈ w, 0 ≤ x ∧ x ≤ 1048576
  s0 : isum w ≠ 0
theorem ShIn.s {t : Int} {w : List Int} (h : ShIn t w) : 0 < isum w ∧ isum w ≤ 67108864 := by
  have := isum_bd h.w01
  have := h.n
  have := h.s0
  omega
theorem ShIn.g {t : Int} {w : List Int} (h : ShIn t w) {i : Nat} (hi : i < w.length) : 0 ≤ w.getD i 0 ∧ w.getD i 0 ≤ 1048576 ∧ 0 ≤ t * w.getD i 0 ∧ t * w.getD i 0 ≤ 1152921504606846976 := by
  have b := h.w01 _ (gD_mem (d := 0) hi)
  have p0 := Int.mul_nonneg h.t0 b.1
  have p1 : t * w.getD i 0 ≤ 1099511627776 * 1048576 := Int.mul_le_mul h.t1 b.2 b.1 (by omega)
  omega
theorem ShIn.q {t : Int} {w : List Int} (h : ShIn t w) {i : Nat} (hi : i < w.length) : wi64 (Int.tdiv (wi64 (t * w.getD i 0)) (isum w)) = (quo t (isum w) w).getD i 0 ∧ Int.tmod (wi64 (t * w.getD i 0)) (isum w) = (rmd t (isum w) w).getD i 0 := by
  obtain ⟨b1, b2, b3, b4⟩ := h.g hi
  have hs := h.s
  rw [wi (n := t * w.getD i 0) (by omega), Int.tdiv_eq_ediv_of_nonneg b3, Int.tmod_eq_emod_of_nonneg b3, quo_get hi, rmd_get hi]
  refine ⟨wi ?_, rfl⟩
  have h1 := Int.ediv_nonneg b3 (Int.le_of_lt hs.1)
  have h2 := Int.ediv_le_self (isum w) b3
  omega
theorem ShIn.qb {t : Int} {w : List Int} (h : ShIn t w) : (∀ x ∈ quo t (isum w) w, 0 ≤ x) ∧ isum (quo t (isum w) w) ≤ t := by
  have hs := h.s
  obtain ⟨b1, b2, b3⟩ := left_bd (t := t) hs.1 rfl
  refine ⟨fun x hx => ?_, by omega⟩
  simp only [quo, List.mem_map] at hx
  obtain ⟨y, hy, rfl⟩ := hx
  exact Int.ediv_nonneg (Int.mul_nonneg h.t0 (h.w01 y hy).1) (Int.le_of_lt hs.1)
theorem ShIn.qi {t : Int} {w : List Int} (h : ShIn t w) {i : Nat} (hi : i < w.length) : 0 ≤ isum ((quo t (isum w) w).take i) ∧ isum ((quo t (isum w) w).take i) ≤ t ∧ 0 ≤ (quo t (isum w) w).getD i 0 ∧ isum ((quo t (isum w) w).take i) + (quo t (isum w) w).getD i 0 ≤ t := by
  obtain ⟨h1, h2⟩ := h.qb
  have hq : i < (quo t (isum w) w).length := by rw [quo_len]; exact hi
  have h3 := isum_le h1 (i := i + 1)
  rw [isum_next hq] at h3
  have h4 := isum_nn (l := (quo t (isum w) w).take i) fun x hx => h1 x (List.mem_of_mem_take hx)
  have h5 := h1 _ (gD_mem (d := 0) hq)
  omega

theorem sh_L1 {t : Int} {w : List Int} (h : ShIn t w) : iter (fun x : Int × Int × List Int × List Int => round_Shares_L1 t w (isum w) x.1 x.2.1 x.2.2.1 x.2.2.2) (t, 0, List.replicate w.length 0, List.replicate w.length 0) = some (t - isum (quo t (isum w) w), quo t (isum w) w, idx w.length) := by
  have ql := quo_len t (isum w) w
  have il := idx_len w.length
  have zl : (List.replicate w.length (0 : Int)).length = w.length := List.length_replicate
  have hs := h.s
  have key := iter_for (step := fun x : Int × Int × List Int × List Int => round_Shares_L1 t w (isum w) x.1 x.2.1 x.2.2.1 x.2.2.2) w.length
    (fun i => (t - isum ((quo t (isum w) w).take i), (i : Int), mix (quo t (isum w) w) (List.replicate w.length 0) i, mix (idx w.length) (List.replicate w.length 0) i)) (e := (t - isum (quo t (isum w) w), quo t (isum w) w, idx w.length)) (fun i hi => by
      obtain ⟨c1, c2, c3, c4⟩ := h.qi hi
      have hq := h.q hi
      have ht1 := h.t1
      have hn := h.n
      unfold round_Shares_L1
      simp only [dec_t (show (i : Int) < (w.length : Int) by omega), cond_true, Int.toNat_natCast, List.length_set, mix_len ql zl, mix_len il zl, gd_t (inB_t hi), dec_f h.s0, Bool.not_false, gd_tt, hq.1]
      rw [set_mix ql zl 0 hi rfl, set_mix il zl 0 hi (idx_get hi).symm, gD_mix ql zl, if_pos (by omega), isum_next (by rw [ql]; exact hi), wi (by omega), wi (by omega)]
      simp only [Int.sub_sub]; rfl) (by
      unfold round_Shares_L1
      simp only [dec_f (show ¬ ((w.length : Nat) : Int) < (w.length : Int) by omega), cond_false]
      rw [mix_n ql zl, mix_n il zl, List.take_of_length_le (by omega)])
  simpa [mix_0, isum] using key

theorem cmp_eq (x y : Int) : cmp_Compare_int x y = some (if x < y then -1 else if y < x then 1 else 0) := by
  unfold cmp_Compare_int cmp_isNaN_int
  simp only [decide_true, Bool.not_true, Option.bind_some, cond_false]
  by_cases h1 : x < y
  · simp [h1]
  · by_cases h2 : y < x
    · simp [h1, h2]
    · simp [h1, h2]

def cR (R : List Int) (x y : Int) : Int := if R.getD y.toNat 0 < R.getD x.toNat 0 then -1 else if R.getD x.toNat 0 < R.getD y.toNat 0 then 1 else 0
theorem cR_pre (R : List Int) : Pre (cR R) := by
  refine ⟨fun x => ?_, fun x y => ?_, fun x y z => ?_⟩ <;> unfold cR
  · simp
  · split <;> split <;> (try split) <;> omega
  · split <;> split <;> (try split) <;> (try split) <;> (try split) <;> omega
theorem cR_le {R : List Int} {x y : Int} (h : cR R x y ≤ 0) : R.getD y.toNat 0 ≤ R.getD x.toNat 0 := by
  unfold cR at h
  split at h
  · omega
  · split at h <;> omega
theorem cR_0 {R : List Int} {x y : Int} (h : R.getD x.toNat 0 = R.getD y.toNat 0) : cR R x y = 0 := by
  unfold cR; rw [if_neg (by omega), if_neg (by omega)]

theorem sh_cmp {t : Int} {w : List Int} (h : ShIn t w) : CmpOn (fun h => (round_Shares_1 h.1 h.2.1 t w (isum w)).bind fun y => some y) (cR (rmd t (isum w) w)) (fun x => 0 ≤ x ∧ x < (w.length : Int)) := by
  intro x y hx hy
  have hs := h.s
  obtain ⟨i, rfl⟩ : ∃ i : Nat, x = (i : Int) := ⟨x.toNat, by omega⟩
  obtain ⟨k, rfl⟩ : ∃ k : Nat, y = (k : Int) := ⟨y.toNat, by omega⟩
  have hi : i < w.length := by omega
  have hk : k < w.length := by omega
  unfold round_Shares_1
  simp only [gd_t (inB_t hi), gd_t (inB_t hk), dec_f h.s0, Bool.not_false, gd_tt, Int.toNat_natCast, (h.q hi).2, (h.q hk).2, cmp_eq, Option.bind_some]
  unfold cR
  simp only [Int.toNat_natCast]

theorem sh_L2 {out : List Int} {o : List Nat} {left : Int} {x : List Int × List Int} (h0 : 0 ≤ left) (h1 : left ≤ o.length) (hn : out.length ≤ 64) (hol : o.length ≤ 64) (ho : ∀ i ∈ o, i < out.length) (hb : ∀ k, k < out.length → 0 ≤ out.getD k 0 ∧ out.getD k 0 ≤ 1099511627776) (hd : o.Nodup) :
    iter (fun x3 : Int × List Int × List Int => round_Shares_L2 (left, x) (o.map fun i : Nat => (i : Int)) x3.1 x3.2.1 x3.2.2) (0, out, (o.map fun i : Nat => (i : Int)).take left.toNat) = some (bump out (o.take left.toNat)) := by
  obtain ⟨n, rfl⟩ : ∃ n : Nat, left = (n : Int) := ⟨left.toNat, by omega⟩
  have hno : n ≤ o.length := by omega
  have key := iter_for (step := fun x3 : Int × List Int × List Int => round_Shares_L2 ((n : Int), x) (o.map fun i : Nat => (i : Int)) x3.1 x3.2.1 x3.2.2) n
    (fun k => ((k : Int), bump out (o.take k), (o.map fun i : Nat => (i : Int)).take n)) (e := bump out (o.take n)) (fun k hk => by
      have hko : k < o.length := by omega
      have hg : ((o.map fun i : Nat => (i : Int)).take n).getD k 0 = ((o.getD k 0 : Nat) : Int) := by
        rw [gD_take, if_pos hk, gD_map (fun i : Nat => (i : Int)) o k 0 0 hko]
      have hlen : ((o.map fun i : Nat => (i : Int)).take n).length = n := by simp; omega
      have hm := ho _ (gD_mem (d := 0) hko)
      have hv := bump_get (o.take k) out (hd.sublist (List.take_sublist _ _)) (fun i hi => ho i (List.mem_of_mem_take hi)) (o.getD k 0)
      have hb1 := hb _ hm
      unfold round_Shares_L2
      simp only [Int.toNat_natCast, hlen, dec_t (show (k : Int) < (n : Int) by omega), cond_true, gd_t (inB_t hk), hg, bump_len, gd_t (inB_t hm)]
      rw [take_next 0 hko, bump_snoc, wi (by omega), wi (by rw [hv]; split <;> omega)]; rfl) (by
      unfold round_Shares_L2
      have hlen : ((o.map fun i : Nat => (i : Int)).take n).length = n := by simp; omega
      simp only [Int.toNat_natCast, hlen, dec_f (show ¬ (n : Int) < (n : Int) by omega), cond_false])
  simpa [bump] using key

/-- The order in which places are served. -/
theorem sh_sort {t : Int} {w : List Int} (h : ShIn t w) : ∃ o : List Nat, Ordered (rmd t (isum w) w) w.length o ∧ slices_SortStableFunc_int_int (fun h => (round_Shares_1 h.1 h.2.1 t w (isum w)).bind fun y => some y) (idx w.length) = some (o.map fun i : Nat => (i : Int)) := by
  obtain ⟨d, q1, q2, q3⟩ := sort_stable (sh_cmp h) (cR_pre _) (S := idx w.length) (fun e he => by
    simp only [idx, List.mem_map, List.mem_range] at he
    obtain ⟨i, hi, rfl⟩ := he
    omega) (by rw [idx_len]; have := h.n; omega)
  obtain ⟨o, rfl, ho⟩ := ordered_of (fun _ _ => cR_le) (fun _ _ => cR_0) (cR_pre _) q2 q3
  exact ⟨o, ho, q1⟩

/-- The shares. -/
def shareOf (t : Int) (w : List Int) (o : List Nat) : List Int := bump (quo t (isum w) w) (o.take (t - isum (quo t (isum w) w)).toNat)

theorem sh_main {t : Int} {w : List Int} (h : ShIn t w) : ∃ o : List Nat, Ordered (rmd t (isum w) w) w.length o ∧ round_Shares t w = some (shareOf t w o, 0) := by
  obtain ⟨o, ho, hs⟩ := sh_sort h
  refine ⟨o, ho, ?_⟩
  have hl := ho.len
  obtain ⟨b1, b2, b3⟩ := left_bd (t := t) h.s.1 rfl
  have hn := h.n
  have ht := h.t0
  have ht1 := h.t1
  have hs0 := h.s0
  unfold round_Shares
  rw [dec_f (show ¬ (64 : Int) < (w.length : Int) by omega), dec_f (show ¬ t < 0 by omega), dec_f (show ¬ 1099511627776 < t by omega), sh_L0 hn (fun x hx => by have := h.w01 x hx; unfold i64P; omega), wOk_iff.2 h.w01]
  simp only [cond_false, cond_true, Option.bind_some, Sum.elim_inl, dec_f hs0, Int.toNat_natCast]
  rw [gd_t (makeG_t (show w.length * 8 ≤ _ by omega)), gd_t (makeG_t (show w.length * 8 ≤ _ by omega)), sh_L1 h]
  simp only [Option.bind_some, hs]
  obtain ⟨q1, q2⟩ := h.qb
  rw [gd_t (show inR 0 (t - isum (quo t (isum w) w)) (o.map fun i : Nat => (i : Int)).length = true by
    have := inR_t (a := 0) (b := (t - isum (quo t (isum w) w)).toNat) (n := (o.map fun i : Nat => (i : Int)).length) (by omega) (by simp; omega)
    rw [show (((t - isum (quo t (isum w) w)).toNat : Nat) : Int) = t - isum (quo t (isum w) w) by omega] at this
    exact this), sh_L2 b2 (by omega) (by rw [quo_len]; exact hn) (by omega) (fun i hi => by rw [quo_len]; exact ho.lt hi) (fun k hk => by
      rw [quo_len] at hk
      have := h.qi hk
      omega) ho.nodup]
  rfl

/-! ### The document's -/
theorem rf_L1 {t : Int} {w : List Int} (h : ShIn t w) : iter (fun x : Int × Int × List Int × List Int => ref01_Shares_L1 t w (isum w) x.1 x.2.1 x.2.2.1 x.2.2.2) (t, 0, [], []) = some (t - isum (quo t (isum w) w), quo t (isum w) w, rmd t (isum w) w) := by
  have ql := quo_len t (isum w) w
  have rl := rmd_len t (isum w) w
  have hs := h.s
  have key := iter_for (step := fun x : Int × Int × List Int × List Int => ref01_Shares_L1 t w (isum w) x.1 x.2.1 x.2.2.1 x.2.2.2) w.length
    (fun i => (t - isum ((quo t (isum w) w).take i), (i : Int), (quo t (isum w) w).take i, (rmd t (isum w) w).take i)) (e := (t - isum (quo t (isum w) w), quo t (isum w) w, rmd t (isum w) w)) (fun i hi => by
      obtain ⟨c1, c2, c3, c4⟩ := h.qi hi
      have hq := h.q hi
      have ht1 := h.t1
      have hn := h.n
      have l1 : ((quo t (isum w) w).take i).length = i := by rw [List.length_take]; omega
      have l2 : ((rmd t (isum w) w).take i).length = i := by rw [List.length_take]; omega
      have l3 : ((quo t (isum w) w).take (i + 1)).length = i + 1 := by rw [List.length_take]; omega
      have g3 : ((quo t (isum w) w).take (i + 1)).getD i 0 = (quo t (isum w) w).getD i 0 := by rw [gD_take, if_pos (by omega)]
      unfold ref01_Shares_L1
      simp only [dec_t (show (i : Int) < (w.length : Int) by omega), cond_true, Int.toNat_natCast, gd_t (inB_t hi), dec_f h.s0, Bool.not_false, gd_tt, hq.1, hq.2, l1, l2, gd_t (fits_t (n := i + 1) (b := 8) (by omega)), ← take_next 0 (show i < (quo t (isum w) w).length by omega), ← take_next 0 (show i < (rmd t (isum w) w).length by omega), l3, gd_t (inB_t (show i < i + 1 by omega)), g3]
      rw [isum_next (by rw [ql]; exact hi), wi (by omega), wi (by omega)]
      simp only [Int.sub_sub]; rfl) (by
      unfold ref01_Shares_L1
      simp only [dec_f (show ¬ ((w.length : Nat) : Int) < (w.length : Int) by omega), cond_false]
      rw [List.take_of_length_le (by omega), List.take_of_length_le (by omega)])
  simpa [isum] using key

/-- The first of the greatest. -/
theorem rf_L3 {out R : List Int} (hR : 0 < R.length) (hn : R.length ≤ 64) : ∃ B : Nat, B < R.length ∧ (∀ j, j < R.length → R.getD j 0 ≤ R.getD B 0) ∧ (∀ j, j < B → R.getD j 0 < R.getD B 0) ∧
    iter (fun x3 : Int × Int × List Int × List Int => ref01_Shares_L3 R x3.1 x3.2.1 x3.2.2.1 x3.2.2.2) (0, 0, out, R) = some ((B : Int), out, R) := by
  have key : ∃ e, iter (fun x3 : Int × Int × List Int × List Int => ref01_Shares_L3 R x3.1 x3.2.1 x3.2.2.1 x3.2.2.2) (0, 0, out, R) = some e ∧ ∃ B : Nat, e = ((B : Int), out, R) ∧ B < R.length ∧ (∀ j, j < R.length → R.getD j 0 ≤ R.getD B 0) ∧ (∀ j, j < B → R.getD j 0 < R.getD B 0) := by
    refine iter_inv (fun x => ∃ B i : Nat, x = ((B : Int), (i : Int), out, R) ∧ i ≤ R.length ∧ B < R.length ∧ (∀ j, j < i → R.getD j 0 ≤ R.getD B 0) ∧ (∀ j, j < B → R.getD j 0 < R.getD B 0)) (fun x => ((R.length : Int) - x.2.1).toNat) _ ?_ ⟨0, 0, rfl, by omega, hR, by omega, by omega⟩
    rintro _ ⟨B, i, rfl, h1, h2, h3, h4⟩
    unfold ref01_Shares_L3
    simp only
    by_cases hi : i < R.length
    · right
      simp only [dec_t (show (i : Int) < (R.length : Int) by omega), cond_true, gd_t (inB_t hi), gd_t (inB_t h2), Int.toNat_natCast]
      rw [show wi64 ((i : Int) + 1) = ((i + 1 : Nat) : Int) by rw [wi (by omega)]; omega]
      by_cases hlt : R.getD B 0 < R.getD i 0
      · rw [dec_t hlt]
        refine ⟨_, rfl, ⟨i, i + 1, rfl, by omega, hi, fun j hj => ?_, fun j hj => ?_⟩, ?_⟩
        · by_cases e : j = i
          · rw [e]; omega
          · have := h3 j (by omega); omega
        · have := h3 j hj; omega
        · simp only [cond_true, Option.bind_some]; omega
      · rw [dec_f hlt]
        refine ⟨_, rfl, ⟨B, i + 1, rfl, by omega, h2, fun j hj => ?_, h4⟩, ?_⟩
        · by_cases e : j = i
          · rw [e]; omega
          · exact h3 j (by omega)
        · simp only [cond_false, Option.bind_some]; omega
    · left
      obtain rfl : i = R.length := by omega
      exact ⟨((B : Int), out, R), by simp only [dec_f (show ¬ ((R.length : Nat) : Int) < (R.length : Int) by omega), cond_false], B, rfl, h2, h3, h4⟩
  obtain ⟨_, q, B, rfl, q1, q2, q3⟩ := key
  exact ⟨B, q1, q2, q3, q⟩

theorem rf_L2 {out R : List Int} {o : List Nat} {left n : Nat} (ho : Ordered R n o) (hR : ∀ i, i < n → 0 ≤ R.getD i 0) (hRl : R.length = n) (hol : out.length = n) (hn : n ≤ 64) (hl : left ≤ n) (hb : ∀ k, k < out.length → 0 ≤ out.getD k 0 ∧ out.getD k 0 ≤ 1099511627776) :
    iter (fun x4 : Int × List Int × List Int => ref01_Shares_L2 x4.1 x4.2.1 x4.2.2) ((left : Int), out, R) = some (bump out (o.take left)) := by
  have ol := ho.len
  have key := iter_for (step := fun x4 : Int × List Int × List Int => ref01_Shares_L2 x4.1 x4.2.1 x4.2.2) left
    (fun k => ((left : Int) - (k : Int), bump out (o.take k), marks R (o.take k))) (e := bump out (o.take left)) (fun k hk => by
      have hko : k < o.length := by omega
      have ml := marks_len (o.take k) R
      have bl := bump_len (o.take k) out
      obtain ⟨B, r1, r2, r3, r4⟩ := rf_L3 (out := bump out (o.take k)) (R := marks R (o.take k)) (by omega) (by omega)
      rw [ml, hRl] at r1 r2
      obtain rfl := best_next ho hR hRl (by omega) r1 r2 r3
      have hv := bump_get (o.take k) out (ho.nodup.sublist (List.take_sublist _ _)) (fun i hi => by rw [hol]; exact ho.lt (List.mem_of_mem_take hi)) (o.getD k 0)
      have hb1 := hb _ (by rw [hol]; exact r1)
      unfold ref01_Shares_L2
      simp only [dec_t (show (0 : Int) < (left : Int) - (k : Int) by omega), cond_true, r4, Option.bind_some, bl, ml, hol, hRl, gd_t (inB_t r1), Int.toNat_natCast]
      rw [take_next 0 hko, bump_snoc, marks_snoc, wi (by omega), wi (by rw [hv]; split <;> omega)]
      simp only [Int.sub_sub]; rfl) (by
      unfold ref01_Shares_L2
      simp only [dec_f (show ¬ (0 : Int) < (left : Int) - (left : Int) by omega), cond_false])
  simpa [bump, marks] using key

theorem rf_main {t : Int} {w : List Int} (h : ShIn t w) {o : List Nat} (ho : Ordered (rmd t (isum w) w) w.length o) : ref01_Shares t w = some (shareOf t w o, 0) := by
  obtain ⟨b1, b2, b3⟩ := left_bd (t := t) h.s.1 rfl
  have hn := h.n
  have ht := h.t0
  have ht1 := h.t1
  have hs0 := h.s0
  have hs := h.s
  have h2 := rf_L2 (out := quo t (isum w) w) (left := (t - isum (quo t (isum w) w)).toNat) ho (fun i hi => by rw [rmd_get hi]; exact Int.emod_nonneg _ hs0) (rmd_len _ _ _) (quo_len _ _ _) hn (by omega) (fun k hk => by
      rw [quo_len] at hk
      have := h.qi hk
      omega)
  rw [show (((t - isum (quo t (isum w) w)).toNat : Nat) : Int) = t - isum (quo t (isum w) w) by omega] at h2
  unfold ref01_Shares
  rw [dec_f (show ¬ (64 : Int) < (w.length : Int) by omega), dec_f (show ¬ t < 0 by omega), dec_f (show ¬ 1099511627776 < t by omega), rf_L0 hn (fun x hx => by have := h.w01 x hx; unfold i64P; omega), wOk_iff.2 h.w01]
  simp only [cond_false, cond_true, Option.bind_some, Sum.elim_inl, dec_f hs0, rf_L1 h, h2]
  rfl

/-- The program and the document agree; and what is known of the shares. -/
theorem shares_both {t : Int} {w : List Int} (ht : i64P t) (hw : ∀ x ∈ w, i64P x) : ∃ r : List Int × Int, round_Shares t w = some r ∧ ref01_Shares t w = some r ∧ (∀ x ∈ r.1, i64P x) ∧ r.1.length ≤ 64 ∧
    (w.length ≤ 64 → 0 ≤ t → t ≤ 1099511627776 → (∀ x ∈ w, 0 ≤ x ∧ x ≤ 1048576) → (isum w = 0 → r.2 = 9) ∧ (isum w ≠ 0 → r.2 = 0 ∧ ShOk t w r.1)) := by
  by_cases h1 : 64 < w.length
  · refine ⟨([], 4), ?_, ?_, by simp, by simp, fun h => by omega⟩
    · unfold round_Shares; rw [dec_t (show (64 : Int) < (w.length : Int) by omega)]; rfl
    · unfold ref01_Shares; rw [dec_t (show (64 : Int) < (w.length : Int) by omega)]; rfl
  by_cases h2 : t < 0 ∨ 1099511627776 < t
  · refine ⟨([], 1), ?_, ?_, by simp, by simp, fun _ h => by omega⟩
    · unfold round_Shares
      rw [dec_f (show ¬ (64 : Int) < (w.length : Int) by omega)]
      by_cases h3 : t < 0
      · rw [dec_t h3]; rfl
      · rw [dec_f h3, dec_t (show 1099511627776 < t by omega)]; rfl
    · unfold ref01_Shares
      rw [dec_f (show ¬ (64 : Int) < (w.length : Int) by omega)]
      by_cases h3 : t < 0
      · rw [dec_t h3]; rfl
      · rw [dec_f h3, dec_t (show 1099511627776 < t by omega)]; rfl
  by_cases h3 : wOk w = true
  · by_cases h4 : isum w = 0
    · refine ⟨([], 9), ?_, ?_, by simp, by simp, fun _ _ _ _ => ⟨fun _ => rfl, fun h => absurd h4 h⟩⟩
      · unfold round_Shares
        rw [dec_f (show ¬ (64 : Int) < (w.length : Int) by omega), dec_f (show ¬ t < 0 by omega), dec_f (show ¬ 1099511627776 < t by omega), sh_L0 (by omega) hw, h3]
        simp only [cond_false, cond_true, Option.bind_some, Sum.elim_inl, dec_t h4]
      · unfold ref01_Shares
        rw [dec_f (show ¬ (64 : Int) < (w.length : Int) by omega), dec_f (show ¬ t < 0 by omega), dec_f (show ¬ 1099511627776 < t by omega), rf_L0 (by omega) hw, h3]
        simp only [cond_false, cond_true, Option.bind_some, Sum.elim_inl, dec_t h4]
    · have hin : ShIn t w := ⟨by omega, by omega, by omega, wOk_iff.1 h3, h4⟩
      obtain ⟨o, ho, q⟩ := sh_main hin
      have hok := shares_ok (t := t) hin.s.1 ho
      refine ⟨_, q, rf_main hin ho, fun x hx => ?_, by rw [show (shareOf t w o, (0 : Int)).1.length = w.length from hok.len]; omega, fun _ _ _ _ => ⟨fun h => absurd h h4, fun _ => ⟨rfl, hok⟩⟩⟩
      obtain ⟨k, hk, rfl⟩ := mem_gD 0 hx
      have hk' : k < w.length := by rw [← hok.len]; exact hk
      have e := hok.each k hk'
      have c := hin.qi hk'
      rw [quo_get hk'] at c
      unfold i64P
      have : (shareOf t w o, (0 : Int)).1.getD k 0 = (bump (quo t (isum w) w) (o.take (t - isum (quo t (isum w) w)).toNat)).getD k 0 := rfl
      rw [this]
      omega
  · refine ⟨([], 1), ?_, ?_, by simp, by simp, fun _ _ _ h => absurd (wOk_iff.2 h) h3⟩
    · unfold round_Shares
      rw [dec_f (show ¬ (64 : Int) < (w.length : Int) by omega), dec_f (show ¬ t < 0 by omega), dec_f (show ¬ 1099511627776 < t by omega), sh_L0 (by omega) hw, Bool.eq_false_iff.2 h3]
      rfl
    · unfold ref01_Shares
      rw [dec_f (show ¬ (64 : Int) < (w.length : Int) by omega), dec_f (show ¬ t < 0 by omega), dec_f (show ¬ 1099511627776 < t by omega), rf_L0 (by omega) hw, Bool.eq_false_iff.2 h3]
      rfl
end Go.Proofs.Ytdmfhnpibllfeaa
