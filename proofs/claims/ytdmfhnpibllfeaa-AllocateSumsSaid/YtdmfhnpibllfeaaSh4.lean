/- The law RoundAnswers. No condition. -/
import Derived.Test.YtdmfhnpibllfeaaSh3
namespace Go.Proofs.Ytdmfhnpibllfeaa
open Go Go.Sq

theorem mod_fix2 (x n : Int) (h : 1 ≤ n) : x % n = if x.tmod n < 0 then x.tmod n + n else x.tmod n := by
  have b1 := Int.emod_nonneg x (show n ≠ 0 by omega)
  have b2 := Int.emod_lt_of_pos x (show 0 < n by omega)
  by_cases h0 : 0 ≤ x
  · rw [Int.tmod_eq_emod_of_nonneg h0, if_neg (by omega)]
  · have e2 : Int.tmod x n = if x % n = 0 then 0 else x % n - n := by
      rw [Int.tmod_eq_emod]
      by_cases hd : n ∣ x
      · rw [if_pos (.inr hd), if_pos (Int.emod_eq_zero_of_dvd hd)]
        rw [Int.emod_eq_zero_of_dvd hd]; rfl
      · rw [if_neg (by simp [hd]; omega), if_neg (fun hh => hd (Int.dvd_of_emod_eq_zero hh))]
        congr 1; omega
    rw [e2]
    by_cases hz : x % n = 0
    · rw [if_pos hz, if_neg (by omega), hz]
    · rw [if_neg hz, if_pos (by omega)]; omega
theorem tdiv_fix2 (x n : Int) (h : 1 ≤ n) : x / n = if x.tmod n < 0 then x.tdiv n - 1 else x.tdiv n := by
  have h1 := Int.tmod_add_mul_tdiv x n
  have h2 := Int.emod_add_mul_ediv x n
  have h3 := Int.emod_nonneg x (show n ≠ 0 by omega)
  have h4 := Int.emod_lt_of_pos x (show 0 < n by omega)
  have h5 := mod_fix2 x n h
  split at h5
  · rename_i hn
    rw [if_pos hn]
    have : n * (x / n) = n * (x.tdiv n - 1) := by rw [Int.mul_sub, Int.mul_one]; omega
    exact Int.eq_of_mul_eq_mul_left (by omega) this
  · rename_i hn
    rw [if_neg hn]
    have : n * (x / n) = n * x.tdiv n := by omega
    exact Int.eq_of_mul_eq_mul_left (by omega) this
theorem tdiv_bd2 (x n : Int) (hx : -2305843009213693952 ≤ x ∧ x ≤ 2305843009213693952) : -2305843009213693952 ≤ x.tdiv n ∧ x.tdiv n ≤ 2305843009213693952 := by
  have h1 := Int.natAbs_tdiv_le_natAbs x n
  omega

/-- Numbers that are divided. -/
def Prp (a b : Int) : Prop := 1 ≤ b ∧ b ≤ 1099511627776 ∧ -2305843009213693952 ≤ a ∧ a ≤ 2305843009213693952
theorem proper_eq (a b : Int) : (Prp a b ∧ ref01_proper a b = some true) ∨ (¬ Prp a b ∧ ref01_proper a b = some false) := by
  unfold Prp ref01_proper
  by_cases h1 : 1 ≤ b
  · by_cases h2 : b ≤ 1099511627776
    · by_cases h3 : -2305843009213693952 ≤ a
      · by_cases h4 : a ≤ 2305843009213693952
        · left; simp [h1, h2, h3, h4]
        · right; simp [h1, h2, h3, h4]
      · right; simp [h1, h2, h3]
    · right; simp [h1, h2]
  · right; simp [h1]
theorem divide_eq (a b : Int) : (Prp a b ∧ round_divide a b = some (a / b, a % b, true)) ∨ (¬ Prp a b ∧ round_divide a b = some (0, 0, false)) := by
  by_cases hp : Prp a b
  · left
    refine ⟨hp, ?_⟩
    obtain ⟨h1, h2, h3, h4⟩ := hp
    have q := tdiv_bd2 a b ⟨h3, h4⟩
    have m := mod_fix2 a b h1
    have d := tdiv_fix2 a b h1
    have b1 := Int.lt_tmod_of_pos a (show 0 < b by omega)
    have b2 := Int.tmod_lt_of_pos a (show 0 < b by omega)
    unfold round_divide
    rw [dec_f (show ¬ b < 1 by omega), dec_f (show ¬ 1099511627776 < b by omega), dec_f (show ¬ a < -2305843009213693952 by omega), dec_f (show ¬ 2305843009213693952 < a by omega), dec_f (show ¬ b = 0 by omega)]
    simp only [cond_false, Option.bind_some, Bool.not_false, gd_tt]
    rw [show wi64 (a.tdiv b) = a.tdiv b from wi (by omega), show wi64 (a.tdiv b - 1) = a.tdiv b - 1 from wi (by omega), show wi64 (a.tmod b + b) = a.tmod b + b from wi (by omega), m, d]
    by_cases h : a.tmod b < 0
    · simp [h]
    · simp [h]
  · right
    refine ⟨hp, ?_⟩
    unfold Prp at hp
    unfold round_divide
    by_cases h1 : b < 1
    · simp [h1]
    · by_cases h2 : 1099511627776 < b
      · simp [h1, h2]
      · by_cases h3 : a < -2305843009213693952
        · simp [h1, h2, h3]
        · simp [h1, h2, h3, show 2305843009213693952 < a by omega]

theorem down_both (a b : Int) : ∃ r, round_Down a b = some r ∧ ref01_Down a b = some r ∧ (Prp a b → r = a / b) := by
  unfold round_Down ref01_Down
  rcases divide_eq a b with ⟨hp, e⟩ | ⟨hp, e⟩ <;> rcases proper_eq a b with ⟨hp', e'⟩ | ⟨hp', e'⟩
  · refine ⟨a / b, by rw [e]; rfl, ?_, fun _ => rfl⟩
    obtain ⟨h1, h2, h3, h4⟩ := hp
    have q := tdiv_bd2 a b ⟨h3, h4⟩
    have d := tdiv_fix2 a b h1
    rw [e']
    simp only [Option.bind_some, Bool.not_true, cond_false, dec_f (show ¬ b = 0 by omega), Bool.not_false, gd_tt]
    rw [show wi64 (a.tdiv b) = a.tdiv b from wi (by omega), show wi64 (a.tdiv b - 1) = a.tdiv b - 1 from wi (by omega), d]
    by_cases h : a.tmod b < 0
    · simp [h]
    · simp [h]
  · exact absurd hp hp'
  · exact absurd hp' hp
  · exact ⟨0, by rw [e]; rfl, by rw [e']; rfl, fun h => absurd h hp⟩
theorem up_both (a b : Int) : ∃ r, round_Up a b = some r ∧ ref01_Up a b = some r := by
  unfold round_Up ref01_Up
  rcases divide_eq a b with ⟨hp, e⟩ | ⟨hp, e⟩ <;> rcases proper_eq a b with ⟨hp', e'⟩ | ⟨hp', e'⟩
  · obtain ⟨h1, h2, h3, h4⟩ := hp
    have q := tdiv_bd2 a b ⟨h3, h4⟩
    have d := tdiv_fix2 a b h1
    have m := mod_fix2 a b h1
    have b1 := Int.lt_tmod_of_pos a (show 0 < b by omega)
    rw [e, e']
    simp only [Option.bind_some, Bool.not_true, cond_false, cond_true, dec_f (show ¬ b = 0 by omega), Bool.not_false, gd_tt]
    rw [show wi64 (a.tdiv b) = a.tdiv b from wi (by omega), show wi64 (a.tdiv b + 1) = a.tdiv b + 1 from wi (by omega), show wi64 (a / b + 1) = a / b + 1 from wi (by split at d <;> omega)]
    by_cases h : a.tmod b < 0
    · rw [if_pos h] at d m
      rw [dec_f (show ¬ 0 < a.tmod b by omega), dec_t (show 0 < a % b by omega)]
      exact ⟨a.tdiv b, by simp only [cond_true]; congr 1; omega, rfl⟩
    · rw [if_neg h] at d m
      rw [m, d]
      cases decide (0 < a.tmod b)
      · exact ⟨_, rfl, rfl⟩
      · exact ⟨_, rfl, rfl⟩
  · exact absurd hp hp'
  · exact absurd hp' hp
  · exact ⟨0, by rw [e]; rfl, by rw [e']; rfl⟩
theorem half_both (a b : Int) : ∃ r, round_Half a b = some r ∧ ref01_Half a b = some r := by
  unfold round_Half ref01_Half
  obtain ⟨r, _, d2, d3⟩ := down_both a b
  rcases divide_eq a b with ⟨hp, e⟩ | ⟨hp, e⟩ <;> rcases proper_eq a b with ⟨hp', e'⟩ | ⟨hp', e'⟩
  · obtain rfl := d3 hp
    obtain ⟨h1, h2, h3, h4⟩ := hp
    have q := tdiv_bd2 a b ⟨h3, h4⟩
    have d := tdiv_fix2 a b h1
    have m1 := Int.emod_nonneg a (show b ≠ 0 by omega)
    have m2 := Int.emod_lt_of_pos a (show 0 < b by omega)
    have m3 := Int.mul_ediv_add_emod a b
    rw [Int.mul_comm] at m3
    have e3 : wi64 (a / b * b) = a / b * b := wi (by omega)
    have e4 : wi64 (a - a / b * b) = a % b := by rw [wi (by omega)]; omega
    rw [e, e', d2]
    simp only [Option.bind_some, Bool.not_true, cond_false, cond_true, e3, e4]
    rw [show wi64 (2 * (a % b)) = 2 * (a % b) from wi (by omega), show wi64 (a / b + 1) = a / b + 1 from wi (by split at d <;> omega)]
    cases decide (b ≤ 2 * (a % b))
    · exact ⟨_, rfl, rfl⟩
    · exact ⟨_, rfl, rfl⟩
  · exact absurd hp hp'
  · exact absurd hp' hp
  · exact ⟨0, by rw [e]; rfl, by rw [e']; rfl⟩

theorem rroot_step {n r bit : Int} (h : RootSt.ok n ⟨r, bit⟩) : ref01_Root_L0 n r bit = bif decide (0 < bit) then some (.inl ((RootSt.next n ⟨r, bit⟩).r, bit / 2)) else some (.inr r) := by
  obtain ⟨a1, a2, a3, a4, _, _⟩ := h
  simp only at a1 a2 a3 a4
  have e2 : (2 : Int) ^ shAmt .i64 1 = 2 := by kernel_rfl
  unfold ref01_Root_L0
  by_cases hb : 0 < bit
  · simp only [hb, decide_true, cond_true]
    rw [show wi64 (r + bit) = r + bit from wi (by omega), e2, Int.fdiv_eq_ediv_of_nonneg _ (by omega)]
    by_cases h2 : r + bit ≤ 2147483648
    · have hm : (r + bit) * (r + bit) ≤ 2147483648 * 2147483648 := Int.mul_le_mul h2 h2 (by omega) (by omega)
      have hm0 : 0 ≤ (r + bit) * (r + bit) := Int.mul_nonneg (by omega) (by omega)
      rw [show wi64 ((r + bit) * (r + bit)) = (r + bit) * (r + bit) from wi ⟨by omega, by omega⟩]
      by_cases h3 : (r + bit) * (r + bit) ≤ n <;> simp [h2, h3, RootSt.next]
    · simp [h2, RootSt.next]
  · simp [hb]
theorem ref_Root_eq {n : Int} (h0 : 0 ≤ n) (h1 : n ≤ 4611686018427387904) : ref01_Root n = some (rootI n) := by
  have key : ∃ e, iter (fun x : Int × Int => ref01_Root_L0 n x.1 x.2) (0, 2147483648) = some e ∧ e = rootI n := by
    refine iter_inv (fun x : Int × Int => RootSt.ok n ⟨x.1, x.2⟩) (fun x => x.2.toNat) (fun e => e = rootI n) (fun x hx => ?_) (root_init h0 h1)
    rw [rroot_step hx]
    by_cases hb : 0 < x.2
    · right
      refine ⟨((RootSt.next n ⟨x.1, x.2⟩).r, x.2 / 2), by simp only [hb, decide_true, cond_true], root_next h1 hx hb, ?_⟩
      show (x.2 / 2).toNat < x.2.toNat
      omega
    · left
      exact ⟨x.1, by simp [hb], root_done h0 h1 hx hb⟩
  obtain ⟨e, h2, rfl⟩ := key
  unfold ref01_Root
  simp [show ¬ n < 0 by omega, show ¬ 4611686018427387904 < n by omega, h2]
theorem root_both (n : Int) : ∃ r, round_Root n = some r ∧ ref01_Root n = some r ∧ 0 ≤ r ∧ r ≤ 2147483648 ∧ (¬ 0 ≤ n → r = 0) ∧ (0 = n → r = 0) := by
  by_cases h : 0 ≤ n ∧ n ≤ 4611686018427387904
  · refine ⟨rootI n, round_Root_eq h.1 h.2, ref_Root_eq h.1 h.2, (rootI_bd n).1, (rootI_bd n).2, fun h' => absurd h.1 h', fun h' => ?_⟩
    subst h'
    have := root_sq (n := 0) (by omega) (by omega)
    have hb := (rootI_bd 0).1
    by_cases hz : rootI 0 = 0
    · exact hz
    · have : 1 * 1 ≤ rootI 0 * rootI 0 := Int.mul_le_mul (by omega) (by omega) (by omega) (by omega)
      omega
  · refine ⟨0, ?_, ?_, by omega, by omega, fun _ => rfl, fun _ => rfl⟩
    · unfold round_Root
      by_cases h2 : n < 0
      · simp [h2]
      · simp [h2, show 4611686018427387904 < n by omega]
    · unfold ref01_Root
      by_cases h2 : n < 0
      · simp [h2]
      · simp [h2, show 4611686018427387904 < n by omega]
theorem rootUp_both (n : Int) : ∃ r, round_RootUp n = some r ∧ ref01_RootUp n = some r := by
  obtain ⟨r, h1, h2, h3, h4, h5, h6⟩ := root_both n
  have hm : r * r ≤ 2147483648 * 2147483648 := Int.mul_le_mul h4 h4 (by omega) (by omega)
  have hm0 : 0 ≤ r * r := Int.mul_nonneg h3 h3
  unfold round_RootUp ref01_RootUp
  rw [h1, h2]
  simp only [Option.bind_some]
  rw [show wi64 (r * r) = r * r from wi ⟨by omega, by omega⟩]
  by_cases c1 : 0 < n
  · rw [dec_t c1, dec_t (show 0 ≤ n by omega)]
    cases decide (n ≤ 4611686018427387904)
    · exact ⟨_, rfl, rfl⟩
    · cases decide (r * r < n)
      · exact ⟨_, rfl, rfl⟩
      · exact ⟨_, rfl, rfl⟩
  · by_cases c2 : 0 ≤ n
    · obtain rfl : n = 0 := by omega
      have := h6 rfl
      subst this
      exact ⟨0, by simp, by simp⟩
    · rw [dec_f c1, dec_f c2]
      exact ⟨_, rfl, rfl⟩

/-! ### The law -/
theorem ra_L0 {a b : Int} {r3 r4 : Int × List Int × Int} {r5 : Int} : iter (fun x => law01_RoundAnswers_L0 a b r3 r4 r5 x) 0 = some (.inl ()) := by
  have := iter_for (step := fun x => law01_RoundAnswers_L0 a b r3 r4 r5 x) 5 (fun i => (i : Int)) (e := .inl ()) (fun i hi => by
      unfold law01_RoundAnswers_L0
      simp only [List.length_cons, List.length_nil, Int.toNat_natCast]
      generalize ([(a, b), (r3.1, r4.1), (Int.tmod a 2305843009213693952, wi64 (1 + r5)), (2305843009213693952, 1), ((-2305843009213693952), 1099511627776)].getD i (0, 0)) = z
      obtain ⟨x, y⟩ := z
      obtain ⟨u1, v1, w1, _⟩ := down_both x y
      obtain ⟨u2, v2, w2⟩ := up_both x y
      obtain ⟨u3, v3, w3⟩ := half_both x y
      obtain ⟨u4, v4, w4, _⟩ := root_both x
      obtain ⟨u5, v5, w5⟩ := rootUp_both x
      simp only [dec_t (show (i : Int) < ((0 + 1 + 1 + 1 + 1 + 1 : Nat) : Int) by omega), cond_true, gd_t (inB_t (show i < 0 + 1 + 1 + 1 + 1 + 1 by omega)), v1, v2, v3, v4, v5, w1, w2, w3, w4, w5, Option.bind_some, decide_true, Bool.not_true, cond_false]
      rw [wi (by omega)]; rfl) (by
      unfold law01_RoundAnswers_L0
      simp)
  simpa using this

theorem ra_L1 {s : List Int} {p N : Int} (h : SrcOk s p) (h0 : 0 ≤ N) (h1 : N < 8) : ∃ (w : List Int) (p' : Int), iter (fun x : Int × List Int × Int × List Int => law01_RoundAnswers_L1 x.1 x.2.1 x.2.2.1 x.2.2.2) (N, s, p, []) = some (s, p', w) ∧ SrcOk s p' ∧ ∀ x ∈ w, i64P x := by
  have key : ∃ e, iter (fun x : Int × List Int × Int × List Int => law01_RoundAnswers_L1 x.1 x.2.1 x.2.2.1 x.2.2.2) (N, s, p, []) = some e ∧ ∃ (w : List Int) (p' : Int), e = (s, p', w) ∧ SrcOk s p' ∧ ∀ x ∈ w, i64P x := by
    refine iter_inv (fun x => ∃ (i p : Int) (w : List Int), x = (i, s, p, w) ∧ 0 ≤ i ∧ i ≤ 8 ∧ (w.length : Int) + i = N ∧ SrcOk s p ∧ ∀ x ∈ w, i64P x) (fun x => x.1.toNat) _ ?_ ⟨N, p, [], rfl, by omega, by omega, by simp, h, by simp⟩
    rintro _ ⟨i, p, w, rfl, k1, k0, k2, k3, k4⟩
    unfold law01_RoundAnswers_L1
    simp only
    by_cases hi : 0 < i
    · right
      obtain ⟨a, p1, q1, q2, q3, q4⟩ := n_eq (n := 100) k3 (by omega) (by omega)
      obtain ⟨b, p2, q5, q6, q7⟩ := pick_eq (l := [0, 1, 3, 7, 1048576, a]) q4 (by simp) (by simp)
      have hb : i64P b := by
        simp only [List.mem_cons, List.not_mem_nil, or_false] at q6
        unfold i64P; omega
      rw [dec_t hi]
      simp only [cond_true, q1, q5, Option.bind_some]
      rw [gd_t (fits_t (by omega)), wi (by omega)]
      refine ⟨_, rfl, ⟨i - 1, p2, w ++ [b], rfl, by omega, by omega, by simp; omega, q7, fun x hx => ?_⟩, ?_⟩
      · rcases List.mem_append.1 hx with hx | hx
        · exact k4 x hx
        · rw [List.mem_singleton.1 hx]; exact hb
      · show (i - 1).toNat < i.toNat
        omega
    · left
      rw [dec_f hi]
      exact ⟨_, rfl, w, p, rfl, k3, k4⟩
  obtain ⟨_, q, w, p', rfl, h2⟩ := key
  exact ⟨w, p', q, h2⟩

theorem ints_eq {a : List Int} (h : a.length ≤ 4611686018427387904) : keep_Ints a a = some true := by
  have := iter_for (step := fun x => keep_Ints_L0 a a x) a.length (fun i => (i : Int)) (e := .inl ()) (fun i hi => by
      unfold keep_Ints_L0
      simp only [dec_t (show (i : Int) < (a.length : Int) by omega), cond_true, gd_t (inB_t hi), decide_true, Bool.not_true, cond_false]
      rw [wi (by omega)]; rfl) (by
      unfold keep_Ints_L0
      simp only [dec_f (show ¬ (a.length : Int) < (a.length : Int) by omega), cond_false])
  unfold keep_Ints
  simp only [decide_true, Bool.not_true, cond_false]
  rw [show ((0 : Int)) = ((0 : Nat) : Int) from rfl, this]; rfl

theorem ra_L3 {t : Int} {w some' : List Int} {r19 : Int × List Int × Int} {x5 : List Int × Int} {v2 : Nat} (ht : i64P t) (hr : i64P r19.1) (hw : ∀ x ∈ w, i64P x) (hs : ∀ x ∈ some', i64P x) (hv : v2 < 2) :
    iter (fun x3 => law01_RoundAnswers_L3 t w (x5.1, x5.2, some') (v2 : Int) r19 x3) 0 = some (.inl ()) := by
  have := iter_for (step := fun x3 => law01_RoundAnswers_L3 t w (x5.1, x5.2, some') (v2 : Int) r19 x3) 3 (fun i => (i : Int)) (e := .inl ()) (fun i hi => by
      unfold law01_RoundAnswers_L3
      have hti : i64P ([t, r19.1, 1099511627776].getD i 0) := by
        rcases (show i = 0 ∨ i = 1 ∨ i = 2 by omega) with rfl | rfl | rfl
        · exact ht
        · exact hr
        · show i64P 1099511627776; unfold i64P; omega
      have hwi : ∀ x ∈ ([w, some'].getD v2 []), i64P x := by
        rcases (show v2 = 0 ∨ v2 = 1 by omega) with rfl | rfl
        · exact hw
        · exact hs
      simp only [List.length_cons, List.length_nil, Int.toNat_natCast]
      generalize [t, r19.1, 1099511627776].getD i 0 = y at hti
      generalize [w, some'].getD v2 [] = u at hwi
      obtain ⟨r, q1, q2, q3, q4, _⟩ := shares_both hti hwi
      simp only [dec_t (show (i : Int) < ((0 + 1 + 1 + 1 : Nat) : Int) by omega), cond_true, gd_t (inB_t (show i < 0 + 1 + 1 + 1 by omega)), q1, q2, Option.bind_some, ints_eq (show r.1.length ≤ 4611686018427387904 by omega), decide_true, Bool.not_true, cond_false]
      rw [wi (by omega)]; rfl) (by
      unfold law01_RoundAnswers_L3
      simp)
  simpa using this

theorem answers_true {a b t : Int} {w l : List Int} (ha : i64P a) (hb : i64P b) (ht : i64P t) (hw : ∀ x ∈ w, i64P x) (hl : ∀ x ∈ l, i64P x) : law01_RoundAnswers a b t w l = some true := by
  unfold law01_RoundAnswers
  by_cases h100 : (100 : Int) < (w.length : Int)
  · rw [dec_t h100, awake_true]; rfl
  rw [dec_f h100]
  obtain ⟨s, q1, q2⟩ := new_eq hl
  obtain ⟨x3, p3, q3, _, _, q6⟩ := range_eq (lo := -60) (hi := 60) q2 (by omega) (by omega) (by omega)
  obtain ⟨x4, p4, q7, _, _, q8⟩ := range_eq (lo := -2) (hi := 9) q6 (by omega) (by omega) (by omega)
  obtain ⟨x5, p5, q9, q10, q11, q12⟩ := n_eq (n := 8) q8 (by omega) (by omega)
  obtain ⟨u, p6, q13, q14, q15⟩ := ra_L1 q12 q10 q11
  have hL2 : iter (fun x4 : Int × List Int × Int => law01_RoundAnswers_L2 t w (s, p6, u) x4.1 x4.2.1 x4.2.2) (0, s, p6) = some (.inl ()) := by
    have key : ∃ e, iter (fun x4 : Int × List Int × Int => law01_RoundAnswers_L2 t w (s, p6, u) x4.1 x4.2.1 x4.2.2) (0, s, p6) = some e ∧ e = .inl () := by
      refine iter_inv (fun x => ∃ (i : Nat) (p : Int), x = ((i : Int), s, p) ∧ i ≤ 2 ∧ SrcOk s p) (fun x => (2 - x.1).toNat) _ ?_ ⟨0, p6, rfl, by omega, q14⟩
      rintro _ ⟨i, p, rfl, k1, k2⟩
      unfold law01_RoundAnswers_L2
      simp only [List.length_cons, List.length_nil]
      by_cases hi : i < 2
      · right
        obtain ⟨y, p', m1, m2, m3, m4⟩ := n_eq (n := 1000) k2 (by omega) (by omega)
        simp only [dec_t (show (i : Int) < ((0 + 1 + 1 : Nat) : Int) by omega), cond_true, gd_t (inB_t (show i < 0 + 1 + 1 by omega)), m1, Option.bind_some]
        rw [ra_L3 (x5 := (s, p6)) ht (by unfold i64P; simp only; omega) hw q15 hi]
        refine ⟨_, rfl, ⟨i + 1, p', ?_, by omega, m4⟩, ?_⟩
        · show (wi64 ((i : Int) + 1), s, p') = _
          rw [wi (by omega)]; rfl
        · show (2 - wi64 ((i : Int) + 1)).toNat < (2 - (i : Int)).toNat
          rw [wi (by omega)]; omega
      · left
        simp only [dec_f (show ¬ (i : Int) < ((0 + 1 + 1 : Nat) : Int) by omega), cond_false]
        exact ⟨_, rfl, rfl⟩
    obtain ⟨_, q, rfl⟩ := key
    exact q
  simp only [cond_false, q1, Option.bind_some, q3, q7, mod_eq hb (show (1 : Int) ≤ 1099511627776 by omega) (by omega), ra_L0, Sum.elim_inl, q9, q13, hL2, awake_true]
end Go.Proofs.Ytdmfhnpibllfeaa
