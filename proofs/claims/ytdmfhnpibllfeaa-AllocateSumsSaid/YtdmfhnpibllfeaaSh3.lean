/- Sources of numbers; the laws RoundShares and RoundOrder. No condition. -/
import Derived.Test.YtdmfhnpibllfeaaSh2
namespace Go.Proofs.Ytdmfhnpibllfeaa
open Go Go.Sq

theorem mod_eq {x n : Int} (hx : i64P x) (h1 : 1 ≤ n) (h2 : n ≤ 4611686018427387904) : keep_Mod x n = some (x % n) := by
  unfold i64P at hx
  have e := Int.emod_add_mul_ediv x n
  have b1 := Int.emod_nonneg x (show n ≠ 0 by omega)
  have b2 := Int.emod_lt_of_pos x (show 0 < n by omega)
  unfold keep_Mod
  rw [dec_f (show ¬ n < 1 by omega), dec_f (show ¬ n = 0 by omega)]
  simp only [cond_false, Bool.not_false, gd_tt]
  by_cases h0 : 0 ≤ x
  · rw [Int.tmod_eq_emod_of_nonneg h0, dec_f (by omega)]; rfl
  · have e2 : Int.tmod x n = if x % n = 0 then 0 else x % n - n := by
      rw [Int.tmod_eq_emod]
      by_cases hd : n ∣ x
      · rw [if_pos (.inr hd), if_pos (Int.emod_eq_zero_of_dvd hd)]
        rw [Int.emod_eq_zero_of_dvd hd]; rfl
      · rw [if_neg (by simp [hd]; omega), if_neg (fun hh => hd (Int.dvd_of_emod_eq_zero hh))]
        congr 1; omega
    rw [e2]
    by_cases hz : x % n = 0
    · rw [if_pos hz, dec_f (by omega), hz]; rfl
    · rw [if_neg hz, dec_t (by omega)]
      simp only [cond_true]
      rw [show x % n - n + n = x % n by omega, wi (by omega)]

/-- A source of numbers. -/
structure SrcOk (s : List Int) (p : Int) : Prop where
  len : s.length ≤ 2000
  el : ∀ x ∈ s, i64P x
  p0 : 0 ≤ p
  p1 : p ≤ 2000
theorem new_eq {l : List Int} (hl : ∀ x ∈ l, i64P x) : ∃ s, keep_New l = some (s, 0) ∧ SrcOk s 0 := by
  refine ⟨l.take 2000, ?_, by rw [List.length_take]; omega, fun x hx => hl x (List.mem_of_mem_take hx), by omega, by omega⟩
  unfold keep_New
  have hm : min (l.length : Int) 2000 = ((min l.length 2000 : Nat) : Int) := by omega
  rw [hm]
  rw [gd_t (show cutG none (some (.i64, ((min l.length 2000 : Nat) : Int))) l.length = true by
    unfold cutG; simp only [Bool.and_eq_true, decide_eq_true_eq]; omega)]
  rw [Int.toNat_natCast]
  congr 2
  by_cases h : l.length ≤ 2000
  · rw [Nat.min_eq_left h, List.take_of_length_le (Nat.le_refl _), List.take_of_length_le h]
  · rw [Nat.min_eq_right (by omega)]
theorem raw_eq {s : List Int} {p : Int} (h : SrcOk s p) : ∃ r p', keep_Src_Raw s p = some (r, s, p') ∧ i64P r ∧ SrcOk s p' := by
  have h0 := h.p0; have h1 := h.p1; have hl := h.len
  unfold keep_Src_Raw
  by_cases hp : (s.length : Int) ≤ p
  · rw [dec_t hp]
    exact ⟨0, p, rfl, by unfold i64P; omega, h⟩
  · obtain ⟨k, rfl⟩ : ∃ k : Nat, p = (k : Int) := ⟨p.toNat, by omega⟩
    have hk : k < s.length := by omega
    rw [dec_f hp, show wi64 ((k : Int) + 1) = (k : Int) + 1 from wi (by omega), show (k : Int) + 1 - 1 = (k : Int) by omega, show wi64 (k : Int) = (k : Int) from wi (by omega)]
    simp only [cond_false, gd_t (inB_t hk)]
    exact ⟨_, _, rfl, h.el _ (gD_mem hk), ⟨hl, h.el, by omega, by omega⟩⟩
theorem n_eq {n : Int} {s : List Int} {p : Int} (h : SrcOk s p) (h1 : 1 ≤ n) (h2 : n ≤ 4611686018427387904) : ∃ r p', keep_Src_N n s p = some (r, s, p') ∧ 0 ≤ r ∧ r < n ∧ SrcOk s p' := by
  obtain ⟨r, p', q1, q2, q3⟩ := raw_eq h
  refine ⟨r % n, p', ?_, Int.emod_nonneg r (show n ≠ 0 by omega), Int.emod_lt_of_pos r (show 0 < n by omega), q3⟩
  unfold keep_Src_N
  rw [q1]
  simp only [Option.bind_some, mod_eq q2 h1 h2]
theorem range_eq {lo hi : Int} {s : List Int} {p : Int} (h : SrcOk s p) (h0 : -1000000 ≤ lo) (h1 : lo ≤ hi) (h2 : hi ≤ 1000000) : ∃ r p', keep_Src_Range lo hi s p = some (r, s, p') ∧ lo ≤ r ∧ r ≤ hi ∧ SrcOk s p' := by
  unfold keep_Src_Range
  rw [show wi64 (hi - lo) = hi - lo from wi (by omega), show wi64 (hi - lo + 1) = hi - lo + 1 from wi (by omega)]
  obtain ⟨r, p', q1, q2, q3, q4⟩ := n_eq (n := hi - lo + 1) h (by omega) (by omega)
  refine ⟨lo + r, p', ?_, by omega, by omega, q4⟩
  rw [q1]
  simp only [Option.bind_some]
  rw [wi (by omega)]
theorem pick_eq {l s : List Int} {p : Int} (h : SrcOk s p) (h1 : l ≠ []) (h2 : l.length ≤ 1000000) : ∃ r p', keep_Src_Pick l s p = some (r, s, p') ∧ r ∈ l ∧ SrcOk s p' := by
  have hp := List.length_pos_iff.2 h1
  obtain ⟨r, p', q1, q2, q3, q4⟩ := n_eq (n := (l.length : Int)) h (by omega) (by omega)
  obtain ⟨k, rfl⟩ : ∃ k : Nat, r = (k : Int) := ⟨r.toNat, by omega⟩
  have hk : k < l.length := by omega
  refine ⟨l.getD k 0, p', ?_, gD_mem hk, q4⟩
  unfold keep_Src_Pick
  rw [q1]
  simp only [Option.bind_some, gd_t (inB_t hk), Int.toNat_natCast]

/-! ### RoundShares -/
theorem rs_L0 {s : List Int} {p N : Int} (h : SrcOk s p) (h0 : 1 ≤ N) (h1 : N ≤ 10) : ∃ w : List Int, iter (fun x : Int × Int × List Int × Int × List Int => law01_RoundShares_L0 x.1 x.2.1 x.2.2.1 x.2.2.2.1 x.2.2.2.2) (0, N, s, p, []) = some (isum w, w) ∧ (w.length : Int) = N ∧ ∀ x ∈ w, 0 ≤ x ∧ x ≤ 1000 := by
  have key : ∃ e, iter (fun x : Int × Int × List Int × Int × List Int => law01_RoundShares_L0 x.1 x.2.1 x.2.2.1 x.2.2.2.1 x.2.2.2.2) (0, N, s, p, []) = some e ∧ ∃ w : List Int, e = (isum w, w) ∧ (w.length : Int) = N ∧ ∀ x ∈ w, 0 ≤ x ∧ x ≤ 1000 := by
    refine iter_inv (fun x => ∃ (i p : Int) (w : List Int), x = (isum w, i, s, p, w) ∧ 0 ≤ i ∧ (w.length : Int) + i = N ∧ SrcOk s p ∧ ∀ x ∈ w, 0 ≤ x ∧ x ≤ 1000) (fun x => x.2.1.toNat) _ ?_ ⟨N, p, [], rfl, by omega, by simp, h, by simp⟩
    rintro _ ⟨i, p, w, rfl, k1, k2, k3, k4⟩
    unfold law01_RoundShares_L0
    simp only
    by_cases hi : 0 < i
    · right
      obtain ⟨a, p1, q1, q2, q3, q4⟩ := n_eq (n := 50) k3 (by omega) (by omega)
      obtain ⟨b, p2, q5, q6, q7⟩ := pick_eq (l := [0, 1, 1, 2, 5, 1000, a]) q4 (by simp) (by simp)
      have hb : 0 ≤ b ∧ b ≤ 1000 := by
        simp only [List.mem_cons, List.not_mem_nil, or_false] at q6
        omega
      have hsum := isum_bd k4
      have hlen : (w ++ [b]).length = w.length + 1 := by simp
      rw [dec_t hi]
      simp only [cond_true, q1, q5, Option.bind_some, hlen]
      rw [gd_t (fits_t (by omega)), show wi64 (((w.length + 1 : Nat) : Int) - 1) = (w.length : Int) by rw [wi (by omega)]; omega, gd_t (inB_t (by omega)), Int.toNat_natCast, gD_app, if_neg (by omega), Nat.sub_self]
      simp only [List.getD_cons_zero]
      rw [wi (by omega), wi (by omega)]
      refine ⟨_, rfl, ⟨i - 1, p2, w ++ [b], by rw [isum_app]; simp [isum], by omega, by rw [hlen]; omega, q7, fun x hx => ?_⟩, ?_⟩
      · rcases List.mem_append.1 hx with hx | hx
        · exact k4 x hx
        · rw [List.mem_singleton.1 hx]; exact hb
      · show (i - 1).toNat < i.toNat
        omega
    · left
      rw [dec_f hi]
      exact ⟨_, rfl, w, rfl, by omega, k4⟩
  obtain ⟨_, q, w, rfl, h2⟩ := key
  exact ⟨w, q, h2⟩

theorem all_t {n : Nat} {p : Nat → Bool} (h : ∀ i, i < n → p i = true) : (List.range n).all p = true := all_range.2 h

theorem rs_L1 {t : Int} {w r : List Int} (h : ShIn t w) (hr : ShOk t w r) (ht : t ≤ 4294967295) (hw : ∀ x ∈ w, 0 ≤ x ∧ x ≤ 1000) (hl : w.length ≤ 10) :
    iter (fun x3 : Int × Int => law01_RoundShares_L1 t (isum w, w) (r, 0) x3.1 x3.2) (0, 0) = some (.inl t) := by
  have ht0 := h.t0
  have hs := h.s
  have rl := hr.len
  have hg : ∀ i, i < w.length → 0 ≤ r.getD i 0 ∧ r.getD i 0 ≤ 4294967296 := fun i hi => by
    have e := hr.each i hi
    have c := h.qi hi
    rw [quo_get hi] at c
    omega
  have hsum : ∀ i, i ≤ r.length → 0 ≤ isum (r.take i) ∧ isum (r.take i) ≤ 4294967296 * 10 := fun i hi => by
    have := isum_bd (l := r.take i) (a := 0) (b := 4294967296) fun x hx => by
      obtain ⟨k, h1, h2, rfl⟩ := mem_take_getD hx
      exact hg k (by omega)
    rw [List.length_take] at this
    omega
  have key := iter_for (step := fun x3 : Int × Int => law01_RoundShares_L1 t (isum w, w) (r, 0) x3.1 x3.2) w.length (fun i => (isum (r.take i), (i : Int))) (e := .inl t) (fun i hi => by
      have hsw := isum_bd hw
      have g := h.g hi
      have gw := hw _ (gD_mem (d := 0) hi)
      have gr := hg i hi
      have e := hr.each i hi
      have hss := hsum i (by omega)
      have d1 := Int.mul_ediv_add_emod (t * w.getD i 0) (isum w)
      have d2 := Int.emod_nonneg (t * w.getD i 0) h.s0
      have d3 := Int.emod_lt_of_pos (t * w.getD i 0) hs.1
      rw [Int.mul_comm] at d1
      have p1 : t * w.getD i 0 ≤ 4294967295 * 1000 := Int.mul_le_mul ht gw.2 gw.1 (by omega)
      have p2 : r.getD i 0 * isum w ≤ 4294967296 * 10000 := Int.mul_le_mul gr.2 (by omega) (by omega) (by omega)
      have p3 : 0 ≤ r.getD i 0 * isum w := Int.mul_nonneg gr.1 (by omega)
      have p4 : (r.getD i 0 + 1) * isum w = r.getD i 0 * isum w + isum w := by rw [Int.add_mul, Int.one_mul]
      have hre : r.getD i 0 * isum w = t * w.getD i 0 / isum w * isum w ∨ r.getD i 0 * isum w = t * w.getD i 0 / isum w * isum w + isum w ∧ 0 < t * w.getD i 0 % isum w := by
        rcases e with e | ⟨e, e'⟩
        · left; rw [e]
        · right; rw [e, Int.add_mul, Int.one_mul]; exact ⟨rfl, e'⟩
      have hz : w.getD i 0 = 0 → r.getD i 0 = 0 := fun hz => by
        rw [hz, Int.mul_zero, Int.zero_ediv, Int.zero_emod] at e
        omega
      have hL2 : iter (fun x2 : Int => law01_RoundShares_L2 (isum w, w) (r, 0) (i : Int) x2) 0 = some (.inl ()) := by
        have := iter_for (step := fun x2 : Int => law01_RoundShares_L2 (isum w, w) (r, 0) (i : Int) x2) i (fun k => (k : Int)) (e := .inl ()) (fun k hk => by
            unfold law01_RoundShares_L2
            simp only [dec_t (show (k : Int) < (i : Int) by omega), cond_true, gd_t (inB_t hi), gd_t (inB_t (show k < w.length by omega)), gd_t (inB_t (show k < r.length by omega)), gd_t (inB_t (show i < r.length by omega)), Int.toNat_natCast]
            have gk := hg k (by omega)
            have hsm := hr.same k i hk hi
            simp only [show wi64 (r.getD i 0 + 1) = r.getD i 0 + 1 from wi (by omega), show wi64 ((k : Int) + 1) = ((k + 1 : Nat) : Int) by rw [wi (by omega)]; omega]
            by_cases he : w.getD k 0 = w.getD i 0
            · rw [dec_t he]
              rcases hsm he with h1 | h1
              · rw [dec_t h1]; rfl
              · rw [dec_f (by omega), dec_t h1]; rfl
            · rw [dec_f he]; rfl) (by
            unfold law01_RoundShares_L2
            simp only [dec_f (show ¬ (i : Int) < (i : Int) by omega), cond_false])
        simpa using this
      unfold law01_RoundShares_L1
      simp only [dec_t (show (i : Int) < (r.length : Int) by omega), cond_true, gd_t (inB_t hi), gd_t (inB_t (show i < r.length by omega)), Int.toNat_natCast]
      simp only [show wi64 t = t from wi (by omega), show wi64 (t * w.getD i 0) = t * w.getD i 0 from wi (by omega), show wi64 (t * w.getD i 0 + isum w) = t * w.getD i 0 + isum w from wi (by omega),
        show wi64 (t * w.getD i 0 + isum w - 1) = t * w.getD i 0 + isum w - 1 from wi (by omega), show wi64 (r.getD i 0 * isum w) = r.getD i 0 * isum w from wi (by omega), show wi64 (r.getD i 0 + 1) = r.getD i 0 + 1 from wi (by omega),
        show wi64 ((r.getD i 0 + 1) * isum w) = (r.getD i 0 + 1) * isum w from wi (by omega), show wi64 (isum (r.take i) + r.getD i 0) = isum (r.take i) + r.getD i 0 from wi (by omega), show wi64 ((i : Int) + 1) = ((i + 1 : Nat) : Int) by rw [wi (by omega)]; omega,
        dec_f (show ¬ (t * w.getD i 0 + isum w - 1 < r.getD i 0 * isum w) by omega), dec_f (show ¬ ((r.getD i 0 + 1) * isum w ≤ t * w.getD i 0) by omega), hL2, isum_next (show i < r.length by omega)]
      by_cases h0 : w.getD i 0 = 0
      · rw [dec_t h0, dec_t (hz h0)]; rfl
      · rw [dec_f h0]; rfl) (by
      unfold law01_RoundShares_L1
      simp only [dec_f (show ¬ ((w.length : Nat) : Int) < (r.length : Int) by omega), cond_false]
      rw [List.take_of_length_le (by omega), hr.all])
  simpa [isum] using key

theorem shares_true {l : List Int} {t : Int} (hl : ∀ x ∈ l, i64P x) (ht : 0 ≤ t ∧ t ≤ 4294967295) : law01_RoundShares l t = some true := by
  obtain ⟨s, q1, q2⟩ := new_eq hl
  obtain ⟨N, p, q3, q4, q5, q6⟩ := range_eq (lo := 1) (hi := 10) q2 (by omega) (by omega) (by omega)
  obtain ⟨w, q7, q8, q9⟩ := rs_L0 q6 q4 q5
  obtain ⟨⟨r, e⟩, r1, _, _, _, r2⟩ := shares_both (t := t) (w := w) (by unfold i64P; omega) (fun x hx => by have := q9 x hx; unfold i64P; omega)
  have r3 := r2 (by omega) (by omega) (by omega) (fun x hx => by have := q9 x hx; omega)
  unfold law01_RoundShares
  rw [q1]
  simp only [Option.bind_some, q3, q7]
  rw [show wi64 t = t from wi (by omega), r1]
  simp only [Option.bind_some]
  by_cases h0 : isum w = 0
  · have := r3.1 h0
    simp only at this
    rw [dec_t h0, this, awake_true]; rfl
  · obtain ⟨e0, hok⟩ := r3.2 h0
    simp only at e0 hok
    subst e0
    rw [dec_f h0]
    have hin : ShIn t w := ⟨by omega, by omega, by omega, fun x hx => by have := q9 x hx; omega, h0⟩
    have := rs_L1 hin hok ht.2 q9 (by omega)
    simp only [cond_false, decide_true, Bool.not_true, Option.bind_some, hok.len, this, Sum.elim_inl, cond_true, awake_true]

/-! ### RoundOrder -/
theorem ro_L0 {s : List Int} {p N : Int} (h : SrcOk s p) (h0 : 1 ≤ N) (h1 : N ≤ 8) : ∃ w : List Int, iter (fun x : Int × Int × List Int × Int × List Int => law01_RoundOrder_L0 x.1 x.2.1 x.2.2.1 x.2.2.2.1 x.2.2.2.2) (0, N, s, p, []) = some w ∧ (w.length : Int) = N ∧ ∀ x ∈ w, 1 ≤ x ∧ x ≤ 320 := by
  have key : ∃ e, iter (fun x : Int × Int × List Int × Int × List Int => law01_RoundOrder_L0 x.1 x.2.1 x.2.2.1 x.2.2.2.1 x.2.2.2.2) (0, N, s, p, []) = some e ∧ ((e.length : Int) = N ∧ ∀ x ∈ e, 1 ≤ x ∧ x ≤ 320) := by
    refine iter_inv (fun x => ∃ (y i p : Int) (w : List Int), x = (y, i, s, p, w) ∧ 0 ≤ i ∧ (w.length : Int) + i = N ∧ SrcOk s p ∧ 0 ≤ y ∧ y ≤ 40 * w.length ∧ ∀ x ∈ w, 1 ≤ x ∧ x ≤ 320) (fun x => x.2.1.toNat) _ ?_ ⟨0, N, p, [], rfl, by omega, by simp, h, by omega, by simp, by simp⟩
    rintro _ ⟨y, i, p, w, rfl, k1, k2, k3, k5, k6, k4⟩
    unfold law01_RoundOrder_L0
    simp only
    by_cases hi : 0 < i
    · right
      obtain ⟨a, p1, q1, q2, q3, q4⟩ := range_eq (lo := 1) (hi := 40) k3 (by omega) (by omega) (by omega)
      rw [dec_t hi]
      simp only [cond_true, q1, Option.bind_some]
      rw [gd_t (fits_t (by omega)), show wi64 (y + a) = y + a from wi (by omega), show wi64 (i - 1) = i - 1 from wi (by omega)]
      refine ⟨_, rfl, ⟨y + a, i - 1, p1, w ++ [y + a], rfl, by omega, by simp; omega, q4, by omega, by simp; omega, fun x hx => ?_⟩, ?_⟩
      · rcases List.mem_append.1 hx with hx | hx
        · exact k4 x hx
        · rw [List.mem_singleton.1 hx]; omega
      · show (i - 1).toNat < i.toNat
        omega
    · left
      rw [dec_f hi]
      exact ⟨_, rfl, by omega, k4⟩
  exact key

theorem order_true {l : List Int} {t u : Int} (hl : ∀ x ∈ l, i64P x) (ht : 0 ≤ t ∧ t ≤ 4294967295) (hu : 0 ≤ u ∧ u ≤ 255) : law01_RoundOrder l t u = some true := by
  obtain ⟨s, q1, q2⟩ := new_eq hl
  obtain ⟨N, p, q3, q4, q5, q6⟩ := range_eq (lo := 1) (hi := 8) q2 (by omega) (by omega) (by omega)
  obtain ⟨w, q7, q8, q9⟩ := ro_L0 q6 q4 q5
  have hw0 : 0 < w.length := by omega
  obtain ⟨k, hk⟩ : ∃ k : Nat, Int.tmod (wi64 u) (w.length : Int) = (k : Int) := ⟨(u % w.length).toNat, by
    rw [show wi64 u = u from wi (by omega), Int.tmod_eq_emod_of_nonneg hu.1]
    have := Int.emod_nonneg u (show (w.length : Int) ≠ 0 by omega)
    omega⟩
  have hkw : k < w.length := by
    rw [show wi64 u = u from wi (by omega), Int.tmod_eq_emod_of_nonneg hu.1] at hk
    have := Int.emod_lt_of_pos u (show 0 < (w.length : Int) by omega)
    omega
  have hsum := isum_bd q9
  have es : isum (w.drop k ++ w.take k) = isum w := isum_perm (List.perm_append_comm.trans (by rw [List.take_append_drop]))
  have hvm : ∀ x ∈ w.drop k ++ w.take k, x ∈ w := fun x hx => by
    rcases List.mem_append.1 hx with hx | hx
    · exact List.mem_of_mem_drop hx
    · exact List.mem_of_mem_take hx
  have vl : (w.drop k ++ w.take k).length = w.length := by simp; omega
  obtain ⟨⟨r, e⟩, r1, _, _, _, r2⟩ := shares_both (t := t) (w := w) (by unfold i64P; omega) (fun x hx => by have := q9 x hx; unfold i64P; omega)
  obtain ⟨⟨r', e'⟩, r1', _, _, _, r2'⟩ := shares_both (t := t) (w := w.drop k ++ w.take k) (by unfold i64P; omega) (fun x hx => by have := q9 x (hvm x hx); unfold i64P; omega)
  obtain ⟨e0, hok⟩ := (r2 (by omega) (by omega) (by omega) (fun x hx => by have := q9 x hx; omega)).2 (by omega)
  obtain ⟨e0', hok'⟩ := (r2' (by omega) (by omega) (by omega) (fun x hx => by have := q9 x (hvm x hx); omega)).2 (by omega)
  simp only at e0 hok e0' hok'
  subst e0 e0'
  have hin : ShIn t w := ⟨by omega, by omega, by omega, fun x hx => by have := q9 x hx; omega, by omega⟩
  have hL : iter (fun x3 : Int => law01_RoundOrder_L1 u w (r, 0) (r', 0) x3) 0 = some (.inl ()) := by
    have := iter_for (step := fun x3 : Int => law01_RoundOrder_L1 u w (r, 0) (r', 0) x3) w.length (fun i => (i : Int)) (e := .inl ()) (fun i hi => by
        obtain ⟨j, hj, hjw, hjv⟩ : ∃ j : Nat, Int.tmod (wi64 (wi64 ((i : Int) + (w.length : Int)) - (k : Int))) (w.length : Int) = (j : Int) ∧ j < w.length ∧ (w.drop k ++ w.take k).getD j 0 = w.getD i 0 := by
          rw [show wi64 ((i : Int) + (w.length : Int)) = (i : Int) + (w.length : Int) from wi (by omega), show wi64 ((i : Int) + (w.length : Int) - (k : Int)) = ((i + w.length - k : Nat) : Int) by rw [wi (by omega)]; omega, Int.tmod_eq_emod_of_nonneg (by omega)]
          by_cases h : k ≤ i
          · refine ⟨i - k, ?_, by omega, ?_⟩
            · rw [show (((i + w.length - k : Nat) : Int)) = ((i - k : Nat) : Int) + (w.length : Int) by omega, Int.add_emod_right, Int.emod_eq_of_lt (by omega) (by omega)]
            · rw [gD_app, List.length_drop, if_pos (by omega), gD_drop]; congr 1; omega
          · refine ⟨i + w.length - k, ?_, by omega, ?_⟩
            · rw [Int.emod_eq_of_lt (by omega) (by omega)]
            · rw [gD_app, List.length_drop, if_neg (by omega), gD_take, if_pos (by omega)]; congr 1; omega
        have ea := hok.each i hi
        have eb := hok'.each j (by omega)
        rw [es, hjv] at eb
        have c := hin.qi hi
        rw [quo_get hi] at c
        have rl := hok.len
        have rl' := hok'.len
        rw [vl] at rl'
        unfold law01_RoundOrder_L1
        simp only [hk, hj, dec_t (show (i : Int) < (w.length : Int) by omega), cond_true, dec_f (show ¬ (w.length : Int) = 0 by omega), Bool.not_false, gd_tt, gd_t (inB_t (show i < r.length by omega)), gd_t (inB_t (show j < r'.length by omega)), Int.toNat_natCast]
        simp only [show wi64 (r'.getD j 0 + 1) = r'.getD j 0 + 1 from wi (by omega), show wi64 (r'.getD j 0 - 1) = r'.getD j 0 - 1 from wi (by omega), show wi64 ((i : Int) + 1) = ((i + 1 : Nat) : Int) by rw [wi (by omega)]; omega]
        by_cases c1 : r.getD i 0 = r'.getD j 0
        · rw [dec_t c1]; rfl
        · by_cases c2 : r.getD i 0 = r'.getD j 0 + 1
          · rw [dec_f c1, dec_t c2]; rfl
          · rw [dec_f c1, dec_f c2, dec_t (show r.getD i 0 = r'.getD j 0 - 1 by omega)]; rfl) (by
        unfold law01_RoundOrder_L1
        simp only [dec_f (show ¬ (w.length : Int) < (w.length : Int) by omega), cond_false])
    simpa using this
  have rl := hok.len
  have rl' := hok'.len
  rw [vl] at rl'
  unfold law01_RoundOrder
  rw [q1]
  simp only [Option.bind_some, q3, q7, hk, dec_f (show ¬ (w.length : Int) = 0 by omega), Bool.not_false, gd_tt, Int.toNat_natCast, List.nil_append]
  rw [gd_t (show cutG (some (.i64, (k : Int))) none w.length = true by unfold cutG; simp only [Bool.and_eq_true, decide_eq_true_eq]; omega),
    gd_t (fits_t (by simp; omega)), gd_t (show cutG none (some (.i64, (k : Int))) w.length = true by unfold cutG; simp only [Bool.and_eq_true, decide_eq_true_eq]; omega),
    gd_t (fits_t (by simp; omega)), show wi64 t = t from wi (by omega), r1, r1']
  simp only [Option.bind_some, decide_true, Bool.not_true, cond_false, rl, rl', hL, Sum.elim_inl, awake_true]
end Go.Proofs.Ytdmfhnpibllfeaa
