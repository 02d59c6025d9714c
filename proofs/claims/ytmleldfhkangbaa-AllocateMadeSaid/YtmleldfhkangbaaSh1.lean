/- Shares: the parts that are left go to the greatest rests. No condition. -/
import Derived.Test.YtmleldfhkangbaaSp7
import Derived.Test.YtmleldfhkangbaaSqY
namespace Go.Proofs.Ytmleldfhkangbaa
open Go Go.Sq

/-- Which of two places is served first. -/
def beats (R : List Int) (i j : Nat) : Prop := R.getD j 0 < R.getD i 0 ∨ (R.getD i 0 = R.getD j 0 ∧ i < j)
def idx (n : Nat) : List Int := (List.range n).map fun i : Nat => (i : Int)
/-- The places in the order in which they are served. -/
structure Ordered (R : List Int) (n : Nat) (o : List Nat) : Prop where
  perm : o.Perm (List.range n)
  pw : o.Pairwise (beats R)
theorem Ordered.len {R : List Int} {n : Nat} {o : List Nat} (h : Ordered R n o) : o.length = n := by rw [h.perm.length_eq, List.length_range]
theorem Ordered.lt {R : List Int} {n : Nat} {o : List Nat} (h : Ordered R n o) {i : Nat} (hi : i ∈ o) : i < n := List.mem_range.1 (h.perm.mem_iff.1 hi)
theorem Ordered.mem {R : List Int} {n : Nat} {o : List Nat} (h : Ordered R n o) {i : Nat} (hi : i < n) : i ∈ o := h.perm.mem_iff.2 (List.mem_range.2 hi)
theorem Ordered.nodup {R : List Int} {n : Nat} {o : List Nat} (h : Ordered R n o) : o.Nodup := h.perm.nodup_iff.2 List.nodup_range
theorem Ordered.lt2 {R : List Int} {n : Nat} {o : List Nat} (h : Ordered R n o) {i k : Nat} (hik : i < k) (hk : k < n) : beats R (o.getD i 0) (o.getD k 0) := by
  have hl := h.len
  rw [gD_eq (by omega), gD_eq (by omega)]
  exact List.pairwise_iff_getElem.1 h.pw i k (by omega) (by omega) hik
theorem beats_not {R : List Int} {i j : Nat} (h : beats R i j) : ¬ beats R j i := by
  unfold beats at *; omega

theorem ordered_of {c : Int → Int → Int} {R d : List Int} {n : Nat} (hc : ∀ x y, c x y ≤ 0 → R.getD y.toNat 0 ≤ R.getD x.toNat 0) (h0 : ∀ x y, R.getD x.toNat 0 = R.getD y.toNat 0 → c x y = 0)
    (hp : Pre c) (hs : Srt c d) (hst : Stab c d (idx n)) : ∃ o : List Nat, d = o.map (fun i : Nat => (i : Int)) ∧ Ordered R n o := by
  have hm : ∀ x ∈ d, 0 ≤ x := by
    intro x hx
    have := hst.mem.1 hx
    simp only [idx, List.mem_map] at this
    obtain ⟨i, _, rfl⟩ := this
    omega
  refine ⟨d.map Int.toNat, ?_, ?_, ?_⟩
  · rw [List.map_map]
    have : d.map ((fun i : Nat => (i : Int)) ∘ Int.toNat) = d.map id := List.map_congr_left fun x hx => by
      have := hm x hx
      simp only [Function.comp, id]; omega
    rw [this, List.map_id]
  · have := hst.1.map Int.toNat
    rw [show (idx n).map Int.toNat = List.range n by unfold idx; rw [List.map_map]; exact (List.map_congr_left fun x _ => by simp [Function.comp]).trans (List.map_id _)] at this
    exact this
  · have ht := hst.ties hp (r := fun x y => x < y) (by
      unfold idx
      rw [List.pairwise_map]
      exact List.pairwise_lt_range.imp fun h => by omega)
    rw [List.pairwise_map]
    have := hs.and ht
    refine this.imp_of_mem fun {x y} hx hy hxy => ?_
    have h1 := hc x y hxy.1
    have h2 := hm x hx; have h3 := hm y hy
    unfold beats
    by_cases he : R.getD x.toNat 0 = R.getD y.toNat 0
    · have := hxy.2 (h0 x y he)
      right; exact ⟨he, by omega⟩
    · left; omega

/-- One more at each of the places. -/
def bump (out : List Int) (o : List Nat) : List Int := o.foldl (fun l i => l.set i (l.getD i 0 + 1)) out
def marks (R : List Int) (o : List Nat) : List Int := o.foldl (fun l i => l.set i (-1)) R
theorem bump_snoc (out : List Int) (o : List Nat) (i : Nat) : bump out (o ++ [i]) = (bump out o).set i ((bump out o).getD i 0 + 1) := by simp [bump]
theorem marks_snoc (out : List Int) (o : List Nat) (i : Nat) : marks out (o ++ [i]) = (marks out o).set i (-1) := by simp [marks]
theorem bump_len : ∀ (o : List Nat) (out : List Int), (bump out o).length = out.length
  | [], _ => rfl
  | i :: o, out => (bump_len o _).trans List.length_set
theorem marks_len : ∀ (o : List Nat) (out : List Int), (marks out o).length = out.length
  | [], _ => rfl
  | i :: o, out => (marks_len o _).trans List.length_set
theorem bump_get : ∀ (o : List Nat) (out : List Int), o.Nodup → (∀ i ∈ o, i < out.length) → ∀ j, (bump out o).getD j 0 = out.getD j 0 + if j ∈ o then 1 else 0
  | [], out, _, _, j => by simp [bump]
  | i :: o, out, hn, hl, j => by
    obtain ⟨h1, h2⟩ := List.nodup_cons.1 hn
    have := bump_get o (out.set i (out.getD i 0 + 1)) h2 (fun k hk => by rw [List.length_set]; exact hl k (by simp [hk])) j
    show (bump (out.set i (out.getD i 0 + 1)) o).getD j 0 = _
    rw [this, gD_set]
    have hi := hl i (by simp)
    by_cases e : i = j
    · subst e
      rw [if_pos ⟨rfl, hi⟩, if_neg h1, if_pos (by simp)]; omega
    · rw [if_neg (fun hh => e hh.1)]
      congr 1
      by_cases h3 : j ∈ o
      · rw [if_pos h3, if_pos (by simp [h3])]
      · rw [if_neg h3, if_neg (by simp [h3]; exact fun hh => e hh.symm)]
theorem marks_get : ∀ (o : List Nat) (R : List Int), (∀ i ∈ o, i < R.length) → ∀ j, (marks R o).getD j 0 = if j ∈ o then -1 else R.getD j 0
  | [], R, _, j => by simp [marks]
  | i :: o, R, hl, j => by
    have := marks_get o (R.set i (-1)) (fun k hk => by rw [List.length_set]; exact hl k (by simp [hk])) j
    show (marks (R.set i (-1)) o).getD j 0 = _
    rw [this, gD_set]
    have hi := hl i (by simp)
    by_cases h3 : j ∈ o
    · rw [if_pos h3, if_pos (by simp [h3])]
    · rw [if_neg h3]
      by_cases e : i = j
      · subst e; rw [if_pos ⟨rfl, hi⟩, if_pos (by simp)]
      · rw [if_neg (fun hh => e hh.1), if_neg (by simp [h3]; exact fun hh => e hh.symm)]

theorem mem_tk {o : List Nat} {t k : Nat} (hk : k < o.length) (hn : o.Nodup) : o.getD k 0 ∈ o.take t ↔ k < t := by
  constructor
  · intro h
    obtain ⟨j, hj, e⟩ := mem_gD 0 h
    rw [List.length_take] at hj
    rw [gD_take, if_pos (by omega), gD_eq (by omega), gD_eq hk] at e
    rcases Nat.lt_trichotomy j k with h1 | h1 | h1
    · exact absurd e (List.pairwise_iff_getElem.1 hn j k (by omega) hk h1)
    · omega
    · exact absurd e.symm (List.pairwise_iff_getElem.1 hn k j hk (by omega) h1)
  · intro h
    have : (o.take t).getD k 0 = o.getD k 0 := by rw [gD_take, if_pos h]
    rw [← this]
    exact gD_mem (by rw [List.length_take]; omega)

/-- The greatest of the rests that are left is that of the next place. -/
theorem best_next {R : List Int} {n t B : Nat} {o : List Nat} (ho : Ordered R n o) (hR : ∀ i, i < n → 0 ≤ R.getD i 0) (hRl : R.length = n) (ht : t < n) (hB : B < n)
    (h1 : ∀ j, j < n → (marks R (o.take t)).getD j 0 ≤ (marks R (o.take t)).getD B 0) (h2 : ∀ j, j < B → (marks R (o.take t)).getD j 0 < (marks R (o.take t)).getD B 0) : B = o.getD t 0 := by
  have hl := ho.len
  have hm : ∀ i ∈ o.take t, i < R.length := fun i hi => by rw [hRl]; exact ho.lt (List.mem_of_mem_take hi)
  have hg := marks_get (o.take t) R hm
  have hto : o.getD t 0 ∈ o := gD_mem (by omega)
  have htn := ho.lt hto
  have hnt : o.getD t 0 ∉ o.take t := fun h => by have := (mem_tk (by omega) ho.nodup).1 h; omega
  have hT : (marks R (o.take t)).getD (o.getD t 0) 0 = R.getD (o.getD t 0) 0 := by rw [hg, if_neg hnt]
  have hBn : B ∉ o.take t := by
    intro h
    have := h1 _ htn
    rw [hT, hg B, if_pos h] at this
    have := hR _ htn
    omega
  have hBv : (marks R (o.take t)).getD B 0 = R.getD B 0 := by rw [hg, if_neg hBn]
  obtain ⟨k, hk, rfl⟩ := mem_gD 0 (ho.mem hB)
  have hkt : ¬ k < t := fun h => hBn ((mem_tk hk ho.nodup).2 h)
  rcases Nat.lt_or_eq_of_le (Nat.le_of_not_lt hkt) with h | h
  · exfalso
    have hb := ho.lt2 h (by omega)
    have g1 := h1 _ htn
    rw [hT, hBv] at g1
    rcases hb with h3 | ⟨h3, h4⟩
    · omega
    · have := h2 _ h4
      rw [hT, hBv] at this
      omega
  · rw [h]

/-! ### The numbers -/
theorem isum_split {s : Int} : ∀ (l : List Int), isum (l.map (· / s)) * s + isum (l.map (· % s)) = isum l
  | [] => by simp [isum]
  | x :: l => by
    have := isum_split (s := s) l
    have h2 := Int.mul_ediv_add_emod x s
    simp only [List.map_cons, isum, Int.add_mul]
    rw [Int.mul_comm (x / s) s]
    omega
def quo (t s : Int) (w : List Int) : List Int := w.map fun x => t * x / s
def rmd (t s : Int) (w : List Int) : List Int := w.map fun x => t * x % s
theorem quo_len (t s : Int) (w : List Int) : (quo t s w).length = w.length := by simp [quo]
theorem rmd_len (t s : Int) (w : List Int) : (rmd t s w).length = w.length := by simp [rmd]
theorem quo_get {t s : Int} {w : List Int} {i : Nat} (h : i < w.length) : (quo t s w).getD i 0 = t * w.getD i 0 / s := gD_map _ _ _ _ _ h
theorem rmd_get {t s : Int} {w : List Int} {i : Nat} (h : i < w.length) : (rmd t s w).getD i 0 = t * w.getD i 0 % s := gD_map _ _ _ _ _ h
theorem quo_rmd {t : Int} {w : List Int} {s : Int} : isum (quo t s w) * s + isum (rmd t s w) = t * isum w := by
  have := isum_split (s := s) (w.map (t * ·))
  rw [List.map_map, List.map_map, isum_map_mul (t * ·) t w (fun _ _ => rfl)] at this
  exact this
theorem left_bd {t : Int} {w : List Int} {s : Int} (hs : 0 < s) (e : isum w = s) : (t - isum (quo t s w)) * s = isum (rmd t s w) ∧ 0 ≤ t - isum (quo t s w) ∧ t - isum (quo t s w) < w.length := by
  have h1 := quo_rmd (t := t) (w := w) (s := s)
  have h2 : (t - isum (quo t s w)) * s = isum (rmd t s w) := by
    rw [Int.sub_mul]; rw [e] at h1; omega
  have h3 : 0 * ((rmd t s w).length : Int) ≤ isum (rmd t s w) ∧ isum (rmd t s w) ≤ (s - 1) * (rmd t s w).length := isum_bd fun x hx => by
    simp only [rmd, List.mem_map] at hx
    obtain ⟨y, _, rfl⟩ := hx
    have := Int.emod_nonneg (t * y) (show s ≠ 0 by omega)
    have := Int.emod_lt_of_pos (t * y) hs
    omega
  rw [rmd_len] at h3
  have hw : 0 < (w.length : Int) := by
    cases w with
    | nil => simp [isum] at e; omega
    | cons x w => simp only [List.length_cons]; omega
  refine ⟨h2, ?_, ?_⟩
  · by_cases hn : 0 ≤ t - isum (quo t s w)
    · exact hn
    · exfalso
      have : (t - isum (quo t s w)) * s < 0 := Int.mul_neg_of_neg_of_pos (by omega) hs
      omega
  · by_cases hn : t - isum (quo t s w) < w.length
    · exact hn
    · exfalso
      have h5 : (w.length : Int) * s ≤ (t - isum (quo t s w)) * s := Int.mul_le_mul_of_nonneg_right (by omega) (by omega)
      have h6 : (s - 1) * (w.length : Int) = s * w.length - w.length := by rw [Int.sub_mul]; omega
      rw [Int.mul_comm] at h5
      omega

/-- What is known of shares. -/
structure ShOk (t : Int) (w : List Int) (r : List Int) : Prop where
  len : r.length = w.length
  all : isum r = t
  each : ∀ i, i < w.length → (r.getD i 0 = t * w.getD i 0 / isum w) ∨ (r.getD i 0 = t * w.getD i 0 / isum w + 1 ∧ 0 < t * w.getD i 0 % isum w)
  same : ∀ k i, k < i → i < w.length → w.getD k 0 = w.getD i 0 → r.getD k 0 = r.getD i 0 ∨ r.getD k 0 = r.getD i 0 + 1

theorem isum_set {l : List Int} : ∀ {i : Nat} {v : Int}, i < l.length → isum (l.set i v) = isum l - l.getD i 0 + v := by
  induction l with
  | nil => intro i v h; simp at h
  | cons x l ih =>
    intro i v h
    cases i with
    | zero => simp only [List.set_cons_zero, isum, List.getD_cons_zero]; omega
    | succ i =>
      simp only [List.set_cons_succ, isum, List.getD_cons_succ]
      rw [ih (by simpa using h)]; omega
theorem isum_bump : ∀ (o : List Nat) (out : List Int), (∀ i ∈ o, i < out.length) → isum (bump out o) = isum out + o.length
  | [], out, _ => by simp [bump]
  | i :: o, out, h => by
    have := isum_bump o (out.set i (out.getD i 0 + 1)) (fun k hk => by rw [List.length_set]; exact h k (by simp [hk]))
    show isum (bump (out.set i (out.getD i 0 + 1)) o) = _
    rw [this, isum_set (h i (by simp)), List.length_cons]
    omega
theorem sum_order {R : List Int} {o : List Nat} (ho : Ordered R R.length o) : isum (o.map fun i => R.getD i 0) = isum R := by
  have h1 := isum_perm (ho.perm.map fun i => R.getD i 0)
  rw [h1]
  congr 1
  refine ext_gD 0 (by simp) fun k hk => ?_
  rw [gD_range _ _ _ (by simpa using hk)]

theorem shares_ok {t : Int} {w : List Int} {o : List Nat} (hs : 0 < isum w) (ho : Ordered (rmd t (isum w) w) w.length o) :
    ShOk t w (bump (quo t (isum w) w) (o.take (t - isum (quo t (isum w) w)).toNat)) := by
  obtain ⟨b1, b2, b3⟩ := left_bd (t := t) hs rfl
  have hl := ho.len
  have hm : ∀ k, ∀ i ∈ o.take k, i < (quo t (isum w) w).length := fun k i hi => by rw [quo_len]; exact ho.lt (List.mem_of_mem_take hi)
  have hnd : ∀ k, (o.take k).Nodup := fun k => ho.nodup.sublist (List.take_sublist _ _)
  have hnn : ∀ i, i < w.length → 0 ≤ (rmd t (isum w) w).getD i 0 ∧ (rmd t (isum w) w).getD i 0 < isum w := fun i hi => by
    rw [rmd_get hi]
    exact ⟨Int.emod_nonneg _ (by omega), Int.emod_lt_of_pos _ hs⟩
  have hpos : ∀ k, k < (t - isum (quo t (isum w) w)).toNat → 0 < (rmd t (isum w) w).getD (o.getD k 0) 0 := by
    intro k hk
    by_cases h : 0 < (rmd t (isum w) w).getD (o.getD k 0) 0
    · exact h
    · exfalso
      have hk0 := hnn (o.getD k 0) (ho.lt (gD_mem (by omega)))
      have e1 : isum (rmd t (isum w) w) = isum ((o.map fun i => (rmd t (isum w) w).getD i 0).take k) + isum ((o.map fun i => (rmd t (isum w) w).getD i 0).drop k) := by
        rw [← isum_app, List.take_append_drop, sum_order (by rw [rmd_len]; exact ho)]
      have e2 := isum_bd (l := (o.map fun i => (rmd t (isum w) w).getD i 0).take k) (a := 0) (b := isum w) fun x hx => by
        rw [← List.map_take, List.mem_map] at hx
        obtain ⟨i, hi, rfl⟩ := hx
        have := hnn i (ho.lt (List.mem_of_mem_take hi)); omega
      have e3 := isum_bd (l := (o.map fun i => (rmd t (isum w) w).getD i 0).drop k) (a := 0) (b := 0) fun x hx => by
        rw [← List.map_drop, List.mem_map] at hx
        obtain ⟨i, hi, rfl⟩ := hx
        obtain ⟨j, hj, e⟩ := mem_gD 0 hi
        rw [List.length_drop] at hj
        rw [gD_drop] at e
        subst e
        have h5 := hnn (o.getD (k + j) 0) (ho.lt (gD_mem (by omega)))
        rcases Nat.eq_zero_or_pos j with rfl | hj0
        · rw [Nat.add_zero]; omega
        · have := ho.lt2 (i := k) (k := k + j) (by omega) (by omega)
          unfold beats at this
          omega
      have e4 : ((o.map fun i => (rmd t (isum w) w).getD i 0).take k).length = k := by simp; omega
      rw [e4] at e2
      have e5 : (k : Int) * isum w < (t - isum (quo t (isum w) w)) * isum w := Int.mul_lt_mul_of_pos_right (by omega) hs
      rw [Int.mul_comm] at e5
      omega
  have hget := fun j => bump_get (o.take (t - isum (quo t (isum w) w)).toNat) (quo t (isum w) w) (hnd _) (hm _) j
  refine ⟨by rw [bump_len, quo_len], ?_, ?_, ?_⟩
  · rw [isum_bump _ _ (hm _), List.length_take]; omega
  · intro i hi
    rw [hget, quo_get hi]
    by_cases h : i ∈ o.take (t - isum (quo t (isum w) w)).toNat
    · right
      rw [if_pos h]
      refine ⟨rfl, ?_⟩
      obtain ⟨k, hk, e⟩ := mem_gD 0 h
      rw [List.length_take] at hk
      rw [gD_take, if_pos (by omega)] at e
      have := hpos k (by omega)
      rw [e, rmd_get hi] at this
      exact this
    · left; rw [if_neg h]; omega
  · intro k i hki hi he
    rw [hget, hget, quo_get hi, quo_get (by omega), he]
    by_cases h : i ∈ o.take (t - isum (quo t (isum w) w)).toNat
    · have : k ∈ o.take (t - isum (quo t (isum w) w)).toNat := by
        obtain ⟨a, ha, ea⟩ := mem_gD 0 (ho.mem (show k < w.length by omega))
        obtain ⟨b, hb, eb⟩ := mem_gD 0 (ho.mem hi)
        rw [← eb, mem_tk hb ho.nodup] at h
        rw [← ea, mem_tk ha ho.nodup]
        by_cases hab : a < b
        · omega
        · exfalso
          have hne : a ≠ b := fun hh => by rw [hh, eb] at ea; omega
          have := ho.lt2 (i := b) (k := a) (by omega) (by omega)
          rw [ea, eb] at this
          unfold beats at this
          rw [rmd_get hi, rmd_get (by omega), he] at this
          omega
      rw [if_pos h, if_pos this]; left; rfl
    · rw [if_neg h]
      by_cases h2 : k ∈ o.take (t - isum (quo t (isum w) w)).toNat
      · rw [if_pos h2]; right; omega
      · rw [if_neg h2]; left; rfl
end Go.Proofs.Ytmleldfhkangbaa
