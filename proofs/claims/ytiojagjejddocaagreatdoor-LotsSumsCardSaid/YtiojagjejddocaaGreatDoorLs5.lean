/- LotsSums: the volumes of products. No condition. -/
import Derived.Test.YtiojagjejddocaaGreatDoorLs3
namespace Go.Proofs.YtiojagjejddocaaGreatDoor
open Go Go.Sq

abbrev Bat := Int × List UInt8 × Int × Int
abbrev Lot := Int × Int × Int
theorem same_ok (a : List Lot) (hl : a.length ≤ 1000) : ref29_Same a a = some true := by
  unfold ref29_Same
  simp only [decide_true, Bool.not_true, cond_false]
  have k1 : iter (fun x : Int => ref29_Same_L0 a a x) 0 = some (.inl ()) := by
    refine iter_for (step := fun x : Int => ref29_Same_L0 a a x) a.length (fun j => (j : Int)) (fun j hj => ?_) ?_
    · unfold ref29_Same_L0
      simp only [dec_t (show (j : Int) < (a.length : Int) by omega), cond_true, gd_t (inB_t hj), Int.toNat_natCast, decide_true, Bool.and_self, Bool.not_true, cond_false]
      rw [wi_next j (by omega)]
    · unfold ref29_Same_L0
      simp only [dec_f (show ¬ (a.length : Int) < (a.length : Int) by omega), cond_false]
  rw [k1]; rfl
theorem sameB_ok (a : List Bat) (hl : a.length ≤ 1000) : ref29_SameBatches a a = some true := by
  unfold ref29_SameBatches
  simp only [decide_true, Bool.not_true, cond_false]
  have k1 : iter (fun x : Int => ref29_SameBatches_L0 a a x) 0 = some (.inl ()) := by
    refine iter_for (step := fun x : Int => ref29_SameBatches_L0 a a x) a.length (fun j => (j : Int)) (fun j hj => ?_) ?_
    · unfold ref29_SameBatches_L0
      simp only [dec_t (show (j : Int) < (a.length : Int) by omega), cond_true, gd_t (inB_t hj), Int.toNat_natCast, decide_true, Bool.and_self, Bool.not_true, cond_false]
      rw [wi_next j (by omega)]
    · unfold ref29_SameBatches_L0
      simp only [dec_f (show ¬ (a.length : Int) < (a.length : Int) by omega), cond_false]
  rw [k1]; rfl
/-- The volume of a product among the first v rows. -/
def rowS (S : List Made) (k : Int) : Int := isum (S.map fun t => if t.2.1.1 = k then vol t.1 else 0)
theorem rowS_next {S : List Made} {v : Nat} (hv : v < S.length) (k : Int) : rowS (S.take (v + 1)) k = rowS (S.take v) k + if (S.getD v m0).2.1.1 = k then vol (S.getD v m0).1 else 0 := by
  unfold rowS
  rw [take_next m0 hv, List.map_append, isum_app]; simp [isum]
theorem rowS_bd {S : List Made} (hv : ∀ t ∈ S, 1 ≤ vol t.1 ∧ vol t.1 ≤ 7000) (hl : S.length ≤ 14) (k : Int) (i : Nat) : 0 ≤ rowS (S.take i) k ∧ rowS (S.take i) k ≤ 100000 := by
  have := isum_bd (l := (S.take i).map fun t => if t.2.1.1 = k then vol t.1 else 0) (a := 0) (b := 7000) fun v hv' => by
    obtain ⟨z, hz, rfl⟩ := List.mem_map.1 hv'
    have := hv z (List.mem_of_mem_take hz)
    split <;> omega
  rw [List.length_map, List.length_take] at this
  unfold rowS; omega
theorem tot_ok {S : List Made} {P : Nat} (hP : P ≤ 4) (hl : S.length ≤ 14) (hv : ∀ t ∈ S, 1 ≤ vol t.1 ∧ vol t.1 ≤ 7000) (hp : ∀ t ∈ S, 0 ≤ t.2.1.1 ∧ t.2.1.1 < (P : Int)) :
    Ok (lots_Totals (S.map (·.2.1)) (lotsOf S)) fun t => t.length ≤ P ∧ (∀ k, k < t.length → t.getD k 0 = rowS S (k : Int)) ∧ ∀ k, t.length ≤ k → rowS S (k : Int) = 0 := by
  have hlo := lotsOf_len' S
  unfold lots_Totals
  refine Ok.bind (Q := fun s : Int => -1 ≤ s ∧ s < (P : Int) ∧ ∀ t ∈ S, t.2.1.1 ≤ s) ?_ fun s hs => ?_
  · refine Ok.loop (fun x : Int × Int => ∃ i : Nat, x.2 = (i : Int) ∧ i ≤ S.length ∧ -1 ≤ x.1 ∧ x.1 < (P : Int) ∧ ∀ t ∈ S.take i, t.2.1.1 ≤ x.1) (fun x => S.length - x.2.toNat) ⟨0, rfl, by omega, by (try simp only); omega, by (try simp only); omega, fun t ht => by simp at ht⟩ ?_
    rintro ⟨mx, i'⟩ ⟨i, ei, hi, h1, h2, h3⟩
    replace ei : i' = (i : Int) := ei
    subst ei
    try simp only at h1 h2 h3
    unfold lots_Totals_L0
    simp only [List.length_map]
    refine Ok.bif (fun hc => ?_) fun hc => ?_
    · have hc := of_decide_eq_true hc
      have hi : i < S.length := by omega
      refine Ok.gd (inB_t hi) ?_
      rw [Int.toNat_natCast, gD_map (·.2.1) S i m0 (0, ([], (0, 0))) hi, wi_next i (by omega)]
      have hpi := hp _ (gD_mem (d := m0) hi)
      refine .ret ⟨⟨i + 1, rfl, hi, by (try simp only); omega, by (try simp only); omega, fun t ht => ?_⟩, by simp only [Int.toNat_natCast]; omega⟩
      rw [take_next m0 hi] at ht
      rcases List.mem_append.1 ht with ht | ht
      · have := h3 t ht; (try simp only); omega
      · rw [List.mem_singleton.1 ht]; (try simp only); omega
    · have hc := of_decide_eq_false hc
      refine .ret ⟨h1, h2, fun t ht => h3 t ?_⟩
      rw [List.take_of_length_le (by omega)]; exact ht
  · obtain ⟨s0, s1, s2⟩ := hs
    obtain ⟨w, hw⟩ : ∃ w : Nat, s + 1 = (w : Int) := ⟨(s + 1).toNat, by omega⟩
    rw [show wi64 (s + 1) = (w : Int) by rw [wi (by omega)]; exact hw]
    refine Ok.gd (makeG_t (by omega)) ?_
    rw [Int.toNat_natCast]
    refine Ok.bind (Q := fun t : List Int => t.length = w ∧ ∀ k, k < w → t.getD k 0 = rowS S (k : Int)) ?_ fun t ht => ?_
    · refine Ok.loop (fun x : Int × List Int => ∃ i : Nat, x.1 = (i : Int) ∧ i ≤ S.length ∧ x.2.length = w ∧ ∀ k, k < w → x.2.getD k 0 = rowS (S.take i) (k : Int)) (fun x => S.length - x.1.toNat) ⟨0, rfl, by omega, by simp, fun k hk => by rw [gD_eq (by simpa using hk)]; simp [rowS, isum]⟩ ?_
      rintro ⟨i', out⟩ ⟨i, ei, hi, h1, h2⟩
      replace ei : i' = (i : Int) := ei
      subst ei
      try simp only at h1 h2
      unfold lots_Totals_L1
      simp only [List.length_map, hlo]
      refine Ok.bif (fun hc => ?_) fun hc => ?_
      · have hc := of_decide_eq_true hc
        have hi : i < S.length := by omega
        have hpi := hp _ (gD_mem (d := m0) hi)
        have hsi := s2 _ (gD_mem (d := m0) hi)
        have hvi := hv _ (gD_mem (d := m0) hi)
        obtain ⟨a, ha⟩ : ∃ a : Nat, (S.getD i m0).2.1.1 = (a : Int) := ⟨(S.getD i m0).2.1.1.toNat, by omega⟩
        have haw : a < w := by omega
        rw [wi_next i (by omega)]
        refine Ok.bind (Q := fun o : List Int => o.length = w ∧ ∀ k, k < w → o.getD k 0 = rowS (S.take (i + 1)) (k : Int)) ?_ fun o ho => .ret ⟨⟨i + 1, rfl, hi, ho⟩, by simp only [Int.toNat_natCast]; omega⟩
        refine Ok.gd (inB_t hi) ?_
        rw [Int.toNat_natCast, lotsOf_get' hi]
        rw [dec_f (show ¬ (lotAt' S i).1 < 0 by show ¬ (i : Int) < 0; omega), dec_f (show ¬ (S.length : Int) ≤ (lotAt' S i).1 by show ¬ (S.length : Int) ≤ (i : Int); omega)]
        simp only [cond_false, Option.bind_some, show (lotAt' S i).1 = (i : Int) from rfl, show (lotAt' S i).2.1 = vol (S.getD i m0).1 from rfl]
        refine Ok.gd (inB_t hi) ?_
        rw [Int.toNat_natCast, gD_map (·.2.1) S i m0 (0, ([], (0, 0))) hi, dec_t (show (0 : Int) ≤ (S.getD i m0).2.1.1 by omega), ha]
        simp only [cond_true]
        rw [gd_t (inB_t (show a < out.length by omega)), gd_t (inB_t (show a < out.length by omega)), Int.toNat_natCast]
        try simp only [Option.bind_some]
        have hb := rowS_bd hv hl (a : Int) i
        rw [h2 a haw, show wi64 (rowS (S.take i) (a : Int) + vol (S.getD i m0).1) = rowS (S.take i) (a : Int) + vol (S.getD i m0).1 from wi (by omega)]
        refine .ret ⟨by rw [List.length_set]; exact h1, fun k hk => ?_⟩
        rw [gD_set, rowS_next hi, ha]
        by_cases h : a = k
        · subst h; rw [if_pos ⟨rfl, by omega⟩, if_pos rfl]
        · rw [if_neg (fun hh => h hh.1), if_neg (by omega), h2 k hk]; omega
      · have hc := of_decide_eq_false hc
        have : i = S.length := by omega
        subst this
        refine .ret ⟨h1, fun k hk => ?_⟩
        rw [h2 k hk, List.take_length]
    · refine .ret ⟨by omega, fun k hk => ht.2 k (by omega), fun k hk => ?_⟩
      unfold rowS
      have : ∀ z ∈ S.map (fun t => if t.2.1.1 = (k : Int) then vol t.1 else 0), z = 0 := by
        intro z hz
        obtain ⟨t, ht', rfl⟩ := List.mem_map.1 hz
        have := s2 t ht'
        rw [if_neg (by omega)]
      generalize S.map (fun t => if t.2.1.1 = (k : Int) then vol t.1 else 0) = L at this
      induction L with
      | nil => rfl
      | cons x L ih => simp only [isum]; rw [this x (by simp), ih fun z hz => this z (List.mem_cons_of_mem _ hz)]; rfl
end Go.Proofs.YtiojagjejddocaaGreatDoor
/- The law LotsSums, in plain Lean. No condition. -/
namespace Go.Proofs.YtiojagjejddocaaGreatDoor
open Go Go.Sq

/-! ### The turned list -/
theorem rot_perm {l y : List Nom} {r : Nat} (hr : r ≤ l.length) (hy : y = l.drop r ++ l.take r) : y.Perm l := by
  subst hy
  have := List.perm_append_comm (l₁ := l.drop r) (l₂ := l.take r)
  rwa [List.take_append_drop] at this
theorem turn_ok {l : List Nom} {turn : Int} (hl : l.length ≤ 14) (ht : 0 ≤ turn ∧ turn ≤ 255) :
    ∃ y, iter (fun x2 : Int × List Nom × List Nom => law29_LotsSums_L0 turn x2.1 x2.2.1 x2.2.2) (0, l, []) = some (l, y) ∧ y.Perm l := by
  obtain ⟨t, rfl⟩ : ∃ t : Nat, turn = (t : Int) := ⟨turn.toNat, by omega⟩
  refine ⟨(List.range l.length).map fun j => l.getD ((j + t) % l.length) n0, ?_, ?_⟩
  · refine iter_for (step := fun x2 : Int × List Nom × List Nom => law29_LotsSums_L0 (t : Int) x2.1 x2.2.1 x2.2.2) l.length (fun i => ((i : Int), l, (List.range i).map fun j => l.getD ((j + t) % l.length) n0)) (fun i hi => ?_) ?_
    · have hm : Int.tmod (wi64 ((i : Int) + wi64 (t : Int))) (l.length : Int) = (((i + t) % l.length : Nat) : Int) := by
        rw [show wi64 (t : Int) = (t : Int) from wi (by omega), show wi64 ((i : Int) + (t : Int)) = ((i + t : Nat) : Int) by rw [wi (by omega)]; omega]
        exact (Int.natCast_emod _ _).symm ▸ Int.tmod_eq_emod_of_nonneg (by omega)
      unfold law29_LotsSums_L0
      simp only [dec_t (show (i : Int) < (l.length : Int) by omega), cond_true]
      rw [dec_f (show ¬ (l.length : Int) = 0 by omega), hm, Int.toNat_natCast]
      have hmod : (i + t) % l.length < l.length := Nat.mod_lt _ (by omega)
      rw [show (!false) = true from rfl, gd_t rfl, gd_t (inB_t hmod), gd_t (fits_t (by simp; omega)), wi_next i (by omega), List.range_succ, List.map_append]
      rfl
    · unfold law29_LotsSums_L0
      simp only [dec_f (show ¬ (l.length : Int) < (l.length : Int) by omega), cond_false]
  · rcases Nat.eq_zero_or_pos l.length with h0 | h0
    · have : l = [] := List.length_eq_zero_iff.1 h0
      subst this; simp
    · refine rot_perm (r := t % l.length) (Nat.le_of_lt (Nat.mod_lt _ h0)) ?_
      have hr := Nat.mod_lt t h0
      refine List.ext_getElem (by simp; omega) fun j h1 h2 => ?_
      have hj : j < l.length := by simpa using h1
      simp only [List.getElem_map, List.getElem_range]
      have hmod : (j + t) % l.length < l.length := Nat.mod_lt _ h0
      rw [gD_eq hmod]
      have e1 : (j + t) % l.length = (j + t % l.length) % l.length := by rw [Nat.add_mod_mod]
      by_cases h : j + t % l.length < l.length
      · rw [List.getElem_append_left (by simp; omega), List.getElem_drop]
        congr 1
        rw [e1, Nat.mod_eq_of_lt h]; omega
      · rw [List.getElem_append_right (by simp; omega), List.getElem_take]
        congr 1
        rw [e1, List.length_drop, Nat.mod_eq_sub_mod (by omega), Nat.mod_eq_of_lt (by omega)]; omega

/-! ### What is wanted -/
theorem sumP_bd {l : List Nom} (hv : ∀ x ∈ l, 1 ≤ vol x ∧ vol x ≤ 500) (hl : l.length ≤ 14) (p : List UInt8) (i : Nat) : 0 ≤ sumP p (l.take i) ∧ sumP p (l.take i) ≤ 10000 := by
  have := isum_bd (l := (l.take i).map fun z => if z.2.1 = p then vol z else 0) (a := 0) (b := 500) fun v hv' => by
    obtain ⟨z, hz, rfl⟩ := List.mem_map.1 hv'
    have := hv z (List.mem_of_mem_take hz)
    split <;> omega
  rw [List.length_map, List.length_take] at this
  unfold sumP; omega
theorem want_ok {r5 : List Int × Int × List Prod'} {s : List Nom × List Nom} (hp : ProdsP r5.2.2) (hl : s.1.length ≤ 14) (hv : ∀ x ∈ s.1, 1 ≤ vol x ∧ vol x ≤ 500) (t : List Int) :
    Ok (iter (fun x4 : Int × List Int × List Int => law29_LotsSums_L1 r5 s x4.1 x4.2.1 x4.2.2) (0, t, List.replicate (r5.2.2.length : Int).toNat 0)) fun q => q.1 = t ∧ q.2.length = r5.2.2.length ∧ ∀ k, k < r5.2.2.length → q.2.getD k 0 = sumP (nm 112 k) s.1 := by
  have b4 := hp.l4
  refine Ok.loop (fun x : Int × List Int × List Int => ∃ i : Nat, x.1 = (i : Int) ∧ i ≤ s.1.length ∧ x.2.1 = t ∧ x.2.2.length = r5.2.2.length ∧ ∀ k, k < r5.2.2.length → x.2.2.getD k 0 = sumP (nm 112 k) (s.1.take i)) (fun x => s.1.length - x.1.toNat) ⟨0, rfl, by omega, rfl, by simp, fun k hk => ?_⟩ ?_
  · try simp only
    rw [gD_eq (by simpa using hk)]; simp [sumP, isum]
  rintro ⟨i', t', w⟩ ⟨i, ei, hi, et, hw, hk⟩
  replace ei : i' = (i : Int) := ei
  replace et : t' = t := et
  subst ei et
  try simp only at hw hk
  unfold law29_LotsSums_L1
  try simp only
  refine Ok.bif (fun hc => ?_) fun hc => ?_
  · have hc := of_decide_eq_true hc
    have hi : i < s.1.length := by omega
    rw [wi_next i (by omega)]
    refine Ok.bind (Q := fun q : List Int × List Int => q.1 = t' ∧ q.2.length = r5.2.2.length ∧ ∀ k, k < r5.2.2.length → q.2.getD k 0 = sumP (nm 112 k) (s.1.take (i + 1))) ?_ fun q hq => .ret ⟨⟨i + 1, rfl, hi, hq⟩, by simp only [Int.toNat_natCast]; omega⟩
    refine Ok.loop (fun x : Int × List Int × List Int => ∃ k : Nat, x.1 = (k : Int) ∧ k ≤ r5.2.2.length ∧ x.2.1 = t' ∧ x.2.2.length = r5.2.2.length ∧ ∀ j, j < r5.2.2.length → x.2.2.getD j 0 = sumP (nm 112 j) (s.1.take (if j < k then i + 1 else i))) (fun x => r5.2.2.length - x.1.toNat) ⟨0, rfl, by omega, rfl, hw, fun j hj => by (try simp only); rw [if_neg (by omega)]; exact hk j hj⟩ ?_
    rintro ⟨k', t2, w2⟩ ⟨k, ek, hkl, et, hw2, hj⟩
    replace ek : k' = (k : Int) := ek
    replace et : t2 = t' := et
    subst ek et
    try simp only at hw2 hj
    unfold law29_LotsSums_L2
    try simp only
    refine Ok.bif (fun hc => ?_) fun hc => ?_
    · have hc := of_decide_eq_true hc
      have hkl : k < r5.2.2.length := by omega
      have hbd := sumP_bd hv hl (nm 112 k) i
      have hvx := hv _ (gD_mem (d := n0) hi)
      have hjk := hj k hkl
      rw [if_neg (by omega)] at hjk
      refine Ok.gd (inB_t hkl) (Ok.gd (inB_t hi) ?_)
      simp only [Int.toNat_natCast]
      have hnm : (r5.2.2.getD k ([], (0, (0, (0, 0))))).1 = nm 112 k := nms_get hp.nam hkl r0
      rw [wi_next k (by omega)]
      refine Ok.bind (Q := fun q : List Int × List Int => q.1 = t2 ∧ q.2.length = r5.2.2.length ∧ ∀ j, j < r5.2.2.length → q.2.getD j 0 = sumP (nm 112 j) (s.1.take (if j < k + 1 then i + 1 else i))) ?_ fun q hq => .ret ⟨⟨k + 1, rfl, hkl, hq⟩, by simp only [Int.toNat_natCast]; omega⟩
      refine Ok.bif (fun he => ?_) fun he => ?_
      · have he : nm 112 k = (s.1.getD i n0).2.1 := hnm.symm.trans (of_decide_eq_true he)
        refine Ok.gd (inB_t (by omega)) (Ok.gd (inB_t hi) (Ok.gd (inB_t (by omega)) ?_))
        show Ok (some (t2, w2.set k (wi64 (w2.getD k 0 + vol (s.1.getD i n0))))) _
        rw [hjk, show wi64 (sumP (nm 112 k) (s.1.take i) + vol (s.1.getD i n0)) = sumP (nm 112 k) (s.1.take i) + vol (s.1.getD i n0) from wi (by omega)]
        refine .ret ⟨rfl, by rw [List.length_set]; exact hw2, fun j hjl => ?_⟩
        rw [gD_set]
        by_cases h : k = j
        · subst h
          rw [if_pos ⟨rfl, by omega⟩, if_pos (by omega), sumP_next hi, if_pos he.symm]
        · rw [if_neg (fun hh => h hh.1), hj j hjl]
          by_cases h2 : j < k
          · rw [if_pos h2, if_pos (by omega)]
          · rw [if_neg h2, if_neg (by omega)]
      · have he : ¬ nm 112 k = (s.1.getD i n0).2.1 := fun e => of_decide_eq_false he (hnm.trans e)
        refine .ret ⟨rfl, hw2, fun j hjl => ?_⟩
        rw [hj j hjl]
        by_cases h : k = j
        · subst h
          rw [if_neg (by omega), if_pos (by omega), sumP_next hi, if_neg (fun e => he e.symm), Int.add_zero]
        · by_cases h2 : j < k
          · rw [if_pos h2, if_pos (by omega)]
          · rw [if_neg h2, if_neg (by omega)]
    · have hc := of_decide_eq_false hc
      refine .ret ⟨rfl, hw2, fun j hjl => ?_⟩
      rw [hj j hjl, if_pos (by omega)]
  · have hc := of_decide_eq_false hc
    refine .ret ⟨rfl, hw, fun k hkl => ?_⟩
    rw [hk k hkl, List.take_of_length_le (by omega)]
theorem row_sum {S : List Made} {P : Nat} (hP : P ≤ 4) {T : List Nom} {s : List (Nom × Int)} {l : List Nom} (h1 : (S.map (·.1)).Perm T) (h2 : T.Perm (s.map nwith)) (h3 : SumX l l.length s) (hS : ∀ m ∈ S, ∃ a, a < P ∧ m.1.2.1 = nm 112 a ∧ m.2.1.1 = (a : Int)) {k : Nat} (hk : k < 26) : rowS S (k : Int) = sumP (nm 112 k) l := by
  have e1 : rowS S (k : Int) = isum ((S.map (·.1)).map fun z : Nom => if z.2.1 = nm 112 k then vol z else 0) := by
    unfold rowS
    rw [List.map_map]
    refine congrArg isum (List.map_congr_left fun t ht => ?_)
    obtain ⟨a, ha, ea, eb⟩ := hS t ht
    show _ = if t.1.2.1 = nm 112 k then vol t.1 else 0
    rw [ea, eb]
    by_cases h : a = k
    · subst h; simp
    · rw [if_neg (by omega), if_neg fun e => h (nm_inj (by omega) hk e)]
  have e2 := h3.tot (nm 112 k)
  rw [List.take_length] at e2
  rw [e1, isum_perm ((h1.trans h2).map _), ← e2]
  unfold wsum
  rw [List.map_map]
  rfl
theorem sums_check {t want : List Int} {P : Nat} {f : Nat → Int} (hP : P ≤ 1000) (h1 : t.length ≤ P) (h2 : ∀ k, k < t.length → t.getD k 0 = f k) (h3 : ∀ k, t.length ≤ k → k < P → f k = 0) (h4 : want.length = P) (h5 : ∀ k, k < P → want.getD k 0 = f k) :
    Ok (iter (fun x5 : Int × List Int × List Int => law29_LotsSums_L3 x5.1 x5.2.1 x5.2.2) (0, t, want)) fun e => e = .inl () := by
  refine Ok.loop (fun x : Int × List Int × List Int => ∃ i : Nat, x.1 = (i : Int) ∧ x.2.1 = t ∧ x.2.2 = want) (fun x => want.length - x.1.toNat) ⟨0, rfl, rfl, rfl⟩ ?_
  rintro ⟨i', t', w⟩ ⟨i, ei, et, ew⟩
  replace ei : i' = (i : Int) := ei
  replace et : t' = t := et
  replace ew : w = want := ew
  subst ei et ew
  unfold law29_LotsSums_L3
  try simp only
  refine Ok.bif (fun hc => ?_) fun hc => .ret rfl
  have hc := of_decide_eq_true hc
  have hi : i < w.length := by omega
  refine Ok.bind (Q := fun q : Bool × List Int × List Int => q = (false, t', w)) ?_ fun q hq => ?_
  · refine Ok.bif (fun hc => ?_) fun hc => ?_
    · have hc := of_decide_eq_true hc
      have hit : i < t'.length := by omega
      refine Ok.gd (inB_t hit) (Ok.gd (inB_t hi) ?_)
      rw [Int.toNat_natCast, h2 i hit, h5 i (by omega), dec_t rfl, dec_f (by omega)]
      exact .ret rfl
    · have hc := of_decide_eq_false hc
      rw [dec_t (by omega)]
      simp only [cond_true]
      refine Ok.gd (inB_t hi) ?_
      rw [Int.toNat_natCast, h5 i (by omega), h3 i (by omega) (by omega)]
      exact .ret rfl
  · subst hq
    simp only [cond_false]
    rw [wi_next i (by omega)]
    exact .ret ⟨⟨i + 1, rfl, rfl, rfl⟩, by simp only [Int.toNat_natCast]; omega⟩

/-! ### The law -/
theorem few_ok (l : List Int) : Ok (second_Few l) fun _ => True := by
  unfold second_Few
  exact .ret trivial
theorem sums_true {l : List Int} {turn : Int} (hl : ∀ x ∈ l, -9223372036854775808 ≤ x ∧ x ≤ 9223372036854775807) (ht : 0 ≤ turn ∧ turn ≤ 255) : law29_LotsSums l turn = some true := by
  refine Ok.true ?_
  unfold law29_LotsSums
  refine Ok.bind (few_ok l) fun r _ => ?_
  refine Ok.bif (fun _ => Ok.eq awake_true (.ret rfl)) fun _ => ?_
  obtain ⟨s, n1, n2⟩ := new_eq (l := l) hl
  refine Ok.eq n1 ?_
  refine Ok.bind (net_ok n2) ?_
  rintro ⟨n, s1, p1⟩ ⟨e, h, k, hn⟩
  replace e : s1 = s := e
  subst e
  try simp only at h hn
  refine Ok.bind (prods_ok h) ?_
  rintro ⟨s2, p2, ps⟩ ⟨e, h, hp⟩
  replace e : s2 = s1 := e
  subst e
  try simp only at h hp
  refine Ok.bind (show Ok (law29_nominations n ps s2 p2) _ from noms_ok hn hp h) ?_
  rintro ⟨s3, p3, x⟩ ⟨e, h, hxl, hx⟩
  replace e : s3 = s2 := e
  subst e
  try simp only at h hxl hx
  have b1 := hp.l1; have b4 := hp.l4; have a6 := hn.k6; have a4 := hn.ports.len
  have hvx : ∀ z ∈ x, 1 ≤ vol z ∧ vol z ≤ 500 := fun z hz => (hx z hz).vol
  obtain ⟨y, y1, y2⟩ := turn_ok hxl ht
  refine Ok.eq y1 ?_
  have hyl : y.length ≤ 14 := by rw [y2.length_eq]; exact hxl
  have hy : ∀ z ∈ y, NomP ps.length n.2.2.1.length z := fun z hz => hx z (y2.mem_iff.1 hz)
  obtain ⟨m, m1, m2, m3⟩ := sumsX_ok hxl hvx
  obtain ⟨m', m1', m2', m3'⟩ := sumsX_ok hyl fun z hz => (hy z hz).vol
  obtain ⟨T, t1, t2, t3, t4, t5⟩ := totals_of (m := ps.length) (q := n.2.2.1.length) (by omega) (by omega) hxl hx m1 m3
  obtain ⟨T', t1', t2', t3', _, _⟩ := totals_of (m := ps.length) (q := n.2.2.1.length) (by omega) (by omega) hyl hy m1' m3'
  have hTT : T' = T := nsort_unique t4 (t2'.trans ((m2'.perm (y2) m2).map _)) t3' t2 t3
  subst hTT
  have hml := m3.len
  have htl : T'.length ≤ 14 := by have := t2.length_eq; simp at this; omega
  have ht3 : ∀ t ∈ T', ∃ z ∈ x, nkey t = nkey z := fun t ht => by
    obtain ⟨q, hq, rfl⟩ := List.mem_map.1 (t2.mem_iff.1 ht)
    obtain ⟨⟨z, hz, e⟩, _⟩ := m3.el q hq
    exact ⟨z, hz, by rw [t5 q hq, e]⟩
  obtain ⟨S, q1, q2, q3⟩ := batches_of hn hp hxl hx t1 htl ht3 (order := []) (by simp)
  have q1' : lots_Batches n ps y [] = some (S.map (·.2.1), lotsOf S, 0) := by
    rw [batches_same (l' := x) (ncheck_ok (m := ps.length) (q := n.2.2.1.length) (by omega) (by omega) hyl hy) (ncheck_ok (m := ps.length) (q := n.2.2.1.length) (by omega) (by omega) hxl hx) (t1'.trans t1.symm)]; exact q1
  refine Ok.eq (show lots_Batches (n.1, (n.2.1, (n.2.2.1, (n.2.2.2.1, (n.2.2.2.2.1, n.2.2.2.2.2))))) ps x [] = _ from q1) ?_
  refine Ok.eq (show lots_Batches (n.1, (n.2.1, (n.2.2.1, (n.2.2.2.1, (n.2.2.2.2.1, n.2.2.2.2.2))))) ps y [] = _ from q1') ?_
  refine Ok.bind (show Ok (ref11_Totals x) _ from refT_ok (m := ps.length) (q := n.2.2.1.length) (by omega) (by omega) hxl hx) ?_
  rintro ⟨out, z⟩ ⟨ez, hO⟩
  replace ez : z = 0 := ez
  subst ez
  try simp only at hO
  have hSl : S.length = T'.length := by have := q2.length_eq; simpa using this
  have hlo := lotsOf_len' S
  have hml2 : T'.length = m.length := by have := t2.length_eq; simpa using this
  have hrl := ref_len hO m2
  have hSv : ∀ t ∈ S, 1 ≤ vol t.1 ∧ vol t.1 ≤ 7000 := fun t ht => by
    obtain ⟨q, hq, e⟩ := List.mem_map.1 (t2.mem_iff.1 (q2.mem_iff.1 (List.mem_map_of_mem ht)))
    have := (m3.el q hq).2
    have e2 : vol t.1 = q.2 := by rw [← e]; rfl
    rw [e2]; omega
  have hSp : ∀ t ∈ S, ∃ a, a < ps.length ∧ t.1.2.1 = nm 112 a ∧ t.2.1.1 = (a : Int) := fun t ht => (q3 t ht).2
  have hSi : ∀ t ∈ S, 0 ≤ t.2.1.1 ∧ t.2.1.1 < (ps.length : Int) := fun t ht => by
    obtain ⟨a, h1, _, h2⟩ := hSp t ht
    omega
  simp only [decide_true, Bool.not_true, cond_false]
  rw [sameB_ok (S.map (·.2.1)) (by simp; omega), same_ok (lotsOf S) (by omega)]
  simp only [Option.bind_some, Bool.not_true, cond_false]
  rw [dec_t (show ((lotsOf S).length : Int) = (out.length : Int) by omega), dec_t (show ((S.map (·.2.1)).length : Int) = ((lotsOf S).length : Int) by simp; omega)]
  simp only [Option.bind_some, Bool.not_true, cond_false]
  refine Ok.bind (tot_ok (P := ps.length) b4 (by omega) hSv hSi) ?_
  rintro t ⟨k1, k2, k3⟩
  refine Ok.gd (makeG_t (by (try simp only); omega)) ?_
  refine Ok.bind (want_ok (r5 := (s3, p2, ps)) (s := (x, y)) hp hxl hvx t) ?_
  rintro ⟨t', w⟩ ⟨et, hw, hk⟩
  replace et : t' = t := et
  subst et
  try simp only at hw hk
  have hrow := fun k hk => row_sum (P := ps.length) b4 q2 t2 m2 hSp (k := k) hk
  refine Ok.bind (sums_check (t := t') (want := w) (P := ps.length) (f := fun k => sumP (nm 112 k) x) (by omega) k1 (fun k h => by rw [k2 k h]; exact hrow k (by omega)) (fun k h1 h2 => by rw [← hrow k (by omega)]; exact k3 k h1) hw hk) ?_
  rintro e rfl
  exact Ok.eq awake_true (.ret rfl)
end Go.Proofs.YtiojagjejddocaaGreatDoor
