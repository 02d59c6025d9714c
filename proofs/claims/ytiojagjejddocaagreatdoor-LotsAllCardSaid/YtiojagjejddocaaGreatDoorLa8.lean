/- The law LotsAll, in plain Lean. No condition. -/
import Derived.Test.YtiojagjejddocaaGreatDoorLa7
namespace Go.Proofs.YtiojagjejddocaaGreatDoor
open Go Go.Sq

abbrev Bat := Int × List UInt8 × Int × Int
abbrev Lot := Int × Int × Int
def l0 : Lot := (0, (0, 0))
def frm (T : List Made) (b : Nat) : Int := (T.getD b m0).2.1.2.2.1
def lotAt (T : List Made) (b : Nat) : Lot := ((b : Int), ((T.getD b m0).1.2.2.2.2.2, (0 : Int)))
def idxs (T : List Made) (i : Int) (n : Nat) : List Nat := (List.range n).filter fun b => decide (frm T b = i)
theorem lotsOf_len (T : List Made) : (lotsOf T).length = T.length := by simp [lotsOf]
theorem lotsOf_get {T : List Made} {b : Nat} (h : b < T.length) : (lotsOf T).getD b (0, (0, 0)) = lotAt T b := by
  unfold lotsOf
  rw [gD_eq (by simpa using h)]; simp [lotAt]
theorem bat_get {T : List Made} {b : Nat} (h : b < T.length) : (((T.map (·.2.1)).getD b (0, ([], (0, 0)))).2).2.1 = frm T b := by
  rw [gD_map (·.2.1) T b m0 (0, ([], (0, 0))) h]; rfl
theorem of_ok {T : List Made} (hT : T.length ≤ 1000) (i : Int) : lots_Of (T.map (·.2.1)) (lotsOf T) i = some ((idxs T i T.length).map (lotAt T)) := by
  have hlen := lotsOf_len T
  unfold lots_Of
  have k1 := iter_for (step := fun x : Int × List Lot => lots_Of_L0 (T.map (·.2.1)) (lotsOf T) i x.1 x.2) T.length (fun v => ((v : Int), (idxs T i v).map (lotAt T))) (e := (idxs T i T.length).map (lotAt T)) (fun v hv => by
    have hil : (idxs T i v).length ≤ v := by unfold idxs; exact Nat.le_trans (List.length_filter_le _ _) (by simp)
    unfold lots_Of_L0
    simp only [hlen, dec_t (show (v : Int) < (T.length : Int) by omega), cond_true, gd_t (inB_t hv), Int.toNat_natCast, lotsOf_get hv]
    rw [dec_t (show (0 : Int) ≤ (lotAt T v).1 from Int.natCast_nonneg v), dec_t (show (lotAt T v).1 < ((T.map (·.2.1)).length : Int) by rw [List.length_map]; show (v : Int) < _; omega)]
    simp only [cond_true, show (lotAt T v).1 = (v : Int) from rfl]
    rw [gd_t (inB_t (show v < (T.map (·.2.1)).length by rw [List.length_map]; exact hv)), Int.toNat_natCast, bat_get hv, Option.bind_some, wi_next v (by omega)]
    have hs : idxs T i (v + 1) = if frm T v = i then idxs T i v ++ [v] else idxs T i v := by
      unfold idxs
      rw [List.range_succ, List.filter_append]
      by_cases h : frm T v = i
      · rw [if_pos h]; simp [h]
      · rw [if_neg h]; simp [h]
    by_cases h : frm T v = i
    · rw [dec_t h, hs, if_pos h]
      simp only [cond_true]
      rw [gd_t (fits_t (by rw [List.length_map]; omega)), List.map_append]; rfl
    · rw [dec_f h, hs, if_neg h]; rfl) (by
    unfold lots_Of_L0
    simp only [hlen, dec_f (show ¬ (T.length : Int) < (T.length : Int) by omega), cond_false])
  rw [show ((((0 : Nat) : Int), (idxs T i 0).map (lotAt T)) : Int × List Lot) = (0, []) from rfl] at k1
  rw [k1]; rfl
theorem idxs_lt (T : List Made) (i : Int) (n : Nat) : (idxs T i n).Pairwise (· < ·) := List.Pairwise.filter _ List.pairwise_lt_range
theorem idxs_mem {T : List Made} {i : Int} {n b : Nat} : b ∈ idxs T i n ↔ b < n ∧ frm T b = i := by
  unfold idxs; rw [List.mem_filter, List.mem_range, decide_eq_true_eq]
theorem idxs_len (T : List Made) (i : Int) (n : Nat) : (idxs T i n).length ≤ n := by unfold idxs; exact Nat.le_trans (List.length_filter_le _ _) (by simp)
/-- What was seen: all of lesser ports, and those among 'some'. -/
structure Seen (T : List Made) (i : Int) (js : List Nat) (s : List Int) : Prop where
  len : s.length = T.length
  el : ∀ b, b < T.length → s.getD b 0 = if frm T b < i ∨ b ∈ js then 1 else 0
theorem port_ok {T : List Made} (hT : T.length ≤ 1000) {i : Int} {seen : List Int} (hs : Seen T i [] seen) {z : Int} :
    Ok (iter (fun x2 : Int × Int × List Int × List Lot => law29_LotsAll_L1 (T.map (·.2.1), lotsOf T, z) i x2.1 x2.2.1 x2.2.2.1 x2.2.2.2) ((-1), 0, seen, (idxs T i T.length).map (lotAt T))) fun e => ∃ s, e = .inl s ∧ Seen T (i + 1) [] s := by
  have hjl := idxs_len T i T.length
  have hjp := idxs_lt T i T.length
  have hjm : ∀ b, b ∈ idxs T i T.length ↔ b < T.length ∧ frm T b = i := fun b => idxs_mem
  generalize idxs T i T.length = js at hjl hjp hjm
  refine Ok.loop (fun x : Int × Int × List Int × List Lot => ∃ k : Nat, x.2.1 = (k : Int) ∧ k ≤ js.length ∧ x.1 < ((js.getD k T.length : Nat) : Int) ∧ Seen T i (js.take k) x.2.2.1 ∧ x.2.2.2 = js.map (lotAt T)) (fun x => js.length - x.2.1.toNat) ⟨0, rfl, by omega, by (try simp only); omega, hs, rfl⟩ ?_
  rintro ⟨last, k', s, x⟩ ⟨k, ek, hk, hlast, hs, ex⟩
  replace ek : k' = (k : Int) := ek
  replace ex : x = js.map (lotAt T) := ex
  subst ek ex
  try simp only at hlast hs
  unfold law29_LotsAll_L1
  simp only [List.length_map, lotsOf_len]
  refine Ok.bif (fun hc => ?_) fun hc => ?_
  · have hc := of_decide_eq_true hc
    have hk : k < js.length := by omega
    refine Ok.gd (inB_t hk) ?_
    rw [Int.toNat_natCast]
    have hx : (js.map (lotAt T)).getD k (0, (0, 0)) = lotAt T (js.getD k T.length) := gD_map (lotAt T) js k T.length (0, (0, 0)) hk
    rw [hx]
    have hbm := (hjm _).1 (gD_mem (d := T.length) hk)
    generalize hb : js.getD k T.length = b at hlast hbm
    obtain ⟨b1, b2⟩ := hbm
    simp only [show (lotAt T b).1 = (b : Int) from rfl]
    rw [dec_f (show ¬ (b : Int) ≤ last by omega), dec_f (show ¬ (T.length : Int) ≤ (b : Int) by omega)]
    simp only [cond_false]
    rw [gd_t (inB_t b1), gd_t (inB_t hk), Int.toNat_natCast, lotsOf_get b1, dec_t (show (lotAt T b).1 = (b : Int) from rfl), dec_t (show (lotAt T b).2.1 = (lotAt T b).2.1 from rfl), dec_t (show (lotAt T b).2.2 = (lotAt T b).2.2 from rfl)]
    simp only [Bool.and_true, Bool.not_true, cond_false]
    rw [gd_t (inB_t b1), bat_get b1, dec_t b2]
    simp only [Bool.not_true, Option.bind_some, cond_false]
    have hsl := hs.len
    refine Ok.gd (inB_t (by omega)) (Ok.gd (inB_t (by omega)) ?_)
    have hnot : b ∉ js.take k := by
      intro hm
      obtain ⟨t, ht, e⟩ := List.mem_iff_getElem.1 hm
      have ht' : t < k ∧ t < js.length := by simp at ht; omega
      have h1 : js[t] = b := by rw [← e]; simp
      have h2 : js[k] = b := by rw [← hb, gD_eq hk]
      have := List.pairwise_iff_getElem.1 hjp t k ht'.2 hk ht'.1
      omega
    have h0 : s.getD b 0 = 0 := by
      rw [hs.el b b1, if_neg (fun hh => hh.elim (fun h => by omega) hnot)]
    rw [h0, wi_next k (by omega), show wi64 (0 + 1) = 1 from rfl]
    refine .ret ⟨⟨k + 1, rfl, hk, ?_, ⟨by simp [hsl], fun c hc => ?_⟩, rfl⟩, by simp only [Int.toNat_natCast]; omega⟩
    · show (b : Int) < ((js.getD (k + 1) T.length : Nat) : Int)
      by_cases h : k + 1 < js.length
      · have := List.pairwise_iff_getElem.1 hjp k (k + 1) hk h (by omega)
        rw [gD_eq h]
        rw [gD_eq hk] at hb
        omega
      · rw [gD_out (by omega)]; omega
    · show (s.set b 1).getD c 0 = _
      rw [gD_set, take_next T.length hk, hb]
      by_cases h : b = c
      · subst h
        rw [if_pos ⟨rfl, by omega⟩, if_pos (.inr (by simp))]
      · rw [if_neg (fun hh => h hh.1), hs.el c hc]
        have : (c ∈ js.take k ++ [b]) ↔ c ∈ js.take k := by simp [Ne.symm h]
        simp only [this]
  · have hc := of_decide_eq_false hc
    refine .ret ⟨s, rfl, hs.len, fun b hb => ?_⟩
    rw [hs.el b hb, List.take_of_length_le (by omega)]
    by_cases h : frm T b < i
    · rw [if_pos (.inl h), if_pos (.inl (by omega))]
    · by_cases h2 : frm T b = i
      · rw [if_pos (.inr ((hjm b).2 ⟨hb, h2⟩)), if_pos (.inl (by omega))]
      · rw [if_neg (fun hh => hh.elim h (fun h3 => h2 ((hjm b).1 h3).2)), if_neg (fun hh => hh.elim (fun h3 => by omega) (fun h3 => by cases h3))]
theorem few_ok (l : List Int) : Ok (second_Few l) fun _ => True := by
  unfold second_Few
  exact .ret trivial
theorem all_true {l : List Int} (hl : ∀ x ∈ l, -9223372036854775808 ≤ x ∧ x ≤ 9223372036854775807) : law29_LotsAll l = some true := by
  refine Ok.true ?_
  unfold law29_LotsAll
  refine Ok.bind (few_ok l) fun r _ => ?_
  refine Ok.bif (fun _ => Ok.eq awake_true (.ret rfl)) fun _ => ?_
  obtain ⟨s, n1, n2⟩ := new_eq (l := l) hl
  refine Ok.eq n1 ?_
  refine Ok.bind (net_ok n2) ?_
  rintro ⟨n, s1, p1⟩ ⟨e, h, k, hn⟩
  replace e : s1 = s := e
  subst e
  try simp only at h hn
  refine Ok.bind (prods_ok h) ?_
  rintro ⟨s2, p2, ps⟩ ⟨e, h, hp⟩
  replace e : s2 = s1 := e
  subst e
  try simp only at h hp
  refine Ok.bind (show Ok (law29_nominations n ps s2 p2) _ from noms_ok hn hp h) ?_
  rintro ⟨s3, p3, x⟩ ⟨e, h, hxl, hx⟩
  replace e : s3 = s2 := e
  subst e
  try simp only at h hxl hx
  have b1 := hp.l1; have a6 := hn.k6; have a4 := hn.ports.len
  refine Ok.gd (inB_t (i := 0) (by (try simp only); omega)) ?_
  obtain ⟨T, t1, t2, t3⟩ := batches_ok hn hp hxl hx (order := [(ps.getD (0 : Int).toNat ([], (0, (0, (0, 0))))).1]) (by simp)
  refine Ok.eq (show lots_Batches (n.1, (n.2.1, (n.2.2.1, (n.2.2.2.1, (n.2.2.2.2.1, n.2.2.2.2.2))))) ps x _ = _ from t1) ?_
  have hlen := lotsOf_len T
  simp only [decide_true, Bool.not_true, cond_false, hlen]
  refine Ok.gd (makeG_t (by omega)) ?_
  refine Ok.bind (Q := fun e : List Int ⊕ Bool => ∃ s, e = .inl s ∧ s.length = T.length ∧ ∀ b, b < T.length → s.getD b 0 = 1) ?_ ?_
  · refine Ok.loop (fun x : Int × List Int => ∃ i : Nat, x.1 = (i : Int) ∧ i ≤ n.2.2.1.length ∧ Seen T (i : Int) [] x.2) (fun x => n.2.2.1.length - x.1.toNat) ⟨0, rfl, by omega, ⟨by simp, fun b hb => ?_⟩⟩ ?_
    · have h0 := (t3 _ (gD_mem (d := m0) hb)).1
      rw [if_neg (fun hh => hh.elim (fun h3 => by have h0 : 0 ≤ frm T b := h0; omega) (fun h3 => by cases h3))]
      rw [gD_eq (by simpa using hb)]; simp
    rintro ⟨i', seen⟩ ⟨i, ei, hi, hs⟩
    replace ei : i' = (i : Int) := ei
    subst ei
    try simp only at hs
    unfold law29_LotsAll_L0
    refine Ok.bif (fun hc => ?_) fun hc => ?_
    · have hc := of_decide_eq_true hc
      refine Ok.eq (of_ok (by omega) (i : Int)) ?_
      refine Ok.bind (port_ok (by omega) hs) ?_
      rintro e ⟨s', rfl, hs'⟩
      refine .ret ?_
      show (∃ j : Nat, wi64 ((i : Int) + 1) = (j : Int) ∧ j ≤ n.2.2.1.length ∧ Seen T (j : Int) [] s') ∧ n.2.2.1.length - (wi64 ((i : Int) + 1)).toNat < n.2.2.1.length - ((i : Int)).toNat
      rw [wi_next i (by omega)]
      try simp only at hc
      exact ⟨⟨i + 1, rfl, by omega, hs'⟩, by simp only [Int.toNat_natCast]; omega⟩
    · have hc := of_decide_eq_false hc
      refine .ret ⟨seen, rfl, hs.len, fun b hb => ?_⟩
      have h1 := (t3 _ (gD_mem (d := m0) hb)).2
      have h1 : frm T b < (n.2.2.1.length : Int) := h1
      try simp only at hc
      rw [hs.el b hb, if_pos (.inl (by omega))]
  · rintro e ⟨s, rfl, hsl, hs⟩
    refine Ok.bind (Q := fun e : Unit ⊕ Bool => ∃ u, e = .inl u) ?_ ?_
    · refine Ok.loop (fun x : Int × List Int => ∃ i : Nat, x.1 = (i : Int) ∧ x.2 = s) (fun x => s.length - x.1.toNat) ⟨0, rfl, rfl⟩ ?_
      rintro ⟨i', s'⟩ ⟨i, ei, es⟩
      replace ei : i' = (i : Int) := ei
      replace es : s' = s := es
      subst ei es
      unfold law29_LotsAll_L2
      refine Ok.bif (fun hc => ?_) fun hc => .ret ⟨(), rfl⟩
      have hc := of_decide_eq_true hc
      have hi : i < s'.length := by (try simp only at hc); omega
      refine Ok.gd (inB_t hi) ?_
      rw [Int.toNat_natCast]
      show Ok (bif !decide (s'.getD i 0 = 1) then _ else _) _
      rw [dec_t (hs i (by omega))]
      simp only [Bool.not_true, cond_false]
      rw [wi_next i (by omega)]
      exact .ret ⟨⟨i + 1, rfl, rfl⟩, by simp only [Int.toNat_natCast]; omega⟩
    · rintro e ⟨u, rfl⟩
      exact Ok.eq awake_true (.ret rfl)
end Go.Proofs.YtiojagjejddocaaGreatDoor
