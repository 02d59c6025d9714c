/- Lots: such a network is valid, part 2. No condition. -/
import Derived.Test.YtiojagjejddocaaGreatDoorLa3
namespace Go.Proofs.YtiojagjejddocaaGreatDoor
open Go Go.Sq

theorem in_ok {x a b : Int} (h : a ≤ x ∧ x ≤ b) : network_in x a b = some true := by
  unfold network_in
  rw [dec_t h.1, dec_t h.2]; rfl
section
variable {k : Nat} {n : Net}
theorem known_ok (h : NetP k n) : network_known n = some true := by
  have a1 := h.k2; have a2 := h.k6; have a3 := h.segs.len; have a4 := h.ports.len; have a5 := h.stats.len
  have a0 : n.1.length = k := by rw [h.nodes, nms_len]
  have key : Ok (network_known n) fun r => r = true := by
    unfold network_known
    refine Ok.bind (Q := fun l : List Int => l.length ≤ 16 ∧ ∀ x ∈ l, 0 ≤ x ∧ x < (k : Int)) ?_ ?_
    · refine Ok.loop (fun x : Int × List Int => ∃ i : Nat, x.1 = (i : Int) ∧ i ≤ n.2.1.length ∧ x.2.length = 2 * i ∧ ∀ y ∈ x.2, 0 ≤ y ∧ y < (k : Int)) (fun x => n.2.1.length - x.1.toNat) ⟨0, rfl, by omega, rfl, fun y hy => by cases hy⟩ ?_
      rintro ⟨i', l⟩ ⟨i, ei, hi, hl, hx⟩
      replace ei : i' = (i : Int) := ei
      subst ei
      replace hl : l.length = 2 * i := hl
      unfold network_known_L0
      refine Ok.bif (fun hc => ?_) fun hc => ?_
      · have hc := of_decide_eq_true hc
        have hi : i < n.2.1.length := by (try simp only at hc); omega
        refine Ok.gd (inB_t hi) (Ok.gd (fits_t (by (try simp only); omega)) ?_)
        have hs := h.segs.rng _ (gD_mem (d := s0) hi)
        rw [Int.toNat_natCast]
        show Ok (some (Sum.inl (wi64 ((i : Int) + 1), l ++ [(n.2.1.getD i s0).2.1, (n.2.1.getD i s0).2.2.1]))) _
        rw [wi_next i (by omega)]
        refine .ret ⟨⟨i + 1, rfl, hi, by simp [hl]; omega, fun y hy => ?_⟩, by simp only [Int.toNat_natCast]; omega⟩
        rcases List.mem_append.1 hy with hy | hy
        · exact hx y hy
        · have f0 := hs.f0; have f1 := hs.f1; have t0 := hs.t0; have t1 := hs.t1
          simp only [List.mem_cons, List.not_mem_nil, or_false] at hy
          rcases hy with rfl | rfl
          · exact ⟨f0, f1⟩
          · exact ⟨t0, t1⟩
      · exact .ret ⟨by (try simp only); omega, hx⟩
    rintro l ⟨hl, hx⟩
    refine Ok.bind (Q := fun l : List Int => l.length ≤ 24 ∧ ∀ x ∈ l, 0 ≤ x ∧ x < (k : Int)) ?_ ?_
    · refine Ok.loop (fun x : Int × List Int => ∃ i : Nat, x.1 = (i : Int) ∧ i ≤ n.2.2.1.length ∧ x.2.length ≤ 16 + i ∧ ∀ y ∈ x.2, 0 ≤ y ∧ y < (k : Int)) (fun x => n.2.2.1.length - x.1.toNat) ⟨0, rfl, by omega, by (try simp only); omega, hx⟩ ?_
      rintro ⟨i', l⟩ ⟨i, ei, hi, hl, hx⟩
      replace ei : i' = (i : Int) := ei
      subst ei
      replace hl : l.length ≤ 16 + i := hl
      unfold network_known_L1
      refine Ok.bif (fun hc => ?_) fun hc => ?_
      · have hc := of_decide_eq_true hc
        have hi : i < n.2.2.1.length := by (try simp only at hc); omega
        refine Ok.gd (inB_t hi) (Ok.gd (fits_t (by (try simp only); omega)) ?_)
        have hs := h.ports.rng _ (gD_mem (d := q0) hi)
        rw [Int.toNat_natCast]
        show Ok (some (Sum.inl (wi64 ((i : Int) + 1), l ++ [(n.2.2.1.getD i q0).2.1]))) _
        rw [wi_next i (by omega)]
        refine .ret ⟨⟨i + 1, rfl, hi, by simp; omega, fun y hy => ?_⟩, by simp only [Int.toNat_natCast]; omega⟩
        rcases List.mem_append.1 hy with hy | hy
        · exact hx y hy
        · rw [List.mem_singleton.1 hy]; exact ⟨hs.1, hs.2.1⟩
      · exact .ret ⟨by (try simp only); omega, hx⟩
    rintro l ⟨hl, hx⟩
    refine Ok.bind (Q := fun l : List Int => l.length ≤ 40 ∧ ∀ x ∈ l, 0 ≤ x ∧ x < (k : Int)) ?_ ?_
    · refine Ok.loop (fun x : Int × List Int => ∃ i : Nat, x.1 = (i : Int) ∧ i ≤ n.2.2.2.1.length ∧ x.2.length ≤ 24 + i ∧ ∀ y ∈ x.2, 0 ≤ y ∧ y < (k : Int)) (fun x => n.2.2.2.1.length - x.1.toNat) ⟨0, rfl, by omega, by (try simp only); omega, hx⟩ ?_
      rintro ⟨i', l⟩ ⟨i, ei, hi, hl, hx⟩
      replace ei : i' = (i : Int) := ei
      subst ei
      replace hl : l.length ≤ 24 + i := hl
      unfold network_known_L2
      refine Ok.bif (fun hc => ?_) fun hc => ?_
      · have hc := of_decide_eq_true hc
        have hi : i < n.2.2.2.1.length := by (try simp only at hc); omega
        refine Ok.gd (inB_t hi) (Ok.gd (fits_t (by (try simp only); omega)) ?_)
        have hs := h.stats.rng _ (gD_mem (d := t0) hi)
        rw [Int.toNat_natCast]
        show Ok (some (Sum.inl (wi64 ((i : Int) + 1), l ++ [(n.2.2.2.1.getD i t0).2.1]))) _
        rw [wi_next i (by omega)]
        refine .ret ⟨⟨i + 1, rfl, hi, by simp; omega, fun y hy => ?_⟩, by simp only [Int.toNat_natCast]; omega⟩
        rcases List.mem_append.1 hy with hy | hy
        · exact hx y hy
        · rw [List.mem_singleton.1 hy]; exact ⟨hs.1, hs.2.1⟩
      · exact .ret ⟨by (try simp only); omega, hx⟩
    rintro l ⟨hl, hx⟩
    rw [cont_int_int l _ (fun x hx' => ?_) (by omega)]
    · exact .ret rfl
    · have := hx x hx'
      show (network_known_1 x n).bind (fun y => some y) = _
      unfold network_known_1
      rw [dec_f (show ¬ x < 0 by omega), dec_f (show ¬ ((n.1.length : Nat) : Int) ≤ x by omega)]; rfl
  obtain ⟨r, h1, h2⟩ := key
  rw [h1, h2]
theorem pipe_ok {s : Seg} (h : SegP k s) : network_pipe s = some true := by
  have a1 := h.pts.l2; have a2 := h.pts.l8
  unfold network_pipe
  rw [dec_f h.ne, in_ok h.cap, in_ok h.res, in_ok h.wav]
  simp only [cond_false, Option.bind_some, Bool.not_true]
  have k1 : iter (fun x : Int => network_pipe_L0 s x) 0 = some (.inl ()) := by
    refine iter_for (step := fun x : Int => network_pipe_L0 s x) s.2.2.2.2.2.2.length (fun j => (j : Int)) (fun j hj => ?_) ?_
    · unfold network_pipe_L0
      have hr := h.pts.rng _ (gD_mem (d := p0) hj)
      simp only [dec_t (show (j : Int) < (s.2.2.2.2.2.2.length : Int) by omega), cond_true, gd_t (inB_t hj), Int.toNat_natCast, show ((0, (0, 0)) : Pt) = p0 from rfl]
      rw [in_ok ⟨hr.1, hr.2.1⟩, in_ok ⟨hr.2.2.1, hr.2.2.2⟩]
      simp only [Option.bind_some, Bool.not_true, cond_false]
      cases j with
      | zero =>
        rw [dec_f (show ¬ (0 : Int) < ((0 : Nat) : Int) by omega), wi_next 0 (by omega)]; rfl
      | succ j =>
        have hi := h.pts.inc j hj
        rw [dec_t (show (0 : Int) < ((j + 1 : Nat) : Int) by omega), show wi64 (((j + 1 : Nat) : Int) - 1) = (j : Int) by rw [wi (by omega)]; omega]
        simp only [cond_true, gd_t (inB_t (show j < s.2.2.2.2.2.2.length by omega)), Int.toNat_natCast]
        rw [dec_f (show ¬ (s.2.2.2.2.2.2.getD (j + 1) p0).1 ≤ (s.2.2.2.2.2.2.getD j p0).1 by omega), wi_next (j + 1) (by omega)]; rfl
    · unfold network_pipe_L0
      simp only [dec_f (show ¬ (s.2.2.2.2.2.2.length : Int) < (s.2.2.2.2.2.2.length : Int) by omega), cond_false]
  rw [k1]
  show (gd (inB 0 s.2.2.2.2.2.2.length) _) = _
  have e0 : inB 0 s.2.2.2.2.2.2.length = true := inB_t (i := 0) (by omega)
  rw [gd_t e0, show ((0, (0, 0)) : Pt) = p0 from rfl, dec_t h.pts.fst]
  simp only [cond_true]
  rw [show wi64 ((s.2.2.2.2.2.2.length : Int) - 1) = ((s.2.2.2.2.2.2.length - 1 : Nat) : Int) by rw [wi (by omega)]; omega, gd_t (inB_t (show s.2.2.2.2.2.2.length - 1 < s.2.2.2.2.2.2.length by omega)), Int.toNat_natCast, dec_t h.pts.lst]
theorem proper_ok (h : NetP k n) : network_proper n = some true := by
  have a3 := h.segs.len; have a4 := h.ports.len; have a5 := h.stats.len; have a2 := h.k6
  unfold network_proper
  rw [cont_api_Segment_api_Segment n.2.1 _ (fun x hx => by
    show (network_proper_1 x).bind (fun y => some y) = _
    unfold network_proper_1
    rw [show network_pipe (x.1, (x.2.1, (x.2.2.1, (x.2.2.2.1, (x.2.2.2.2.1, (x.2.2.2.2.2.1, x.2.2.2.2.2.2)))))) = some true from pipe_ok (h.segs.rng x hx)]; rfl) (by omega)]
  simp only [Option.bind_some, cond_false]
  rw [cont_api_Port_api_Port n.2.2.1 _ (fun x hx => by
    have := h.ports.rng x hx
    show (network_proper_2 x).bind (fun y => some y) = _
    unfold network_proper_2
    rw [in_ok ⟨this.2.2.1, this.2.2.2⟩]; rfl) (by omega)]
  simp only [Option.bind_some, cond_false]
  rw [cont_api_Station_api_Station n.2.2.2.1 _ (fun x hx => by
    have := h.stats.rng x hx
    show (network_proper_3 x).bind (fun y => some y) = _
    unfold network_proper_3
    rw [in_ok this.2.2.1, in_ok this.2.2.2.1, in_ok this.2.2.2.2]; rfl) (by omega)]
  simp only [Option.bind_some, cond_false]
  rw [in_ok h.vap, in_ok h.set]; rfl
theorem net_check (h : NetP k n) : network_Check n = some 0 := by
  unfold network_Check
  rw [show network_limits (n.1, (n.2.1, (n.2.2.1, (n.2.2.2.1, (n.2.2.2.2.1, n.2.2.2.2.2))))) = _ from limits_ok h, Option.bind_some]
  simp only [Bool.not_true, cond_false]
  rw [show network_names (n.1, (n.2.1, (n.2.2.1, (n.2.2.2.1, (n.2.2.2.2.1, n.2.2.2.2.2))))) = _ from all_names h, Option.bind_some, check_names h]
  show (network_twice n).bind _ = _
  rw [twice_ok h]
  show (network_known n).bind _ = _
  rw [known_ok h]
  show (network_proper n).bind _ = _
  rw [proper_ok h]; rfl
end

/-! ### Products -/
abbrev Prod' := List UInt8 × Int × Int × Int × Int
def r0 : Prod' := ([], (0, (0, (0, 0))))
structure ProdsP (l : List Prod') : Prop where
  l1 : 1 ≤ l.length
  l4 : l.length ≤ 4
  nam : l.map (·.1) = nms 112 l.length
  rng : ∀ x ∈ l, (400 ≤ x.2.1 ∧ x.2.1 ≤ 1200) ∧ (0 ≤ x.2.2.1 ∧ x.2.2.1 ≤ 2000) ∧ (0 ≤ x.2.2.2.1 ∧ x.2.2.2.1 ≤ 5000) ∧ (1 ≤ x.2.2.2.2 ∧ x.2.2.2.2 ≤ 2000)
theorem prod_ok {s : List Int} {p : Int} (i : Nat) (hi : i < 26) (h : SrcOk s p) : Ok (keep_Src_Product (i : Int) s p) fun q => q.2.1 = s ∧ SrcOk s q.2.2 ∧ q.1.1 = nm 112 i ∧ (400 ≤ q.1.2.1 ∧ q.1.2.1 ≤ 1200) ∧ (0 ≤ q.1.2.2.1 ∧ q.1.2.2.1 ≤ 2000) ∧ (0 ≤ q.1.2.2.2.1 ∧ q.1.2.2.2.1 ≤ 5000) ∧ (1 ≤ q.1.2.2.2.2 ∧ q.1.2.2.2.2 ≤ 2000) := by
  unfold keep_Src_Product
  refine Ok.eq (name_eq 112 i hi) ?_
  refine Ok.bind (srcR h (by omega) (by omega) (by omega)) ?_
  rintro ⟨d, s1, p1⟩ ⟨e, h, d0, d1⟩
  replace e : s1 = s := e
  subst e
  try simp only at h d0 d1
  refine Ok.bind (srcP h (by simp) (by simp)) ?_
  rintro ⟨a, s2, p2⟩ ⟨e, h, ha⟩
  replace e : s2 = s1 := e
  subst e
  try simp only at h ha
  refine Ok.bind (srcP h (by simp) (by simp)) ?_
  rintro ⟨b, s3, p3⟩ ⟨e, h, hb⟩
  replace e : s3 = s2 := e
  subst e
  try simp only at h hb
  refine Ok.bind (srcP h (by simp) (by simp)) ?_
  rintro ⟨c, s4, p4⟩ ⟨e, h, hc⟩
  replace e : s4 = s3 := e
  subst e
  try simp only at h hc
  simp at ha hb hc
  exact .ret ⟨rfl, h, rfl, ⟨d0, d1⟩, by (try simp only); omega, by (try simp only); omega, by (try simp only); omega⟩
theorem prods_ok {s : List Int} {p : Int} (h : SrcOk s p) : Ok (keep_Src_Products s p) fun q => q.1 = s ∧ SrcOk s q.2.1 ∧ ProdsP q.2.2 := by
  unfold keep_Src_Products
  refine Ok.bind (srcR h (by omega) (by omega) (by omega)) ?_
  rintro ⟨m, s1, p1⟩ ⟨e, h, m0, m1⟩
  replace e : s1 = s := e
  subst e
  try simp only at h m0 m1
  refine Ok.bind (Q := fun q : List Int × Int × List Prod' => q.1 = s1 ∧ SrcOk s1 q.2.1 ∧ ProdsP q.2.2) ?_ ?_
  · refine Ok.loop (fun x : Int × List Int × Int × List Prod' => x.2.1 = s1 ∧ SrcOk s1 x.2.2.1 ∧ 0 ≤ x.1 ∧ x.1 + x.2.2.2.length = m ∧ x.2.2.2.map (·.1) = nms 112 x.2.2.2.length ∧ ∀ y ∈ x.2.2.2, (400 ≤ y.2.1 ∧ y.2.1 ≤ 1200) ∧ (0 ≤ y.2.2.1 ∧ y.2.2.1 ≤ 2000) ∧ (0 ≤ y.2.2.2.1 ∧ y.2.2.2.1 ≤ 5000) ∧ (1 ≤ y.2.2.2.2 ∧ y.2.2.2.2 ≤ 2000)) (fun x => x.1.toNat) ⟨rfl, h, by (try simp only); omega, by simp, rfl, fun y hy => by cases hy⟩ ?_
    rintro ⟨i, s2, p2, l⟩ ⟨e, h, hi, hm, hn, hr⟩
    replace e : s2 = s1 := e
    subst e
    try simp only at h hi hm hn hr
    unfold keep_Src_Products_L0
    try simp only
    refine Ok.bif (fun hc => ?_) fun hc => ?_
    · have hc := of_decide_eq_true hc
      refine Ok.bind (prod_ok l.length (by omega) h) ?_
      rintro ⟨x, s3, p3⟩ ⟨e, h, hx, hxr⟩
      replace e : s3 = s2 := e
      subst e
      try simp only at h hx hxr
      refine Ok.gd (fits_t (by omega)) ?_
      rw [show wi64 (i - 1) = i - 1 from wi (by omega)]
      show Ok (some (Sum.inl (i - 1, s3, p3, l ++ [x]))) _
      refine .ret ⟨⟨rfl, h, by (try simp only); omega, by simp; omega, ?_, fun y hy => ?_⟩, by (try simp only); omega⟩
      · simp only [List.map_append, hn, List.length_append]
        show _ = nms 112 (l.length + 1)
        rw [nms_next]; simp [hx]
      · rcases List.mem_append.1 hy with hy | hy
        · exact hr y hy
        · rw [List.mem_singleton.1 hy]; exact hxr
    · have hc := of_decide_eq_false hc
      exact .ret ⟨rfl, h, ⟨by (try simp only); omega, by (try simp only); omega, hn, hr⟩⟩
  rintro ⟨s2, p2, l⟩ ⟨e, h, hl⟩
  exact .ret ⟨e, h, hl⟩
theorem valid_ok {x : Prod'} (i : Nat) (hi : i < 26) (hn : x.1 = nm 112 i) (hr : (400 ≤ x.2.1 ∧ x.2.1 ≤ 1200) ∧ (0 ≤ x.2.2.1 ∧ x.2.2.1 ≤ 2000) ∧ (0 ≤ x.2.2.2.1 ∧ x.2.2.2.1 ≤ 5000) ∧ (1 ≤ x.2.2.2.2 ∧ x.2.2.2.2 ≤ 2000)) : product_Valid x = some true := by
  obtain ⟨hr1, hr2, hr3, hr4⟩ := hr
  unfold product_Valid product_numbers
  simp only [Option.bind_some]
  have k1 : iter (fun z : Int => product_Valid_L0 (x.2.1, (x.2.2.1, (x.2.2.2.1, x.2.2.2.2))) z) 0 = some (.inl ()) := by
    refine iter_for (step := fun z : Int => product_Valid_L0 _ z) 4 (fun j => (j : Int)) (fun j hj => ?_) rfl
    unfold product_Valid_L0
    simp only [dec_t (show (j : Int) < 4 by omega), cond_true, gd_t (inB_t hj), Int.toNat_natCast]
    rw [wi_next j (by omega)]
    match j, hj with
    | 0, _ => simp only [List.getD_cons_zero]; rw [dec_f (show ¬ x.2.1 < 400 by omega), dec_f (show ¬ (1200 : Int) < x.2.1 by omega)]; rfl
    | 1, _ => simp only [List.getD_cons_succ, List.getD_cons_zero]; rw [dec_f (show ¬ x.2.2.1 < 0 by omega), dec_f (show ¬ (2000 : Int) < x.2.2.1 by omega)]; rfl
    | 2, _ => simp only [List.getD_cons_succ, List.getD_cons_zero]; rw [dec_f (show ¬ x.2.2.2.1 < 0 by omega), dec_f (show ¬ (5000 : Int) < x.2.2.2.1 by omega)]; rfl
    | 3, _ => simp only [List.getD_cons_succ, List.getD_cons_zero]; rw [dec_f (show ¬ x.2.2.2.2 < 1 by omega), dec_f (show ¬ (2000 : Int) < x.2.2.2.2 by omega)]; rfl
  rw [k1]
  show (lines_Name x.1).bind _ = _
  rw [hn, nm_ok 112 (by decide) i hi]; rfl
end Go.Proofs.YtiojagjejddocaaGreatDoor
