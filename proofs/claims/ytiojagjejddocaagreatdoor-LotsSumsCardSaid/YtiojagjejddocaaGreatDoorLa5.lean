/- Lots: products and nominations that are made of numbers are valid. No condition. -/
import Derived.Test.YtiojagjejddocaaGreatDoorLa4
namespace Go.Proofs.YtiojagjejddocaaGreatDoor
open Go Go.Sq

/-- The place of a name among names without doubles. -/
theorem nms_get {A : Type} {l : List A} {f : A → List UInt8} {c : UInt8} (h : l.map f = nms c l.length) {i : Nat} (hi : i < l.length) (d : A) : f (l.getD i d) = nm c i := by
  have h1 : (l.map f)[i]? = (nms c l.length)[i]? := by rw [h]
  unfold nms at h1
  rw [List.getElem?_map, List.getElem?_map, List.getElem?_eq_getElem hi, List.getElem?_range hi] at h1
  rw [gD_eq hi]
  simpa using h1
theorem pfind_ok {l : List Prod'} (h : l.map (·.1) = nms 112 l.length) (hl : l.length ≤ 26) {i : Nat} (hi : i < l.length) : product_Find l (nm 112 i) = some (i : Int) := by
  unfold product_Find
  obtain ⟨r, q1, q2⟩ := has_api_Product_api_Product l (fun x => decide (x.1 = nm 112 i)) (fun h => (product_Find_1 h.1 (nm 112 i)).bind fun y => some y) (fun x => rfl) (by omega) r0 rfl
  rw [q1]
  rcases q2 with ⟨_, q2⟩ | ⟨k, k1, rfl, k2, k3⟩
  · have := of_decide_eq_false (q2 i hi)
    exact absurd (nms_get h hi r0) this
  · have e := of_decide_eq_true k2
    rw [nms_get (f := fun x : Prod' => x.1) h k1 r0] at e
    have := nm_inj (by omega) (by omega) e
    subst this; rfl
theorem qfind_ok {k : Nat} {n : Net} (h : NetP k n) {i : Nat} (hi : i < n.2.2.1.length) : network_Port n (nm 113 i) = some (i : Int) := by
  have a2 := h.k6; have a4 := h.ports.len
  unfold network_Port
  obtain ⟨r, q1, q2⟩ := has_api_Port_api_Port n.2.2.1 (fun x => decide (x.1 = nm 113 i)) (fun h => (network_Port_1 h.1 (nm 113 i)).bind fun y => some y) (fun x => rfl) (by omega) q0 rfl
  rw [q1]
  rcases q2 with ⟨_, q2⟩ | ⟨j, k1, rfl, k2, k3⟩
  · have := of_decide_eq_false (q2 i hi)
    exact absurd (nms_get h.ports.nam hi q0) this
  · have e := of_decide_eq_true k2
    rw [nms_get (f := fun x : Port => x.1) h.ports.nam k1 q0] at e
    have := nm_inj (by omega) (by omega) e
    subst this; rfl
theorem prod_check {l : List Prod'} (h : ProdsP l) : product_Check l = some 0 := by
  have a1 := h.l4
  unfold product_Check
  rw [dec_f (show ¬ (16 : Int) < (l.length : Int) by omega)]
  simp only [cond_false]
  have k1 : iter (fun x : Int => product_Check_L0 l x) 0 = some (.inl ()) := by
    refine iter_for (step := fun x : Int => product_Check_L0 l x) l.length (fun j => (j : Int)) (fun j hj => ?_) ?_
    · unfold product_Check_L0
      simp only [dec_t (show (j : Int) < (l.length : Int) by omega), cond_true, gd_t (inB_t hj), Int.toNat_natCast]
      rw [show product_Valid ((l.getD j ([], (0, (0, (0, 0))))).1, (((l.getD j ([], (0, (0, (0, 0))))).2).1, ((((l.getD j ([], (0, (0, (0, 0))))).2).2).1, (((((l.getD j ([], (0, (0, (0, 0))))).2).2).2).1, ((((l.getD j ([], (0, (0, (0, 0))))).2).2).2).2)))) = some true from valid_ok j (by omega) (nms_get h.nam hj r0) (h.rng _ (gD_mem (d := r0) hj)), wi_next j (by omega)]; rfl
    · unfold product_Check_L0
      simp only [dec_f (show ¬ (l.length : Int) < (l.length : Int) by omega), cond_false]
  rw [k1]
  have k2 : iter (fun x : Int => product_Check_L1 l x) 0 = some (.inl ()) := by
    refine iter_for (step := fun x : Int => product_Check_L1 l x) l.length (fun j => (j : Int)) (fun j hj => ?_) ?_
    · unfold product_Check_L1
      simp only [dec_t (show (j : Int) < (l.length : Int) by omega), cond_true, gd_t (inB_t hj), Int.toNat_natCast]
      rw [show (l.getD j ([], (0, (0, (0, 0))))).1 = nm 112 j from nms_get h.nam hj r0, pfind_ok h.nam (by omega) hj, Option.bind_some, dec_f (show ¬ (j : Int) < (j : Int) by omega), wi_next j (by omega)]; rfl
    · unfold product_Check_L1
      simp only [dec_f (show ¬ (l.length : Int) < (l.length : Int) by omega), cond_false]
  show (iter (fun x : Int => product_Check_L1 l x) 0).bind _ = _
  rw [k2]; rfl

/-! ### Nominations -/
def n0 : Nom := ([], ([], ([], ([], (0, 0)))))
/-- A nomination among m products and q ports. -/
structure NomP (m q : Nat) (x : Nom) : Prop where
  shi : x.1 = [97] ∨ x.1 = [98] ∨ x.1 = [99]
  pro : ∃ i, i < m ∧ x.2.1 = nm 112 i
  frm : ∃ i, i < q ∧ x.2.2.1 = nm 113 i
  to : ∃ i, i < q ∧ x.2.2.2.1 = nm 113 i
  ne : x.2.2.1 ≠ x.2.2.2.1
  cyc : 0 ≤ x.2.2.2.2.1 ∧ x.2.2.2.2.1 ≤ 2
  vol : 1 ≤ x.2.2.2.2.2 ∧ x.2.2.2.2.2 ≤ 500
theorem srcT {l : List (List UInt8)} {s : List Int} {p : Int} (h : SrcOk s p) (h1 : l ≠ []) (h2 : l.length ≤ 1000000) : Ok (keep_Src_Text l s p) fun q => q.2.1 = s ∧ SrcOk s q.2.2 ∧ q.1 ∈ l := by
  have hp := List.length_pos_iff.2 h1
  unfold keep_Src_Text
  refine Ok.bind (srcN h (n := (l.length : Int)) (by omega) (by omega)) ?_
  rintro ⟨r, s1, p1⟩ ⟨e, h, r0, r1⟩
  try simp only at h r0 r1
  obtain ⟨i, rfl⟩ : ∃ n : Nat, r = (n : Int) := ⟨r.toNat, by omega⟩
  have hi : i < l.length := by omega
  refine Ok.gd (inB_t hi) (.ret ⟨e, h, ?_⟩)
  rw [Int.toNat_natCast]; exact gD_mem hi
theorem noms_ok {k : Nat} {n : Net} {ps : List Prod'} (hn : NetP k n) (hp : ProdsP ps) {s : List Int} {p : Int} (h : SrcOk s p) :
    Ok (law29_nominations n ps s p) fun q => q.1 = s ∧ SrcOk s q.2.1 ∧ q.2.2.length ≤ 14 ∧ ∀ x ∈ q.2.2, NomP ps.length n.2.2.1.length x := by
  have a2 := hn.k6; have a4 := hn.ports.len; have b1 := hp.l1; have b4 := hp.l4; have hports := hn.some'
  unfold law29_nominations
  refine Ok.bind (srcN h (n := 14) (by omega) (by omega)) ?_
  rintro ⟨m, s1, p1⟩ ⟨e, h, m0, m1⟩
  replace e : s1 = s := e
  subst e
  try simp only at h m0 m1
  refine Ok.bind (Q := fun q : List Int × Int × List Nom => q.1 = s1 ∧ SrcOk s1 q.2.1 ∧ q.2.2.length ≤ 14 ∧ ∀ x ∈ q.2.2, NomP ps.length n.2.2.1.length x) ?_ ?_
  · refine Ok.loop (fun x : Int × List Int × Int × List Nom => x.2.1 = s1 ∧ SrcOk s1 x.2.2.1 ∧ 0 ≤ x.1 ∧ x.1 + x.2.2.2.length ≤ 14 ∧ ∀ y ∈ x.2.2.2, NomP ps.length n.2.2.1.length y) (fun x => x.1.toNat) ⟨rfl, h, by (try simp only); omega, by simp; omega, fun y hy => by cases hy⟩ ?_
    rintro ⟨i, s2, p2, l⟩ ⟨e, h, hi, hm, hr⟩
    replace e : s2 = s1 := e
    subst e
    try simp only at h hi hm hr
    unfold law29_nominations_L0
    try simp only
    refine Ok.bif (fun hc => ?_) fun hc => ?_
    · have hc := of_decide_eq_true hc
      refine Ok.bind (srcT h (by simp) (by simp)) ?_
      rintro ⟨sh, s3, p3⟩ ⟨e, h, hsh⟩
      replace e : s3 = s2 := e
      subst e
      try simp only at h hsh
      refine Ok.bind (srcN h (n := (ps.length : Int)) (by omega) (by omega)) ?_
      rintro ⟨a, s4, p4⟩ ⟨e, h, a0, a1⟩
      replace e : s4 = s3 := e
      subst e
      try simp only at h a0 a1
      obtain ⟨a, rfl⟩ : ∃ n : Nat, a = (n : Int) := ⟨a.toNat, by omega⟩
      have ha : a < ps.length := by omega
      refine Ok.gd (inB_t ha) ?_
      refine Ok.bind (srcN h (n := (n.2.2.1.length : Int)) (by omega) (by omega)) ?_
      rintro ⟨b, s5, p5⟩ ⟨e, h, b0, b1⟩
      replace e : s5 = s4 := e
      subst e
      try simp only at h b0 b1
      obtain ⟨b, rfl⟩ : ∃ n : Nat, b = (n : Int) := ⟨b.toNat, by omega⟩
      have hb : b < n.2.2.1.length := by omega
      refine Ok.gd (inB_t hb) ?_
      refine Ok.bind (srcN h (n := 3) (by omega) (by omega)) ?_
      rintro ⟨cy, s6, p6⟩ ⟨e, h, c0, c1⟩
      replace e : s6 = s5 := e
      subst e
      try simp only at h c0 c1
      refine Ok.bind (srcR h (lo := 1) (hi := 500) (by omega) (by omega) (by omega)) ?_
      rintro ⟨v, s7, p7⟩ ⟨e, h, v0, v1⟩
      replace e : s7 = s6 := e
      subst e
      try simp only at h v0 v1
      refine Ok.bind (srcN h (n := (n.2.2.1.length : Int)) (by omega) (by omega)) ?_
      rintro ⟨d, s8, p8⟩ ⟨e, h, d0, d1⟩
      replace e : s8 = s7 := e
      subst e
      try simp only at h d0 d1
      obtain ⟨d, rfl⟩ : ∃ n : Nat, d = (n : Int) := ⟨d.toNat, by omega⟩
      have hd : d < n.2.2.1.length := by omega
      refine Ok.gd (inB_t hd) ?_
      simp only [Int.toNat_natCast]
      have nb : (n.2.2.1.getD b ([], (0, 0))).1 = nm 113 b := nms_get (f := fun x : Port => x.1) hn.ports.nam hb q0
      have nd : (n.2.2.1.getD d ([], (0, 0))).1 = nm 113 d := nms_get (f := fun x : Port => x.1) hn.ports.nam hd q0
      have nz : (n.2.2.1.getD 0 ([], (0, 0))).1 = nm 113 0 := nms_get (f := fun x : Port => x.1) hn.ports.nam (by omega) q0
      have nl : (n.2.2.1.getD (n.2.2.1.length - 1) ([], (0, 0))).1 = nm 113 (n.2.2.1.length - 1) := nms_get (f := fun x : Port => x.1) hn.ports.nam (by omega) q0
      have na : (ps.getD a ([], (0, (0, (0, 0))))).1 = nm 112 a := nms_get (f := fun x : Prod' => x.1) hp.nam ha r0
      simp only [nb, nd, na]
      refine Ok.bind (Q := fun q : List UInt8 × List UInt8 × List Nom => (∃ i, i < n.2.2.1.length ∧ q.1 = nm 113 i) ∧ (∃ i, i < n.2.2.1.length ∧ q.2.1 = nm 113 i) ∧ q.1 ≠ q.2.1 ∧ q.2.2 = l) (Ok.bif (fun _ => ?_) fun hne => ?_) ?_
      · refine Ok.gd (inB_t (i := 0) (by omega)) ?_
        rw [show wi64 ((n.2.2.1.length : Int) - 1) = ((n.2.2.1.length - 1 : Nat) : Int) by rw [wi (by omega)]; omega]
        refine Ok.gd (inB_t (by omega)) ?_
        rw [Int.toNat_natCast, nz, nl]
        refine .ret ⟨⟨_, by omega, rfl⟩, ⟨0, by omega, rfl⟩, fun e => ?_, rfl⟩
        have := nm_inj (by omega) (by omega) e
        omega
      · have hne := of_decide_eq_false hne
        exact .ret ⟨⟨b, hb, rfl⟩, ⟨d, hd, rfl⟩, fun e => hne e.symm, rfl⟩
      rintro ⟨f, t, l'⟩ ⟨hf, ht, hft, e⟩
      replace e : l' = l := e
      subst e
      try simp only at hf ht hft
      refine Ok.gd (fits_t (by (try simp only); omega)) ?_
      rw [show wi64 (i - 1) = i - 1 from wi (by omega)]
      refine .ret ⟨⟨rfl, h, by (try simp only); omega, by simp; omega, fun y hy => ?_⟩, by (try simp only); omega⟩
      rcases List.mem_append.1 hy with hy | hy
      · exact hr y hy
      · rw [List.mem_singleton.1 hy]
        exact ⟨by simpa using hsh, ⟨a, ha, rfl⟩, hf, ht, hft, by (try simp only); omega, by (try simp only); omega⟩
    · exact .ret ⟨rfl, h, by (try simp only); omega, hr⟩
  rintro ⟨s2, p2, l⟩ ⟨e, h, hl⟩
  exact .ret ⟨e, h, hl⟩
theorem ship_ok {x : List UInt8} (h : x = [97] ∨ x = [98] ∨ x = [99]) : lines_Name x = some true := by
  rcases h with rfl | rfl | rfl
  · exact le_lines_Name _ _ (by decide +kernel)
  · exact le_lines_Name _ _ (by decide +kernel)
  · exact le_lines_Name _ _ (by decide +kernel)
theorem nvalid_ok {m q : Nat} (hm : m ≤ 26) (hq : q ≤ 26) {x : Nom} (h : NomP m q x) : nomination_valid x = some true := by
  unfold nomination_valid
  have k1 : iter (fun z : Int => nomination_valid_L0 x z) 0 = some (.inl ()) := by
    refine iter_for (step := fun z : Int => nomination_valid_L0 x z) 4 (fun j => (j : Int)) (fun j hj => ?_) rfl
    unfold nomination_valid_L0
    have hf : lines_Name ([x.1, x.2.1, x.2.2.1, x.2.2.2.1].getD j []) = some true := by
      obtain ⟨i1, h1, e1⟩ := h.pro
      obtain ⟨i2, h2, e2⟩ := h.frm
      obtain ⟨i3, h3, e3⟩ := h.to
      exact four (P := fun z => lines_Name z = some true) hj [] (ship_ok h.shi) (by rw [e1]; exact nm_ok 112 (by decide) i1 (by omega)) (by rw [e2]; exact nm_ok 113 (by decide) i2 (by omega)) (by rw [e3]; exact nm_ok 113 (by decide) i3 (by omega))
    simp only [show (([x.1, x.2.1, x.2.2.1, x.2.2.2.1].length : Nat) : Int) = 4 from rfl, dec_t (show (j : Int) < 4 by omega), cond_true, Int.toNat_natCast]
    rw [gd_t (inB_t (show j < [x.1, x.2.1, x.2.2.1, x.2.2.2.1].length from hj)), hf, Option.bind_some, wi_next j (by omega)]; rfl
  have hc := h.cyc
  have hv := h.vol
  rw [k1]
  show (bif !decide (x.2.2.1 = x.2.2.2.1) then _ else _) = _
  rw [dec_f h.ne, dec_t (show 0 ≤ x.2.2.2.2.1 by omega), dec_t (show x.2.2.2.2.1 ≤ 1000000 by omega), dec_t (show 1 ≤ x.2.2.2.2.2 by omega), dec_t (show x.2.2.2.2.2 ≤ 1099511627776 by omega)]; rfl
theorem ncheck_ok {m q : Nat} (hm : m ≤ 26) (hq : q ≤ 26) {l : List Nom} (hl : l.length ≤ 14) (h : ∀ x ∈ l, NomP m q x) : nomination_Check l = some 0 := by
  unfold nomination_Check
  rw [dec_f (show ¬ (400 : Int) < (l.length : Int) by omega)]
  simp only [cond_false]
  rw [cont_api_Nomination_api_Nomination l _ (fun x hx => ?_) (by omega)]
  · rfl
  · show (nomination_Check_1 x).bind (fun y => some y) = _
    unfold nomination_Check_1
    rw [show nomination_valid (x.1, (x.2.1, (x.2.2.1, (x.2.2.2.1, (x.2.2.2.2.1, x.2.2.2.2.2))))) = some true from nvalid_ok hm hq (h x hx)]; rfl
end Go.Proofs.YtiojagjejddocaaGreatDoor
