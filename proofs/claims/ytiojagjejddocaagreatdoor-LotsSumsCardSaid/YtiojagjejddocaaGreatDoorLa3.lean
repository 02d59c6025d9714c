/- Lots: such a network is valid. No condition. -/
import Derived.Test.YtiojagjejddocaaGreatDoorLa2
namespace Go.Proofs.YtiojagjejddocaaGreatDoor
open Go Go.Sq

def s0 : Seg := ([], (0, (0, (0, (0, (0, []))))))
def q0 : Port := ([], (0, 0))
def t0 : Stat := ([], (0, (0, (0, 0))))
theorem wi_next (i : Nat) (h : i ≤ 1000000) : wi64 ((i : Int) + 1) = ((i + 1 : Nat) : Int) := by rw [wi (by omega)]; rfl
theorem names_eq {n : Net} (h1 : n.2.1.length ≤ 1000) (h2 : n.2.2.1.length ≤ 1000) (h3 : n.2.2.2.1.length ≤ 1000) : network_names n = some (n.1, (n.2.1.map (·.1), (n.2.2.1.map (·.1), n.2.2.2.1.map (·.1)))) := by
  unfold network_names
  have k1 := iter_for (step := fun x : Int × List (List UInt8) => network_names_L0 n x.1 x.2) n.2.1.length (fun i => ((i : Int), (n.2.1.map (·.1)).take i)) (e := n.2.1.map (·.1)) (fun i hi => by
    unfold network_names_L0
    simp only [dec_t (show (i : Int) < (n.2.1.length : Int) by omega), cond_true, gd_t (inB_t hi), Int.toNat_natCast]
    rw [gd_t (fits_t (by rw [List.length_take]; omega)), wi_next i (by omega), take_next ([] : List UInt8) (by simpa using hi), gD_map (·.1) n.2.1 i s0 [] hi]; rfl) (by
    unfold network_names_L0
    simp only [dec_f (show ¬ (n.2.1.length : Int) < (n.2.1.length : Int) by omega), cond_false]
    rw [List.take_of_length_le (by simp)])
  rw [show ((((0 : Nat) : Int), (n.2.1.map (·.1)).take 0) : Int × List (List UInt8)) = (0, []) from rfl] at k1
  rw [k1, Option.bind_some]
  generalize n.2.1.map (·.1) = A
  have k2 := iter_for (step := fun x : Int × List (List UInt8) × List (List UInt8) => network_names_L1 n x.1 x.2.1 x.2.2) n.2.2.1.length (fun i => ((i : Int), A, (n.2.2.1.map (·.1)).take i)) (e := (A, n.2.2.1.map (·.1))) (fun i hi => by
    unfold network_names_L1
    simp only [dec_t (show (i : Int) < (n.2.2.1.length : Int) by omega), cond_true, gd_t (inB_t hi), Int.toNat_natCast]
    rw [gd_t (fits_t (by rw [List.length_take]; omega)), wi_next i (by omega), take_next ([] : List UInt8) (by simpa using hi), gD_map (·.1) n.2.2.1 i q0 [] hi]; rfl) (by
    unfold network_names_L1
    simp only [dec_f (show ¬ (n.2.2.1.length : Int) < (n.2.2.1.length : Int) by omega), cond_false]
    rw [List.take_of_length_le (by simp)])
  rw [show ((((0 : Nat) : Int), A, (n.2.2.1.map (·.1)).take 0) : Int × List (List UInt8) × List (List UInt8)) = (0, A, []) from rfl] at k2
  rw [k2, Option.bind_some]
  simp only
  generalize n.2.2.1.map (·.1) = B
  have k3 := iter_for (step := fun x : Int × List (List UInt8) × List (List UInt8) × List (List UInt8) => network_names_L2 n x.1 x.2.1 x.2.2.1 x.2.2.2) n.2.2.2.1.length (fun i => ((i : Int), A, B, (n.2.2.2.1.map (·.1)).take i)) (e := (A, B, n.2.2.2.1.map (·.1))) (fun i hi => by
    unfold network_names_L2
    simp only [dec_t (show (i : Int) < (n.2.2.2.1.length : Int) by omega), cond_true, gd_t (inB_t hi), Int.toNat_natCast]
    rw [gd_t (fits_t (by rw [List.length_take]; omega)), wi_next i (by omega), take_next ([] : List UInt8) (by simpa using hi), gD_map (·.1) n.2.2.2.1 i t0 [] hi]; rfl) (by
    unfold network_names_L2
    simp only [dec_f (show ¬ (n.2.2.2.1.length : Int) < (n.2.2.2.1.length : Int) by omega), cond_false]
    rw [List.take_of_length_le (by simp)])
  rw [show ((((0 : Nat) : Int), A, B, (n.2.2.2.1.map (·.1)).take 0) : Int × List (List UInt8) × List (List UInt8) × List (List UInt8)) = (0, A, B, []) from rfl] at k3
  rw [k3]; rfl

/-- The first place of what stands at i, in a list without doubles. -/
theorem index_nodup {l : List (List UInt8)} (h : l.Nodup) (hl : l.length ≤ 1000) {i : Nat} (hi : i < l.length) : slices_Index_string_string l (l.getD i []) = some (i : Int) := by
  have key : Ok (slices_Index_string_string l (l.getD i [])) fun r => r = (i : Int) := by
    unfold slices_Index_string_string
    refine Ok.bind (Q := fun e : Unit ⊕ Int => e = .inr (i : Int)) ?_ fun e he => ?_
    · refine Ok.loop (fun v : Int => ∃ k : Nat, v = (k : Int) ∧ k ≤ i) (fun v => l.length - v.toNat) ⟨0, rfl, by omega⟩ ?_
      rintro v ⟨k, rfl, hk⟩
      unfold slices_Index_string_string_L0
      rw [dec_t (show (k : Int) < (l.length : Int) by omega), gd_t (inB_t (show k < l.length by omega)), Int.toNat_natCast]
      simp only [cond_true]
      refine Ok.bif (fun hb => ?_) fun hb => ?_
      · have hb := of_decide_eq_true hb
        have : i = k := by
          have h1 : l[i]? = l[k]? := by
            rw [List.getElem?_eq_getElem hi, List.getElem?_eq_getElem (show k < l.length by omega), ← gD_eq (d := []) hi, ← gD_eq (d := []) (show k < l.length by omega), hb]
          exact (List.getElem?_inj hi h).1 h1
        subst this
        exact .ret rfl
      · have hb := of_decide_eq_false hb
        have hne : k ≠ i := fun e => hb (by rw [e])
        rw [wi_next k (by omega)]
        exact .ret ⟨⟨k + 1, rfl, by omega⟩, by simp only [Int.toNat_natCast]; omega⟩
    · subst he; exact .ret rfl
  obtain ⟨r, h1, h2⟩ := key
  rw [h1, h2]

section
variable {k : Nat} {n : Net}
theorem limits_ok (h : NetP k n) : network_limits n = some true := by
  have a1 := h.k2; have a2 := h.k6; have a3 := h.segs.len; have a4 := h.ports.len; have a5 := h.stats.len
  have a0 : n.1.length = k := by rw [h.nodes, nms_len]
  unfold network_limits
  rw [dec_f (show ¬ (n.1.length : Int) < 1 by omega), dec_f (show ¬ (24 : Int) < (n.1.length : Int) by omega), dec_f (show ¬ (32 : Int) < (n.2.1.length : Int) by omega), dec_f (show ¬ (24 : Int) < (n.2.2.1.length : Int) by omega), dec_f (show ¬ (12 : Int) < (n.2.2.2.1.length : Int) by omega)]
  simp only [cond_false, Option.bind_some]
  rw [cont_api_Segment_api_Segment n.2.1 _ (fun x hx => ?_) (by omega)]
  · rfl
  · have := h.segs.rng x hx
    have b1 := this.pts.l2; have b2 := this.pts.l8
    show (network_limits_1 x).bind (fun y => some y) = _
    unfold network_limits_1
    rw [dec_f (show ¬ (x.2.2.2.2.2.2.length : Int) < 2 by omega), dec_f (show ¬ (8 : Int) < (x.2.2.2.2.2.2.length : Int) by omega)]; rfl
theorem all_names (h : NetP k n) : network_names n = some (nms 110 k, (nms 103 n.2.1.length, (nms 113 n.2.2.1.length, nms 115 n.2.2.2.1.length))) := by
  have a2 := h.k6; have a3 := h.segs.len; have a4 := h.ports.len; have a5 := h.stats.len
  rw [names_eq (by omega) (by omega) (by omega), h.nodes, h.segs.nam, h.ports.nam, h.stats.nam]
theorem four {A : Type} {P : A → Prop} {a b c d : A} {i : Nat} (hi : i < 4) (z : A) (ha : P a) (hb : P b) (hc : P c) (hd : P d) : P ([a, b, c, d].getD i z) := by
  match i, hi with
  | 0, _ => exact ha
  | 1, _ => exact hb
  | 2, _ => exact hc
  | 3, _ => exact hd
def NmL (l : List (List UInt8)) : Prop := ∃ c, c ∈ [(110 : UInt8), 103, 113, 115, 112] ∧ ∃ m, m ≤ 26 ∧ l = nms c m
theorem nmL (c : UInt8) (hc : c ∈ [(110 : UInt8), 103, 113, 115, 112]) {m : Nat} (hm : m ≤ 26) : NmL (nms c m) := ⟨c, hc, m, hm, rfl⟩
theorem check_names (h : NetP k n) : iter (fun x : Int => network_Check_L0 (nms 110 k, (nms 103 n.2.1.length, (nms 113 n.2.2.1.length, nms 115 n.2.2.2.1.length))) x) 0 = some (.inl ()) := by
  have a2 := h.k6; have a3 := h.segs.len; have a4 := h.ports.len; have a5 := h.stats.len
  refine iter_for (step := fun x : Int => network_Check_L0 _ x) 4 (fun i => (i : Int)) (fun i hi => ?_) rfl
  have hf : NmL ([nms 110 k, nms 103 n.2.1.length, nms 113 n.2.2.1.length, nms 115 n.2.2.2.1.length].getD i []) := four hi [] (nmL 110 (by decide) (by omega)) (nmL 103 (by decide) (by omega)) (nmL 113 (by decide) (by omega)) (nmL 115 (by decide) (by omega))
  unfold network_Check_L0
  simp only [dec_t (show (i : Int) < 4 by omega), cond_true, gd_t (inB_t hi), Int.toNat_natCast]
  obtain ⟨c, hc, m, hm, hl⟩ := hf
  rw [hl, cont_string_string _ _ (fun x hx => ?_) (by rw [nms_len]; omega)]
  · simp only [Option.bind_some, cond_false]
    rw [wi_next i (by omega)]
  · obtain ⟨j, hj, rfl⟩ := nms_mem hx
    show (network_Check_1 (nm c j)).bind (fun y => some y) = _
    unfold network_Check_1
    rw [nm_ok c hc j (by omega)]; rfl
theorem twice_ok (h : NetP k n) : network_twice n = some false := by
  have a2 := h.k6; have a3 := h.segs.len; have a4 := h.ports.len; have a5 := h.stats.len
  unfold network_twice
  rw [show network_names (n.1, (n.2.1, (n.2.2.1, (n.2.2.2.1, (n.2.2.2.2.1, n.2.2.2.2.2))))) = _ from all_names h, Option.bind_some]
  have k1 : iter (fun x2 : Int => network_twice_L0 (nms 110 k, (nms 103 n.2.1.length, (nms 113 n.2.2.1.length, nms 115 n.2.2.2.1.length))) x2) 0 = some (.inl ()) := by
    refine iter_for (step := fun x : Int => network_twice_L0 _ x) 4 (fun i => (i : Int)) (fun i hi => ?_) rfl
    have hf : NmL ([nms 110 k, nms 103 n.2.1.length, nms 113 n.2.2.1.length, nms 115 n.2.2.2.1.length].getD i []) := four hi [] (nmL 110 (by decide) (by omega)) (nmL 103 (by decide) (by omega)) (nmL 113 (by decide) (by omega)) (nmL 115 (by decide) (by omega))
    obtain ⟨c, hc, m, hm, hl⟩ := hf
    unfold network_twice_L0
    simp only [dec_t (show (i : Int) < 4 by omega), cond_true, gd_t (inB_t hi)]
    have k2 : iter (fun x : Int => network_twice_L1 (nms 110 k, (nms 103 n.2.1.length, (nms 113 n.2.2.1.length, nms 115 n.2.2.2.1.length))) (i : Int) x) 0 = some (.inl ()) := by
      refine iter_for (step := fun x : Int => network_twice_L1 _ (i : Int) x) m (fun j => (j : Int)) (fun j hj => ?_) ?_
      · unfold network_twice_L1
        simp only [Int.toNat_natCast, hl, nms_len, dec_t (show (j : Int) < (m : Int) by omega), cond_true, gd_t (inB_t hj)]
        rw [index_nodup (nms_nodup c hm) (by rw [nms_len]; omega) (by rw [nms_len]; exact hj), Option.bind_some, dec_f (show ¬ (j : Int) < (j : Int) by omega), wi_next j (by omega)]; rfl
      · unfold network_twice_L1
        simp only [Int.toNat_natCast, hl, nms_len, dec_f (show ¬ (m : Int) < (m : Int) by omega), cond_false]
    rw [k2]
    show some (Sum.inl (wi64 ((i : Int) + 1))) = _
    rw [wi_next i (by omega)]
  rw [k1]
  have k3 : iter (fun x3 : Int => network_twice_L2 n x3) 0 = some (.inl ()) := by
    refine iter_for (step := fun x : Int => network_twice_L2 n x) n.2.2.2.1.length (fun j => (j : Int)) (fun j hj => ?_) ?_
    · unfold network_twice_L2
      simp only [dec_t (show (j : Int) < (n.2.2.2.1.length : Int) by omega), cond_true, gd_t (inB_t hj), Int.toNat_natCast]
      obtain ⟨r, q1, q2⟩ := has_api_Station_api_Station n.2.2.2.1 (fun x => decide (x.2.1 = (n.2.2.2.1.getD j t0).2.1)) (fun h => (network_twice_1 h.1 ((n.2.2.2.1.getD j ([], (0, (0, (0, 0))))).1, (((n.2.2.2.1.getD j ([], (0, (0, (0, 0))))).2).1, ((((n.2.2.2.1.getD j ([], (0, (0, (0, 0))))).2).2).1, (((((n.2.2.2.1.getD j ([], (0, (0, (0, 0))))).2).2).2).1, ((((n.2.2.2.1.getD j ([], (0, (0, (0, 0))))).2).2).2).2))))).bind fun y => some y) (fun x => rfl) (by omega) t0 rfl
      have hr : ¬ r < (j : Int) := by
        rcases q2 with ⟨_, q2⟩ | ⟨i, i1, rfl, i2, i3⟩
        · have := q2 j hj; simp at this
        · intro hlt
          have hlt : i < j := by omega
          have e := of_decide_eq_true i2
          have hd := h.stats.dif
          have g1 : (n.2.2.2.1.map (·.2.1))[i]? = (n.2.2.2.1.map (·.2.1))[j]? := by
            rw [List.getElem?_map, List.getElem?_map, List.getElem?_eq_getElem i1, List.getElem?_eq_getElem hj]
            rw [gD_eq i1, gD_eq hj] at e
            simp [e]
          have := (List.getElem?_inj (by simpa using i1) hd).1 g1
          omega
      rw [q1, Option.bind_some, dec_f hr, wi_next j (by omega)]; rfl
    · unfold network_twice_L2
      simp only [dec_f (show ¬ (n.2.2.2.1.length : Int) < (n.2.2.2.1.length : Int) by omega), cond_false]
  show (iter (fun x3 : Int => network_twice_L2 n x3) 0).bind _ = _
  rw [k3]; rfl
end
end Go.Proofs.YtiojagjejddocaaGreatDoor
