/- The laws AccountParts and AccountOrder. No condition. -/
import Derived.Test.YtmleldfhkangbaaAc5
namespace Go.Proofs.Ytmleldfhkangbaa
open Go Go.Sq

theorem parts_L2 {a c : List Acc} {m : Nat} {b : Bool} (hm : m < a.length) (hc : c.length ≤ 100000) (h : b = true ∨ a.getD m d0 ∈ c) : iter (fun x : Bool × Int × List Acc => law39_AccountParts_L2 a (m : Int) x.1 x.2.1 x.2.2) (b, 0, c) = some (true, c) := by
  have key : Ok (iter (fun x : Bool × Int × List Acc => law39_AccountParts_L2 a (m : Int) x.1 x.2.1 x.2.2) (b, 0, c)) fun e => e = (true, c) := by
    refine Ok.loop (fun x => ∃ (f : Bool) (o : Nat), x = (f, (o : Int), c) ∧ o ≤ c.length ∧ (f = true ∨ ∃ k, o ≤ k ∧ k < c.length ∧ c.getD k d0 = a.getD m d0)) (fun x => ((c.length : Int) - x.2.1).toNat) ⟨b, 0, rfl, by omega, ?_⟩ ?_
    · rcases h with h | h
      · exact .inl h
      · obtain ⟨k, hk, e⟩ := mem_gD d0 h
        exact .inr ⟨k, by omega, hk, e⟩
    · rintro _ ⟨f, o, rfl, h1, h2⟩
      unfold law39_AccountParts_L2
      simp only
      refine Ok.bif (fun hlt => ?_) (fun hlt => Ok.ret ?_)
      · have hlt := of_decide_eq_true hlt
        have ho : o < c.length := by omega
        refine Ok.bind (Q := fun r => r.2 = c ∧ (r.1 = true ∨ ∃ k, o + 1 ≤ k ∧ k < c.length ∧ c.getD k d0 = a.getD m d0)) ?_ ?_
        · refine Ok.bif (fun _ => Ok.ret ⟨rfl, .inl rfl⟩) (fun hf => Ok.gd (inB_t ho) (Ok.gd (inB_t hm) (Ok.ret ⟨rfl, ?_⟩)))
          rcases h2 with h2 | ⟨k, k1, k2, k3⟩
          · rw [h2] at hf; cases hf
          · by_cases e : k = o
            · subst e
              left
              have e1 := congrArg (fun q : Acc => q.1) k3
              have e2 := congrArg (fun q : Acc => q.2.1) k3
              have e3 := congrArg (fun q : Acc => q.2.2.1) k3
              have e4 := congrArg (fun q : Acc => q.2.2.2.1) k3
              have e5 := congrArg (fun q : Acc => q.2.2.2.2) k3
              simp only [Int.toNat_natCast]
              rw [dec_t e1, dec_t e2, dec_t e3, dec_t e4, dec_t e5]; rfl
            · exact .inr ⟨k, by omega, k2, k3⟩
        · rintro ⟨f', c'⟩ ⟨e, h3⟩
          simp only at e
          subst e
          refine Ok.ret ?_
          simp only
          rw [wi (by omega)]
          exact ⟨⟨f', o + 1, rfl, by omega, h3⟩, by omega⟩
      · have hlt := of_decide_eq_false hlt
        rcases h2 with h2 | ⟨k, k1, k2, k3⟩
        · show (f, c) = (true, c)
          rw [h2]
        · omega
  obtain ⟨e, h1, h2⟩ := key
  rw [h1, h2]

theorem parts_L1 {r4 : List Int × Int × List Ent} {a c : List Acc} {i : Nat} (hi : i < r4.2.2.length) (ha : a.length ≤ 100000) (hc : c.length ≤ 100000) (h : ∀ q ∈ a, q.1 ≠ (r4.2.2.getD i e0).1 → q ∈ c) : iter (fun x : Int × List Acc => law39_AccountParts_L1 r4 a (i : Int) x.1 x.2) (0, c) = some (.inl c) := by
  have := iter_for (step := fun x : Int × List Acc => law39_AccountParts_L1 r4 a (i : Int) x.1 x.2) a.length (fun m => ((m : Int), c)) (e := .inl c) (fun m hm => by
      unfold law39_AccountParts_L1
      simp only [dec_t (show (m : Int) < (a.length : Int) by omega), cond_true, gd_t (inB_t hm), gd_t (inB_t hi), Int.toNat_natCast]
      rw [parts_L2 hm hc (by
        by_cases e : (a.getD m d0).1 = (r4.2.2.getD i e0).1
        · exact .inl (dec_t e)
        · exact .inr (h _ (gD_mem hm) e))]
      simp only [Option.bind_some, Bool.not_true, cond_false]
      rw [wi (by omega)]; rfl) (by
      unfold law39_AccountParts_L1
      simp only [dec_f (show ¬ (a.length : Int) < (a.length : Int) by omega), cond_false])
  simpa using this

theorem parts_true {l : List Int} {cut : Int} (hl : ∀ x ∈ l, i64P x) (hc : 0 ≤ cut ∧ cut ≤ 255) : law39_AccountParts l cut = some true := by
  refine Ok.true ?_
  unfold law39_AccountParts
  rw [few_eq]
  refine Ok.eq rfl (Ok.bif (fun _ => Ok.eq awake_true (Ok.ret rfl)) (fun _ => ?_))
  obtain ⟨s, q1, q2⟩ := new_eq hl
  refine Ok.eq q1 (Ok.bind (entries_eq q2 (by omega)) ?_)
  rintro _ ⟨p1, x, rfl, a1, a2, a3⟩
  simp only
  have e1 : wi64 ((x.length : Int) + 1) = ((x.length + 1 : Nat) : Int) := by rw [wi (by omega)]; omega
  have e2 : wi64 cut = cut := wi (by omega)
  rw [e1, e2]
  have hk : ∃ k : Nat, Int.tmod cut ((x.length + 1 : Nat) : Int) = (k : Int) ∧ k ≤ x.length := by
    have h1 := Int.tmod_nonneg ((x.length + 1 : Nat) : Int) hc.1
    have h2 := Int.tmod_lt_of_pos cut (show (0 : Int) < ((x.length + 1 : Nat) : Int) by omega)
    exact ⟨(Int.tmod cut ((x.length + 1 : Nat) : Int)).toNat, by omega, by omega⟩
  obtain ⟨k, hk1, hk2⟩ := hk
  rw [hk1]
  refine Ok.gd (by rw [dec_f (show ¬ ((x.length + 1 : Nat) : Int) = 0 by omega)]; rfl) (Ok.gd (by unfold cutG; simp only [Bool.and_eq_true, decide_eq_true_eq]; omega) ?_)
  rw [Int.toNat_natCast]
  obtain ⟨a, h1, h2⟩ := book_made (x := x.take k) (fun e he => a3 e (List.mem_of_mem_take he)) (by rw [List.length_take]; omega)
  obtain ⟨b, h3, h4⟩ := book_made a3 (by omega)
  refine Ok.eq ((book_eq _).trans (by rw [h1])) (Ok.eq ((book_eq _).trans (by rw [h3])) ?_)
  refine Ok.eq (a := false) rfl (Ok.bif (fun h => by cases h) (fun _ => ?_))
  simp only
  refine Ok.bind (Q := fun r => r = .inl b) ?_ ?_
  · refine Ok.loop (fun y => ∃ (a : List Acc) (i : Nat), y = (a, (i : Int)) ∧ i ≤ x.length ∧ BookP (x.take i) a) (fun y => ((x.length : Int) - y.2).toNat) ⟨a, k, rfl, hk2, h2⟩ ?_
    rintro _ ⟨a, i, rfl, hi, hb⟩
    unfold law39_AccountParts_L0
    simp only
    have hlen := hb.len
    rw [List.length_take] at hlen
    refine Ok.bif (fun hlt => ?_) (fun hlt => Ok.ret ?_)
    · have hlt := of_decide_eq_true hlt
      have hi' : i < x.length := by omega
      obtain ⟨r, c1, c2, c3⟩ := book_post hb (a3 _ (gD_mem (d := e0) hi')) (by rw [List.length_take]; omega)
      rw [← take_next e0 hi'] at c3
      have hr := c2.len
      refine Ok.gd (inB_t hi') ?_
      rw [Int.toNat_natCast]
      refine Ok.eq ((post_eq (by omega)).1.trans (by rw [show (([], (0, 0)) : Ent) = e0 from rfl, c1])) ?_
      simp only [decide_true, Bool.not_true]
      refine Ok.eq (a := (false, r)) ?_ (Ok.bif (fun h => by cases h) (fun _ => ?_))
      · rw [dec_f (show ¬ (r.length : Int) < (a.length : Int) by omega), wi (by omega), dec_f (show ¬ (a.length : Int) + 1 < (r.length : Int) by omega)]; rfl
      · simp only
        refine Ok.eq (parts_L1 (r4 := (s, p1, x)) (i := i) hi' (by omega) (by omega) c2.keep) (Ok.ret ?_)
        simp only [Sum.elim_inl]
        rw [wi (by omega)]
        exact ⟨⟨r, i + 1, rfl, by omega, c3⟩, by omega⟩
    · have hlt := of_decide_eq_false hlt
      rw [List.take_of_length_le (by omega)] at hb
      show Sum.inl a = Sum.inl b
      rw [hb.uniq h4 (.refl _)]
  rintro _ rfl
  refine Ok.eq (same39 ?_) (Ok.bif (fun _ => Ok.eq awake_true (Ok.ret rfl)) (fun h => by cases h))
  have := h4.len
  omega

/-! ### AccountOrder -/
def rot (x : List Ent) (t : Nat) : List Ent := (List.range x.length).map fun j => x.getD ((j + t) % x.length) e0
theorem rot_perm (x : List Ent) (t : Nat) : (rot x t).Perm x := by
  by_cases h0 : x.length = 0
  · have : x = [] := List.length_eq_zero_iff.1 h0
    subst this; exact .refl _
  have hk := Nat.mod_lt t (show 0 < x.length by omega)
  have e : rot x t = x.drop (t % x.length) ++ x.take (t % x.length) := by
    refine ext_gD e0 (by simp [rot]; omega) fun j hj => ?_
    have hj' : j < x.length := by simpa [rot] using hj
    unfold rot
    rw [gD_map (fun j => x.getD ((j + t) % x.length) e0) (List.range x.length) j 0 e0 (by simpa using hj'), gD_app, gD_drop, gD_take, List.length_drop]
    have : (List.range x.length).getD j 0 = j := by rw [gD_eq (by simpa using hj')]; simp
    rw [this, ← Nat.add_mod_mod]
    generalize t % x.length = k at hk
    by_cases hc : j < x.length - k
    · rw [if_pos hc, Nat.mod_eq_of_lt (by omega), Nat.add_comm]
    · rw [if_neg hc, if_pos (by omega), Nat.mod_eq_sub_mod (by omega), Nat.mod_eq_of_lt (by omega)]
      congr 1; omega
  rw [e]
  exact (List.perm_append_comm).trans (by rw [List.take_append_drop])
theorem gS_bd {e : Ent} (h : EntP e) : -1073741824 ≤ gS e ∧ gS e ≤ 1073741824 ∧ gS e = if e.2.1 = 1 ∨ e.2.1 = 4 then e.2.2 else -e.2.2 := by
  have h1 := h.vol
  have h2 := h.kind
  unfold gS g1 g2 g3 g4
  by_cases k1 : e.2.1 = 1
  · simp only [k1, if_pos, show ¬ (1 : Int) = 2 by omega, show ¬ (1 : Int) = 3 by omega, show ¬ (1 : Int) = 4 by omega, if_false, true_or]; omega
  by_cases k2 : e.2.1 = 2
  · simp only [k2, if_pos, show ¬ (2 : Int) = 1 by omega, show ¬ (2 : Int) = 3 by omega, show ¬ (2 : Int) = 4 by omega, if_false, or_false]; omega
  by_cases k3 : e.2.1 = 3
  · simp only [k3, if_pos, show ¬ (3 : Int) = 1 by omega, show ¬ (3 : Int) = 2 by omega, show ¬ (3 : Int) = 4 by omega, if_false, or_false]; omega
  · have k4 : e.2.1 = 4 := by omega
    simp only [k4, if_pos, show ¬ (4 : Int) = 1 by omega, show ¬ (4 : Int) = 2 by omega, show ¬ (4 : Int) = 3 by omega, if_false, or_true]; omega
theorem gS_sum {x : List Ent} (hx : ∀ e ∈ x, EntP e) (hl : x.length ≤ 60) : -64424509440 ≤ isum (x.map gS) ∧ isum (x.map gS) ≤ 64424509440 := by
  have := isum_bd (l := x.map gS) (a := -1073741824) (b := 1073741824) fun v hv => by
    obtain ⟨e, he, rfl⟩ := List.mem_map.1 hv
    have := gS_bd (hx e he)
    omega
  rw [List.length_map] at this
  omega
theorem order_L0 {x : List Ent} {t : Nat} (hx : ∀ e ∈ x, EntP e) (hl : x.length ≤ 60) (ht : t ≤ 255) : iter (fun x2 : Int × Int × List Ent × List Ent => law39_AccountOrder_L0 (t : Int) x2.1 x2.2.1 x2.2.2.1 x2.2.2.2) (0, 0, x, []) = some (isum (x.map gS), x, rot x t) := by
  have hrl : (rot x t).length = x.length := by simp [rot]
  have key := iter_for (step := fun x2 : Int × Int × List Ent × List Ent => law39_AccountOrder_L0 (t : Int) x2.1 x2.2.1 x2.2.2.1 x2.2.2.2) x.length (fun i => (isum ((x.map gS).take i), (i : Int), x, (rot x t).take i)) (e := (isum (x.map gS), x, rot x t)) (fun i hi => by
      have hm := hx _ (gD_mem (d := e0) hi)
      have b0 := gS_sum (x := x.take i) (fun e he => hx e (List.mem_of_mem_take he)) (by rw [List.length_take]; omega)
      rw [List.map_take] at b0
      have b1 := gS_bd hm
      have b2 := hm.vol
      have b3 := hm.kind
      have hmod : Int.tmod (wi64 ((i : Int) + wi64 (t : Int))) (x.length : Int) = (((i + t) % x.length : Nat) : Int) := by
        rw [show wi64 (t : Int) = (t : Int) from wi (by omega), wi (by omega)]; rfl
      have hlt := Nat.mod_lt (i + t) (show 0 < x.length by omega)
      have hyl : ((rot x t).take i).length = i := by rw [List.length_take]; omega
      have hnext : (rot x t).take (i + 1) = (rot x t).take i ++ [x.getD ((i + t) % x.length) e0] := by
        rw [take_next e0 (by omega)]
        congr 2
        unfold rot
        rw [gD_map (fun j => x.getD ((j + t) % x.length) e0) (List.range x.length) i 0 e0 (by simpa using hi)]
        rw [show (List.range x.length).getD i 0 = i by rw [gD_eq (by simpa using hi)]; simp]
      have hsum : isum ((x.map gS).take (i + 1)) = isum ((x.map gS).take i) + gS (x.getD i e0) := by
        rw [isum_next (by simpa using hi), gD_map gS x i e0 0 hi]
      unfold law39_AccountOrder_L0
      simp only [dec_t (show (i : Int) < (x.length : Int) by omega), cond_true, hmod, Int.toNat_natCast, hyl, show (([], (0, 0)) : Ent) = e0 from rfl]
      rw [gd_t (show (!decide ((x.length : Int) = 0)) = true by rw [dec_f (show ¬ (x.length : Int) = 0 by omega)]; rfl), gd_t (inB_t hlt), gd_t (fits_t (by omega)), gd_t (inB_t hi), hnext, hsum]
      by_cases k1 : (x.getD i e0).2.1 = 1
      · have e := b1.2.2
        rw [if_pos (.inl k1)] at e
        simp only [dec_t k1, cond_true, Option.bind_some, gd_t (inB_t hi), Int.toNat_natCast]
        rw [wi (by omega), wi (by omega), e]; rfl
      · by_cases k4 : (x.getD i e0).2.1 = 4
        · have e := b1.2.2
          rw [if_pos (.inr k4)] at e
          simp only [dec_f k1, dec_t k4, cond_false, cond_true, Option.bind_some, gd_t (inB_t hi), Int.toNat_natCast]
          rw [wi (by omega), wi (by omega), e]; rfl
        · have e := b1.2.2
          rw [if_neg (by omega)] at e
          simp only [dec_f k1, dec_f k4, cond_false, Option.bind_some, gd_t (inB_t hi), Int.toNat_natCast]
          rw [wi (by omega), wi (by omega), e, Int.sub_eq_add_neg]; rfl) (by
      unfold law39_AccountOrder_L0
      simp only [dec_f (show ¬ (x.length : Int) < (x.length : Int) by omega), cond_false]
      rw [List.take_of_length_le (by simp), List.take_of_length_le (by omega)])
  simpa [isum] using key

theorem book_stock {x : List Ent} {a : List Acc} (h : BookP x a) : stockP (sumA a) = isum (x.map gS) := by
  rw [← stocks_sum, ← h.sum _ _ linS]; rfl

theorem aorder_true {l : List Int} {turn : Int} (hl : ∀ x ∈ l, i64P x) (ht : 0 ≤ turn ∧ turn ≤ 255) : law39_AccountOrder l turn = some true := by
  obtain ⟨t, rfl⟩ : ∃ t : Nat, turn = (t : Int) := ⟨turn.toNat, by omega⟩
  refine Ok.true ?_
  unfold law39_AccountOrder
  rw [few_eq]
  refine Ok.eq rfl (Ok.bif (fun _ => Ok.eq awake_true (Ok.ret rfl)) (fun _ => ?_))
  obtain ⟨s, q1, q2⟩ := new_eq hl
  refine Ok.eq q1 (Ok.bind (entries_eq q2 (by omega)) ?_)
  rintro _ ⟨p1, x, rfl, a1, a2, a3⟩
  simp only
  refine Ok.eq (order_L0 a3 (by omega) (by omega)) ?_
  simp only
  obtain ⟨a, h1, h2⟩ := book_made a3 (by omega)
  obtain ⟨b, h3, h4⟩ := book_made (x := rot x t) (fun e he => a3 e ((rot_perm x t).mem_iff.1 he)) (by simp [rot]; omega)
  obtain rfl := h2.uniq h4 (rot_perm x t).symm
  have hal := h2.len
  refine Ok.eq ((book_eq _).trans (by rw [h1])) (Ok.eq ((book_eq _).trans (by rw [h3])) (Ok.eq ((sum_eq (by simp only; omega)).trans (by rw [if_pos (validB_iff.2 h2.valid)])) ?_))
  refine Ok.bif (fun _ => Ok.bif (fun _ => Ok.bif (fun _ => Ok.eq (same39 (by simp only; omega)) (Ok.bif (fun _ => Ok.eq ((valid_eq (by simp only; omega)).trans (by rw [validB_iff.2 h2.valid])) (Ok.bif (fun _ => ?_) (fun h => by cases h))) (fun h => by cases h))) (fun h => by cases h)) (fun h => by cases h)) (fun h => by cases h)
  refine Ok.eq (stock_eq (sumA_bd h2.valid)).1 ?_
  rw [book_stock h2]
  exact Ok.bif (fun _ => Ok.eq awake_true (Ok.ret rfl)) (fun h => absurd rfl (of_decide_eq_false h))
end Go.Proofs.Ytmleldfhkangbaa
