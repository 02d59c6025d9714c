/- The law LotsPumped: pumping, in plain Lean. No condition. -/
import Derived.Test.YtiojagjejddocaaDoorLe
import Derived.Test.YtiojagjejddocaaDoorSqZ
namespace Go.Proofs.YtiojagjejddocaaDoor
open Go Go.Sq

/-- A lot: its batch, its volume, what is done. -/
abbrev Lot := Int × Int × Int
def l0 : Lot := (0, (0, 0))

theorem idx_ok (s : List Lot) (p : Lot → Bool) (f : Lot × Unit → Option Bool) (hf : ∀ x, f (x, ()) = some (p x)) (hl : s.length ≤ 1000) :
    Ok (slices_IndexFunc_api_Lot_api_Lot s f) fun r => (r = -1 ∧ ∀ i, i < s.length → p (s.getD i l0) = false) ∨ ∃ k : Nat, k < s.length ∧ r = (k : Int) ∧ p (s.getD k l0) = true ∧ ∀ i, i < k → p (s.getD i l0) = false := by
  unfold slices_IndexFunc_api_Lot_api_Lot
  refine Ok.bind (Q := fun e : Unit ⊕ Int => (∃ u, e = .inl u ∧ ∀ i, i < s.length → p (s.getD i l0) = false) ∨ ∃ k : Nat, e = .inr (k : Int) ∧ k < s.length ∧ p (s.getD k l0) = true ∧ ∀ i, i < k → p (s.getD i l0) = false) ?_ fun e he => ?_
  · refine Ok.loop (fun v : Int => ∃ k : Nat, v = (k : Int) ∧ k ≤ s.length ∧ ∀ i, i < k → p (s.getD i l0) = false) (fun v => s.length - v.toNat) ⟨0, rfl, by omega, fun i hi => by omega⟩ ?_
    rintro v ⟨k, rfl, hk, hp⟩
    unfold slices_IndexFunc_api_Lot_api_Lot_L0
    refine Ok.bif (fun hc => ?_) fun hc => ?_
    · have hc := of_decide_eq_true hc
      have hk : k < s.length := by omega
      refine Ok.gd (inB_t hk) ?_
      refine Ok.eq (hf _) ?_
      rw [Int.toNat_natCast]
      refine Ok.bif (fun hb => ?_) fun hb => ?_
      · exact .ret (.inr ⟨k, rfl, hk, hb, hp⟩)
      · refine .ret ⟨⟨k + 1, ?_, by omega, fun i hi => ?_⟩, ?_⟩
        · rw [show wi64 ((k : Int) + 1) = ((k + 1 : Nat) : Int) by rw [wi (by omega)]; rfl]
        · rcases Nat.lt_or_ge i k with h | h
          · exact hp i h
          · obtain rfl : i = k := by omega
            exact hb
        · rw [show wi64 ((k : Int) + 1) = ((k + 1 : Nat) : Int) by rw [wi (by omega)]; rfl]
          simp only [Int.toNat_natCast]; omega
    · have hc := of_decide_eq_false hc
      exact .ret (.inl ⟨(), rfl, fun i hi => hp i (by omega)⟩)
  · rcases he with ⟨u, rfl, h⟩ | ⟨k, rfl, h1, h2, h3⟩
    · exact .ret (.inl ⟨rfl, h⟩)
    · exact .ret (.inr ⟨k, h1, rfl, h2, h3⟩)

/-- The first lot that is not pumped. -/
def open' (x : Lot) : Bool := decide (x.2.2 < x.2.1)
theorem head_ok (l : List Lot) (hl : l.length ≤ 1000) :
    Ok (lots_Head l) fun r => (r = (0, false) ∧ ∀ i, i < l.length → open' (l.getD i l0) = false) ∨ ∃ k : Nat, k < l.length ∧ r = ((k : Int), true) ∧ open' (l.getD k l0) = true ∧ ∀ i, i < k → open' (l.getD i l0) = false := by
  unfold lots_Head
  refine Ok.bind (idx_ok l open' _ (fun x => rfl) hl) fun r hr => ?_
  rcases hr with ⟨rfl, h⟩ | ⟨k, h1, rfl, h2, h3⟩
  · exact .ret (.inl ⟨rfl, h⟩)
  · refine .ret (.inr ⟨k, h1, ?_, h2, h3⟩)
    rw [dec_t (show (0 : Int) ≤ (k : Int) by omega)]
    congr 1

/-- What lots there are. -/
structure LotP (m : Nat) (r : Int) (l : List Lot) : Prop where
  len : l.length = m
  lot : ∀ i, i < m → (l.getD i l0).1 = (i : Int) ∧ 0 ≤ (l.getD i l0).2.1 ∧ (l.getD i l0).2.1 < 5000 ∧ 0 ≤ (l.getD i l0).2.2 ∧ ((l.getD i l0).2.2 = 0 ∨ (l.getD i l0).2.2 < (l.getD i l0).2.1 + r)
/-- What is left to do. -/
def left' (l : List Lot) : Nat := (l.map fun x => (x.2.1 - x.2.2).toNat).sum

theorem sum_set (f : Lot → Nat) (y : Lot) : ∀ (l : List Lot) (k : Nat), k < l.length → ((l.set k y).map f).sum + f (l.getD k l0) = (l.map f).sum + f y
  | [], k, h => by simp at h
  | x :: l, 0, _ => by simp [List.getD]; omega
  | x :: l, k + 1, h => by
    have := sum_set f y l k (by simpa using h)
    simp [List.getD] at this ⊢
    omega

theorem clone_ok (l : List Lot) (hl : l.length ≤ 12) : slices_Clone_api_Lot_api_Lot l = some l := by
  unfold slices_Clone_api_Lot_api_Lot
  have hf : fits (0 + l.length) 24 = true := fits_t (by omega)
  rw [hf]
  cases l with
  | nil =>
    show bothO (some []) (some ([] ++ [])) = _
    unfold bothO; simp
  | cons x l => rfl

theorem wrong_ok (n : Int) (h0 : 0 ≤ n) (h1 : n ≤ 1099511627776) : lots_Pump_1 n = some false := by
  unfold lots_Pump_1
  rw [dec_f (show ¬ n < 0 by omega), dec_f (show ¬ (1099511627776 : Int) < n by omega)]; rfl

/-- One pump. -/
def pumped (l : List Lot) (k : Nat) (r : Int) : List Lot := l.set k ((l.getD k l0).1, ((l.getD k l0).2.1, (l.getD k l0).2.2 + r))
theorem pump_ok {m : Nat} {r : Int} {l : List Lot} (h : LotP m r l) (hm : m ≤ 12) (hr : 1 ≤ r ∧ r ≤ 1000) :
    Ok (lots_Pump l r) fun q => ((∀ i, i < m → open' (l.getD i l0) = false) ∧ q.1 = 0 ∧ q.2.1 = 8) ∨ ∃ k : Nat, k < m ∧ open' (l.getD k l0) = true ∧ (∀ i, i < k → open' (l.getD i l0) = false) ∧ q = ((k : Int), 0, pumped l k r) := by
  have hlen := h.len
  unfold lots_Pump
  refine Ok.eq (clone_ok l (by omega)) ?_
  rw [dec_f (show ¬ r < 1 by omega), dec_f (show ¬ (1000 : Int) < r by omega)]
  simp only [cond_false, Option.bind_some]
  refine Ok.bind (Q := fun b => b = false) ?_ fun b hb => ?_
  · unfold slices_ContainsFunc_api_Lot_api_Lot
    have hf : ∀ x : Lot, ((fun h : Lot × Unit => (lots_Pump_2 h.1 ()).bind fun y => some y) (x, ())) = some ((decide (x.2.1 < 0) || decide (1099511627776 < x.2.1)) || (decide (x.2.2 < 0) || decide (1099511627776 < x.2.2))) := by
      intro x
      show (lots_Pump_2 x ()).bind (fun y => some y) = _
      unfold lots_Pump_2 lots_Pump_1
      by_cases a1 : x.2.1 < 0
      · rw [dec_t a1]; rfl
      · by_cases a2 : (1099511627776 : Int) < x.2.1
        · rw [dec_f a1, dec_t a2]; rfl
        · by_cases a3 : x.2.2 < 0
          · rw [dec_f a1, dec_f a2, dec_t a3]; rfl
          · rw [dec_f a1, dec_f a2, dec_f a3]; rfl
    refine Ok.bind (idx_ok l _ _ hf (by omega)) fun q hq => ?_
    rcases hq with ⟨rfl, _⟩ | ⟨k, h1, rfl, h2, _⟩
    · exact .ret rfl
    · exfalso
      obtain ⟨_, b1, b2, b3, b4⟩ := h.lot k (by omega)
      rw [dec_f (show ¬ (l.getD k l0).2.1 < 0 by omega), dec_f (show ¬ (1099511627776 : Int) < (l.getD k l0).2.1 by omega), dec_f (show ¬ (l.getD k l0).2.2 < 0 by omega), dec_f (show ¬ (1099511627776 : Int) < (l.getD k l0).2.2 by rcases b4 with b4 | b4 <;> omega)] at h2
      cases h2
  · subst hb
    simp only [cond_false]
    rw [dec_f (show ¬ (200 : Int) < (l.length : Int) by omega)]
    simp only [cond_false]
    refine Ok.bind (head_ok l (by omega)) fun q hq => ?_
    rcases hq with ⟨rfl, hno⟩ | ⟨k, h1, rfl, h2, h3⟩
    · exact .ret (.inl ⟨fun i hi => hno i (by omega), rfl, rfl⟩)
    · simp only [Bool.not_true, cond_false, Int.toNat_natCast]
      obtain ⟨b0, b1, b2, b3, b4⟩ := h.lot k (by omega)
      have hw : wi64 (((l.getD k (0, (0, 0))).2).2 + r) = (l.getD k l0).2.2 + r := wi (by show -9223372036854775808 ≤ (l.getD k l0).2.2 + r ∧ (l.getD k l0).2.2 + r ≤ 9223372036854775807; rcases b4 with b4 | b4 <;> omega)
      rw [hw]
      refine Ok.gd (inB_t h1) (Ok.gd (inB_t h1) (Ok.gd (by rw [List.length_set]; exact inB_t h1) ?_))
      refine .ret (.inr ⟨k, by omega, h2, h3, ?_⟩)
      show ((List.getD (pumped l k r) k (0, (0, 0))).1, (0 : Int), pumped l k r) = _
      have e : (List.getD (pumped l k r) k (0, (0, 0))).1 = (k : Int) := by
        unfold pumped
        rw [List.getD_eq_getElem?_getD, List.getElem?_set_self h1]
        exact b0
      rw [e]
theorem pumped_get {l : List Lot} {k : Nat} {r : Int} (hk : k < l.length) (i : Nat) : (pumped l k r).getD i l0 = if i = k then ((l.getD k l0).1, ((l.getD k l0).2.1, (l.getD k l0).2.2 + r)) else l.getD i l0 := by
  unfold pumped
  rw [List.getD_eq_getElem?_getD, List.getElem?_set]
  by_cases h : k = i
  · subst h; rw [if_pos rfl, if_pos hk, if_pos rfl]; rfl
  · rw [if_neg h, if_neg (fun e => h e.symm)]; rw [← List.getD_eq_getElem?_getD]
theorem pumped_p {m : Nat} {r : Int} {l : List Lot} (h : LotP m r l) {k : Nat} (hk : k < m) (ho : open' (l.getD k l0) = true) (hr : 1 ≤ r) : LotP m r (pumped l k r) ∧ left' (pumped l k r) < left' l := by
  have hlen := h.len
  have ho := of_decide_eq_true ho
  refine ⟨⟨by unfold pumped; rw [List.length_set]; exact hlen, fun i hi => ?_⟩, ?_⟩
  · rw [pumped_get (by omega)]
    obtain ⟨b0, b1, b2, b3, b4⟩ := h.lot i hi
    by_cases e : i = k
    · subst e
      rw [if_pos rfl]
      exact ⟨b0, b1, b2, by show 0 ≤ (l.getD i l0).2.2 + r; omega, .inr (by show (l.getD i l0).2.2 + r < (l.getD i l0).2.1 + r; omega)⟩
    · rw [if_neg e]; exact ⟨b0, b1, b2, b3, b4⟩
  · have := sum_set (fun x => (x.2.1 - x.2.2).toNat) ((l.getD k l0).1, ((l.getD k l0).2.1, (l.getD k l0).2.2 + r)) l k (by omega)
    unfold left' pumped
    simp only at this
    omega

/-! ### The lots are made -/
theorem made_ok (vs : List Int) (hv : ∀ x ∈ vs, 0 ≤ x ∧ x ≤ 65535) (hl : vs.length ≤ 12) (r : Int) (hr : 1 ≤ r) :
    Ok (iter (fun x : Int × List Lot => law29_LotsPumped_L0 vs x.1 x.2) (0, [])) fun l => LotP vs.length r l ∧ left' l ≤ 4999 * vs.length := by
  refine Ok.loop (fun x : Int × List Lot => ∃ k : Nat, x.1 = (k : Int) ∧ k ≤ vs.length ∧ LotP k r x.2 ∧ left' x.2 ≤ 4999 * k) (fun x => vs.length - x.1.toNat) ⟨0, rfl, by omega, ⟨rfl, fun i hi => by omega⟩, Nat.le_refl _⟩ ?_
  rintro ⟨i, l⟩ ⟨k, hk, hkl, hp, hs⟩
  have hk : i = (k : Int) := hk
  subst hk
  have hlen := hp.len
  simp only at hlen
  unfold law29_LotsPumped_L0
  refine Ok.bif (fun hc => ?_) fun hc => ?_
  · have hc := of_decide_eq_true hc
    have hkv : k < vs.length := by omega
    refine Ok.gd (inB_t hkv) (Ok.gd (fits_t (by simp only; omega)) ?_)
    have hx := hv (vs.getD k 0) (by rw [List.getD_eq_getElem?_getD, List.getElem?_eq_getElem hkv]; exact List.getElem_mem hkv)
    rw [Int.toNat_natCast, show wi64 (vs.getD k 0) = vs.getD k 0 from wi (by omega)]
    have ht : Int.tmod (vs.getD k 0) 5000 = vs.getD k 0 % 5000 := Int.tmod_eq_emod_of_nonneg hx.1
    rw [ht]
    have h5 : 0 ≤ vs.getD k 0 % 5000 ∧ vs.getD k 0 % 5000 < 5000 := by omega
    generalize vs.getD k 0 % 5000 = y at h5
    rw [show wi64 ((k : Int) + 1) = ((k + 1 : Nat) : Int) by rw [wi (by omega)]; rfl]
    refine .ret ⟨⟨k + 1, rfl, hkv, ⟨by simp [hlen], fun j hj => ?_⟩, ?_⟩, by simp only [Int.toNat_natCast]; omega⟩
    · by_cases e : j = k
      · subst e
        have e2 : (l ++ [((j : Int), (y, (0 : Int)))]).getD j l0 = ((j : Int), (y, 0)) := by
          rw [List.getD_eq_getElem?_getD, List.getElem?_append_right (by omega), show j - l.length = 0 by omega]; rfl
        show ((l ++ [((j : Int), (y, (0 : Int)))]).getD j l0).1 = (j : Int) ∧ _
        rw [e2]
        exact ⟨rfl, h5.1, h5.2, Int.le_refl _, .inl rfl⟩
      · have e2 : (l ++ [((k : Int), (y, (0 : Int)))]).getD j l0 = l.getD j l0 := by
          rw [List.getD_eq_getElem?_getD, List.getElem?_append_left (by omega), ← List.getD_eq_getElem?_getD]
        show ((l ++ [((k : Int), (y, (0 : Int)))]).getD j l0).1 = (j : Int) ∧ _
        rw [e2]
        exact hp.lot j (by omega)
    · have hs' : left' l ≤ 4999 * k := hs
      have e : left' (l ++ [((k : Int), (y, (0 : Int)))]) = left' l + (y - 0).toNat := by
        unfold left'; simp
      show left' (l ++ [((k : Int), (y, (0 : Int)))]) ≤ _
      rw [e]
      omega
  · have hc := of_decide_eq_false hc
    obtain rfl : k = vs.length := by omega
    exact .ret ⟨hp, hs⟩

/-! ### All is pumped -/
theorem pumped_all {rate : Int} (h0 : 0 ≤ rate ∧ rate ≤ 65535) : wi64 (1 + Int.tmod (wi64 rate) 1000) = 1 + rate % 1000 := by
  rw [show wi64 rate = rate from wi (by omega), Int.tmod_eq_emod_of_nonneg h0.1]
  exact wi (by omega)
def Done (m : Nat) (l : List Lot) : Prop := ∀ i, i < m → open' (l.getD i l0) = false
theorem loop_ok (rate : Int) (h0 : 0 ≤ rate ∧ rate ≤ 65535) (m : Nat) (hm : m ≤ 12) (l : List Lot) (hp : LotP m (1 + rate % 1000) l) (hs : left' l ≤ 4999 * m) :
    Ok (iter (fun x2 : Int × Int × List Lot => law29_LotsPumped_L1 rate x2.1 x2.2.1 x2.2.2) (0, 0, l)) fun e => match e with | .inl l => LotP m (1 + rate % 1000) l ∧ Done m l | .inr b => b = true := by
  have hr : 1 ≤ 1 + rate % 1000 ∧ 1 + rate % 1000 ≤ 1000 := by omega
  have hR := pumped_all h0
  generalize 1 + rate % 1000 = r at hr hp hR ⊢
  refine Ok.loop (fun x : Int × Int × List Lot => ∃ j n : Nat, x.1 = (j : Int) ∧ x.2.1 = (n : Int) ∧ n + left' x.2.2 ≤ 4999 * m ∧ j ≤ m ∧ LotP m r x.2.2 ∧ ∀ i, i < j → open' (x.2.2.getD i l0) = false) (fun x => left' x.2.2) ⟨0, 0, rfl, rfl, by simpa using hs, by omega, hp, fun i hi => by omega⟩ ?_
  rintro ⟨last, n, l⟩ ⟨j, n', h1, h2, h3, h4, h5, h6⟩
  have h1 : last = (j : Int) := h1
  have h2 : n = (n' : Int) := h2
  subst h1 h2
  have h3 : n' + left' l ≤ 4999 * m := h3
  have h5 : LotP m r l := h5
  have h6 : ∀ i, i < j → open' (l.getD i l0) = false := h6
  have hlen := h5.len
  unfold law29_LotsPumped_L1
  rw [dec_t (show (n' : Int) ≤ 70000 by omega)]
  simp only [cond_true, hR]
  refine Ok.bind (head_ok l (by omega)) fun q hq => ?_
  refine Ok.bind (pump_ok h5 hm hr) fun q2 hq2 => ?_
  rcases hq with ⟨rfl, hno⟩ | ⟨k, k1, rfl, k2, k3⟩
  · rcases hq2 with ⟨_, p1, p2⟩ | ⟨k', c1, c2, _⟩
    · simp only [Bool.not_false, cond_true]
      rw [dec_t p1, dec_t p2]
      simp only [Bool.not_true, cond_false, Option.bind_some]
      exact .ret ⟨h5, fun i hi => hno i (by omega)⟩
    · rw [hno k' (by omega)] at c2; cases c2
  · rcases hq2 with ⟨hno, _⟩ | ⟨k', c1, c2, c3, rfl⟩
    · rw [hno k (by omega)] at k2; cases k2
    · obtain rfl : k' = k := by
        rcases Nat.lt_trichotomy k' k with h | h | h
        · rw [k3 k' h] at c2; cases c2
        · exact h
        · rw [c3 k h] at k2; cases k2
      have hjk : j ≤ k' := by
        rcases Nat.lt_or_ge k' j with h | h
        · rw [h6 k' h] at k2; cases k2
        · exact h
      obtain ⟨d1, d2⟩ := pumped_p h5 c1 k2 hr.1
      have dl : (pumped l k' r).length = l.length := by unfold pumped; rw [List.length_set]
      have hg := pumped_get (r := r) k1 k'
      rw [if_pos rfl] at hg
      obtain ⟨b0, b1, b2, b3, b4⟩ := h5.lot k' c1
      have hw : wi64 ((((l.getD k' (0, (0, 0))).2).2) + r) = (l.getD k' l0).2.2 + r := wi (by show -9223372036854775808 ≤ (l.getD k' l0).2.2 + r ∧ (l.getD k' l0).2.2 + r ≤ 9223372036854775807; rcases b4 with b4 | b4 <;> omega)
      simp only [Bool.not_true, cond_false, decide_true]
      rw [dec_f (show ¬ (k' : Int) < (j : Int) by omega), dec_t (show ((pumped l k' r).length : Int) = (l.length : Int) by rw [dl]), gd_t (inB_t (by omega)), gd_t (inB_t k1), Int.toNat_natCast, hw]
      rw [dec_t (show (((pumped l k' r).getD k' (0, (0, 0))).2).2 = (l.getD k' l0).2.2 + r by show ((pumped l k' r).getD k' l0).2.2 = _; rw [hg])]
      simp only [Bool.not_true, cond_false, Option.bind_some]
      have next : Ok (some (Sum.inl ((k' : Int), wi64 ((n' : Int) + 1), pumped l k' r)) : Option ((Int × Int × List Lot) ⊕ (List Lot ⊕ Bool))) (fun r' => match r' with | .inl y => (∃ j n : Nat, y.1 = (j : Int) ∧ y.2.1 = (n : Int) ∧ n + left' y.2.2 ≤ 4999 * m ∧ j ≤ m ∧ LotP m r y.2.2 ∧ ∀ i, i < j → open' (y.2.2.getD i l0) = false) ∧ left' y.2.2 < left' l | .inr e => (match e with | .inl l => LotP m r l ∧ Done m l | .inr b => b = true)) := by
        refine .ret ⟨⟨k', n' + 1, rfl, by show wi64 ((n' : Int) + 1) = _; rw [wi (by omega)]; rfl, by show n' + 1 + left' (pumped l k' r) ≤ _; omega, by omega, d1, fun i hi => ?_⟩, d2⟩
        show open' ((pumped l k' r).getD i l0) = false
        rw [pumped_get k1, if_neg (by omega)]
        exact k3 i hi
      refine Ok.bind (Q := fun q => q.2 = pumped l k' r) (Ok.bif (fun _ => .ret rfl) fun _ => .ret rfl) fun q hq => ?_
      obtain ⟨b, x⟩ := q
      have hq : x = pumped l k' r := hq
      subst hq
      refine Ok.bif (fun _ => ?_) fun _ => next.mono fun r' h => ?_
      rotate_left
      · cases r' with
        | inl y => exact h
        | inr e => cases e <;> exact h
      refine Ok.eq awake_true ?_
      exact .ret rfl

theorem check_ok (rate : Int) (h0 : 0 ≤ rate ∧ rate ≤ 65535) (m : Nat) (hm : m ≤ 12) (l : List Lot) (hp : LotP m (1 + rate % 1000) l) (hd : Done m l) :
    Ok (iter (fun x3 : Int => law29_LotsPumped_L2 rate l x3) 0) fun e => ∃ u : Unit, e = .inl u := by
  have hr : 1 ≤ 1 + rate % 1000 ∧ 1 + rate % 1000 ≤ 1000 := by omega
  have hR := pumped_all h0
  generalize 1 + rate % 1000 = r at hr hp hR ⊢
  have hlen := hp.len
  refine Ok.loop (fun v : Int => ∃ k : Nat, v = (k : Int) ∧ k ≤ m) (fun v => m - v.toNat) ⟨0, rfl, by omega⟩ ?_
  rintro v ⟨k, rfl, hk⟩
  unfold law29_LotsPumped_L2
  refine Ok.bif (fun hc => ?_) fun hc => ?_
  · have hc := of_decide_eq_true hc
    have hkl : k < l.length := by omega
    obtain ⟨b0, b1, b2, b3, b4⟩ := hp.lot k (by omega)
    have hop := of_decide_eq_false (hd k (by omega))
    rw [Int.toNat_natCast]
    simp only [show ((0, (0, 0)) : Lot) = l0 from rfl, gd_t (inB_t hkl), hR]
    have hw : wi64 ((l.getD k l0).2.1 + r) = (l.getD k l0).2.1 + r := wi (by omega)
    rw [hw, dec_f hop]
    simp only [cond_false]
    refine Ok.bind (Q := fun b => b = false) ?_ fun b hb => ?_
    · refine Ok.bif (fun hc2 => ?_) fun _ => .ret rfl
      have hc2 := of_decide_eq_true hc2
      refine .ret (dec_f ?_)
      rcases b4 with b4 | b4 <;> omega
    · subst hb
      simp only [cond_false]
      rw [show wi64 ((k : Int) + 1) = ((k + 1 : Nat) : Int) by rw [wi (by omega)]; rfl]
      exact .ret ⟨⟨k + 1, rfl, by omega⟩, by simp only [Int.toNat_natCast]; omega⟩
  · exact .ret ⟨(), rfl⟩

theorem pumped_true {vs : List Int} {rate : Int} (hv : ∀ x ∈ vs, 0 ≤ x ∧ x ≤ 65535) (h0 : 0 ≤ rate ∧ rate ≤ 65535) : law29_LotsPumped vs rate = some true := by
  refine Ok.true ?_
  unfold law29_LotsPumped
  refine Ok.bif (fun _ => ?_) fun hc => ?_
  · exact Ok.eq awake_true (.ret rfl)
  · have hc := of_decide_eq_false hc
    have hl : vs.length ≤ 12 := by omega
    refine Ok.bind (made_ok vs hv hl (1 + rate % 1000) (by omega)) fun l hq => ?_
    refine Ok.bind (loop_ok rate h0 vs.length hl l hq.1 hq.2) fun e he => ?_
    cases e with
    | inr b => exact .ret he
    | inl l =>
      refine Ok.bind (check_ok rate h0 vs.length hl l he.1 he.2) fun e he => ?_
      obtain ⟨u, rfl⟩ := he
      exact Ok.eq awake_true (.ret rfl)
end Go.Proofs.YtiojagjejddocaaDoor
