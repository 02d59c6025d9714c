/- The laws NominationTotals and NominationParts, in plain Lean. No condition. -/
import Derived.Test.YtnilkkggnffklaaGreatDoorNm4
namespace Go.Proofs.YtnilkkggnffklaaGreatDoor
open Go Go.Sq
set_option linter.unusedVariables false
theorem TotP.eq_of {l T T0 : List Nom} (h : TotP l T) (h0 : T0.Pairwise fun x y => ncmp x y < 0) (hk : ∀ key, (∃ x ∈ T0, nkey x = key) ↔ ∃ x ∈ l, nkey x = key) (hv : ∀ x ∈ T0, x.2.2.2.2.2 = sumK (nkey x) l) : T = T0 := by
  have hs := h.strict
  have nd : ∀ {L : List Nom}, (L.Pairwise fun x y => ncmp x y < 0) → L.Nodup := fun hp => hp.imp fun {a b} hab e => by
    subst e
    have := ncmp_good.anti a a
    omega
  have det : ∀ x y : Nom, nkey x = nkey y → x.2.2.2.2.2 = y.2.2.2.2.2 → x = y := by
    rintro ⟨x1, x2, x3, x4, x5, x6⟩ ⟨y1, y2, y3, y4, y5, y6⟩ e1 e2
    unfold nkey at e1
    simp only [Prod.mk.injEq] at e1 e2
    obtain ⟨rfl, rfl, rfl, rfl, rfl, _⟩ := e1
    subst e2; rfl
  have hp : T.Perm T0 := by
    refine (List.perm_ext_iff_of_nodup (nd hs) (nd h0)).2 fun z => ?_
    constructor
    · intro hz
      obtain ⟨x, hx, e⟩ := (hk (nkey z)).2 ((h.keys (nkey z)).1 ⟨z, hz, rfl⟩)
      have : z = x := det z x e.symm ((h.vol hz).trans ((show sumK (nkey z) l = sumK (nkey x) l by rw [e]).trans (hv x hx).symm))
      rw [this]; exact hx
    · intro hz
      obtain ⟨x, hx, e⟩ := (h.keys (nkey z)).2 ((hk (nkey z)).1 ⟨z, hz, rfl⟩)
      have : z = x := det z x e.symm ((hv z hz).trans ((show sumK (nkey z) l = sumK (nkey x) l by rw [e]).trans (h.vol hx).symm))
      rw [this]; exact hx
  refine List.Perm.eq_of_pairwise (fun a b _ _ h1 h2 => ?_) hs h0 hp
  have := ncmp_good.anti a b
  omega
theorem totals_fit {l : List Nom} (hv : ∀ x ∈ l, validN x = true) (hl : l.length ≤ 400) (hf : ∀ x ∈ l, sumK (nkey x) l ≤ 1099511627776) : ∃ T, nomination_Totals l = some (T, 0) ∧ TotP l T := by
  have hc : nomination_Check l = some 0 := by
    rw [ncheck_eq l (fun x hx y hy => by have := valN_s (hv x hx) y hy; omega) (by omega), chkN_ok hv hl]
  rcases totals_any (by omega) hc (fun x hx => (valN (hv x hx)).v) with ⟨⟨x, hx, h⟩, _⟩ | ⟨_, h⟩
  · have := hf x hx
    omega
  · exact h
theorem or4 (a b c d : Int) : orL [a, b, c, d] = if a ≠ 0 then a else if b ≠ 0 then b else if c ≠ 0 then c else d := by
  unfold orL orL orL orL orL
  by_cases h : d = 0
  · simp [h]
  · simp [h]
def cs4 (a b : Nom) : List Int := [cs a.1 b.1, cs a.2.1 b.2.1, cs a.2.2.1 b.2.2.1, cs a.2.2.2.1 b.2.2.2.1]
theorem cs4_get (a b : Nom) {k : Nat} (h : k < 4) : (cs4 a b).getD k 0 = cs ([a.1, a.2.1, a.2.2.1, a.2.2.2.1].getD k []) ([b.1, b.2.1, b.2.2.1, b.2.2.2.1].getD k []) := by
  match k, h with
  | 0, _ => rfl
  | 1, _ => rfl
  | 2, _ => rfl
  | 3, _ => rfl
theorem cmpR_ok (a b : Nom) : ref11_Cmp a b = some (ncmp a b) := by
  have hn : ncmp a b = if ci a.2.2.2.2.1 b.2.2.2.2.1 ≠ 0 then ci a.2.2.2.2.1 b.2.2.2.2.1 else orL (cs4 a b) := by
    unfold cs4; rw [or4]; rfl
  unfold ref11_Cmp
  by_cases hc : a.2.2.2.2.1 = b.2.2.2.2.1
  · have h0 : ci a.2.2.2.2.1 b.2.2.2.2.1 = 0 := by rw [hc]; simp [ci]
    rw [hn, if_neg (by omega), dec_t hc]
    simp only [Bool.not_true, cond_false]
    have key : Ok (iter (fun x : Int => ref11_Cmp_L0 a b x) 0) fun e => (match e with | .inl _ => 0 | .inr x => x) = orL (cs4 a b) := by
      refine Ok.loop (fun v : Int => ∃ k : Nat, v = (k : Int) ∧ k ≤ 4 ∧ orL ((cs4 a b).drop k) = orL (cs4 a b)) (fun v => 4 - v.toNat) ⟨0, rfl, by omega, rfl⟩ ?_
      rintro v ⟨k, rfl, hk, hp⟩
      unfold ref11_Cmp_L0
      refine Ok.bif (fun hlt => ?_) fun hlt => ?_
      · have hlt := of_decide_eq_true hlt
        have hk : k < 4 := by (try simp only [List.length_cons, List.length_nil] at hlt); omega
        have hd : (cs4 a b).drop k = (cs4 a b).getD k 0 :: (cs4 a b).drop (k + 1) := by
          have : k < (cs4 a b).length := hk
          rw [gD_eq this]; exact List.drop_eq_getElem_cons this
        rw [hd, cs4_get a b hk] at hp
        have hp' : (if cs ([a.1, a.2.1, a.2.2.1, a.2.2.2.1].getD k []) ([b.1, b.2.1, b.2.2.1, b.2.2.2.1].getD k []) ≠ 0 then cs ([a.1, a.2.1, a.2.2.1, a.2.2.2.1].getD k []) ([b.1, b.2.1, b.2.2.1, b.2.2.2.1].getD k []) else orL ((cs4 a b).drop (k + 1))) = orL (cs4 a b) := hp
        rw [Int.toNat_natCast]
        refine Ok.gd (inB_t (show k < [a.1, a.2.1, a.2.2.1, a.2.2.2.1].length from hk)) (Ok.gd (inB_t (show k < [b.1, b.2.1, b.2.2.1, b.2.2.2.1].length from hk)) ?_)
        generalize [a.1, a.2.1, a.2.2.1, a.2.2.2.1].getD k [] = x at hp'
        generalize [b.1, b.2.1, b.2.2.1, b.2.2.2.1].getD k [] = y at hp'
        refine Ok.bif (fun hb => ?_) fun hb => ?_
        · have hz : cs x y = -1 := by unfold cs; rw [if_pos hb]
          rw [hz, if_pos (by decide)] at hp'
          exact .ret hp'
        · refine Ok.gd (inB_t (show k < [a.1, a.2.1, a.2.2.1, a.2.2.2.1].length from hk)) (Ok.gd (inB_t (show k < [b.1, b.2.1, b.2.2.1, b.2.2.2.1].length from hk)) ?_)
          rw [hb]
          refine Ok.bif (fun he => ?_) fun he => ?_
          · have he : x ≠ y := by simpa using he
            have h2 : Op.bytesLess y x = true := by
              rcases bl_tri x y with h | h | h
              · rw [h] at hb; cases hb
              · exact absurd h he
              · exact h
            have hz : cs x y = 1 := by unfold cs; rw [if_neg (by simp [hb]), if_pos h2]
            rw [hz, if_pos (by decide)] at hp'
            exact .ret hp'
          · have he : x = y := by simpa using he
            subst he
            have hz : cs x x = 0 := by unfold cs; rw [bl_irrefl]; simp
            rw [hz, if_neg (by simp)] at hp'
            rw [wi_next k (by omega)]
            exact .ret ⟨⟨k + 1, rfl, by omega, hp'⟩, by simp only [Int.toNat_natCast]; omega⟩
      · have hlt := of_decide_eq_false hlt
        have : k = 4 := by (try simp only [List.length_cons, List.length_nil] at hlt); omega
        subst this
        exact .ret hp
    obtain ⟨e, h1, h2⟩ := key
    rw [h1]
    cases e with
    | inl u => show some 0 = _; rw [← h2]
    | inr x => show some x = _; rw [← h2]
  · rw [dec_f hc]
    simp only [Bool.not_false, cond_true]
    rcases Int.lt_or_gt_of_ne hc with h | h
    · have h0 : ci a.2.2.2.2.1 b.2.2.2.2.1 = -1 := by unfold ci; rw [if_pos h]
      rw [hn, h0, dec_t h]; rfl
    · have h0 : ci a.2.2.2.2.1 b.2.2.2.2.1 = 1 := by unfold ci; rw [if_neg (by omega), if_pos h]
      rw [hn, h0, dec_f (by omega)]; rfl
theorem ncmp_self (x : Nom) : ncmp x x = 0 := by
  have := ncmp_good.anti x x
  omega
theorem ncmp_nkey (x y : Nom) : ncmp x y = ncmp (nkey x) (nkey y) := rfl
theorem ncmp_trans {x y z : Nom} (h1 : ncmp x y < 0) (h2 : ncmp y z < 0) : ncmp x z < 0 :=
  of_decide_eq_true (ncmp_good.swo.trans x y z (decide_eq_true h1) (decide_eq_true h2))
/-! ### Totals of what is made -/
theorem sumK_app (key : Nom) (a b : List Nom) : sumK key (a ++ b) = sumK key a + sumK key b := by
  unfold sumK
  rw [List.map_append, isum_app]
theorem sumK_le {l : List Nom} {B : Int} (hv : ∀ x ∈ l, 1 ≤ x.2.2.2.2.2 ∧ x.2.2.2.2.2 ≤ B) (hB : 0 ≤ B) (key : Nom) : sumK key l ≤ B * (l.length : Int) := by
  have := isum_bd (l := l.map fun z => if nkey z = key then vol z else 0) (a := 0) (b := B) fun v hv' => by
    obtain ⟨z, hz, rfl⟩ := List.mem_map.1 hv'
    have : 1 ≤ vol z ∧ vol z ≤ B := hv z hz
    split <;> omega
  rw [List.length_map] at this
  unfold sumK; omega
theorem valid_key {x y : Nom} (h : validN x = true) (e : nkey y = nkey x) (hv : 1 ≤ y.2.2.2.2.2 ∧ y.2.2.2.2.2 ≤ 1099511627776) : validN y = true := by
  obtain ⟨y1, y2, y3, y4, y5, y6⟩ := y
  obtain ⟨x1, x2, x3, x4, x5, x6⟩ := x
  unfold nkey at e
  simp only [Prod.mk.injEq] at e
  obtain ⟨rfl, rfl, rfl, rfl, rfl, _⟩ := e
  unfold validN numB at h ⊢
  simp only [Bool.and_eq_true, decide_eq_true_eq] at h ⊢
  exact ⟨h.1, h.2.1, h.2.2.1, h.2.2.2.1, hv⟩
theorem TotP.valid {l T : List Nom} (h : TotP l T) (hv : ∀ x ∈ l, validN x = true) (hf : ∀ x ∈ l, sumK (nkey x) l ≤ 1099511627776) : ∀ z ∈ T, validN z = true := by
  intro z hz
  obtain ⟨x, hx, e⟩ := (h.keys (nkey z)).1 ⟨z, hz, rfl⟩
  have h1 := h.vol hz
  have h2 := hf x hx
  have h3 := sumK_pos (fun x hx => (valN (hv x hx)).v) hx
  have h4 := (valN (hv x hx)).v
  rw [e] at h2 h3
  refine valid_key (hv x hx) e.symm ?_
  have h1' : z.2.2.2.2.2 = sumK (nkey z) l := h1
  have h3' : x.2.2.2.2.2 ≤ sumK (nkey z) l := h3
  omega
theorem MadeN.fit {a : List Nom} (h : MadeN a) (key : Nom) : sumK key a ≤ 11811160064 := by
  have := sumK_le (B := 1073741824) (fun x hx => (h.g x hx).v) (by omega) key
  have := h.n
  omega
theorem tot_bd {l : List Nom} {B : Int} (hv : ∀ x ∈ l, 0 ≤ x.2.2.2.2.2 ∧ x.2.2.2.2.2 ≤ B) : 0 ≤ isum (l.map vol) ∧ isum (l.map vol) ≤ B * (l.length : Int) := by
  have := isum_bd (l := l.map vol) (a := 0) (b := B) fun v hv' => by
    obtain ⟨z, hz, rfl⟩ := List.mem_map.1 hv'
    exact hv z hz
  rw [List.length_map] at this
  omega
theorem tot_next {l : List Nom} {i : Nat} (hi : i < l.length) : isum ((l.take (i + 1)).map vol) = isum ((l.take i).map vol) + (l.getD i n0).2.2.2.2.2 := by
  rw [take_next n0 hi, List.map_append, isum_app]; simp [isum]

/-! ### NominationTotals -/
theorem rot_perm {l y : List Nom} {r : Nat} (hr : r ≤ l.length) (hy : y = l.drop r ++ l.take r) : y.Perm l := by
  subst hy
  have := List.perm_append_comm (l₁ := l.drop r) (l₂ := l.take r)
  rwa [List.take_append_drop] at this
theorem turn_ok {l : List Nom} {turn : Int} (hl : l.length ≤ 14) (ht : 0 ≤ turn ∧ turn ≤ 255) (s : List Int) (p : Int) :
    ∃ y, iter (fun x : Int × List Nom × List Nom => law11_NominationTotals_L0 turn (s, p, l) x.1 x.2.1 x.2.2) (0, l, []) = some (l, y) ∧ y.Perm l := by
  obtain ⟨t, rfl⟩ : ∃ t : Nat, turn = (t : Int) := ⟨turn.toNat, by omega⟩
  refine ⟨(List.range l.length).map fun j => l.getD ((j + t) % l.length) n0, ?_, ?_⟩
  · refine iter_for (step := fun x : Int × List Nom × List Nom => law11_NominationTotals_L0 (t : Int) (s, p, l) x.1 x.2.1 x.2.2) l.length (fun i => ((i : Int), l, (List.range i).map fun j => l.getD ((j + t) % l.length) n0)) (fun i hi => ?_) ?_
    · have hm : Int.tmod (wi64 ((i : Int) + wi64 (t : Int))) (l.length : Int) = (((i + t) % l.length : Nat) : Int) := by
        rw [show wi64 (t : Int) = (t : Int) from wi (by omega), show wi64 ((i : Int) + (t : Int)) = ((i + t : Nat) : Int) by rw [wi (by omega)]; omega]
        exact (Int.natCast_emod _ _).symm ▸ Int.tmod_eq_emod_of_nonneg (by omega)
      unfold law11_NominationTotals_L0
      simp only [dec_t (show (i : Int) < (l.length : Int) by omega), cond_true]
      rw [dec_f (show ¬ (l.length : Int) = 0 by omega), hm, Int.toNat_natCast]
      have hmod : (i + t) % l.length < l.length := Nat.mod_lt _ (by omega)
      rw [show (!false) = true from rfl, gd_t rfl, gd_t (inB_t hmod), gd_t (fits_t (by simp; omega)), wi_next i (by omega), List.range_succ, List.map_append]
      rfl
    · unfold law11_NominationTotals_L0
      simp only [dec_f (show ¬ (l.length : Int) < (l.length : Int) by omega), cond_false]
  · rcases Nat.eq_zero_or_pos l.length with h0 | h0
    · have : l = [] := List.length_eq_zero_iff.1 h0
      subst this; simp
    · refine rot_perm (r := t % l.length) (Nat.le_of_lt (Nat.mod_lt _ h0)) ?_
      have hr := Nat.mod_lt t h0
      refine List.ext_getElem (by simp; omega) fun j h1 h2 => ?_
      have hj : j < l.length := by simpa using h1
      simp only [List.getElem_map, List.getElem_range]
      have hmod : (j + t) % l.length < l.length := Nat.mod_lt _ h0
      rw [gD_eq hmod]
      have e1 : (j + t) % l.length = (j + t % l.length) % l.length := by rw [Nat.add_mod_mod]
      by_cases h : j + t % l.length < l.length
      · rw [List.getElem_append_left (by simp; omega), List.getElem_drop]
        congr 1
        rw [e1, Nat.mod_eq_of_lt h]; omega
      · rw [List.getElem_append_right (by simp; omega), List.getElem_take]
        congr 1
        rw [e1, List.length_drop, Nat.mod_eq_sub_mod (by omega), Nat.mod_eq_of_lt (by omega)]; omega

theorem tl1 {T : List Nom} (hT : T.length ≤ 11) (hv : ∀ x ∈ T, 0 ≤ x.2.2.2.2.2 ∧ x.2.2.2.2.2 ≤ 1099511627776) (hs : T.Pairwise fun x y => ncmp x y < 0) (z : Int) : iter (fun x : Int × Int => law11_NominationTotals_L1 (T, z) x.1 x.2) (0, 0) = some (.inl (isum (T.map vol))) := by
  have h0 : ((0 : Int), (0 : Int)) = (fun k : Nat => (isum ((T.take k).map vol), (k : Int))) 0 := rfl
  rw [h0]
  refine iter_for (step := fun x : Int × Int => law11_NominationTotals_L1 (T, z) x.1 x.2) T.length (fun k : Nat => (isum ((T.take k).map vol), (k : Int))) (fun k hk => ?_) ?_
  · simp only
    have hvk := hv _ (gD_mem (d := n0) hk)
    have hb := tot_bd (l := T.take k) (B := 1099511627776) fun x hx => hv x (List.mem_of_mem_take hx)
    rw [List.length_take] at hb
    unfold law11_NominationTotals_L1
    rw [dec_t (show (k : Int) < (T.length : Int) by omega), cond_true, gd_t (inB_t hk), Int.toNat_natCast, tot_next hk, w1 hk (by omega)]
    have hw : wi64 (isum ((T.take k).map vol) + (T.getD k n0).2.2.2.2.2) = isum ((T.take k).map vol) + (T.getD k n0).2.2.2.2.2 := wi (by omega)
    have hg : (bif decide (0 < (k : Int)) then (gd (inB (wi64 ((k : Int) - 1)) T.length) <| gd (inB (k : Int) T.length) <| (ref11_Cmp (T.getD (wi64 ((k : Int) - 1)).toNat n0) (T.getD k n0)).bind fun r8 => some (decide (0 ≤ r8))) else some false) = some false := by
      by_cases h : 0 < k
      · have e1 : wi64 ((k : Int) - 1) = ((k - 1 : Nat) : Int) := by rw [wi (by omega)]; omega
        rw [dec_t (show (0 : Int) < (k : Int) by omega), cond_true, e1, gd_t (inB_t (by omega)), gd_t (inB_t hk), Int.toNat_natCast, cmpR_ok, Option.bind_some]
        have := List.pairwise_iff_getElem.1 hs (k - 1) k (by omega) hk (by omega)
        rw [← gD_eq (d := n0), ← gD_eq (d := n0)] at this
        rw [dec_f (by omega)]
      · rw [dec_f (show ¬ (0 : Int) < (k : Int) by omega)]; rfl
    show (Option.bind (α := Bool) (bif decide (0 < (k : Int)) then (gd (inB (wi64 ((k : Int) - 1)) T.length) <| gd (inB (k : Int) T.length) <| (ref11_Cmp (T.getD (wi64 ((k : Int) - 1)).toNat n0) (T.getD k n0)).bind fun r8 => some (decide (0 ≤ r8))) else some false) fun s3 => bif s3 then some (.inr (.inr false)) else some (.inl (wi64 (isum ((T.take k).map vol) + (T.getD k n0).2.2.2.2.2), ((k + 1 : Nat) : Int)))) = (some (.inl (isum ((T.take k).map vol) + (T.getD k n0).2.2.2.2.2, ((k + 1 : Nat) : Int))) : Option ((Int × Int) ⊕ (Int ⊕ Bool)))
    rw [hg, hw]; rfl
  · simp only
    unfold law11_NominationTotals_L1
    rw [dec_f (by dsimp only; omega), List.take_length]; rfl
theorem tl2 {a b : List Nom} (ha : a.length ≤ 11) (hv : ∀ x ∈ a, 0 ≤ x.2.2.2.2.2 ∧ x.2.2.2.2.2 ≤ 1099511627776) (S : Int) (hS : 0 ≤ S ∧ S ≤ 1000000000000000) : iter (fun x : Int × Int => law11_NominationTotals_L2 (a, b) x.1 x.2) (S, 0) = some (S - isum (a.map vol)) := by
  have h0 : (S, (0 : Int)) = (fun k : Nat => (S - isum ((a.take k).map vol), (k : Int))) 0 := by simp [isum]
  rw [h0]
  refine iter_for (step := fun x : Int × Int => law11_NominationTotals_L2 (a, b) x.1 x.2) a.length (fun k : Nat => (S - isum ((a.take k).map vol), (k : Int))) (fun k hk => ?_) ?_
  · simp only
    have hvk := hv _ (gD_mem (d := n0) hk)
    have hb := tot_bd (l := a.take k) (B := 1099511627776) fun x hx => hv x (List.mem_of_mem_take hx)
    rw [List.length_take] at hb
    unfold law11_NominationTotals_L2
    rw [dec_t (show (k : Int) < (a.length : Int) by omega), cond_true, gd_t (inB_t hk), Int.toNat_natCast, tot_next hk, w1 hk (by omega)]
    have hw : wi64 (S - isum ((a.take k).map vol) - (a.getD k n0).2.2.2.2.2) = S - (isum ((a.take k).map vol) + (a.getD k n0).2.2.2.2.2) := by rw [wi (by omega)]; omega
    show some (.inl (wi64 (S - isum ((a.take k).map vol) - (a.getD k n0).2.2.2.2.2), ((k + 1 : Nat) : Int))) = (some (.inl (S - (isum ((a.take k).map vol) + (a.getD k n0).2.2.2.2.2), ((k + 1 : Nat) : Int))) : Option ((Int × Int) ⊕ Int))
    rw [hw]
  · simp only
    unfold law11_NominationTotals_L2
    rw [dec_f (by dsimp only; omega), List.take_length]; rfl
theorem totals_true {l : List Int} (hl : ∀ x ∈ l, i64P x) {turn : Int} (ht : 0 ≤ turn ∧ turn ≤ 255) : law11_NominationTotals l turn = some true := by
  obtain ⟨s, p, a, e1, e2, h, _⟩ := made0 hl
  have hn := h.n
  have hv := h.valid
  obtain ⟨b, f1, f2⟩ := turn_ok (l := a) (by omega) ht s p
  have hvb : ∀ x ∈ b, validN x = true := fun x hx => hv x (f2.mem_iff.1 hx)
  have hfa : ∀ x ∈ a, sumK (nkey x) a ≤ 1099511627776 := fun x _ => by have := h.fit (nkey x); omega
  have hfb : ∀ x ∈ b, sumK (nkey x) b ≤ 1099511627776 := fun x _ => by rw [sumK_perm f2]; have := h.fit (nkey x); omega
  obtain ⟨T, t1, t2⟩ := totals_fit hv (by omega) hfa
  obtain ⟨T', t1', t2'⟩ := totals_fit hvb (by rw [f2.length_eq]; omega) hfb
  have hvT := t2.valid hv hfa
  have hTl := t2.len
  have hfT : ∀ x ∈ T, sumK (nkey x) T ≤ 1099511627776 := fun x _ => by rw [t2.sum]; have := h.fit (nkey x); omega
  obtain ⟨T'', t1'', t2''⟩ := totals_fit hvT (by omega) hfT
  have u1 : T' = T := t2'.uniq t2 (fun key => sumK_perm f2 key) (fun key => ⟨fun ⟨x, hx, e⟩ => ⟨x, f2.mem_iff.1 hx, e⟩, fun ⟨x, hx, e⟩ => ⟨x, f2.mem_iff.2 hx, e⟩⟩)
  have u2 : T'' = T := t2''.uniq t2 t2.sum t2.keys
  subst u1 u2
  unfold law11_NominationTotals
  rw [e1, Option.bind_some, e2, Option.bind_some]
  simp only
  rw [f1, Option.bind_some]
  simp only
  rw [t1, Option.bind_some, t1', Option.bind_some]
  simp only
  rw [t1'', Option.bind_some, dec_t rfl]
  simp only [Bool.not_true, cond_false]
  rw [same_refl T'' (by omega)]
  simp only [Option.bind_some, Bool.not_true, cond_false, decide_true]
  rw [dec_f (show ¬ (a.length : Int) < (T''.length : Int) by omega), cond_false]
  have hvv : ∀ x ∈ T'', 0 ≤ x.2.2.2.2.2 ∧ x.2.2.2.2.2 ≤ 1099511627776 := fun x hx => by have := (valN (hvT x hx)).v; omega
  have hva : ∀ x ∈ a, 0 ≤ x.2.2.2.2.2 ∧ x.2.2.2.2.2 ≤ 1099511627776 := fun x hx => by have := (valN (hv x hx)).v; omega
  have hb := tot_bd hvv
  rw [tl1 (by omega) hvv t2.strict 0, Option.bind_some]
  simp only [Sum.elim_inl]
  rw [tl2 hn hva _ (by omega), Option.bind_some, t2.tot, dec_t (by omega), awake_true]; rfl

/-! ### NominationParts -/
theorem parts_true {l m : List Int} (hl : ∀ x ∈ l, i64P x) (hm : ∀ x ∈ m, i64P x) : law11_NominationParts l m = some true := by
  obtain ⟨s, p, a, e1, e2, ha, _⟩ := made0 hl
  obtain ⟨s', p', b, e1', e2', hb, _⟩ := made0 hm
  have hna := ha.n
  have hnb := hb.n
  have hva := ha.valid
  have hvb := hb.valid
  obtain ⟨X, x1, x2⟩ := totals_fit hva (by omega) (fun x _ => by have := ha.fit (nkey x); omega)
  obtain ⟨Y, y1, y2⟩ := totals_fit hvb (by omega) (fun x _ => by have := hb.fit (nkey x); omega)
  have hvX := x2.valid hva (fun x _ => by have := ha.fit (nkey x); omega)
  have hvY := y2.valid hvb (fun x _ => by have := hb.fit (nkey x); omega)
  have hXl := x2.len
  have hYl := y2.len
  have fab : ∀ key, sumK key (a ++ b) ≤ 1099511627776 := fun key => by rw [sumK_app]; have := ha.fit key; have := hb.fit key; omega
  have eqs : ∀ key, sumK key (X ++ Y) = sumK key (a ++ b) := fun key => by rw [sumK_app, sumK_app, x2.sum, y2.sum]
  obtain ⟨Z, z1, z2⟩ := totals_fit (l := a ++ b) (fun x hx => (List.mem_append.1 hx).elim (hva x) (hvb x)) (by rw [List.length_append]; omega) (fun x _ => fab _)
  obtain ⟨W, w1', w2⟩ := totals_fit (l := X ++ Y) (fun x hx => (List.mem_append.1 hx).elim (hvX x) (hvY x)) (by rw [List.length_append]; omega) (fun x _ => by rw [eqs]; exact fab _)
  have u : W = Z := w2.uniq z2 eqs (fun key => by
    constructor
    · rintro ⟨x, hx, e⟩
      rcases List.mem_append.1 hx with hx | hx
      · obtain ⟨y, hy, e'⟩ := (x2.keys key).1 ⟨x, hx, e⟩
        exact ⟨y, List.mem_append_left _ hy, e'⟩
      · obtain ⟨y, hy, e'⟩ := (y2.keys key).1 ⟨x, hx, e⟩
        exact ⟨y, List.mem_append_right _ hy, e'⟩
    · rintro ⟨x, hx, e⟩
      rcases List.mem_append.1 hx with hx | hx
      · obtain ⟨y, hy, e'⟩ := (x2.keys key).2 ⟨x, hx, e⟩
        exact ⟨y, List.mem_append_left _ hy, e'⟩
      · obtain ⟨y, hy, e'⟩ := (y2.keys key).2 ⟨x, hx, e⟩
        exact ⟨y, List.mem_append_right _ hy, e'⟩)
  subst u
  have hWl := z2.len
  rw [List.length_append] at hWl
  unfold law11_NominationParts
  rw [e1, Option.bind_some, e2, Option.bind_some, e1', Option.bind_some, e2', Option.bind_some]
  simp only [List.nil_append]
  rw [x1, Option.bind_some, y1, Option.bind_some, gd_t (fits_t (by omega)), gd_t (fits_t (by omega)), z1, Option.bind_some]
  simp only
  rw [gd_t (fits_t (by omega)), gd_t (fits_t (by omega)), w1', Option.bind_some]
  simp only [decide_true, cond_true]
  rw [same_refl W (by omega), awake_true]; rfl
end Go.Proofs.YtnilkkggnffklaaGreatDoor
