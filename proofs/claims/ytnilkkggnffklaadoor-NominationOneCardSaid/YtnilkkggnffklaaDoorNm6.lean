/- The law NominationOne, in plain Lean. No condition. -/
import Derived.Test.YtnilkkggnffklaaDoorNm5
namespace Go.Proofs.YtnilkkggnffklaaDoor
open Go Go.Sq
set_option linter.unusedVariables false

theorem TotP.eq_of {l T T0 : List Nom} (h : TotP l T) (h0 : T0.Pairwise fun x y => ncmp x y < 0) (hk : ∀ key, (∃ x ∈ T0, nkey x = key) ↔ ∃ x ∈ l, nkey x = key) (hv : ∀ x ∈ T0, x.2.2.2.2.2 = sumK (nkey x) l) : T = T0 := by
  have hs := h.strict
  have nd : ∀ {L : List Nom}, (L.Pairwise fun x y => ncmp x y < 0) → L.Nodup := fun hp => hp.imp fun {a b} hab e => by
    subst e
    have := ncmp_good.anti a a
    omega
  have det : ∀ x y : Nom, nkey x = nkey y → x.2.2.2.2.2 = y.2.2.2.2.2 → x = y := by
    rintro ⟨x1, x2, x3, x4, x5, x6⟩ ⟨y1, y2, y3, y4, y5, y6⟩ e1 e2
    unfold nkey at e1
    simp only [Prod.mk.injEq] at e1 e2
    obtain ⟨rfl, rfl, rfl, rfl, rfl, _⟩ := e1
    subst e2; rfl
  have hp : T.Perm T0 := by
    refine (List.perm_ext_iff_of_nodup (nd hs) (nd h0)).2 fun z => ?_
    constructor
    · intro hz
      obtain ⟨x, hx, e⟩ := (hk (nkey z)).2 ((h.keys (nkey z)).1 ⟨z, hz, rfl⟩)
      have : z = x := det z x e.symm ((h.vol hz).trans ((show sumK (nkey z) l = sumK (nkey x) l by rw [e]).trans (hv x hx).symm))
      rw [this]; exact hx
    · intro hz
      obtain ⟨x, hx, e⟩ := (h.keys (nkey z)).2 ((hk (nkey z)).1 ⟨z, hz, rfl⟩)
      have : z = x := det z x e.symm ((hv z hz).trans ((show sumK (nkey z) l = sumK (nkey x) l by rw [e]).trans (h.vol hx).symm))
      rw [this]; exact hx
  refine List.Perm.eq_of_pairwise (fun a b _ _ h1 h2 => ?_) hs h0 hp
  have := ncmp_good.anti a b
  omega
theorem totals_fit {l : List Nom} (hv : ∀ x ∈ l, validN x = true) (hl : l.length ≤ 400) (hf : ∀ x ∈ l, sumK (nkey x) l ≤ 1099511627776) : ∃ T, nomination_Totals l = some (T, 0) ∧ TotP l T := by
  have hc : nomination_Check l = some 0 := by
    rw [ncheck_eq l (fun x hx y hy => by have := valN_s (hv x hx) y hy; omega) (by omega), chkN_ok hv hl]
  rcases totals_any (by omega) hc (fun x hx => (valN (hv x hx)).v) with ⟨⟨x, hx, h⟩, _⟩ | ⟨_, h⟩
  · have := hf x hx
    omega
  · exact h
abbrev mkN (s : Str) (c v : Int) : Nom := (s, ([106, 101, 116], ([112, 111, 114, 116, 97], ([112, 111, 114, 116, 98], (c, v)))))
theorem mkN_valid {s : Str} (hs : s ∈ ([[97, 99, 109, 101], [98, 111, 108, 116]] : List Str)) {c v : Int} (hc : 0 ≤ c ∧ c ≤ 1000) (hv : 1 ≤ v ∧ v ≤ 1099511627776) : validN (mkN s c v) = true := by
  have hn : nmB (mkN s c v) = true := by
    unfold nmB
    simp only [List.all_cons, List.all_nil, Bool.and_true, Bool.and_eq_true]
    simp only [List.mem_cons, List.not_mem_nil, or_false] at hs
    refine ⟨?_, rfl, rfl, rfl⟩
    rcases hs with rfl | rfl <;> rfl
  unfold validN numB
  rw [hn]
  simp only
  rw [dec_f (by decide), dec_t (by omega), dec_t (by omega), dec_t (by omega), dec_t (by omega)]; rfl
theorem mkN_cmp (s : Str) (c v w : Int) : ncmp (mkN s c v) (mkN s (c + 1) w) < 0 := by
  unfold ncmp lex
  have : ci c (c + 1) = -1 := by unfold ci; rw [if_pos (by omega)]
  simp only [mkN]
  rw [this, if_pos (by decide)]; decide
theorem sumK_all {key : Nom} : ∀ {l : List Nom}, (∀ x ∈ l, nkey x = key) → sumK key l = isum (l.map fun x => x.2.2.2.2.2)
  | [], _ => rfl
  | x :: r, h => by
    have ih := sumK_all (l := r) fun y hy => h y (List.mem_cons_of_mem _ hy)
    unfold sumK at ih ⊢
    simp only [List.map_cons, isum]
    rw [ih, if_pos (h x (by simp))]
theorem w_0 : wi64 0 = 0 := rfl
theorem w_1 : wi64 1 = 1 := rfl
theorem w_2 : wi64 2 = 2 := rfl
theorem i_01 : inB 0 1 = true := rfl
theorem i_02 : inB 0 2 = true := rfl
theorem i_12 : inB 1 2 = true := rfl
def sumV (vs : List Int) : Int := isum (vs.map fun v => 1 + v)
theorem sumV_bd {vs : List Int} (h : ∀ v ∈ vs, 0 ≤ v ∧ v ≤ 65535) : (vs.length : Int) ≤ sumV vs ∧ sumV vs ≤ 65536 * (vs.length : Int) := by
  have := isum_bd (l := vs.map fun v => 1 + v) (a := 1) (b := 65536) fun x hx => by
    obtain ⟨v, hv, rfl⟩ := List.mem_map.1 hx
    have := h v hv
    omega
  rw [List.length_map] at this
  unfold sumV; omega
theorem sumV_next {vs : List Int} {i : Nat} (h : i < vs.length) : sumV (vs.take (i + 1)) = sumV (vs.take i) + (1 + vs.getD i 0) := by
  unfold sumV
  rw [take_next 0 h, List.map_append, isum_app]; simp [isum]
theorem one_loop (vs : List Int) (hv : ∀ v ∈ vs, 0 ≤ v ∧ v ≤ 65535) (s : Str) (q1 : List Int) (q2 c : Int) (q3 : List Int) (q4 : Int) : ∃ k n, k ≤ vs.length ∧ k ≤ 30 ∧
    iter (fun x : Int × Int × Int × List Nom => law11_NominationOne_L0 vs (s, q1, q2) (c, q3, q4) x.1 x.2.1 x.2.2.1 x.2.2.2) (0, 0, 0, []) = some (sumV (vs.take k), n, (vs.take k).map fun v => mkN s c (1 + v)) := by
  obtain ⟨k, hk⟩ : ∃ k, k = min vs.length 30 := ⟨_, rfl⟩
  refine ⟨k, if k = 0 then 0 else 1 + vs.getD (k - 1) 0, by omega, by omega, ?_⟩
  have h0 : ((0 : Int), (0 : Int), (0 : Int), ([] : List Nom)) = (fun i : Nat => (sumV (vs.take i), (i : Int), (if i = 0 then (0 : Int) else 1 + vs.getD (i - 1) 0), (vs.take i).map fun v => mkN s c (1 + v))) 0 := rfl
  rw [h0]
  refine iter_for (step := fun x : Int × Int × Int × List Nom => law11_NominationOne_L0 vs (s, q1, q2) (c, q3, q4) x.1 x.2.1 x.2.2.1 x.2.2.2) k (fun i : Nat => (sumV (vs.take i), (i : Int), (if i = 0 then (0 : Int) else 1 + vs.getD (i - 1) 0), (vs.take i).map fun v => mkN s c (1 + v))) (fun i hi => ?_) ?_
  · simp only
    have hil : i < vs.length := by omega
    have hvi := hv _ (gD_mem (d := (0 : Int)) hil)
    have hb := sumV_bd (vs := vs.take i) fun v h => hv v (List.mem_of_mem_take h)
    rw [List.length_take] at hb
    unfold law11_NominationOne_L0
    rw [dec_t (show (i : Int) < (vs.length : Int) by omega), cond_true, Option.bind_some, dec_t (show (i : Int) < 30 by omega), cond_true, gd_t (inB_t hil), gd_t (fits_t (by simp only [List.length_map, List.length_take]; omega)), Int.toNat_natCast]
    have e1 : wi64 (vs.getD i 0) = vs.getD i 0 := wi (by omega)
    have e2 : wi64 (1 + vs.getD i 0) = 1 + vs.getD i 0 := wi (by omega)
    have e3 : wi64 (sumV (vs.take i) + (1 + vs.getD i 0)) = sumV (vs.take i) + (1 + vs.getD i 0) := wi (by omega)
    rw [e1, e2, e3, wi_next i (by omega), sumV_next hil, take_next 0 hil, List.map_append, if_neg (by omega)]; rfl
  · simp only
    unfold law11_NominationOne_L0
    by_cases hkl : k < vs.length
    · rw [dec_t (show (k : Int) < (vs.length : Int) by omega), cond_true, Option.bind_some, dec_f (show ¬ (k : Int) < 30 by omega)]; rfl
    · rw [dec_f (show ¬ (k : Int) < (vs.length : Int) by omega)]; rfl
theorem one_true {l vs : List Int} (hl : ∀ x ∈ l, i64P x) (hv : ∀ v ∈ vs, 0 ≤ v ∧ v ≤ 65535) : law11_NominationOne l vs = some true := by
  refine ok_eq ?_
  obtain ⟨s0, e, hs0⟩ := new_eq hl
  unfold law11_NominationOne
  refine Ok.eq e ?_
  refine Ok.bind (text_ok hs0 (by simp) (by simp)) ?_
  rintro ⟨s, q1, q2⟩ ⟨g1, g2, g3⟩
  simp only at g1 g2 g3
  subst g2
  obtain ⟨c, p3, e3, a3, b3, h3⟩ := n_eq (n := 100) g3 (by omega) (by omega)
  refine Ok.eq e3 ?_
  obtain ⟨k, n, hk1, hk2, el⟩ := one_loop vs hv s q1 q2 c q1 p3
  refine Ok.eq el ?_
  simp only
  have hvt : ∀ v ∈ vs.take k, 0 ≤ v ∧ v ≤ 65535 := fun v h => hv v (List.mem_of_mem_take h)
  have hlen : (vs.take k).length = k := by rw [List.length_take]; omega
  have hsb := sumV_bd hvt
  rw [hlen] at hsb
  obtain ⟨us, hus⟩ : ∃ us, us = vs.take k := ⟨_, rfl⟩
  rw [← hus] at hvt hlen hsb ⊢
  have hval : ∀ x ∈ us.map (fun v => mkN s c (1 + v)), validN x = true := by
    intro x hx
    obtain ⟨v, h, rfl⟩ := List.mem_map.1 hx
    have := hvt v h
    exact mkN_valid g1 (by omega) (by omega)
  have hkey : ∀ x ∈ us.map (fun v => mkN s c (1 + v)), nkey x = mkN s c 0 := by
    intro x hx
    obtain ⟨v, h, rfl⟩ := List.mem_map.1 hx
    rfl
  have hsum : sumK (mkN s c 0) (us.map (fun v => mkN s c (1 + v))) = sumV us := by
    rw [sumK_all hkey, List.map_map]; rfl
  have hval2 : ∀ x ∈ mkN s (c + 1) 5 :: us.map (fun v => mkN s c (1 + v)), validN x = true := by
    intro x hx
    rcases List.mem_cons.1 hx with rfl | hx
    · exact mkN_valid g1 (by omega) (by omega)
    · exact hval x hx
  have hne : mkN s (c + 1) 0 ≠ mkN s c 0 := by
    intro e
    injection e with _ e
    injection e with _ e
    injection e with _ e
    injection e with _ e
    injection e with e _
    omega
  have hsum2 : ∀ key, sumK key (mkN s (c + 1) 5 :: us.map (fun v => mkN s c (1 + v))) = (if mkN s (c + 1) 0 = key then 5 else 0) + sumK key (us.map (fun v => mkN s c (1 + v))) := fun key => rfl
  have hs2a : sumK (mkN s c 0) (mkN s (c + 1) 5 :: us.map (fun v => mkN s c (1 + v))) = sumV us := by
    rw [hsum2, if_neg hne, hsum]; omega
  have hs2b : sumK (mkN s (c + 1) 0) (mkN s (c + 1) 5 :: us.map (fun v => mkN s c (1 + v))) = 5 := by
    rw [hsum2, if_pos rfl, sumK_none (fun x hx e => hne (by rw [← e, hkey x hx]))]; rfl
  have fitL : ∀ x ∈ us.map (fun v => mkN s c (1 + v)), sumK (nkey x) (us.map (fun v => mkN s c (1 + v))) ≤ 1099511627776 := by
    intro x hx
    rw [hkey x hx, hsum]; omega
  have fitL2 : ∀ x ∈ mkN s (c + 1) 5 :: us.map (fun v => mkN s c (1 + v)), sumK (nkey x) (mkN s (c + 1) 5 :: us.map (fun v => mkN s c (1 + v))) ≤ 1099511627776 := by
    intro x hx
    rcases List.mem_cons.1 hx with rfl | hx
    · rw [show nkey (mkN s (c + 1) 5) = mkN s (c + 1) 0 from rfl, hs2b]; omega
    · rw [hkey x hx, hs2a]; omega
  obtain ⟨T, t1, t2⟩ := totals_fit hval (by rw [List.length_map]; omega) fitL
  obtain ⟨T', t1', t2'⟩ := totals_fit hval2 (by rw [List.length_cons, List.length_map]; omega) fitL2
  refine Ok.eq t1 ?_
  refine Ok.gd (fits_t (by simp only [List.length_map]; omega)) ?_
  have hw : wi64 (c + 1) = c + 1 := wi (by omega)
  simp only
  rw [hw]
  refine Ok.eq (show nomination_Totals ([mkN s (c + 1) 5] ++ us.map (fun v => mkN s c (1 + v))) = _ from t1') ?_
  by_cases hk0 : us = []
  · subst hk0
    have hT : T = [] := t2.eq_of (T0 := []) (by simp) (fun key => by simp) (fun x hx => by cases hx)
    have hT' : T' = [mkN s (c + 1) 5] := t2'.eq_of (T0 := [mkN s (c + 1) 5]) (by simp) (fun key => by simp) (fun x hx => by
      rw [List.mem_singleton.1 hx]
      show (5 : Int) = _
      rw [show nkey (mkN s (c + 1) 5) = mkN s (c + 1) 0 from rfl, hs2b])
    subst hT hT'
    rw [awake_true]
    refine ⟨true, ?_, rfl⟩
    simp [w_0, w_1, w_2, i_01, i_02, i_12, gd_tt]
  · have hpos : 1 ≤ us.length := by cases us with | nil => exact absurd rfl hk0 | cons => simp
    have hex : ∃ x, x ∈ us.map (fun v => mkN s c (1 + v)) := ⟨_, gD_mem (d := n0) (k := 0) (by rw [List.length_map]; omega)⟩
    obtain ⟨x0, hx0⟩ := hex
    have hT : T = [mkN s c (sumV us)] := t2.eq_of (by simp) (fun key => by
      constructor
      · rintro ⟨x, hx, rfl⟩
        rw [List.mem_singleton.1 hx]
        exact ⟨x0, hx0, hkey x0 hx0⟩
      · rintro ⟨x, hx, rfl⟩
        exact ⟨_, List.mem_singleton.2 rfl, (hkey x hx).symm⟩) (fun x hx => by
      rw [List.mem_singleton.1 hx]
      exact hsum.symm)
    have hT' : T' = [mkN s c (sumV us), mkN s (c + 1) 5] := t2'.eq_of (by simp only [List.pairwise_cons, List.mem_singleton, List.Pairwise.nil, and_true, List.not_mem_nil, false_implies, implies_true]; rintro x rfl; exact mkN_cmp s c _ _) (fun key => by
      constructor
      · rintro ⟨x, hx, rfl⟩
        simp only [List.mem_cons, List.not_mem_nil, or_false] at hx
        rcases hx with rfl | rfl
        · exact ⟨x0, List.mem_cons_of_mem _ hx0, hkey x0 hx0⟩
        · exact ⟨mkN s (c + 1) 5, by simp, rfl⟩
      · rintro ⟨x, hx, rfl⟩
        rcases List.mem_cons.1 hx with rfl | hx
        · exact ⟨mkN s (c + 1) 5, by simp, rfl⟩
        · exact ⟨mkN s c (sumV us), by simp, (hkey x hx).symm⟩) (fun x hx => by
      simp only [List.mem_cons, List.not_mem_nil, or_false] at hx
      rcases hx with rfl | rfl
      · exact hs2a.symm
      · exact hs2b.symm)
    subst hT hT'
    rw [awake_true]
    have hlm : (us.map (fun v => mkN s c (1 + v))).length = us.length := List.length_map _
    rw [hlm]
    have d1 : decide ((us.length : Int) = 0) = false := dec_f (by omega)
    have d2 : decide (0 < (us.length : Int)) = true := dec_t (by omega)
    rw [d1, d2]
    refine ⟨true, ?_, rfl⟩
    simp [w_0, w_1, w_2, i_01, i_02, i_12, gd_tt]
end Go.Proofs.YtnilkkggnffklaaDoor
