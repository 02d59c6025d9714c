/- Lots: all functions of both texts are the same. No condition. -/
import Derived.Test.YtiojagjejddocaaGreatDoorLm4
namespace Go.Proofs.YtiojagjejddocaaGreatDoor
open Go Go.Sq
set_option linter.unusedVariables false
theorem same_ok (a : List Lot) (hl : a.length ≤ 1000) : ref29_Same a a = some true := by
  unfold ref29_Same
  simp only [decide_true, Bool.not_true, cond_false]
  have k1 : iter (fun x : Int => ref29_Same_L0 a a x) 0 = some (.inl ()) := by
    refine iter_for (step := fun x : Int => ref29_Same_L0 a a x) a.length (fun j => (j : Int)) (fun j hj => ?_) ?_
    · unfold ref29_Same_L0
      simp only [dec_t (show (j : Int) < (a.length : Int) by omega), cond_true, gd_t (inB_t hj), Int.toNat_natCast, decide_true, Bool.and_self, Bool.not_true, cond_false]
      rw [wi_next j (by omega)]
    · unfold ref29_Same_L0
      simp only [dec_f (show ¬ (a.length : Int) < (a.length : Int) by omega), cond_false]
  rw [k1]; rfl
theorem sameB_ok (a : List Bat) (hl : a.length ≤ 1000) : ref29_SameBatches a a = some true := by
  unfold ref29_SameBatches
  simp only [decide_true, Bool.not_true, cond_false]
  have k1 : iter (fun x : Int => ref29_SameBatches_L0 a a x) 0 = some (.inl ()) := by
    refine iter_for (step := fun x : Int => ref29_SameBatches_L0 a a x) a.length (fun j => (j : Int)) (fun j hj => ?_) ?_
    · unfold ref29_SameBatches_L0
      simp only [dec_t (show (j : Int) < (a.length : Int) by omega), cond_true, gd_t (inB_t hj), Int.toNat_natCast, decide_true, Bool.and_self, Bool.not_true, cond_false]
      rw [wi_next j (by omega)]
    · unfold ref29_SameBatches_L0
      simp only [dec_f (show ¬ (a.length : Int) < (a.length : Int) by omega), cond_false]
  rw [k1]; rfl
theorem mlt_cmp : Plots_made.CmpLt (fun h => (lots_Batches_1 h.1 h.2.1).bind fun y => some y) (fun x y => decide (mcmp x y < 0)) := fun x y => ⟨mcmp x y, by show (lots_Batches_1 x y).bind _ = _; rw [mcmp_ok]; rfl, rfl⟩
def lotsOf (T : List Made) : List Lot := (List.range T.length).map fun (i : Nat) => ((i : Int), ((T.getD i m0).1.2.2.2.2.2, (0 : Int)))
theorem lotsOf_len (T : List Made) : (lotsOf T).length = T.length := by simp [lotsOf]
theorem lotsOf_get {T : List Made} {i : Nat} (h : i < T.length) : (lotsOf T).getD i (0, (0, 0)) = ((i : Int), ((T.getD i m0).1.2.2.2.2.2, 0)) := by
  unfold lotsOf
  rw [gD_eq (by simpa using h)]; simp
theorem lots_L1 {T : List Made} (hT : T.length ≤ 1000) : iter (fun x2 : Int × List Bat × List Lot × List Made => lots_Batches_L1 T x2.1 x2.2.1 x2.2.2.1 x2.2.2.2) (0, [], [], T) = some (T.map (·.2.1), lotsOf T) := by
  refine iter_for (step := fun x2 : Int × List Bat × List Lot × List Made => lots_Batches_L1 T x2.1 x2.2.1 x2.2.2.1 x2.2.2.2) T.length (fun i => ((i : Int), (T.map (·.2.1)).take i, (lotsOf T).take i, T)) (fun i hi => ?_) ?_
  · unfold lots_Batches_L1
    simp only [dec_t (show (i : Int) < (T.length : Int) by omega), cond_true, gd_t (inB_t hi), Int.toNat_natCast]
    rw [gd_t (fits_t (by rw [List.length_take]; omega)), gd_t (fits_t (by rw [List.length_take]; omega)), wi_next i (by omega), take_next (l := T.map (·.2.1)) (m0.2.1) (by simpa using hi), gD_map (·.2.1) T i m0 m0.2.1 hi, take_next (l := lotsOf T) (0, (0, 0)) (by rw [lotsOf_len]; exact hi), lotsOf_get hi]
    rfl
  · unfold lots_Batches_L1
    simp only [dec_f (show ¬ (T.length : Int) < (T.length : Int) by omega), cond_false]
    rw [List.take_of_length_le (by simp), List.take_of_length_le (by rw [lotsOf_len]; omega)]
theorem ref_L2 {T : List Made} (hT : T.length ≤ 1000) : iter (fun x3 : Int × List RRow × List Bat × List Lot => ref29_Batches_L2 x3.1 x3.2.1 x3.2.2.1 x3.2.2.2) (0, T.map conv, [], []) = some (T.map (·.2.1), lotsOf T) := by
  have hl : (T.map conv).length = T.length := List.length_map ..
  refine iter_for (step := fun x3 : Int × List RRow × List Bat × List Lot => ref29_Batches_L2 x3.1 x3.2.1 x3.2.2.1 x3.2.2.2) T.length (fun i => ((i : Int), T.map conv, (T.map (·.2.1)).take i, (lotsOf T).take i)) (fun i hi => ?_) ?_
  · unfold ref29_Batches_L2
    simp only [hl, dec_t (show (i : Int) < (T.length : Int) by omega), cond_true, gd_t (inB_t hi), Int.toNat_natCast]
    have eg : (T.map conv).getD i r0' = conv (T.getD i m0) := gD_map conv T i m0 r0' hi
    have hr0 : ((([], ([], ([], ([], (0, 0))))), (0, (0, ([], (0, 0))))) : RRow) = r0' := rfl
    rw [gd_t (fits_t (by rw [List.length_take]; omega)), gd_t (fits_t (by rw [List.length_take]; omega)), wi_next i (by omega), take_next (l := T.map (·.2.1)) (m0.2.1) (by simpa using hi), gD_map (·.2.1) T i m0 m0.2.1 hi, take_next (l := lotsOf T) (0, (0, 0)) (by rw [lotsOf_len]; exact hi), lotsOf_get hi, hr0, eg]
    rfl
  · unfold ref29_Batches_L2
    simp only [hl, dec_f (show ¬ (T.length : Int) < (T.length : Int) by omega), cond_false]
    rw [List.take_of_length_le (by simp), List.take_of_length_le (by rw [lotsOf_len]; omega)]
structure BatP (B : List Bat) (L : List Lot) : Prop where
  b : B.length ≤ 200
  l : L.length ≤ 200
  p : ∀ x ∈ B, 0 ≤ x.1 ∧ x.1 ≤ 1000
theorem batP_nil : BatP [] [] := ⟨by simp, by simp, fun x hx => by cases hx⟩
theorem batches_eq (n : Net) {ps : List Pro} (hpn : ∀ p ∈ ps, p.1.length ≤ 1000000) (hp : ps.length ≤ 1000) {l : List Nom} (hl : l.length ≤ 1000000) {order : List Str} (ho : order.length ≤ 1000) :
    ∃ e B L, lots_Batches n ps l order = some (e, B, L) ∧ ref29_Batches n ps l order = some (e, B, L) ∧ BatP B L ∧
      (chkNet n = 0 → chkB ps = 0 → chkN l = 0 → ∀ T, nomination_Totals l = some (T, 0) → T.length ≤ 200 → T.all (fun x => !badN n ps x) = true → ∃ S, S.Perm (T.map (mk n ps order)) ∧ e = 0 ∧ B = S.map (·.2.1) ∧ L = lotsOf S) := by
  unfold lots_Batches ref29_Batches
  simp only [show network_Check (n.1, (n.2.1, (n.2.2.1, (n.2.2.2.1, (n.2.2.2.2.1, n.2.2.2.2.2))))) = _ from netcheck_eq n, show ref12_Check (n.1, (n.2.1, (n.2.2.1, (n.2.2.2.1, (n.2.2.2.2.1, n.2.2.2.2.2))))) = _ from refcheck_eq n, Option.bind_some]
  by_cases h0 : chkNet n = 0
  case neg => rw [dec_f h0]; exact ⟨_, [], [], rfl, rfl, batP_nil, fun c => absurd c h0⟩
  rw [dec_t h0, h0]
  simp only [Bool.not_true, cond_false]
  have hn : Small n := by
    refine (limB_iff n).1 ?_
    cases hh : limB n with
    | true => rfl
    | false => unfold chkNet at h0; rw [hh] at h0; cases h0
  rw [check_eq ps hpn (by omega), rcheck_eq ps hpn (by omega)]
  simp only [Option.bind_some]
  by_cases h1 : chkB ps = 0
  case neg => rw [dec_f h1]; exact ⟨_, [], [], rfl, rfl, batP_nil, fun _ c => absurd c h1⟩
  rw [dec_t h1, h1]
  simp only [Bool.not_true, cond_false]
  rw [ncheck_eq l hl, rcheckN_eq l hl]
  simp only [Option.bind_some]
  by_cases h2 : chkN l = 0
  case neg => rw [dec_f h2]; exact ⟨_, [], [], rfl, rfl, batP_nil, fun _ _ c => absurd c h2⟩
  rw [dec_t h2, h2]
  simp only [Bool.not_true, cond_false]
  obtain ⟨T, e, t1, t2, t3⟩ := rtot_eq l hl
  rw [t1, t2]
  simp only [Option.bind_some]
  by_cases h3 : e = 0
  case neg => rw [dec_f h3]; exact ⟨_, [], [], rfl, rfl, batP_nil, fun _ _ _ T' c => by injection c with c; injection c with _ c; exact absurd c h3⟩
  subst h3
  simp only [decide_true, Bool.not_true, cond_false]
  by_cases h4 : 200 < (T.length : Int)
  · rw [dec_t h4]; exact ⟨_, [], [], rfl, rfl, batP_nil, fun _ _ _ T' c c2 => by injection c with c; injection c with c _; subst c; omega⟩
  rw [dec_f h4]
  simp only [cond_false]
  obtain ⟨hv, h400⟩ := chkN_zero h2
  have hvol := fun x hx => (valN (hv x hx)).v
  have hdif : T.Pairwise fun x y => nkey x ≠ nkey y := by
    rcases totals_any (l := l) (by omega) (by rw [ncheck_eq l hl, h2]) hvol with ⟨_, ht⟩ | ⟨_, T', ht, hT⟩
    · rw [t1] at ht
      injection ht with ht
      injection ht with _ ht
      cases ht
    · rw [t1] at ht
      injection ht with ht
      injection ht with ht _
      subst ht
      refine hT.strict.imp fun {a b} hab he => ?_
      have := ncmp_self (nkey b)
      rw [ncmp_nkey, he, this] at hab
      omega
  rw [rows_eq hn hp ho (by omega)]
  obtain ⟨r, r1, r2⟩ := rrows_ok hn hp ho (e := 0) (T := T) (by omega) hdif
  rw [show iter (fun x2 => ref29_Batches_L0 n ps order (T, 0) x2.1 x2.2) (0, []) = _ from r1]
  simp only [Option.bind_some]
  rcases r2 with ⟨hb, rfl⟩ | ⟨hb, S, rfl, hS⟩
  · rw [hb]; exact ⟨_, [], [], rfl, rfl, batP_nil, fun _ _ _ T' c _ c2 => by injection c with c; injection c with c _; subst c; rw [hb] at c2; cases c2⟩
  rw [hb]
  have hbad : ∀ x ∈ T, badN n ps x = false := fun x hx => by
    have := List.all_eq_true.1 hb x hx
    simpa using this
  obtain ⟨S', s1, s2, s3⟩ := Plots_made.sort_ok mlt_cmp mcmp_good.swo (T.map (mk n ps order)) (by simp; omega)
  have hperm := hS.perm
  rw [List.take_length] at hperm
  have hSS : S' = S := by
    refine List.Perm.eq_of_pairwise (le := fun x y => decide (mcmp y x < 0) = false) (fun a b ha hb h3 h4 => ?_) s3 (hS.srt.imp fun {a b} hab => ?_) (s2.trans hperm.symm)
    · have h3 := of_decide_eq_false h3
      have h4 := of_decide_eq_false h4
      have k1 := mcmp_good.anti a b
      have k2 := mcmp_good.anti b a
      obtain ⟨x, hx, rfl⟩ := List.mem_map.1 (s2.mem_iff.1 ha)
      obtain ⟨y, hy, rfl⟩ := List.mem_map.1 (hperm.mem_iff.1 hb)
      have hk := mk_inj (n := n) (ps := ps) (order := order) (hbad x hx) (hbad y hy) (by omega)
      obtain ⟨i, hi, rfl⟩ := List.mem_iff_getElem.1 hx
      obtain ⟨j, hj, rfl⟩ := List.mem_iff_getElem.1 hy
      rcases Nat.lt_trichotomy i j with hlt | rfl | hlt
      · exact absurd hk (List.pairwise_iff_getElem.1 hdif i j hi hj hlt)
      · rfl
      · exact absurd hk.symm (List.pairwise_iff_getElem.1 hdif j i hj hi hlt)
    · have hab : mcmp a b < 0 := hab
      have k1 := mcmp_good.anti a b
      have k2 := mcmp_good.anti b a
      exact dec_f (by omega)
  subst hSS
  have hlen : S'.length = T.length := by have := hperm.length_eq; simpa using this
  refine ⟨0, S'.map (·.2.1), lotsOf S', ?_, ?_, ⟨by simp; omega, by rw [lotsOf_len]; omega, fun x hx => ?_⟩, fun _ _ _ T' c _ _ => by injection c with c; injection c with c _; subst c; exact ⟨S', hperm, rfl, rfl, rfl⟩⟩
  · simp only [cond_true, Sum.elim_inl]
    rw [show slices_SortFunc_lots_made_lots_made (fun h => (lots_Batches_1 h.1 h.2.1).bind fun y => some y) (T.map (mk n ps order)) = _ from s1, Option.bind_some, lots_L1 (by omega)]; rfl
  · simp only [Sum.elim_inl]
    rw [ref_L2 (by omega)]; rfl
  · obtain ⟨m, hm, rfl⟩ := List.mem_map.1 hx
    obtain ⟨y, hy, rfl⟩ := List.mem_map.1 (hperm.mem_iff.1 hm)
    have hq := hbad y hy
    unfold badN at hq
    simp only [Bool.or_eq_false_iff, decide_eq_false_iff_not] at hq
    obtain ⟨f1, f2, f3⟩ := fnd_ok hq.1
    show 0 ≤ fndI ps y.2.1 ∧ fndI ps y.2.1 ≤ 1000
    omega
/-! ### The first lot; pumping -/
def hdI (l : List Lot) : Nat := l.findIdx fun x => decide (x.2.2 < x.2.1)
def hd (l : List Lot) : Int × Bool := if hdI l < l.length then (((hdI l : Nat) : Int), true) else (0, false)
theorem head_eq (l : List Lot) (hl : l.length ≤ 1000) : lots_Head l = some (hd l) := by
  unfold lots_Head hd
  rw [idx_api_Lot_api_Lot l (fun x => decide (x.2.2 < x.2.1)) _ (fun x _ => rfl) (by omega), Option.bind_some]
  show some (max 0 (if hdI l < l.length then ((hdI l : Nat) : Int) else -1), decide (0 ≤ (if hdI l < l.length then ((hdI l : Nat) : Int) else -1))) = _
  by_cases hf : hdI l < l.length
  · rw [if_pos hf, if_pos hf, dec_t (by omega), Int.max_eq_right (by omega)]
  · rw [if_neg hf, if_neg hf]; rfl
theorem rhead_eq (l : List Lot) (hl : l.length ≤ 1000) : ref29_Head l = some (hd l) := by
  unfold ref29_Head hd
  have k := iter_find (ε := Unit ⊕ (Int × Bool)) (step := fun v => ref29_Head_L0 l v) l (0, (0, 0)) (fun x => decide (x.2.2 < x.2.1)) (fin := .inl ()) (fun i => .inr ((i : Int), true)) (fun i hi hq => by
    unfold ref29_Head_L0
    rw [dec_t (show (i : Int) < (l.length : Int) by omega), cond_true, gd_t (inB_t hi), gd_t (inB_t hi), Int.toNat_natCast, hq, cond_false, w1 hi (by omega)]) (fun i hi hq => by
    unfold ref29_Head_L0
    rw [dec_t (show (i : Int) < (l.length : Int) by omega), cond_true, gd_t (inB_t hi), gd_t (inB_t hi), Int.toNat_natCast, hq, cond_true]) (by
    unfold ref29_Head_L0
    rw [dec_f (by omega)]; rfl)
  rw [k, Option.bind_some]
  show Sum.elim _ _ (if hdI l < l.length then _ else _) = _
  by_cases hf : hdI l < l.length
  · rw [if_pos hf, if_pos hf]; rfl
  · rw [if_neg hf, if_neg hf]; rfl
theorem clone_eq (l : List Lot) (hl : l.length ≤ 1000) : slices_Clone_api_Lot_api_Lot l = some l := by
  unfold slices_Clone_api_Lot_api_Lot
  rw [gd_t (fits_t (show (0 + l.length) * 24 ≤ _ by omega))]
  cases h : Nat.beq l.length 0 with
  | true =>
    have := List.eq_nil_of_length_eq_zero (Nat.eq_of_beq_eq_true h)
    subst this
    unfold bothO
    simp
  | false => rfl
def wrB (x : Lot) : Bool := (decide (x.2.1 < 0) || decide (1099511627776 < x.2.1)) || (decide (x.2.2 < 0) || decide (1099511627776 < x.2.2))
theorem pump_eq (l : List Lot) (r : Int) (hl : l.length ≤ 200) : ∃ (b e : Int) (o : List Lot), lots_Pump l r = some (b, e, o) ∧ ref29_Pump l r = some (o, b, e) ∧ o.length ≤ 200 := by
  have hc : slices_ContainsFunc_api_Lot_api_Lot l (fun h => (lots_Pump_2 h.1 ()).bind fun y => some y) = some (l.any wrB) := by
    refine any_api_Lot_api_Lot l wrB _ (fun x _ => ?_) (by omega)
    show (lots_Pump_2 x ()).bind _ = _
    unfold lots_Pump_2 lots_Pump_1 wrB
    cases decide (x.2.1 < 0) <;> cases decide (1099511627776 < x.2.1) <;> cases decide (x.2.2 < 0) <;> cases decide (1099511627776 < x.2.2) <;> rfl
  have hr : iter (fun x => ref29_Pump_L0 l x) 0 = some (bif l.all (fun x => !wrB x) then .inl () else .inr (l, (0, 21))) := by
    have hb : ∀ i : Nat, (bif decide ((l.getD i (0, (0, 0))).2.1 < 0) then some true else (bif decide (1099511627776 < (l.getD i (0, (0, 0))).2.1) then some true else (bif decide ((l.getD i (0, (0, 0))).2.2 < 0) then some true else some (decide (1099511627776 < (l.getD i (0, (0, 0))).2.2))))) = some (wrB (l.getD i (0, (0, 0)))) := by
      intro i; unfold wrB
      cases decide ((l.getD i (0, (0, 0))).2.1 < 0) <;> cases decide (1099511627776 < (l.getD i (0, (0, 0))).2.1) <;> cases decide ((l.getD i (0, (0, 0))).2.2 < 0) <;> rfl
    refine scan l (0, (0, 0)) (step := fun x => ref29_Pump_L0 l x) (fun x => !wrB x) (fun i hi hq => ?_) (fun i hi hq => ?_) ?_
    all_goals unfold ref29_Pump_L0
    · refine bifT (dec_t (by omega)) (gdE (inB_t hi) ?_)
      rw [Int.toNat_natCast]
      refine bindE (hb i) ?_
      rw [Bool.not_eq_true'] at hq
      rw [hq, cond_false, w1 hi (by omega)]
    · refine bifT (dec_t (by omega)) (gdE (inB_t hi) ?_)
      rw [Int.toNat_natCast]
      refine bindE (hb i) ?_
      rw [Bool.not_eq_false'] at hq
      rw [hq, cond_true]
    · exact bifF (dec_f (by omega)) rfl
  unfold lots_Pump ref29_Pump
  rw [clone_eq l (by omega)]
  simp only [Option.bind_some]
  have hg : ∀ u : List Lot, (bif decide (r < 1) then (some (true, (), u)) else (some (decide (1000 < r), (), u))) = some (decide (r < 1) || decide (1000 < r), (), u) := by
    intro u; cases decide (r < 1) <;> rfl
  have hg2 : (bif decide (r < 1) then (some true) else (some (decide (1000 < r)))) = some (decide (r < 1) || decide (1000 < r)) := by
    cases decide (r < 1) <;> rfl
  rw [hg, hg2]
  simp only [Option.bind_some]
  cases decide (r < 1) || decide (1000 < r) with
  | true => exact ⟨0, 1, l, rfl, rfl, hl⟩
  | false =>
  simp only [cond_false]
  rw [hc, hr]
  simp only [Option.bind_some]
  have hall : l.all (fun x => !wrB x) = !l.any wrB := by simp [List.all_eq_not_any_not]
  rw [hall]
  cases l.any wrB with
  | true => exact ⟨0, 21, l, rfl, rfl, hl⟩
  | false =>
  simp only [cond_false, Bool.not_false, cond_true, Sum.elim_inl]
  rw [dec_f (show ¬ (200 : Int) < (l.length : Int) by omega), head_eq l (by omega), rhead_eq l (by omega)]
  simp only [cond_false, Option.bind_some]
  unfold hd
  by_cases hf : hdI l < l.length
  · rw [if_pos hf]
    simp only [Bool.not_true, cond_false, List.nil_append, Int.toNat_natCast]
    rw [gd_t (inB_t hf), gd_t (inB_t hf), gd_t (inB_t (by rw [List.length_set]; exact hf)), gd_t (fits_t (by omega)), gd_t (inB_t hf), gd_t (inB_t hf), gd_t (inB_t (by rw [List.length_set]; exact hf))]
    exact ⟨_, _, _, rfl, rfl, by rw [List.length_set]; exact hl⟩
  · rw [if_neg hf]
    exact ⟨0, 8, l, rfl, rfl, hl⟩
/-! ### Loops whose steps are the same where they come -/
theorem iter_congr {σ ε : Type} {s s' : σ → Option (σ ⊕ ε)} (I : σ → Prop) {x : σ} (hx : I x) (h : ∀ x, I x → s x = s' x) (hp : ∀ x y, I x → s x = some (.inl y) → I y) : iter s x = iter s' x := by
  have key : ∀ x e, I x → (Iter s x e ↔ Iter s' x e) := by
    intro x e hx
    constructor
    · intro hi
      induction hi with
      | done h1 => exact .done (by rw [← h _ hx]; exact h1)
      | next h1 _ ih => exact .next (by rw [← h _ hx]; exact h1) (ih (hp _ _ hx h1))
    · intro hi
      induction hi with
      | done h1 => exact .done (by rw [h _ hx]; exact h1)
      | next h1 _ ih =>
        rw [← h _ hx] at h1
        exact .next h1 (ih (hp _ _ hx h1))
  have e : Iter s x = Iter s' x := funext fun e => propext (key x e hx)
  unfold iter
  rw [e]
theorem of_same (B : List Bat) (L : List Lot) (p : Int) (hL : L.length ≤ 1000) : ref29_Of B L p = lots_Of B L p := by
  unfold ref29_Of lots_Of
  congr 1
  refine iter_congr (fun x : Int × List Lot => ∃ i : Nat, x.1 = (i : Int)) ⟨0, rfl⟩ ?_ ?_
  · rintro ⟨_, o⟩ ⟨i, rfl⟩
    simp only
    unfold ref29_Of_L0 lots_Of_L0
    by_cases hi : (i : Int) < (L.length : Int)
    · rw [dec_t hi, cond_true, cond_true, gd_t (inB_t (show i < L.length by omega)), gd_t (inB_t (show i < L.length by omega))]
      simp only [gd_t (inB_t (show i < L.length by omega))]
    · rw [dec_f hi]; rfl
  · rintro ⟨_, o⟩ y ⟨i, rfl⟩ h
    simp only at h
    unfold ref29_Of_L0 at h
    by_cases hi : (i : Int) < (L.length : Int)
    · rw [dec_t hi, cond_true, gd_t (inB_t (show i < L.length by omega)), w1 (show i < L.length by omega) (by omega)] at h
      have key : ∀ {A C : Type} {u : Option A} {v : A → Option C} {w : C}, u.bind v = some w → ∃ a, v a = some w := by
        intro A C u v w h
        cases u with
        | none => cases h
        | some a => exact ⟨a, h⟩
      obtain ⟨a, h⟩ := key h
      obtain ⟨b, h⟩ := key h
      injection h with h
      injection h with h
      subst h
      exact ⟨i + 1, rfl⟩
    · rw [dec_f hi] at h; cases h
theorem of_ok (B : List Bat) (L : List Lot) (p : Int) (hL : L.length ≤ 1000) : Ok (lots_Of B L p) fun o => o.length ≤ 1000 := by
  unfold lots_Of
  refine Ok.bind (Q := fun o : List Lot => o.length ≤ 1000) ?_ fun o ho => .ret ho
  refine Ok.loop (fun x : Int × List Lot => ∃ i : Nat, x.1 = (i : Int) ∧ i ≤ L.length ∧ x.2.length ≤ i) (fun x => L.length - x.1.toNat) ⟨0, rfl, by omega, by simp⟩ ?_
  rintro ⟨_, o⟩ ⟨i, rfl, hi, ho⟩
  unfold lots_Of_L0
  simp only at ho ⊢
  refine Ok.bif (fun hc => ?_) fun hc => .ret (by (try simp only); omega)
  have hc := of_decide_eq_true hc
  have hi : i < L.length := by omega
  refine Ok.gd (inB_t hi) ?_
  rw [Int.toNat_natCast]
  refine Ok.bind (Q := fun q : Bool × List Lot => q.2 = o) ?_ ?_
  · refine Ok.bif (fun h1 => ?_) fun _ => .ret rfl
    refine Ok.bif (fun h2 => ?_) fun _ => .ret rfl
    have h1 := of_decide_eq_true h1
    have h2 := of_decide_eq_true h2
    exact Ok.gd (inB_iff.2 ⟨h1, h2⟩) (.ret rfl)
  rintro ⟨b, o2⟩ e2
  replace e2 : o2 = o := e2
  subst e2
  refine Ok.bind (Q := fun q : List Lot => q.length ≤ i + 1) (Ok.bif (fun _ => Ok.gd (fits_t (by (try simp only); omega)) (.ret (by simp; omega))) fun _ => .ret (by (try simp only); omega)) ?_
  intro q hq
  rw [w1 hi (by omega)]
  exact .ret ⟨⟨i + 1, rfl, hi, hq⟩, by simp only [Int.toNat_natCast]; omega⟩
/-! ### Volumes of products -/
theorem most_ok {B : List Bat} (hb : B.length ≤ 1000) (hp : ∀ x ∈ B, 0 ≤ x.1 ∧ x.1 ≤ 1000) : Ok (iter (fun x : Int × Int => lots_Totals_L0 B x.1 x.2) (-1, 0)) fun s => -1 ≤ s ∧ s ≤ 1000 ∧ ∀ x ∈ B, x.1 ≤ s := by
  refine Ok.loop (fun x : Int × Int => ∃ i : Nat, x.2 = (i : Int) ∧ i ≤ B.length ∧ -1 ≤ x.1 ∧ x.1 ≤ 1000 ∧ ∀ t ∈ B.take i, t.1 ≤ x.1) (fun x => B.length - x.2.toNat) ⟨0, rfl, by omega, by (try simp only); omega, by (try simp only); omega, fun t ht => by simp at ht⟩ ?_
  rintro ⟨mx, _⟩ ⟨i, rfl, hi, h1, h2, h3⟩
  unfold lots_Totals_L0
  simp only at h1 h2 h3 ⊢
  refine Ok.bif (fun hc => ?_) fun hc => ?_
  · have hc := of_decide_eq_true hc
    have hi : i < B.length := by omega
    refine Ok.gd (inB_t hi) ?_
    rw [Int.toNat_natCast, w1 hi (by omega)]
    have hpi := hp _ (gD_mem (d := (0, ([], (0, 0)))) hi)
    refine .ret ⟨⟨i + 1, rfl, hi, by (try simp only); omega, by (try simp only); omega, fun t ht => ?_⟩, by simp only [Int.toNat_natCast]; omega⟩
    rw [take_next (0, ([], (0, 0))) hi] at ht
    rcases List.mem_append.1 ht with ht | ht
    · have := h3 t ht; (try simp only); omega
    · rw [List.mem_singleton.1 ht]; (try simp only); omega
  · have hc := of_decide_eq_false hc
    refine .ret ⟨h1, h2, fun x hx => h3 x ?_⟩
    rw [List.take_of_length_le (by omega)]; exact hx
theorem rtotals_same {B : List Bat} {L : List Lot} (hB : BatP B L) : ref29_Totals B L = lots_Totals B L := by
  unfold ref29_Totals lots_Totals
  have e0 : (fun x : Int × Int => ref29_Totals_L0 B x.1 x.2) = fun x : Int × Int => lots_Totals_L0 B x.1 x.2 := rfl
  rw [e0]
  have hl := hB.l; have hbl := hB.b
  congr 1
  funext s
  congr 2
  refine iter_congr (fun x : Int × List Int => ∃ i : Nat, x.1 = (i : Int)) ⟨0, rfl⟩ ?_ ?_
  · rintro ⟨_, o⟩ ⟨i, rfl⟩
    simp only
    unfold ref29_Totals_L1 lots_Totals_L1
    by_cases hi : (i : Int) < (L.length : Int)
    · have hi' : i < L.length := by omega
      rw [dec_t hi, cond_true, cond_true]
      simp only [gd_t (inB_t hi'), Int.toNat_natCast]
      by_cases h0 : 0 ≤ (L.getD i (0, (0, 0))).1
      · rw [dec_t h0, dec_f (show ¬ (L.getD i (0, (0, 0))).1 < 0 by omega)]
        simp only [cond_true, cond_false]
        by_cases h1 : (L.getD i (0, (0, 0))).1 < (B.length : Int)
        · rw [dec_t h1, dec_f (show ¬ (B.length : Int) ≤ (L.getD i (0, (0, 0))).1 by omega)]
          simp only [cond_true, cond_false, gd_t (inB_iff.2 ⟨h0, h1⟩), Option.bind_some]
          cases decide (0 ≤ (B.getD (L.getD i (0, (0, 0))).1.toNat (0, ([], (0, 0)))).1) with
          | false => rfl
          | true =>
            simp only [cond_true]
            cases inB (B.getD (L.getD i (0, (0, 0))).1.toNat (0, ([], (0, 0)))).1 o.length <;> rfl
        · rw [dec_f h1, dec_t (show (B.length : Int) ≤ (L.getD i (0, (0, 0))).1 by omega)]; rfl
      · rw [dec_f h0, dec_t (show (L.getD i (0, (0, 0))).1 < 0 by omega)]; rfl
    · rw [dec_f hi]; rfl
  · rintro ⟨_, o⟩ y ⟨i, rfl⟩ h
    simp only at h
    unfold ref29_Totals_L1 at h
    by_cases hi : (i : Int) < (L.length : Int)
    · rw [dec_t hi, cond_true, gd_t (inB_t (show i < L.length by omega)), w1 (show i < L.length by omega) (by omega)] at h
      have key : ∀ {A C : Type} {u : Option A} {v : A → Option C} {w : C}, u.bind v = some w → ∃ a, v a = some w := by
        intro A C u v w h
        cases u with
        | none => cases h
        | some a => exact ⟨a, h⟩
      obtain ⟨a, h⟩ := key h
      obtain ⟨b, h⟩ := key h
      injection h with h
      injection h with h
      subst h
      exact ⟨i + 1, rfl⟩
    · rw [dec_f hi] at h; cases h
theorem totals_ok {B : List Bat} {L : List Lot} (hB : BatP B L) : Ok (lots_Totals B L) fun t => t.length ≤ 2000 := by
  have hl := hB.l; have hbl := hB.b
  unfold lots_Totals
  refine Ok.bind (most_ok (by omega) hB.p) ?_
  rintro s ⟨s0, s1, s2⟩
  rw [wi (show -9223372036854775808 ≤ s + 1 ∧ s + 1 ≤ 9223372036854775807 by omega)]
  obtain ⟨m, rfl⟩ : ∃ m : Nat, s = (m : Int) - 1 := ⟨(s + 1).toNat, by omega⟩
  rw [show (m : Int) - 1 + 1 = (m : Int) by omega]
  refine Ok.gd (makeG_t (by omega)) ?_
  rw [Int.toNat_natCast]
  refine Ok.bind (Q := fun o : List Int => o.length = m) ?_ fun o ho => .ret (by omega)
  refine Ok.loop (fun x : Int × List Int => ∃ i : Nat, x.1 = (i : Int) ∧ i ≤ L.length ∧ x.2.length = m) (fun x => L.length - x.1.toNat) ⟨0, rfl, by omega, by simp⟩ ?_
  rintro ⟨_, o⟩ ⟨i, rfl, hi, ho⟩
  unfold lots_Totals_L1
  simp only at ho ⊢
  refine Ok.bif (fun hc => ?_) fun hc => .ret ho
  have hc := of_decide_eq_true hc
  have hi : i < L.length := by omega
  refine Ok.bind (Q := fun q : List Int => q.length = m) ?_ ?_
  · refine Ok.gd (inB_t hi) ?_
    rw [Int.toNat_natCast]
    refine Ok.bind (Q := fun q : Bool × List Int => q.2 = o ∧ (q.1 = false → 0 ≤ (L.getD i (0, (0, 0))).1 ∧ (L.getD i (0, (0, 0))).1 < (B.length : Int))) ?_ ?_
    · refine Ok.bif (fun h1 => .ret ⟨rfl, fun h => by cases h⟩) fun h1 => .ret ⟨rfl, fun h => ?_⟩
      have h1 := of_decide_eq_false h1
      have h := of_decide_eq_false h
      omega
    rintro ⟨b, o2⟩ ⟨e2, hb⟩
    replace e2 : o2 = o := e2
    subst e2
    refine Ok.bif (fun _ => .ret ho) fun hbf => ?_
    obtain ⟨b0, b1⟩ := hb hbf
    refine Ok.gd (inB_iff.2 ⟨b0, b1⟩) ?_
    have hmem : B.getD (L.getD i (0, (0, 0))).1.toNat (0, ([], (0, 0))) ∈ B := gD_mem (by omega)
    have hx := s2 _ hmem
    refine Ok.bind (Q := fun q : List Int => q.length = m) (Ok.bif (fun h2 => ?_) fun _ => .ret ho) fun q hq => .ret hq
    have h2 := of_decide_eq_true h2
    have hin : inB (B.getD (L.getD i (0, (0, 0))).1.toNat (0, ([], (0, 0)))).1 (o2.length) = true := inB_iff.2 ⟨h2, by omega⟩
    exact Ok.gd hin (Ok.gd hin (.ret (by (try simp only); rw [List.length_set]; exact ho)))
  intro q hq
  rw [w1 hi (by omega)]
  exact .ret ⟨⟨i + 1, rfl, hi, hq⟩, by simp only [Int.toNat_natCast]; omega⟩
end Go.Proofs.YtiojagjejddocaaGreatDoor
