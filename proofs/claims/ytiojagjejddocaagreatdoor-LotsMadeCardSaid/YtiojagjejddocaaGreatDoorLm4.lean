/- Batches of nominations: both texts make the same. No condition. -/
import Derived.Test.YtiojagjejddocaaGreatDoorLm3
namespace Go.Proofs.YtiojagjejddocaaGreatDoor
open Go Go.Sq
set_option linter.unusedVariables false
theorem bindE {A B : Type} {x : Option A} {a : A} {f : A → Option B} {y : Option B} (h : x = some a) (h2 : f a = y) : x.bind f = y := by rw [h]; exact h2
theorem gdE {A : Type} {c : Bool} {x y : Option A} (hc : c = true) (h : x = y) : gd c x = y := by rw [hc]; exact h
theorem bifT {A : Type} {c : Bool} {x x' y : A} (hc : c = true) (h : x = y) : (bif c then x else x') = y := by rw [hc]; exact h
theorem bifF {A : Type} {c : Bool} {x x' y : A} (hc : c = false) (h : x' = y) : (bif c then x else x') = y := by rw [hc]; exact h
theorem rows_eq {n : Net} (hn : Small n) {ps : List Pro} (hp : ps.length ≤ 1000) {order : List Str} (ho : order.length ≤ 1000) {T : List Nom} {e : Int} (hT : T.length ≤ 200) :
    iter (fun x : Int × List Made => lots_Batches_L0 n ps order (T, e) x.1 x.2) (0, []) = some (bif T.all (fun x => !badN n ps x) then .inl (T.map (mk n ps order)) else .inr 8) := by
  have hbd : ∀ (i : Nat) (all : List Made), (bif decide (fndI ps (T.getD i n0).2.1 < 0) then (some (true, all)) else (bif decide (ptI n (T.getD i n0).2.2.1 < 0) then (some (true, all)) else (some (decide (ptI n (T.getD i n0).2.2.2.1 < 0), all)))) = some (badN n ps (T.getD i n0), all) := by
    intro i all; unfold badN
    cases decide (fndI ps (T.getD i n0).2.1 < 0) <;> cases decide (ptI n (T.getD i n0).2.2.1 < 0) <;> rfl
  have := iter_all (ε := List Made ⊕ Int) (step := fun x : Int × List Made => lots_Batches_L0 n ps order (T, e) x.1 x.2) T.length (fun i => ((i : Int), (T.map (mk n ps order)).take i)) (fun i => !badN n ps (T.getD i n0)) (fin := .inl (T.map (mk n ps order))) (bad := .inr 8) (fun i hi _ hq => ?_) (fun i hi _ hq => ?_) (fun _ => ?_)
  · rw [all_gD T n0 (fun x => !badN n ps x)] at this; exact this
  all_goals unfold lots_Batches_L0; simp only
  · refine bifT (dec_t (by omega)) (gdE (inB_t hi) ?_)
    rw [Int.toNat_natCast]
    refine bindE (find_eq ps _ (by omega)) (bindE (nport_eq hn _) (bindE (nport_eq hn _) (bindE (hbd i _) ?_)))
    rw [Bool.not_eq_true'] at hq
    refine bifF hq ?_
    unfold badN at hq
    simp only [Bool.or_eq_false_iff, decide_eq_false_iff_not] at hq
    obtain ⟨f1, f2, f3⟩ := fnd_ok hq.1
    refine bindE (a := rkI ps order (fnd ps (T.getD i n0).2.1)) ?_ (gdE (fits_t (by simp only [List.length_take]; omega)) ?_)
    · exact (congrArg (fun z => lots_rank ps order z) f2).trans (lrank_eq f1 hp ho)
    rw [w1 hi (by omega), take_next (l := T.map (mk n ps order)) (mk n ps order n0) (by simpa using hi), gD_map (mk n ps order) T i n0 _ hi]
    rfl
  · refine bifT (dec_t (by omega)) (gdE (inB_t hi) ?_)
    rw [Int.toNat_natCast]
    refine bindE (find_eq ps _ (by omega)) (bindE (nport_eq hn _) (bindE (nport_eq hn _) (bindE (hbd i _) ?_)))
    rw [Bool.not_eq_false'] at hq
    exact bifT hq rfl
  · refine bifF (dec_f (by omega)) ?_
    rw [List.take_of_length_le (by simp)]
/-! ### Insertion -/
theorem ins_pw {A : Type} {lt : A → A → Prop} (tr : ∀ a b c, lt a b → lt b c → lt a c) {K : List A} {x : A} {p : Nat} (hs : K.Pairwise lt) (h1 : ∀ y ∈ K.take p, lt y x) (h2 : ∀ y ∈ K.drop p, lt x y) : (K.take p ++ x :: K.drop p).Pairwise lt := by
  refine List.pairwise_append.2 ⟨hs.sublist (List.take_sublist _ _), List.pairwise_cons.2 ⟨h2, hs.sublist (List.drop_sublist _ _)⟩, fun a ha b hb => ?_⟩
  rcases List.mem_cons.1 hb with rfl | hb
  · exact h1 a ha
  · exact tr _ _ _ (h1 a ha) (h2 b hb)
def mlt (a b : Made) : Prop := mcmp a b < 0
theorem mlt_trans (a b c : Made) (h1 : mlt a b) (h2 : mlt b c) : mlt a c := by
  unfold mlt at *
  have h3 := mcmp_good.trans a b c (by omega) (by omega)
  rcases Int.lt_or_le (mcmp a c) 0 with h | h
  · exact h
  · have := mcmp_good.zero2 (x := a) (y := b) (z := c) (by omega) (by omega) (by omega)
    omega
def r0' : RRow := (([], ([], ([], ([], (0, 0))))), (0, (0, ([], (0, 0)))))
theorem place_ok {T : List Nom} {e : Int} {i : Nat} {n : Net} {ps : List Pro} {order : List Str} {S : List Made} (hS : S.length ≤ 200) (hsrt : S.Pairwise mlt) (hx : fndI ps (T.getD i n0).2.1 = ((fnd ps (T.getD i n0).2.1 : Nat) : Int))
    (hne : ∀ y ∈ S, mcmp (mk n ps order (T.getD i n0)) y ≠ 0) :
    Ok (iter (fun x : Int × List RRow => ref29_Batches_L1 (T, e) (i : Int) (fndI ps (T.getD i n0).2.1) (ptI n (T.getD i n0).2.2.1) (ptI n (T.getD i n0).2.2.2.1) (rkI ps order (fnd ps (T.getD i n0).2.1)) x.1 x.2) ((((S.map conv).length : Nat) : Int), S.map conv)) fun r =>
      ∃ p : Nat, r = ((p : Int), S.map conv) ∧ p ≤ S.length ∧ (∀ y ∈ S.take p, mlt y (mk n ps order (T.getD i n0))) ∧ ∀ y ∈ S.drop p, mlt (mk n ps order (T.getD i n0)) y := by
  generalize hX : mk n ps order (T.getD i n0) = X at hne
  have hconv : conv X = (((T.getD i n0).1, ((T.getD i n0).2.1, ((T.getD i n0).2.2.1, ((T.getD i n0).2.2.2.1, ((T.getD i n0).2.2.2.2.1, (T.getD i n0).2.2.2.2.2))))), (rkI ps order (fnd ps (T.getD i n0).2.1), (fndI ps (T.getD i n0).2.1, ((T.getD i n0).1, (ptI n (T.getD i n0).2.2.1, ptI n (T.getD i n0).2.2.2.1))))) := by rw [← hX]; rfl
  refine Ok.loop (fun x : Int × List RRow => ∃ k : Nat, x = ((k : Int), S.map conv) ∧ k ≤ S.length ∧ ∀ y ∈ S.drop k, mlt X y) (fun x => x.1.toNat) ⟨S.length, by simp, by omega, fun y hy => by simp at hy⟩ ?_
  rintro _ ⟨k, rfl, hk, hd⟩
  unfold ref29_Batches_L1
  simp only [Int.toNat_natCast]
  rcases Nat.eq_zero_or_pos k with rfl | hkp
  · rw [dec_f (by omega)]
    exact .ret ⟨0, rfl, by omega, fun y hy => by simp at hy, hd⟩
  · rw [dec_t (show (0 : Int) < (k : Int) by omega), cond_true, show wi64 ((k : Int) - 1) = ((k - 1 : Nat) : Int) by rw [wi (by omega)]; omega, gd_t (inB_t (show k - 1 < (S.map conv).length by simp; omega)), Int.toNat_natCast]
    have hk1 : k - 1 < S.length := by omega
    have eg : (S.map conv).getD (k - 1) r0' = conv (S.getD (k - 1) m0) := gD_map conv S (k - 1) m0 r0' hk1
    have hb : ref29_before (((T.getD i n0).1, ((T.getD i n0).2.1, ((T.getD i n0).2.2.1, ((T.getD i n0).2.2.2.1, ((T.getD i n0).2.2.2.2.1, (T.getD i n0).2.2.2.2.2))))), (rkI ps order (fnd ps (T.getD i n0).2.1), (fndI ps (T.getD i n0).2.1, ((T.getD i n0).1, (ptI n (T.getD i n0).2.2.1, ptI n (T.getD i n0).2.2.2.1))))) ((S.map conv).getD (k - 1) r0') = some (decide (mcmp X (S.getD (k - 1) m0) < 0)) := by
      rw [eg, ← hconv, bef_ok]
    refine Ok.bind (Q := fun q => q = (decide (mcmp X (S.getD (k - 1) m0) < 0), S.map conv)) (Ok.eq hb (.ret rfl)) ?_
    rintro _ rfl
    simp only
    refine Ok.bif (fun hc => ?_) fun hc => ?_
    · have hc := of_decide_eq_true hc
      refine .ret ⟨⟨k - 1, rfl, by omega, fun y hy => ?_⟩, by simp only [Int.toNat_natCast]; omega⟩
      rw [List.drop_eq_getElem_cons hk1] at hy
      rcases List.mem_cons.1 hy with rfl | hy
      · rw [← gD_eq (d := m0) hk1]; exact hc
      · rw [show k - 1 + 1 = k by omega] at hy; exact hd y hy
    · have hc := of_decide_eq_false hc
      refine .ret ⟨k, rfl, hk, fun y hy => ?_, hd⟩
      have hm : (S.getD (k - 1) m0) ∈ S := gD_mem hk1
      have hlt : mlt (S.getD (k - 1) m0) X := by
        have h1 := hne _ hm
        have h2 := mcmp_good.anti (S.getD (k - 1) m0) X
        unfold mlt; omega
      have e2 : S.take k = S.take (k - 1) ++ [S.getD (k - 1) m0] := by
        have := take_next (l := S) m0 hk1
        rwa [show k - 1 + 1 = k by omega] at this
      rw [e2] at hy
      rcases List.mem_append.1 hy with hy | hy
      · have hp : (S.take k).Pairwise mlt := hsrt.sublist (List.take_sublist _ _)
        rw [e2] at hp
        exact mlt_trans _ _ _ ((List.pairwise_append.1 hp).2.2 y hy _ (by simp)) hlt
      · rw [List.mem_singleton.1 hy]; exact hlt
theorem cpy_ins {A : Type} (K : List A) (z x : A) (p : Nat) (hp : p ≤ K.length) : (cpy (K ++ [z]) (p + 1) p).set p x = K.take p ++ x :: K.drop p ∧ p < (cpy (K ++ [z]) (p + 1) p).length := by
  have hl : (K ++ [z]).length = K.length + 1 := by simp
  have e1 : min ((K ++ [z]).length - p) ((K ++ [z]).length - (p + 1)) = K.length - p := by rw [hl]; omega
  have e : cpy (K ++ [z]) (p + 1) p = (K ++ [z]).take (p + 1) ++ K.drop p := by
    unfold cpy
    rw [e1, List.drop_of_length_le (l := K ++ [z]) (i := p + 1 + (K.length - p)) (by rw [hl]; omega), List.append_nil]
    congr 1
    rw [List.drop_append_of_le_length hp, List.take_append_of_le_length (by simp), List.take_of_length_le (by simp)]
  rw [e]
  have hlt : p < ((K ++ [z]).take (p + 1)).length := by rw [List.length_take, hl]; omega
  refine ⟨?_, by rw [List.length_append]; omega⟩
  rw [List.set_append_left _ _ hlt]
  have e2 : (K ++ [z]).take (p + 1) = K.take p ++ [(K ++ [z]).getD p z] := by
    rw [take_next z (by rw [hl]; omega), List.take_append_of_le_length hp]
  have hlen : (K.take p).length = p := by rw [List.length_take]; omega
  have e3 : (K.take p ++ [(K ++ [z]).getD p z]).set p x = K.take p ++ [x] := by
    rw [List.set_append_right _ _ (by omega), hlen, Nat.sub_self]; rfl
  rw [e2, e3]; simp
structure RowsP (n : Net) (ps : List Pro) (order : List Str) (T : List Nom) (i : Nat) (S : List Made) : Prop where
  perm : S.Perm ((T.take i).map (mk n ps order))
  srt : S.Pairwise mlt
theorem RowsP.len {n : Net} {ps : List Pro} {order : List Str} {T : List Nom} {i : Nat} {S : List Made} (h : RowsP n ps order T i S) : S.length ≤ i := by
  have := h.perm.length_eq
  rw [List.length_map, List.length_take] at this; omega
theorem rrows_ok {n : Net} (hn : Small n) {ps : List Pro} (hp : ps.length ≤ 1000) {order : List Str} (ho : order.length ≤ 1000) {T : List Nom} {e : Int} (hT : T.length ≤ 200) (hdif : T.Pairwise fun x y => nkey x ≠ nkey y) :
    Ok (iter (fun x : Int × List RRow => ref29_Batches_L0 n ps order (T, e) x.1 x.2) (0, [])) fun r => (T.all (fun x => !badN n ps x) = false ∧ r = .inr 8) ∨ (T.all (fun x => !badN n ps x) = true ∧ ∃ S, r = .inl (S.map conv) ∧ RowsP n ps order T T.length S) := by
  refine Ok.loop (fun x : Int × List RRow => ∃ (i : Nat) (S : List Made), x = ((i : Int), S.map conv) ∧ i ≤ T.length ∧ RowsP n ps order T i S ∧ ∀ y ∈ T.take i, badN n ps y = false) (fun x => T.length - x.1.toNat) ⟨0, [], rfl, by omega, ⟨by simp, List.Pairwise.nil⟩, fun y hy => by simp at hy⟩ ?_
  rintro _ ⟨i, S, rfl, hi, hS, hb⟩
  unfold ref29_Batches_L0
  simp only
  refine Ok.bif (fun hc => ?_) fun hc => ?_
  · have hc := of_decide_eq_true hc
    have hi : i < T.length := by omega
    refine Ok.gd (inB_t hi) ?_
    rw [Int.toNat_natCast]
    refine Ok.eq (show ref04_Find ps (T.getD i n0).2.1 = _ from rfind_eq ps _ (by omega)) (Ok.gd (inB_t hi) ?_)
    refine Ok.eq (show ref12_Port (n.1, (n.2.1, (n.2.2.1, (n.2.2.2.1, (n.2.2.2.2.1, n.2.2.2.2.2))))) (T.getD i n0).2.2.1 = _ from rport_eq hn _) (Ok.gd (inB_t hi) ?_)
    refine Ok.eq (show ref12_Port (n.1, (n.2.1, (n.2.2.1, (n.2.2.2.1, (n.2.2.2.2.1, n.2.2.2.2.2))))) (T.getD i n0).2.2.2.1 = _ from rport_eq hn _) ?_
    have hbd : (bif decide (fndI ps (T.getD i n0).2.1 < 0) then (some (true, S.map conv)) else (bif decide (ptI n (T.getD i n0).2.2.1 < 0) then (some (true, S.map conv)) else (some (decide (ptI n (T.getD i n0).2.2.2.1 < 0), S.map conv)))) = some (badN n ps (T.getD i n0), S.map conv) := by
      unfold badN
      cases decide (fndI ps (T.getD i n0).2.1 < 0) <;> cases decide (ptI n (T.getD i n0).2.2.1 < 0) <;> rfl
    refine Ok.eq hbd ?_
    simp only
    refine Ok.bif (fun hq => ?_) fun hq => ?_
    · refine .ret (.inl ⟨?_, rfl⟩)
      rw [List.all_eq_false]
      exact ⟨_, gD_mem (d := n0) hi, by rw [hq]; simp⟩
    · have hq0 := hq
      unfold badN at hq
      simp only [Bool.or_eq_false_iff, decide_eq_false_iff_not] at hq
      obtain ⟨f1, f2, f3⟩ := fnd_ok hq.1
      refine Ok.gd (inB_t hi) (Ok.eq (a := rkI ps order (fnd ps (T.getD i n0).2.1)) ((congrArg (fun z => ref29_rank ps order z) f2).trans (rrank_eq f1 hp ho)) (Ok.gd (inB_t hi) ?_))
      have hSl := hS.len
      have hne : ∀ y ∈ S, mcmp (mk n ps order (T.getD i n0)) y ≠ 0 := by
        intro y hy h0
        obtain ⟨z, hz, rfl⟩ := List.mem_map.1 (hS.perm.mem_iff.1 hy)
        have hk := mk_inj hq0 (hb z hz) h0
        have hp2 : (T.take (i + 1)).Pairwise fun x y => nkey x ≠ nkey y := hdif.sublist (List.take_sublist _ _)
        rw [take_next n0 hi] at hp2
        exact (List.pairwise_append.1 hp2).2.2 z hz _ (by simp) hk.symm
      have hpl := place_ok (n := n) (ps := ps) (order := order) (T := T) (e := e) (i := i) (S := S) (by omega) hS.srt f2 hne
      refine Ok.bind hpl ?_
      rintro _ ⟨p, rfl, hp1, hp2, hp3⟩
      simp only
      have hm : (S.map conv ++ [r0']).length = S.length + 1 := by simp
      rw [gd_t (fits_t (by rw [List.length_map]; omega)), show wi64 ((p : Int) + 1) = ((p + 1 : Nat) : Int) by rw [wi (by omega)]; omega]
      have hr0 : ((([], ([], ([], ([], (0, 0))))), (0, (0, ([], (0, 0))))) : RRow) = r0' := rfl
      rw [hr0]
      have g1 : (decide (0 < (S.map conv ++ [r0']).length) && inR ((p + 1 : Nat) : Int) ((S.map conv ++ [r0']).length : Int) (S.map conv ++ [r0']).length) = true := by
        rw [dec_t (by rw [hm]; omega), Bool.true_and]; exact inR_t (by rw [hm]; omega) (Nat.le_refl _)
      have g2 : (decide (0 < (S.map conv ++ [r0']).length) && inR ((p : Nat) : Int) ((S.map conv ++ [r0']).length : Int) (S.map conv ++ [r0']).length) = true := by
        rw [dec_t (by rw [hm]; omega), Bool.true_and]; exact inR_t (by rw [hm]; omega) (Nat.le_refl _)
      obtain ⟨c1, c2⟩ := cpy_ins (S.map conv) r0' (conv (mk n ps order (T.getD i n0))) p (by simp; omega)
      rw [gd_t g1, gd_t g2, gd_t (show (decide True && (decide True && decide (0 < (S.map conv ++ [r0']).length))) = true by rw [dec_t (show 0 < (S.map conv ++ [r0']).length by rw [hm]; omega)]; simp), Int.toNat_natCast, Int.toNat_natCast, gd_t (inB_t c2), w1 hi (by omega)]
      refine .ret ⟨⟨i + 1, S.take p ++ mk n ps order (T.getD i n0) :: S.drop p, ?_, by omega, ⟨?_, ins_pw mlt_trans hS.srt hp2 hp3⟩, ?_⟩, by simp only [Int.toNat_natCast]; omega⟩
      · refine Prod.ext rfl ?_
        refine Eq.trans c1 ?_
        simp only [List.map_append, List.map_cons, List.map_take, List.map_drop]
      · rw [take_next n0 hi, List.map_append]
        refine (List.perm_middle (l₁ := S.take p)).trans ?_
        rw [List.take_append_drop]
        exact (List.Perm.cons _ hS.perm).trans (List.perm_append_comm (l₁ := [mk n ps order (T.getD i n0)]))
      · intro y hy
        rw [take_next n0 hi] at hy
        rcases List.mem_append.1 hy with hy | hy
        · exact hb y hy
        · rw [List.mem_singleton.1 hy]; exact hq0
  · have hc := of_decide_eq_false hc
    have : i = T.length := by omega
    subst this
    refine .ret (.inr ⟨?_, S, rfl, hS⟩)
    rw [List.all_eq_true]
    intro x hx
    rw [List.take_length] at hb
    rw [hb x hx]; rfl
end Go.Proofs.YtiojagjejddocaaGreatDoor
