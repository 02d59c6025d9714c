/- Closing: what is posted, and what accounts are behind it. No condition. -/
import Derived.Test.YtmleldfhkangbaaAc6
namespace Go.Proofs.Ytmleldfhkangbaa
open Go Go.Sq

/-- What is known of shares. -/
structure ShF (t : Int) (w sh : List Int) : Prop where
  ok : ref38_Share t w = some (sh, 0)
  len : sh.length = w.length
  all : isum sh = t
  none : ∀ i, i < w.length → w.getD i 0 = 0 → sh.getD i 0 = 0
  bd : ∀ i, i < w.length → -(max t (-t)) ≤ sh.getD i 0 ∧ sh.getD i 0 ≤ max t (-t)
theorem share_zero {w : List Int} (hn : w.length ≤ 64) (hw : ∀ x ∈ w, 0 ≤ x ∧ x ≤ 1125899906842624) : ShF 0 w (List.replicate w.length 0) := by
  refine ⟨?_, by simp, ?_, fun i hi _ => gD_rep _ _ _ _ hi, fun i hi => by rw [gD_rep _ _ _ _ hi]; omega⟩
  · unfold ref38_Share
    rw [dec_f (show ¬ (64 : Int) < (w.length : Int) by omega), dec_f (show ¬ (0 : Int) < -1099511627776 by omega), dec_f (show ¬ (1099511627776 : Int) < 0 by omega), rl_L0 (by omega), vOk_iff.2 hw]
    simp only [cond_false, cond_true, Option.bind_some, Sum.elim_inl, decide_true, Int.toNat_natCast]
    rw [gd_t (makeG_t (show w.length * 8 ≤ _ by omega))]
  · have := isum_bd (l := List.replicate w.length (0 : Int)) (a := 0) (b := 0) fun x hx => by
      rw [(List.mem_replicate.1 hx).2]; omega
    omega
/-- Shares of an amount, as a gain and as a loss. -/
theorem share_two {a : Nat} {w : List Int} (h : AlIn a w) (ha : a ≠ 0) : ∃ u : List Int, (∀ x ∈ u, 0 ≤ x) ∧ ShF (a : Int) w u ∧ ShF (-(a : Int)) w (u.map fun x => -x) := by
  have hm : max (a : Int) (-(a : Int)) = (a : Int) := by omega
  have hm' : max (-(a : Int)) (- -(a : Int)) = (a : Int) := by omega
  obtain ⟨o, ho, _⟩ := al_main h hm (by omega)
  obtain ⟨h1, h2⟩ := share_bd h ho
  have hok := shares_ok (t := a) h.s.1 ho
  have hall : isum (shareOf a w o) = (a : Int) := hok.all
  have e1 : allotOf (a : Int) a w o = shareOf a w o := by
    unfold allotOf
    rw [show sgn (a : Int) = 1 from by unfold sgn; rw [if_neg (by omega)]]
    exact (List.map_congr_left fun x _ => Int.mul_one x).trans (List.map_id _)
  have e2 : allotOf (-(a : Int)) a w o = (shareOf a w o).map fun x => -x := by
    unfold allotOf
    rw [show sgn (-(a : Int)) = -1 from by unfold sgn; rw [if_pos (by omega)]]
    exact List.map_congr_left fun x _ => by omega
  have q1 := rl_main h hm (by omega) ho
  have q2 := rl_main h hm' (by omega) ho
  rw [e1] at q1
  rw [e2] at q2
  have hz : ∀ i, i < w.length → w.getD i 0 = 0 → (shareOf a w o).getD i 0 = 0 := fun i hi hz => by
    have e : (shareOf a w o).getD i 0 = (a : Int) * w.getD i 0 / isum w ∨ ((shareOf a w o).getD i 0 = (a : Int) * w.getD i 0 / isum w + 1 ∧ 0 < (a : Int) * w.getD i 0 % isum w) := hok.each i hi
    rw [hz, Int.mul_zero, Int.zero_ediv, Int.zero_emod] at e
    omega
  have hb : ∀ i, i < w.length → 0 ≤ (shareOf a w o).getD i 0 ∧ (shareOf a w o).getD i 0 ≤ a := fun i hi => by
    have hmem := gD_mem (d := (0 : Int)) (show i < (shareOf a w o).length by omega)
    have := isum_mem (fun x hx => (h2 x hx).1) hmem
    exact ⟨(h2 _ hmem).1, by omega⟩
  have hneg : ∀ i, i < w.length → ((shareOf a w o).map fun x => -x).getD i 0 = -((shareOf a w o).getD i 0) := fun i hi => gD_map _ _ _ _ _ (by omega)
  refine ⟨shareOf a w o, fun x hx => (h2 x hx).1, ⟨q1, h1, hall, hz, fun i hi => by have := hb i hi; omega⟩, ⟨q2, by rw [List.length_map, h1], ?_, fun i hi hw => by rw [hneg i hi, hz i hi hw]; rfl, fun i hi => by have := hb i hi; rw [hneg i hi]; omega⟩⟩
  rw [isum_map_mul (fun x => -x) (-1) _ (fun x _ => by omega), hall]; omega
theorem share_any {t : Int} {w : List Int} (hn : w.length ≤ 64) (hw : ∀ x ∈ w, 0 ≤ x ∧ x ≤ 1125899906842624) (ht : -1099511627776 ≤ t ∧ t ≤ 1099511627776) (hs : t ≠ 0 → isum w ≠ 0) : ∃ sh, ShF t w sh := by
  by_cases h0 : t = 0
  · subst h0; exact ⟨_, share_zero hn hw⟩
  · obtain ⟨u, _, h1, h2⟩ := share_two (a := t.natAbs) (w := w) ⟨hn, by omega, hw, hs h0⟩ (by omega)
    by_cases hp : 0 ≤ t
    · rw [show ((t.natAbs : Nat) : Int) = t by omega] at h1; exact ⟨u, h1⟩
    · rw [show -((t.natAbs : Nat) : Int) = t by omega] at h2; exact ⟨_, h2⟩

/-! ### Posting shares -/
def shr (a : Acc) (n : Int) : Acc := addA a (a.1, (4, n))
theorem shr_eq (a : Acc) (n : Int) : shr a n = (a.1, (a.2.1, (a.2.2.1, (a.2.2.2.1, a.2.2.2.2 + n)))) := by
  unfold shr addA g1 g2 g3 g4
  simp
theorem shr_0 (a : Acc) : shr a 0 = a := by rw [shr_eq, Int.add_zero]
theorem post_at {l : List Acc} {i : Nat} {n : Int} (hv : ValidP l) (hi : i < l.length) (hn : -1099511627776 ≤ n ∧ n ≤ 1099511627776) (ha : accP (shr (l.getD i d0) n) = true) : postF l ((l.getD i d0).1, (4, n)) = (l.set i (shr (l.getD i d0) n), 0) := by
  have hl := hv.n
  have hm := gD_mem (d := d0) hi
  obtain ⟨_, _, hp⟩ := post_eq (l := l) (e := ((l.getD i d0).1, (4, n))) (by omega)
  have he : entP ((l.getD i d0).1, (4, n)) = true := by
    simp only [entP, Bool.and_eq_true, Bool.or_eq_true, decide_eq_true_eq, sgnP]
    exact ⟨.inr ⟨trivial, hn⟩, hv.nm _ hm⟩
  obtain ⟨k, hk, h⟩ := hp.good hv he
  have hki : k = i := hk.uniq ⟨by omega, fun j hj => hv.lt j i hj hi, fun j h1 h2 => by
    rcases Nat.lt_or_eq_of_le h1 with h3 | h3
    · exact bl_asym (hv.lt i j h3 h2)
    · subst h3; exact bl_irrefl _⟩
  subst hki
  rcases h with ⟨_, _, hr⟩ | ⟨hno, _⟩
  · rw [posted_add (hv.acc _ hm) he] at hr
    exact hr.trans (if_pos ha)
  · exact absurd ⟨hi, rfl⟩ hno
theorem valid_same {l r : List Acc} (hv : ValidP l) (hl : r.length = l.length) (hn : ∀ i, i < l.length → (r.getD i d0).1 = (l.getD i d0).1) (ha : ∀ i, i < l.length → accP (r.getD i d0) = true) : ValidP r := by
  refine ⟨by rw [hl]; exact hv.n, fun a h => ?_, fun a h => ?_, fun i k hik hk => ?_⟩
  · obtain ⟨j, hj, rfl⟩ := mem_gD d0 h
    exact ha j (by omega)
  · obtain ⟨j, hj, rfl⟩ := mem_gD d0 h
    rw [hn j (by omega)]
    exact hv.nm _ (gD_mem (by omega))
  · rw [hn i (by omega), hn k (by omega)]
    exact hv.lt i k hik (by omega)

/-- The accounts behind shares. -/
def shrs (l : List Acc) (sh : List Int) : List Acc := List.zipWith shr l sh
theorem shrs_len {l : List Acc} {sh : List Int} (h : sh.length = l.length) : (shrs l sh).length = l.length := by
  unfold shrs; rw [List.length_zipWith]; omega
theorem shrs_get {l : List Acc} {sh : List Int} (h : sh.length = l.length) {i : Nat} (hi : i < l.length) : (shrs l sh).getD i d0 = shr (l.getD i d0) (sh.getD i 0) := by
  rw [gD_eq (by rw [shrs_len h]; exact hi), gD_eq hi, gD_eq (show i < sh.length by omega)]
  unfold shrs
  rw [List.getElem_zipWith]
theorem shrs_stock : ∀ {l : List Acc} {sh : List Int}, sh.length = l.length → isum ((shrs l sh).map stockP) = isum (l.map stockP) + isum sh
  | [], [], _ => rfl
  | [], _ :: _, h => by simp at h
  | _ :: _, [], h => by simp at h
  | a :: l, n :: sh, h => by
    have ih := shrs_stock (l := l) (sh := sh) (by simpa using h)
    have e : stockP (shr a n) = stockP a + n := by rw [shr_eq]; unfold stockP; simp only; omega
    unfold shrs at ih ⊢
    simp only [List.zipWith_cons_cons, List.map_cons, isum, ih, e]; omega
theorem shrs_zero {l : List Acc} : shrs l (List.replicate l.length 0) = l := by
  have hl : (List.replicate l.length (0 : Int)).length = l.length := by simp
  refine ext_gD d0 (shrs_len hl) fun i hi => ?_
  rw [shrs_len hl] at hi
  rw [shrs_get hl hi, gD_rep _ _ _ _ hi, shr_0]
theorem mix_get {l : List Acc} {sh : List Int} (h : sh.length = l.length) (i : Nat) {j : Nat} (hj : j < l.length) : (mix (shrs l sh) l i).getD j d0 = if j < i then shr (l.getD j d0) (sh.getD j 0) else l.getD j d0 := by
  rw [gD_mix (shrs_len h) rfl]
  split
  · rw [shrs_get h hj]
  · rfl
theorem mix_valid {l : List Acc} {sh : List Int} (hv : ValidP l) (h : sh.length = l.length) (ha : ∀ i, i < l.length → accP (shr (l.getD i d0) (sh.getD i 0)) = true) (i : Nat) : ValidP (mix (shrs l sh) l i) := by
  refine valid_same hv (mix_len (shrs_len h) rfl) (fun j hj => ?_) fun j hj => ?_
  · rw [mix_get h i hj]
    split
    · rw [shr_eq]
    · rfl
  · rw [mix_get h i hj]
    split
    · exact ha j hj
    · exact hv.acc _ (gD_mem hj)

/-- The entries of shares. -/
def esF (l : List Acc) : List Int → Nat → List Ent
  | [], _ => []
  | n :: r, i => if n = 0 then esF l r (i + 1) else ((l.getD i d0).1, (4, n)) :: esF l r (i + 1)
theorem es_step {l : List Acc} {sh : List Int} {i : Nat} (hi : i < sh.length) : esF l (sh.drop i) i = if sh.getD i 0 = 0 then esF l (sh.drop (i + 1)) (i + 1) else ((l.getD i d0).1, (4, sh.getD i 0)) :: esF l (sh.drop (i + 1)) (i + 1) := by
  rw [gD_eq (l := sh) hi, List.drop_eq_getElem_cons hi]; rfl
theorem es_mem {l : List Acc} : ∀ {sh : List Int} {i : Nat} {e : Ent}, e ∈ esF l sh i → e.2.1 = 4 ∧ e.2.2 ≠ 0
  | [], _, _, h => by cases h
  | n :: r, i, e, h => by
    unfold esF at h
    split at h
    · exact es_mem h
    · next hn =>
      rcases List.mem_cons.1 h with rfl | h
      · exact ⟨rfl, hn⟩
      · exact es_mem h
theorem es_len {l : List Acc} : ∀ {sh : List Int} {i : Nat}, (esF l sh i).length ≤ sh.length
  | [], _ => Nat.le_refl _
  | n :: r, i => by
    have := es_len (l := l) (sh := r) (i := i + 1)
    unfold esF
    split
    · simp only [List.length_cons]; omega
    · simp only [List.length_cons]; omega
theorem es_none {l : List Acc} : ∀ {sh : List Int} {i : Nat}, (∀ x ∈ sh, 0 ≤ x) → isum sh = 0 → esF l sh i = [] ∧ esF l (sh.map fun x => -x) i = []
  | [], _, _, _ => ⟨rfl, rfl⟩
  | n :: r, i, h, h0 => by
    have h1 := h n (by simp)
    have h2 := isum_nn (l := r) fun x hx => h x (by simp [hx])
    simp only [isum] at h0
    have h3 : n = 0 := by omega
    obtain ⟨k1, k2⟩ := es_none (l := l) (sh := r) (i := i + 1) (fun x hx => h x (by simp [hx])) (by omega)
    subst h3
    exact ⟨by simp only [esF, if_pos]; exact k1, by simp only [List.map_cons, esF, Int.neg_zero, if_pos]; exact k2⟩
theorem es_one {l : List Acc} : ∀ {sh : List Int} {i : Nat}, (∀ x ∈ sh, 0 ≤ x) → isum sh = 1 → ∃ s, esF l sh i = [(s, (4, 1))] ∧ esF l (sh.map fun x => -x) i = [(s, (4, -1))]
  | [], _, _, h0 => by simp [isum] at h0
  | n :: r, i, h, h0 => by
    have h1 := h n (by simp)
    have h2 := isum_nn (l := r) fun x hx => h x (by simp [hx])
    simp only [isum] at h0
    by_cases h3 : n = 0
    · subst h3
      obtain ⟨s, k1, k2⟩ := es_one (l := l) (sh := r) (i := i + 1) (fun x hx => h x (by simp [hx])) (by omega)
      exact ⟨s, by simp only [esF, if_pos]; exact k1, by simp only [List.map_cons, esF, Int.neg_zero, if_pos]; exact k2⟩
    · obtain rfl : n = 1 := by omega
      obtain ⟨k1, k2⟩ := es_none (l := l) (sh := r) (i := i + 1) (fun x hx => h x (by simp [hx])) (by omega)
      refine ⟨(l.getD i d0).1, ?_, ?_⟩
      · simp only [esF, if_neg (show ¬ (1 : Int) = 0 by omega), k1]
      · simp only [List.map_cons, esF, if_neg (show ¬ -(1 : Int) = 0 by omega), k2]

theorem close_run {l : List Acc} {sh : List Int} (hv : ValidP l) (h : sh.length = l.length) (hs : ∀ i, i < l.length → -1099511627776 ≤ sh.getD i 0 ∧ sh.getD i 0 ≤ 1099511627776) (ha : ∀ i, i < l.length → accP (shr (l.getD i d0) (sh.getD i 0)) = true) :
    ∀ (k i : Nat), i + k = l.length → (∀ es, closeF l (sh.drop i) i (mix (shrs l sh) l i) es = .inl (shrs l sh, es ++ esF l (sh.drop i) i)) ∧ bookF (esF l (sh.drop i) i) (mix (shrs l sh) l i) = (shrs l sh, 0)
  | 0, i, hi => by
    obtain rfl : i = l.length := by omega
    rw [List.drop_of_length_le (by omega), mix_n (shrs_len h) rfl]
    exact ⟨fun es => by unfold closeF esF; rw [List.append_nil], rfl⟩
  | k + 1, i, hi => by
    have hil : i < l.length := by omega
    obtain ⟨k1, k2⟩ := close_run hv h hs ha k (i + 1) (by omega)
    have hg : (mix (shrs l sh) l i).getD i d0 = l.getD i d0 := by rw [mix_get h i hil, if_neg (Nat.lt_irrefl _)]
    have hset : (mix (shrs l sh) l i).set i (shr (l.getD i d0) (sh.getD i 0)) = mix (shrs l sh) l (i + 1) := set_mix (shrs_len h) rfl d0 hil (by rw [shrs_get h hil])
    by_cases hz : sh.getD i 0 = 0
    · have hsame : mix (shrs l sh) l (i + 1) = mix (shrs l sh) l i := by
        rw [← hset, hz, shr_0, ← hg]
        refine ext_gD d0 (by simp) fun j hj => ?_
        rw [gD_set]
        split
        · next hc => rw [hc.1]
        · rfl
      rw [hsame] at k1 k2
      rw [es_step (by omega), if_pos hz]
      refine ⟨fun es => ?_, k2⟩
      rw [close_step (by omega), if_pos hz]
      exact k1 es
    · have hp := post_at (mix_valid hv h ha i) (i := i) (n := sh.getD i 0) (by rw [mix_len (shrs_len h) rfl]; exact hil) (hs i hil) (by rw [hg]; exact ha i hil)
      rw [hg, hset] at hp
      rw [es_step (by omega), if_neg hz]
      refine ⟨fun es => ?_, ?_⟩
      · rw [close_step (by omega), if_neg hz, hp, if_pos rfl]
        simp only
        rw [k1, List.append_assoc]; rfl
      · unfold bookF
        rw [hp, if_pos rfl]
        exact k2

theorem close_ok {l : List Acc} {m : Int} {sh : List Int} (hv : ValidP l) (hm : 0 ≤ m ∧ m ≤ 1099511627776) (h : ShF (m - stockP (sumA l)) (col2 l) sh) (ht : -1099511627776 ≤ m - stockP (sumA l) ∧ m - stockP (sumA l) ≤ 1099511627776) (ha : ∀ i, i < l.length → accP (shr (l.getD i d0) (sh.getD i 0)) = true) :
    closeA l m = (shrs l sh, esF l sh 0, 0) ∧ bookF (esF l sh 0) l = (shrs l sh, 0) ∧ ValidP (shrs l sh) ∧ stockP (sumA (shrs l sh)) = m ∧ (shrs l sh).length = l.length := by
  have hlen : sh.length = l.length := by rw [h.len]; simp [col2]
  have hcl : (col2 l).length = l.length := by simp [col2]
  have hs : ∀ i, i < l.length → -1099511627776 ≤ sh.getD i 0 ∧ sh.getD i 0 ≤ 1099511627776 := fun i hi => by
    have := h.bd i (by omega)
    omega
  obtain ⟨k1, k2⟩ := close_run hv hlen hs ha l.length 0 (by omega)
  rw [List.drop_zero, mix_0] at k1 k2
  have hvs : ValidP (shrs l sh) := by
    have := mix_valid hv hlen ha l.length
    rwa [mix_n (shrs_len hlen) rfl] at this
  refine ⟨?_, k2, hvs, ?_, shrs_len hlen⟩
  · unfold closeA
    rw [if_neg (by rw [validB_iff.2 hv]; simp), if_neg (by rw [show volP m = true from dec_t hm]; simp), h.ok]
    simp only [Option.getD_some, ne_eq, not_true, if_false]
    rw [k1]; rfl
  · rw [← stocks_sum]
    have e1 := shrs_stock hlen
    have e2 := stocks_sum l
    have e3 := h.all
    unfold stocks at e2 ⊢
    omega

/-- What is delivered. -/
theorem book_w {x : List Ent} {a : List Acc} (h : BookP x a) (hl : x.length ≤ 60) : (∀ v ∈ col2 a, 0 ≤ v ∧ v ≤ 64424509440) ∧ isum (col2 a) = isum (x.map g2) ∧ (col2 a).length ≤ 64 := by
  refine ⟨fun v hv => ?_, h.sum _ _ lin2, ?_⟩
  · obtain ⟨q, hq, rfl⟩ := List.mem_map.1 hv
    have := h.bd q hq
    unfold Bd at this
    omega
  · have := h.len
    simp only [col2, List.length_map]; omega
theorem book_acc {x : List Ent} {a : List Acc} (h : BookP x a) (hl : x.length ≤ 60) {n : Int} (hn : -500000000000 ≤ n ∧ n ≤ 500000000000) {i : Nat} (hi : i < a.length) : accP (shr (a.getD i d0) n) = true := by
  have := h.bd _ (gD_mem (d := d0) hi)
  unfold Bd at this
  rw [shr_eq]
  simp only [accP, volP, sgnP, Bool.and_eq_true, decide_eq_true_eq]
  omega
theorem g2_pos {x : List Ent} (hx : ∀ e ∈ x, EntP e) : 0 ≤ isum (x.map g2) := by
  refine isum_nn fun v hv => ?_
  obtain ⟨e, he, rfl⟩ := List.mem_map.1 hv
  have h1 := (hx e he).pos
  unfold g2
  split
  · exact h1 (by omega)
  · omega

theorem closes_L0 {es : List Ent} {r : Int × List Acc} {b : List Acc} {a : List Acc} (hb : bookF es a = (b, 0)) (he : ∀ e ∈ es, e.2.1 = 4 ∧ e.2.2 ≠ 0) (ha : a.length ≤ 1000) (hl : es.length ≤ 1000) : iter (fun x : List Acc × Int => law39_AccountCloses_L0 (es, r) x.1 x.2) (a, 0) = some (.inl b) := by
  have key : Ok (iter (fun x : List Acc × Int => law39_AccountCloses_L0 (es, r) x.1 x.2) (a, 0)) fun y => y = .inl b := by
    refine Ok.loop (fun x => ∃ (z : List Acc) (i : Nat), x = (z, (i : Int)) ∧ i ≤ es.length ∧ z.length ≤ 1000 + i ∧ bookF (es.drop i) z = (b, 0)) (fun x => ((es.length : Int) - x.2).toNat) ⟨a, 0, rfl, by omega, by omega, hb⟩ ?_
    rintro _ ⟨z, i, rfl, h1, h2, h3⟩
    unfold law39_AccountCloses_L0
    simp only
    refine Ok.bif (fun hlt => ?_) (fun hlt => Ok.ret ?_)
    · have hlt := of_decide_eq_true hlt
      have hi : i < es.length := by omega
      have hm := he _ (gD_mem (d := e0) hi)
      have hp := post_eq (l := z) (e := es.getD i e0) (by omega)
      have hpl := post_len (l := z) (e := es.getD i e0) (by omega)
      rw [book_step hi] at h3
      have hz : (postF z (es.getD i e0)).2 = 0 := by
        by_cases hz : (postF z (es.getD i e0)).2 = 0
        · exact hz
        · rw [if_neg hz] at h3
          exact absurd (congrArg Prod.snd h3) hz
      rw [if_pos hz] at h3
      refine Ok.gd (inB_t hi) ?_
      rw [Int.toNat_natCast]
      refine Ok.eq hp.1 (Ok.eq (a := (false, (postF z (es.getD i e0)).1)) ?_ (Ok.bif (fun h => by cases h) (fun _ => Ok.ret ?_)))
      · simp only [dec_t hz, Bool.not_true, cond_false, gd_t (inB_t hi)]
        rw [show (([], (0, 0)) : Ent) = e0 from rfl, dec_t hm.1, dec_f hm.2]; rfl
      · simp only
        rw [wi (by omega)]
        exact ⟨⟨_, i + 1, rfl, by omega, by omega, h3⟩, by omega⟩
    · have hlt := of_decide_eq_false hlt
      rw [List.drop_of_length_le (by omega)] at h3
      show Sum.inl z = Sum.inl b
      rw [show z = b from congrArg Prod.fst h3]
  obtain ⟨y, h1, h2⟩ := key
  rw [h1, h2]
theorem closes_L1 {a : List Acc} {n : Int} {es : List Ent} {k : Int} {sh : List Int} (ha : a.length ≤ 1000) (h : sh.length = a.length) (hz : ∀ i, i < a.length → (a.getD i d0).2.2.1 = 0 → sh.getD i 0 = 0) : iter (fun x : Int => law39_AccountCloses_L1 (a, n) (es, k, shrs a sh) x) 0 = some (.inl ()) := by
  have := iter_for (step := fun x : Int => law39_AccountCloses_L1 (a, n) (es, k, shrs a sh) x) a.length (fun i => (i : Int)) (e := .inl ()) (fun i hi => by
      have hl := shrs_len h
      unfold law39_AccountCloses_L1
      simp only [dec_t (show (i : Int) < (a.length : Int) by omega), cond_true, gd_t (inB_t hi), Int.toNat_natCast, gd_t (inB_t (show i < (shrs a sh).length by omega))]
      by_cases hd : (a.getD i d0).2.2.1 = 0
      · have e : (shrs a sh).getD i d0 = a.getD i d0 := by rw [shrs_get h hi, hz i hi hd, shr_0]
        simp only [show (([], (0, (0, (0, 0)))) : Acc) = d0 from rfl, dec_t hd, e, cond_true, decide_true, Bool.and_self, Bool.not_true, Option.bind_some, cond_false]
        rw [wi (by omega)]; rfl
      · simp only [show (([], (0, (0, (0, 0)))) : Acc) = d0 from rfl, dec_f hd, cond_false, Option.bind_some]
        rw [wi (by omega)]; rfl) (by
      unfold law39_AccountCloses_L1
      simp only [dec_f (show ¬ (a.length : Int) < (a.length : Int) by omega), cond_false])
  simpa using this

theorem closes_true {l : List Int} {m : Int} (hl : ∀ x ∈ l, i64P x) (hm : 0 ≤ m ∧ m ≤ 65535) : law39_AccountCloses l m = some true := by
  refine Ok.true ?_
  unfold law39_AccountCloses
  rw [few_eq]
  refine Ok.eq rfl (Ok.bif (fun _ => Ok.eq awake_true (Ok.ret rfl)) (fun _ => ?_))
  obtain ⟨s, q1, q2⟩ := new_eq hl
  refine Ok.eq q1 (Ok.bind (entries_eq q2 (by omega)) ?_)
  rintro _ ⟨p1, x, rfl, a1, a2, a3⟩
  simp only
  refine Ok.gd (fits_t (by omega)) ?_
  have ex : ∀ e ∈ x ++ [([97], (2, 1))], EntP e := fun e he => by
    rcases List.mem_append.1 he with he | he
    · exact a3 e he
    · rw [List.mem_singleton.1 he]
      exact ent_ok (by simp) (by omega) (by omega) (by omega)
  have exl : (x ++ [(([97], (2, 1)) : Ent)]).length ≤ 60 := by simp; omega
  obtain ⟨a, h1, h2⟩ := book_made ex exl
  obtain ⟨w1, w2, w3⟩ := book_w h2 exl
  have hw : 0 < isum (col2 a) := by
    have := g2_pos a3
    rw [w2]
    simp only [List.map_append, isum_app, List.map_cons, List.map_nil, isum]
    rw [show g2 ([97], (2, 1)) = 1 from rfl]; omega
  have hst := gS_sum ex exl
  rw [← book_stock h2] at hst
  have hal : a.length ≤ 60 := by have := h2.len; omega
  obtain ⟨sh, hsh⟩ := share_any (t := m - stockP (sumA a)) w3 (fun v hv => by have := w1 v hv; omega) (by omega) (fun _ => by omega)
  have hcl : (col2 a).length = a.length := by simp [col2]
  have hacc : ∀ i, i < a.length → accP (shr (a.getD i d0) (sh.getD i 0)) = true := fun i hi => by
    have := hsh.bd i (by omega)
    exact book_acc h2 exl (by omega) hi
  obtain ⟨c1, c2, c3, c4, c5⟩ := close_ok h2.valid (by omega) hsh (by omega) hacc
  have shl : sh.length = a.length := by rw [hsh.len, hcl]
  have hcb : ∀ v ∈ col2 (shrs a sh), 0 ≤ v ∧ v ≤ 1125899906842624 := fun v hv => by
    obtain ⟨q, hq, rfl⟩ := List.mem_map.1 hv
    have := accP_bd (c3.acc q hq)
    omega
  have hbl : (col2 (shrs a sh)).length = (shrs a sh).length := by simp [col2]
  have hz := share_zero (w := col2 (shrs a sh)) (by omega) hcb
  rw [hbl] at hz
  have e0 : m - stockP (sumA (shrs a sh)) = 0 := by omega
  obtain ⟨d1, d2, d3, d4, d5⟩ := close_ok (l := shrs a sh) (m := m) c3 (by omega) (sh := List.replicate (shrs a sh).length 0) (by rw [e0]; exact hz) (by omega) (fun i hi => by
    rw [gD_rep _ _ _ _ hi, shr_0]; exact c3.acc _ (gD_mem hi))
  rw [shrs_zero] at d1
  have des : esF (shrs a sh) (List.replicate (shrs a sh).length 0) 0 = [] := (es_none (fun x hx => by rw [(List.mem_replicate.1 hx).2]; omega) hz.all).1
  rw [des] at d1
  have em : wi64 m = m := wi (by omega)
  rw [em]
  refine Ok.eq ((book_eq _).trans (by rw [h1])) ?_
  refine Ok.eq ((close_both (by simp only; omega)).1.trans (by rw [c1])) ?_
  refine Ok.eq ((close_both (by simp only; omega)).1.trans (by rw [d1])) ?_
  refine Ok.eq ((sum_eq (by simp only; omega)).trans (by rw [if_pos (validB_iff.2 c3)])) ?_
  simp only
  refine Ok.eq (a := false) ?_ (Ok.bif (fun h => by cases h) (fun _ => ?_))
  · simp only [decide_true, Bool.not_true, cond_false, dec_t (show ((shrs a sh).length : Int) = (a.length : Int) by omega), List.length_nil, dec_t (show ((0 : Nat) : Int) = 0 from rfl), same39 (show (shrs a sh).length ≤ 1000000 by omega), Option.bind_some]
    rw [(stock_eq (sumA_bd c3)).1, c4]
    simp only [Option.bind_some, decide_true, Bool.not_true]
  · have esl := es_len (l := a) (sh := sh) (i := 0)
    refine Ok.eq (closes_L0 c2 (fun e he => es_mem he) (by omega) (by omega)) ?_
    simp only [Sum.elim_inl]
    refine Ok.eq (closes_L1 (by omega) shl fun i hi hd => hsh.none i (by omega) ?_) ?_
    · exact (gD_map (fun a : Acc => a.2.2.1) a i d0 0 hi).trans hd
    · simp only [Sum.elim_inl]
      exact Ok.eq (same39 (by omega)) (Ok.bif (fun _ => Ok.eq awake_true (Ok.ret rfl)) (fun h => by cases h))

/-! ### AccountExact -/
def modE (e : Ent) : Ent := (e.1, (e.2.1, e.2.2 % 1000))
theorem exact_L0 {x : List Ent} (hx : ∀ e ∈ x, EntP e) (hl : x.length ≤ 60) : iter (fun x2 : Int × List Ent => law39_AccountExact_L0 x2.1 x2.2) (0, x) = some (x.map modE) := by
  have hml : (x.map modE).length = x.length := by simp
  have key := iter_for (step := fun x2 : Int × List Ent => law39_AccountExact_L0 x2.1 x2.2) x.length (fun i => ((i : Int), mix (x.map modE) x i)) (e := x.map modE) (fun i hi => by
      have hb := (hx _ (gD_mem (d := e0) hi)).vol
      have hg : (mix (x.map modE) x i).getD i e0 = x.getD i e0 := by rw [gD_mix hml rfl, if_neg (Nat.lt_irrefl _)]
      have hlm : (mix (x.map modE) x i).length = x.length := mix_len hml rfl
      unfold law39_AccountExact_L0
      simp only [hlm, dec_t (show (i : Int) < (x.length : Int) by omega), cond_true, gd_t (inB_t hi), Int.toNat_natCast, show (([], (0, 0)) : Ent) = e0 from rfl, hg, smod_eq (x := (x.getD i e0).2.2) (n := 1000) (by unfold i64P; omega) (by omega) (by omega), Option.bind_some]
      rw [set_mix (v := ((x.getD i e0).1, ((x.getD i e0).2.1, (x.getD i e0).2.2 % 1000))) hml rfl e0 hi (gD_map modE x i e0 e0 hi).symm, wi (by omega)]; rfl) (by
      have hlm : (mix (x.map modE) x x.length).length = x.length := mix_len hml rfl
      unfold law39_AccountExact_L0
      simp only [hlm, dec_f (show ¬ (x.length : Int) < (x.length : Int) by omega), cond_false]
      rw [mix_n hml rfl])
  simpa [mix_0] using key
theorem modE_ok {e : Ent} (h : EntP e) : EntP (modE e) ∧ -999 ≤ gS (modE e) ∧ gS (modE e) ≤ 999 := by
  have h1 := Int.emod_nonneg e.2.2 (show (1000 : Int) ≠ 0 by omega)
  have h2 := Int.emod_lt_of_pos e.2.2 (show (0 : Int) < 1000 by omega)
  have hk := h.kind
  have he : EntP (modE e) := ent_ok h.nm hk (by omega) (fun _ => h1)
  refine ⟨he, ?_⟩
  have := (gS_bd he).2.2
  rw [show (modE e).2.2 = e.2.2 % 1000 from rfl] at this
  split at this <;> omega

theorem exact_true {l : List Int} (hl : ∀ x ∈ l, i64P x) : law39_AccountExact l = some true := by
  refine Ok.true ?_
  unfold law39_AccountExact
  rw [few_eq]
  refine Ok.eq rfl (Ok.bif (fun _ => Ok.eq awake_true (Ok.ret rfl)) (fun _ => ?_))
  obtain ⟨s, q1, q2⟩ := new_eq hl
  refine Ok.eq q1 (Ok.bind (entries_eq q2 (by omega)) ?_)
  rintro _ ⟨p1, x, rfl, a1, a2, a3⟩
  simp only
  refine Ok.eq (exact_L0 a3 (by omega)) (Ok.gd (fits_t (by simp; omega)) ?_)
  have ey : ∀ e ∈ x.map modE, EntP e := fun e he => by
    obtain ⟨q, hq, rfl⟩ := List.mem_map.1 he
    exact (modE_ok (a3 q hq)).1
  have ex : ∀ e ∈ x.map modE ++ [([97], (1, 50000)), ([97], (2, 1))], EntP e := fun e he => by
    rcases List.mem_append.1 he with he | he
    · exact ey e he
    · simp only [List.mem_cons, List.not_mem_nil, or_false] at he
      rcases he with rfl | rfl
      · exact ent_ok (by simp) (by omega) (by omega) (by omega)
      · exact ent_ok (by simp) (by omega) (by omega) (by omega)
  have exl : (x.map modE ++ [(([97], (1, 50000)) : Ent), ([97], (2, 1))]).length ≤ 60 := by simp; omega
  obtain ⟨a, h1, h2⟩ := book_made ex exl
  obtain ⟨w1, w2, w3⟩ := book_w h2 exl
  have hw : 0 < isum (col2 a) := by
    have := g2_pos ey
    rw [w2]
    simp only [List.map_append, isum_app, List.map_cons, List.map_nil, isum] at this ⊢
    rw [show g2 ([97], (1, 50000)) = 0 from rfl, show g2 ([97], (2, 1)) = 1 from rfl]; omega
  have hst : 30000 ≤ stockP (sumA a) ∧ stockP (sumA a) ≤ 120000 := by
    have := isum_bd (l := (x.map modE).map gS) (a := -999) (b := 999) fun v hv => by
      obtain ⟨e, he, rfl⟩ := List.mem_map.1 hv
      obtain ⟨q, hq, rfl⟩ := List.mem_map.1 he
      exact (modE_ok (a3 q hq)).2
    rw [book_stock h2, List.map_append, isum_app]
    simp only [List.length_map] at this
    simp only [List.map_cons, List.map_nil, isum]
    rw [show gS ([97], (1, 50000)) = 50000 from rfl, show gS ([97], (2, 1)) = -1 from rfl]
    omega
  have hal : a.length ≤ 60 := by have := h2.len; omega
  have hcl : (col2 a).length = a.length := by simp [col2]
  have hw2 : ∀ v ∈ col2 a, 0 ≤ v ∧ v ≤ 1125899906842624 := fun v hv => by have := w1 v hv; omega
  generalize hn : stockP (sumA a) = n at hst
  have hz := share_zero (w := col2 a) w3 hw2
  rw [hcl] at hz
  obtain ⟨u, u0, u1, u2⟩ := share_two (a := 1) (w := col2 a) ⟨w3, by omega, hw2, by omega⟩ (by omega)
  have ca : ∀ {t : Int} {sh : List Int}, ShF t (col2 a) sh → -1 ≤ t ∧ t ≤ 1 → ∀ i, i < a.length → accP (shr (a.getD i d0) (sh.getD i 0)) = true := fun hsh ht i hi => by
    have := hsh.bd i (by omega)
    exact book_acc h2 exl (by omega) hi
  obtain ⟨c1, _, _, _, _⟩ := close_ok (m := n) h2.valid (by omega) (sh := List.replicate a.length 0) (by rw [hn, Int.sub_self]; exact hz) (by omega) (ca hz (by omega))
  obtain ⟨c2, _, _, _, c3⟩ := close_ok (m := n + 1) h2.valid (by omega) (sh := u) (by rw [hn, show n + 1 - n = ((1 : Nat) : Int) by omega]; exact u1) (by omega) (ca u1 (by omega))
  obtain ⟨c4, _, _, _, c5⟩ := close_ok (m := n - 1) h2.valid (by omega) (sh := u.map fun x => -x) (by rw [hn, show n - 1 - n = -((1 : Nat) : Int) by omega]; exact u2) (by omega) (ca u2 (by omega))
  rw [shrs_zero, (es_none (fun x hx => by rw [(List.mem_replicate.1 hx).2]; omega) hz.all).1] at c1
  obtain ⟨sn, e1, e2⟩ := es_one (l := a) (i := 0) u0 u1.all
  rw [e1] at c2
  rw [e2] at c4
  refine Ok.eq ((book_eq _).trans (by rw [h1])) ?_
  refine Ok.eq ((sum_eq (by simp only; omega)).trans (by rw [if_pos (validB_iff.2 h2.valid)])) ?_
  refine Ok.eq ((stock_eq (sumA_bd h2.valid)).1.trans (by rw [hn])) ?_
  have w1' : wi64 (n + 1) = n + 1 := wi (by omega)
  have w2' : wi64 (n - 1) = n - 1 := wi (by omega)
  simp only [w1', w2']
  refine Ok.eq ((close_both (by omega)).1.trans (by rw [c1])) ?_
  refine Ok.eq ((close_both (by omega)).1.trans (by rw [c2])) ?_
  refine Ok.eq ((close_both (by omega)).1.trans (by rw [c4])) ?_
  simp only [List.length_nil, List.length_singleton, decide_true, cond_true, List.getD_cons_zero]
  refine Ok.bif (fun _ => Ok.eq (same39 (by omega)) (Ok.bif (fun _ => ?_) (fun h => by cases h))) (fun h => by cases h)
  refine Ok.bif (fun _ => Ok.bif (fun _ => ?_) (fun h => by cases h)) (fun h => by cases h)
  refine Ok.gd rfl (Ok.gd rfl (Ok.gd rfl (Ok.gd rfl ?_)))
  exact Ok.eq awake_true (Ok.ret rfl)
end Go.Proofs.Ytmleldfhkangbaa
