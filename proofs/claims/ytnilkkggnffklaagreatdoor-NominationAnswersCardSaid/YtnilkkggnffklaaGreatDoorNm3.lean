/- Nominations: totals. No condition. -/
import Derived.Test.YtnilkkggnffklaaGreatDoorPn4
import Derived.Test.YtnilkkggnffklaaGreatDoorNm1
namespace Go.Proofs.YtnilkkggnffklaaGreatDoor
open Go Go.Sq
set_option linter.unusedVariables false
def mup {K V : Type} (o : KO K) : List (K × V) → K → V → List (K × V)
  | [], x, y => [(x, y)]
  | p :: r, x, y => bif o.eq x p.1 then (p.1, y) :: r else p :: mup o r x y
theorem mup_eq {K V : Type} (o : KO K) (x : K) (y z : V) : ∀ l : List (K × V), mset (ment o l x z) (midx o l x) y = mup o l x y ∧ midx o l x < (ment o l x z).length
  | [] => ⟨rfl, by simp [ment, midx]⟩
  | p :: r => by
    obtain ⟨h1, h2⟩ := mup_eq o x y z r
    cases h : o.eq x p.1 with
    | true => simp [ment, midx, mup, mset, h]
    | false =>
      refine ⟨by simp [ment, midx, mup, mset, h, h1], ?_⟩
      simp [ment, midx, h]; exact h2
theorem mup_keys {K V : Type} {o : KO K} (ho : ∀ a b, o.eq a b = true ↔ a = b) {x : K} {y : V} : ∀ l : List (K × V), ((mup o l x y).map (·.1) = l.map (·.1) ∧ x ∈ l.map (·.1)) ∨ ((mup o l x y).map (·.1) = l.map (·.1) ++ [x] ∧ x ∉ l.map (·.1))
  | [] => .inr ⟨rfl, by simp⟩
  | p :: r => by
    unfold mup
    cases he : o.eq x p.1 with
    | true => exact .inl ⟨rfl, by simp [(ho _ _).1 he]⟩
    | false =>
      have hne : x ≠ p.1 := fun e => by rw [(ho _ _).2 e] at he; cases he
      rcases mup_keys ho (x := x) (y := y) r with ⟨h1, h2⟩ | ⟨h1, h2⟩
      · exact .inl ⟨by simp [h1], by simp at h2 ⊢; exact .inr h2⟩
      · exact .inr ⟨by simp [h1], by simp at h2 ⊢; exact ⟨hne, h2⟩⟩
theorem kO_iff (a b : Nom) : kO_0.eq a b = true ↔ a = b := by
  show (decide (a.1 = b.1) && (decide (a.2.1 = b.2.1) && (decide (a.2.2.1 = b.2.2.1) && (decide (a.2.2.2.1 = b.2.2.2.1) && (decide (a.2.2.2.2.1 = b.2.2.2.2.1) && decide (a.2.2.2.2.2 = b.2.2.2.2.2)))))) = true ↔ _
  simp only [Bool.and_eq_true, decide_eq_true_eq]
  constructor
  · rintro ⟨h1, h2, h3, h4, h5, h6⟩
    obtain ⟨a1, a2, a3, a4, a5, a6⟩ := a
    obtain ⟨b1, b2, b3, b4, b5, b6⟩ := b
    simp only at h1 h2 h3 h4 h5 h6
    subst h1 h2 h3 h4 h5 h6; rfl
  · rintro rfl; simp
def nwith (q : Nom × Int) : Nom := (q.1.1, (q.1.2.1, (q.1.2.2.1, (q.1.2.2.2.1, (q.1.2.2.2.2.1, q.2)))))
theorem nlt_cmp : Papi_Nomination.CmpLt (fun h => (nomination_compare h.1 h.2.1).bind fun y => some y) (fun x y => decide (ncmp x y < 0)) := fun x y => ⟨ncmp x y, by show (nomination_compare x y).bind _ = _; rw [ncmp_ok]; rfl, rfl⟩
theorem nsort_unique {L T T' : List Nom} (hd : ∀ x ∈ L, ∀ y ∈ L, nkey x = nkey y → x = y) (h1 : T.Perm L) (h2 : T.Pairwise fun x y => decide (ncmp y x < 0) = false) (h1' : T'.Perm L) (h2' : T'.Pairwise fun x y => decide (ncmp y x < 0) = false) : T = T' := by
  refine List.Perm.eq_of_pairwise (fun a b ha hb h3 h4 => ?_) h2 h2' (h1.trans h1'.symm)
  have h3 := of_decide_eq_false h3
  have h4 := of_decide_eq_false h4
  have k1 := ncmp_good.anti a b
  have k2 := ncmp_good.anti b a
  exact hd a (h1.mem_iff.1 ha) b (h1'.mem_iff.1 hb) (ncmp_zero (by omega))
/-! ### The sums of a map in the order of births -/
abbrev vol (x : Nom) : Int := x.2.2.2.2.2
def n0 : Nom := ([], ([], ([], ([], (0, 0)))))
theorem wi_next (i : Nat) (h : i ≤ 1000000) : wi64 ((i : Int) + 1) = ((i + 1 : Nat) : Int) := by rw [wi (by omega)]; rfl
/-- What the nominations of a key sum up to. -/
def sumK (key : Nom) (l : List Nom) : Int := isum (l.map fun z => if nkey z = key then vol z else 0)
theorem sumK_perm {l l' : List Nom} (h : l.Perm l') (key : Nom) : sumK key l = sumK key l' := isum_perm (h.map _)
theorem sumK_next {l : List Nom} {i : Nat} (hi : i < l.length) (key : Nom) : sumK key (l.take (i + 1)) = sumK key (l.take i) + if nkey (l.getD i n0) = key then vol (l.getD i n0) else 0 := by
  unfold sumK
  rw [take_next n0 hi, List.map_append, isum_app]; simp [isum]
theorem sumK_none {l : List Nom} {key : Nom} (h : ∀ x ∈ l, nkey x ≠ key) : sumK key l = 0 := by
  unfold sumK
  induction l with
  | nil => rfl
  | cons x l ih =>
    simp only [List.map_cons, isum]
    rw [ih fun y hy => h y (List.mem_cons_of_mem _ hy), if_neg (h x (by simp))]; rfl
theorem mup_iff {K V : Type} {o : KO K} (ho : ∀ a b, o.eq a b = true ↔ a = b) {x : K} {y : V} : ∀ {l : List (K × V)}, (l.map (·.1)).Nodup → ∀ q, q ∈ mup o l x y ↔ (q ∈ l ∧ q.1 ≠ x) ∨ q = (x, y)
  | [], _, q => by simp [mup]
  | p :: r, hn, q => by
    have hn' : p.1 ∉ r.map (·.1) ∧ (r.map (·.1)).Nodup := by simpa [List.nodup_cons] using hn
    unfold mup
    cases he : o.eq x p.1 with
    | true =>
      have e := (ho _ _).1 he
      simp only [cond_true, List.mem_cons]
      constructor
      · rintro (h | h)
        · exact .inr (by rw [h, e])
        · refine .inl ⟨.inr h, fun h2 => hn'.1 ?_⟩
          rw [← e, ← h2]; exact List.mem_map_of_mem h
      · rintro (⟨h | h, h2⟩ | h)
        · subst h; exact absurd e.symm h2
        · exact .inr h
        · exact .inl (by rw [h, e])
    | false =>
      have hne : x ≠ p.1 := fun e => by rw [(ho _ _).2 e] at he; cases he
      simp only [cond_false, List.mem_cons, mup_iff ho hn'.2 q]
      constructor
      · rintro (h | ⟨h, h2⟩ | h)
        · exact .inl ⟨.inl h, by rw [h]; exact Ne.symm hne⟩
        · exact .inl ⟨.inr h, h2⟩
        · exact .inr h
      · rintro (⟨h | h, h2⟩ | h)
        · exact .inl h
        · exact .inr (.inl ⟨h, h2⟩)
        · exact .inr (.inr h)
theorem mget_iff {K V : Type} {o : KO K} (ho : ∀ a b, o.eq a b = true ↔ a = b) {x : K} {v : V} : ∀ {l : List (K × V)}, (l.map (·.1)).Nodup → (mget o l x = some v ↔ (x, v) ∈ l)
  | [], _ => by simp [mget]
  | p :: r, hn => by
    have hn' : p.1 ∉ r.map (·.1) ∧ (r.map (·.1)).Nodup := by simpa [List.nodup_cons] using hn
    unfold mget
    cases he : o.eq x p.1 with
    | true =>
      have e := (ho _ _).1 he
      subst e
      simp only [cond_true, List.mem_cons]
      constructor
      · intro h; injection h with h; exact .inl (by rw [← h])
      · rintro (h | h)
        · rw [← h]
        · exact absurd (List.mem_map_of_mem (f := (·.1)) h) hn'.1
    | false =>
      have hne : x ≠ p.1 := fun e => by rw [(ho _ _).2 e] at he; cases he
      simp only [cond_false, mget_iff ho hn'.2, List.mem_cons]
      constructor
      · exact .inr
      · rintro (h | h)
        · exact absurd (congrArg Prod.fst h) hne
        · exact h
def tot2 (m : List (Nom × Int)) : Int := isum (m.map (·.2))
theorem tot2_cons (q : Nom × Int) (m : List (Nom × Int)) : tot2 (q :: m) = q.2 + tot2 m := rfl
theorem wtot_mup (key : Nom) (v : Int) : ∀ m : List (Nom × Int), tot2 (mup kO_0 m key ((mget kO_0 m key).getD 0 + v)) = tot2 m + v
  | [] => by simp [mup, mget, tot2, isum]
  | q :: r => by
    cases he : kO_0.eq key q.1 with
    | true =>
      simp only [mup, mget, he, cond_true, Option.getD_some, tot2_cons]
      omega
    | false =>
      have := wtot_mup key v r
      simp only [mup, mget, he, cond_false, tot2_cons]
      omega
/-- The map of the first i nominations. -/
structure SumX (l : List Nom) (i : Nat) (m : List (Nom × Int)) : Prop where
  len : m.length ≤ i
  dif : (m.map (·.1)).Nodup
  mem : ∀ q, q ∈ m ↔ (∃ x ∈ l.take i, nkey x = q.1) ∧ q.2 = sumK q.1 (l.take i)
  tot : tot2 m = isum ((l.take i).map vol)
theorem SumX.get {l : List Nom} {i : Nat} {m : List (Nom × Int)} (h : SumX l i m) (key : Nom) : (mget kO_0 m key).getD 0 = sumK key (l.take i) := by
  cases hg : mget kO_0 m key with
  | some v =>
    have := (h.mem _).1 ((mget_iff kO_iff h.dif).1 hg)
    exact this.2
  | none =>
    show (0 : Int) = _
    rw [sumK_none fun x hx e => ?_]
    have := (h.mem (key, sumK key (l.take i))).2 ⟨⟨x, hx, e⟩, rfl⟩
    rw [(mget_iff kO_iff h.dif).2 this] at hg; cases hg
theorem sumK_bd {l : List Nom} (hv : ∀ x ∈ l, 1 ≤ vol x ∧ vol x ≤ 1099511627776) (key : Nom) : 0 ≤ sumK key l ∧ sumK key l ≤ 1099511627776 * (l.length : Int) := by
  have := isum_bd (l := l.map fun z => if nkey z = key then vol z else 0) (a := 0) (b := 1099511627776) fun v hv' => by
    obtain ⟨z, hz, rfl⟩ := List.mem_map.1 hv'
    have := hv z hz
    split <;> omega
  rw [List.length_map] at this
  unfold sumK; omega
theorem sumsX_ok {l : List Nom} (hl : l.length ≤ 1000) (hv : ∀ x ∈ l, 1 ≤ vol x ∧ vol x ≤ 1099511627776) :
    Ok (iter (fun x : Int × List (Nom × Int) => nomination_Totals_L0 l x.1 x.2) (0, [])) fun m => SumX l l.length m := by
  have hsb : ∀ i, i ≤ l.length → ∀ key, 0 ≤ sumK key (l.take i) ∧ sumK key (l.take i) ≤ 1099511627776 * (i : Int) := by
    intro i hi key
    have := sumK_bd (l := l.take i) (fun x hx => hv x (List.mem_of_mem_take hx)) key
    rw [List.length_take, Nat.min_eq_left hi] at this
    exact this
  refine Ok.loop (fun x : Int × List (Nom × Int) => ∃ i : Nat, x.1 = (i : Int) ∧ i ≤ l.length ∧ SumX l i x.2) (fun x => l.length - x.1.toNat) ⟨0, rfl, by omega, ⟨by simp, by simp, fun q => by simp, rfl⟩⟩ ?_
  rintro ⟨i', m⟩ ⟨i, ei, hi, hm⟩
  replace ei : i' = (i : Int) := ei
  subst ei
  try simp only at hm
  unfold nomination_Totals_L0
  refine Ok.bif (fun hc => ?_) fun hc => ?_
  · have hc := of_decide_eq_true hc
    have hi : i < l.length := by (try simp only at hc); omega
    refine Ok.gd (inB_t hi) ?_
    rw [Int.toNat_natCast]
    show Ok (gd (decide (0 ≤ Int.ofNat (midx kO_0 m (nkey (l.getD i n0)))) && Nat.blt (Int.ofNat (midx kO_0 m (nkey (l.getD i n0)))).toNat (ment kO_0 m (nkey (l.getD i n0)) 0).length) (some (Sum.inl (wi64 ((i : Int) + 1), mset (ment kO_0 m (nkey (l.getD i n0)) 0) (Int.ofNat (midx kO_0 m (nkey (l.getD i n0)))).toNat (wi64 (((mget kO_0 m (nkey (l.getD i n0))).getD 0) + vol (l.getD i n0))))))) _
    have hx := gD_mem (d := n0) hi
    have hn := fun key => sumK_next hi key
    have hws := wtot_mup (nkey (l.getD i n0)) (vol (l.getD i n0)) m
    have htn : isum ((l.take (i + 1)).map vol) = isum ((l.take i).map vol) + vol (l.getD i n0) := by
      rw [take_next n0 hi, List.map_append, isum_app]; simp [isum]
    have htk : ∀ z, z ∈ l.take (i + 1) ↔ z ∈ l.take i ∨ z = l.getD i n0 := fun z => by rw [take_next n0 hi]; simp
    rw [hm.get] at hws ⊢
    have hb := hsb i (by omega) (nkey (l.getD i n0))
    generalize l.getD i n0 = x at hx hn hb htk htn hws
    have hvx := hv x hx
    obtain ⟨u1, u2⟩ := mup_eq kO_0 (nkey x) (wi64 (sumK (nkey x) (l.take i) + vol x)) 0 m
    rw [show (Int.ofNat (midx kO_0 m (nkey x))).toNat = midx kO_0 m (nkey x) from rfl, u1]
    refine Ok.gd (by rw [Bool.and_eq_true, decide_eq_true_eq, Nat.blt_eq]; exact ⟨Int.natCast_nonneg _, u2⟩) ?_
    rw [wi_next i (by omega), show wi64 (sumK (nkey x) (l.take i) + vol x) = sumK (nkey x) (l.take i) + vol x from wi (by omega)]
    have hml := hm.len
    refine .ret ⟨⟨i + 1, rfl, hi, ⟨?_, ?_, fun q => ?_, by show tot2 (mup kO_0 m (nkey x) (sumK (nkey x) (l.take i) + vol x)) = _; rw [htn, ← hm.tot]; exact hws⟩⟩, by simp only [Int.toNat_natCast]; omega⟩
    · rcases mup_keys kO_iff (x := nkey x) (y := sumK (nkey x) (l.take i) + vol x) m with ⟨h1, _⟩ | ⟨h1, h2⟩
      · have := congrArg List.length h1; simp at this; (try simp only); omega
      · have := congrArg List.length h1; simp at this; (try simp only); omega
    · rcases mup_keys kO_iff (x := nkey x) (y := sumK (nkey x) (l.take i) + vol x) m with ⟨h1, _⟩ | ⟨h1, h2⟩
      · simp only [h1]; exact hm.dif
      · simp only [h1]
        exact List.nodup_append.2 ⟨hm.dif, by simp, fun a ha b hb e => by rw [List.mem_singleton.1 hb] at e; subst e; exact h2 ha⟩
    · rw [mup_iff kO_iff hm.dif]
      constructor
      · rintro (⟨h, hne⟩ | rfl)
        · obtain ⟨⟨z, hz, e⟩, h2⟩ := (hm.mem q).1 h
          exact ⟨⟨z, (htk z).2 (.inl hz), e⟩, by rw [hn, if_neg (Ne.symm hne), Int.add_zero]; exact h2⟩
        · exact ⟨⟨x, (htk x).2 (.inr rfl), rfl⟩, by rw [hn, if_pos rfl]⟩
      · rintro ⟨⟨z, hz, e⟩, h2⟩
        by_cases hk : q.1 = nkey x
        · refine .inr (Prod.ext hk ?_)
          rw [h2, hk, hn, if_pos rfl]
        · rw [hn, if_neg (Ne.symm hk), Int.add_zero] at h2
          refine .inl ⟨(hm.mem q).2 ⟨⟨z, ?_, e⟩, h2⟩, hk⟩
          rcases (htk z).1 hz with hz | hz
          · exact hz
          · subst hz; exact absurd e.symm hk
  · have hc := of_decide_eq_false hc
    have : i = l.length := by (try simp only at hc); omega
    subst this
    exact .ret hm
theorem SumX.key {l : List Nom} {i : Nat} {s : List (Nom × Int)} (h : SumX l i s) : ∀ q ∈ s, nkey (nwith q) = q.1 := by
  intro q hq
  obtain ⟨⟨x, _, hx⟩, _⟩ := (h.mem q).1 hq
  show nkey q.1 = q.1
  rw [← hx]; rfl
theorem SumX.hd {l : List Nom} {i : Nat} {s : List (Nom × Int)} (h : SumX l i s) : ∀ x ∈ s.map nwith, ∀ y ∈ s.map nwith, nkey x = nkey y → x = y := by
  intro x hx y hy e
  obtain ⟨a, ha, rfl⟩ := List.mem_map.1 hx
  obtain ⟨b, hb, rfl⟩ := List.mem_map.1 hy
  rw [h.key a ha, h.key b hb] at e
  have : a = b := by
    obtain ⟨i, hi⟩ := List.getElem?_of_mem ha
    obtain ⟨j, hj⟩ := List.getElem?_of_mem hb
    have g1 : (s.map (·.1))[i]? = (s.map (·.1))[j]? := by rw [List.getElem?_map, List.getElem?_map, hi, hj]; simp [e]
    have := (List.getElem?_inj (by simpa using (List.getElem?_eq_some_iff.1 hi).1) h.dif).1 g1
    subst this
    rw [hi] at hj; injection hj
  rw [this]
theorem isum_one (key : Nom) : ∀ {s : List (Nom × Int)}, (s.map (·.1)).Nodup → isum (s.map fun q => if q.1 = key then q.2 else 0) = (mget kO_0 s key).getD 0
  | [], _ => rfl
  | p :: r, hn => by
    have hn' : p.1 ∉ r.map (·.1) ∧ (r.map (·.1)).Nodup := by simpa [List.nodup_cons] using hn
    have ih := isum_one key hn'.2
    unfold mget
    simp only [List.map_cons, isum]
    cases he : kO_0.eq key p.1 with
    | true =>
      have e := (kO_iff _ _).1 he
      rw [if_pos e.symm]
      have hz : isum (r.map fun q => if q.1 = key then q.2 else 0) = 0 := by
        have : ∀ (r : List (Nom × Int)), key ∉ r.map (·.1) → isum (r.map fun q => if q.1 = key then q.2 else 0) = 0 := by
          intro r
          induction r with
          | nil => intro _; rfl
          | cons q r ih =>
            intro h
            simp only [List.map_cons, List.mem_cons, not_or] at h
            simp only [List.map_cons, isum]
            rw [ih h.2, if_neg (Ne.symm h.1)]; rfl
        exact this r (by rw [e]; exact hn'.1)
      rw [hz]
      show p.2 + 0 = p.2
      omega
    | false =>
      have hne : key ≠ p.1 := fun e => by rw [(kO_iff _ _).2 e] at he; cases he
      rw [if_neg (Ne.symm hne), cond_false, ← ih]; omega
/-- The sums of totals are the sums. -/
theorem SumX.sumT {l : List Nom} {i : Nat} {s : List (Nom × Int)} (h : SumX l i s) {T : List Nom} (hT : T.Perm (s.map nwith)) (key : Nom) : sumK key T = sumK key (l.take i) := by
  rw [sumK_perm hT key, ← h.get key, ← isum_one key h.dif]
  unfold sumK
  rw [List.map_map]
  congr 1
  refine List.map_congr_left fun q hq => ?_
  show (if nkey (nwith q) = key then q.2 else 0) = _
  rw [h.key q hq]
theorem SumX.keyT {l : List Nom} {i : Nat} {s : List (Nom × Int)} (h : SumX l i s) {T : List Nom} (hT : T.Perm (s.map nwith)) (key : Nom) : (∃ x ∈ T, nkey x = key) ↔ ∃ x ∈ l.take i, nkey x = key := by
  constructor
  · rintro ⟨x, hx, rfl⟩
    obtain ⟨q, hq, rfl⟩ := List.mem_map.1 (hT.mem_iff.1 hx)
    rw [h.key q hq]
    exact ((h.mem q).1 hq).1
  · rintro ⟨x, hx, e⟩
    have hq := (h.mem (key, sumK key (l.take i))).2 ⟨⟨x, hx, e⟩, rfl⟩
    exact ⟨_, hT.mem_iff.2 (List.mem_map_of_mem hq), h.key _ hq⟩
theorem SumX.volT {l : List Nom} {i : Nat} {s : List (Nom × Int)} (h : SumX l i s) {T : List Nom} (hT : T.Perm (s.map nwith)) {x : Nom} (hx : x ∈ T) : vol x = sumK (nkey x) (l.take i) := by
  obtain ⟨q, hq, rfl⟩ := List.mem_map.1 (hT.mem_iff.1 hx)
  rw [h.key q hq]
  exact ((h.mem q).1 hq).2
theorem SumX.totT {l : List Nom} {i : Nat} {s : List (Nom × Int)} (h : SumX l i s) {T : List Nom} (hT : T.Perm (s.map nwith)) : isum (T.map vol) = isum ((l.take i).map vol) := by
  rw [isum_perm (hT.map vol), List.map_map, ← h.tot]; rfl

/-! ### The totals, sorted -/
structure TotP (l : List Nom) (T : List Nom) : Prop where
  s : ∃ s, SumX l l.length s ∧ T.Perm (s.map nwith)
  srt : T.Pairwise fun x y => decide (ncmp y x < 0) = false
theorem TotP.len {l T : List Nom} (h : TotP l T) : T.length ≤ l.length := by
  obtain ⟨s, hs, hT⟩ := h.s
  have := hT.length_eq
  have := hs.len
  simp at *; omega
theorem TotP.sum {l T : List Nom} (h : TotP l T) (key : Nom) : sumK key T = sumK key l := by
  obtain ⟨s, hs, hT⟩ := h.s
  have := hs.sumT hT key
  rwa [List.take_length] at this
theorem TotP.keys {l T : List Nom} (h : TotP l T) (key : Nom) : (∃ x ∈ T, nkey x = key) ↔ ∃ x ∈ l, nkey x = key := by
  obtain ⟨s, hs, hT⟩ := h.s
  have := hs.keyT hT key
  rwa [List.take_length] at this
theorem TotP.vol {l T : List Nom} (h : TotP l T) {x : Nom} (hx : x ∈ T) : vol x = sumK (nkey x) l := by
  obtain ⟨s, hs, hT⟩ := h.s
  have := hs.volT hT hx
  rwa [List.take_length] at this
theorem TotP.tot {l T : List Nom} (h : TotP l T) : isum (T.map Go.Proofs.YtnilkkggnffklaaGreatDoor.vol) = isum (l.map Go.Proofs.YtnilkkggnffklaaGreatDoor.vol) := by
  obtain ⟨s, hs, hT⟩ := h.s
  have := hs.totT hT
  rwa [List.take_length] at this
theorem TotP.strict {l T : List Nom} (h : TotP l T) : T.Pairwise fun x y => ncmp x y < 0 := by
  obtain ⟨s, hs, hT⟩ := h.s
  have hnd : T.Nodup := by
    refine hT.nodup_iff.2 ?_
    have : (s.map nwith).map nkey = s.map (·.1) := by
      rw [List.map_map]
      exact List.map_congr_left fun q hq => hs.key q hq
    exact List.Pairwise.of_map (S := fun a b : Nom => a ≠ b) nkey (fun a b h e => h (by rw [e])) (by rw [this]; exact hs.dif)
  refine List.pairwise_iff_getElem.2 fun i j hi hj hij => ?_
  have h1 := of_decide_eq_false (List.pairwise_iff_getElem.1 h.srt i j hi hj hij)
  have h2 := List.pairwise_iff_getElem.1 hnd i j hi hj hij
  have k1 := ncmp_good.anti T[i] T[j]
  have k2 := ncmp_good.anti T[j] T[i]
  by_cases h3 : ncmp T[i] T[j] < 0
  · exact h3
  · have h4 : ncmp T[i] T[j] = 0 := by omega
    exact absurd (hs.hd _ (hT.mem_iff.1 (List.getElem_mem hi)) _ (hT.mem_iff.1 (List.getElem_mem hj)) (ncmp_zero h4)) h2
theorem totals_any {l : List Nom} (hl : l.length ≤ 1000) (hc : nomination_Check l = some 0) (hv : ∀ x ∈ l, 1 ≤ vol x ∧ vol x ≤ 1099511627776) :
    ((∃ x ∈ l, 1099511627776 < sumK (nkey x) l) ∧ nomination_Totals l = some ([], 4)) ∨ ((∀ x ∈ l, sumK (nkey x) l ≤ 1099511627776) ∧ ∃ T, nomination_Totals l = some (T, 0) ∧ TotP l T) := by
  obtain ⟨s, q1, q2⟩ := sumsX_ok hl hv
  have hsl := q2.len
  have hd := q2.hd
  have hkey := q2.key
  obtain ⟨T, t1, t2, t3⟩ := Papi_Nomination.sort_ok nlt_cmp ncmp_good.swo (s.map nwith) (by simp; omega)
  have hwalk : ∀ v : List Nom × Int, ((∃ q ∈ s, 1099511627776 < q.2) ∧ v = ([], 4)) ∨ ((∀ q ∈ s, q.2 ≤ 1099511627776) ∧ v = (T, 0)) → iterK (fun x2 : List Nom × List (Nom × Int) => nomination_Totals_L1 x2.1 x2.2) ([], ((([], ([], ([], ([], (0, 0))))), 0) :: s)) (fun s2 : List Nom ⊕ (List Nom × Int) => s2.elim (fun s3 => (slices_SortFunc_api_Nomination_api_Nomination (fun h => (nomination_compare h.1 h.2.1).bind fun y => some y) s3).bind fun r2 => some (r2, (0 : Int))) (fun s4 => some (s4.1, s4.2))) = some v := by
    intro v hv'
    refine iterK_inv (fun x : List Nom × List (Nom × Int) => (x.1 ++ x.2.tail.map nwith).Perm (s.map nwith) ∧ ∀ z ∈ x.1, vol z ≤ 1099511627776) (fun x => x.2.tail.length) (by exact ⟨.refl _, fun z hz => by cases hz⟩) (fun x hx => ?_) (fun x hx o ho => ?_)
    · unfold nomination_Totals_L1
      cases ht : x.2.tail with
      | nil => simp [isNilL]
      | cons a t => simp [isNilL]
    · obtain ⟨out, c⟩ := x
      obtain ⟨hx, hov⟩ := hx
      replace hx : (out ++ c.tail.map nwith).Perm (s.map nwith) := hx
      replace hov : ∀ z ∈ out, vol z ≤ 1099511627776 := hov
      unfold nomination_Totals_L1 at ho
      cases ht : c.tail with
      | nil =>
        rw [ht] at ho hx
        simp only [isNilL, cond_true, List.mem_singleton] at ho
        subst ho
        refine .inr ⟨_, rfl, ?_⟩
        simp only [List.map_nil, List.append_nil] at hx
        obtain ⟨T', u1, u2, u3⟩ := Papi_Nomination.sort_ok nlt_cmp ncmp_good.swo out (by have := hx.length_eq; simp at this; omega)
        have := nsort_unique hd (u2.trans hx) u3 t2 t3
        subst this
        have hve : v = (T', 0) := by
          rcases hv' with ⟨⟨q, hq, hlt⟩, _⟩ | ⟨_, h⟩
          · have := hov _ (hx.mem_iff.2 (List.mem_map_of_mem hq))
            have e : vol (nwith q) = q.2 := rfl
            omega
          · exact h
        rw [hve]
        show (slices_SortFunc_api_Nomination_api_Nomination _ out).bind _ = _
        rw [u1]; rfl
      | cons a t =>
        rw [ht] at ho hx
        simp only [isNilL, cond_false, List.mem_map, List.mem_range] at ho
        obtain ⟨i, hi, rfl⟩ := ho
        have hmem : (a :: t).getD i (([], ([], ([], ([], (0, 0))))), 0) ∈ a :: t := gD_mem hi
        have hp : ((pickAt (([], ([], ([], ([], (0, 0))))), 0) (a :: t) i).headD (([], ([], ([], ([], (0, 0))))), 0)) = (a :: t).getD i (([], ([], ([], ([], (0, 0))))), 0) := rfl
        have hper : (nwith ((a :: t).getD i (([], ([], ([], ([], (0, 0))))), 0)) :: ((a :: t).eraseIdx i).map nwith).Perm ((a :: t).map nwith) := by
          have := (erase_perm (L := a :: t) (j := i) (e := (a :: t).getD i (([], ([], ([], ([], (0, 0))))), 0)) (by rw [gD_eq hi]; exact List.getElem?_eq_getElem hi)).map nwith
          rw [List.map_cons] at this
          exact this.symm
        have hval : nwith ((a :: t).getD i (([], ([], ([], ([], (0, 0))))), 0)) ∈ s.map nwith := hx.mem_iff.1 (List.mem_append.2 (.inr (List.mem_map_of_mem hmem)))
        obtain ⟨q, hq, he⟩ := List.mem_map.1 hval
        have hv2 : ((a :: t).getD i (([], ([], ([], ([], (0, 0))))), 0)).2 = q.2 := (congrArg (fun x : Nom => x.2.2.2.2.2) he).symm
        have hol : out.length + (t.length + 1) = s.length := by have := hx.length_eq; simpa using this
        rw [hp]
        by_cases hbig : 1099511627776 < q.2
        · rw [dec_t (by rw [hv2]; exact hbig)]
          simp only [cond_true]
          refine .inr ⟨_, rfl, ?_⟩
          rcases hv' with ⟨_, h⟩ | ⟨h, _⟩
          · rw [h]; rfl
          · have := h q hq; omega
        · rw [dec_f (by rw [hv2]; exact hbig)]
          simp only [cond_false]
          rw [gd_t (fits_t (by omega))]
          refine .inl ⟨_, rfl, ⟨?_, ?_⟩, ?_⟩
          · show ((out ++ [nwith ((a :: t).getD i (([], ([], ([], ([], (0, 0))))), 0))]) ++ ((a :: t).eraseIdx i).map nwith).Perm _
            rw [List.append_assoc]
            exact (List.Perm.append_left out hper).trans hx
          · intro z hz
            replace hz : z ∈ out ++ [nwith ((a :: t).getD i (([], ([], ([], ([], (0, 0))))), 0))] := hz
            rcases List.mem_append.1 hz with hz | hz
            · exact hov z hz
            · rw [List.mem_singleton.1 hz, ← he]
              show q.2 ≤ 1099511627776
              omega
          · show ((a :: t).eraseIdx i).length < (a :: t).length
            rw [List.length_eraseIdx]
            simp at hi ⊢
            split <;> omega
  have hfin : ∀ v, ((∃ q ∈ s, 1099511627776 < q.2) ∧ v = ([], 4)) ∨ ((∀ q ∈ s, q.2 ≤ 1099511627776) ∧ v = (T, 0)) → nomination_Totals l = some v := by
    intro v hv'
    unfold nomination_Totals
    rw [hc]
    simp only [Option.bind_some, decide_true, Bool.not_true, cond_false]
    rw [show iter (fun x => nomination_Totals_L0 l x.1 x.2) (0, []) = some s from q1, Option.bind_some]
    exact hwalk v hv'
  have hkeys : ∀ x ∈ l, ∃ q ∈ s, q.2 = sumK (nkey x) l := fun x hx => ⟨_, (q2.mem (nkey x, sumK (nkey x) (l.take l.length))).2 ⟨⟨x, by rw [List.take_length]; exact hx, rfl⟩, rfl⟩, by rw [List.take_length]⟩
  have hkeys2 : ∀ q ∈ s, ∃ x ∈ l, q.2 = sumK (nkey x) l := fun q hq => by
    obtain ⟨⟨x, hx, e⟩, h2⟩ := (q2.mem q).1 hq
    rw [List.take_length] at hx h2
    exact ⟨x, hx, by rw [e]; exact h2⟩
  by_cases hbig : ∃ q ∈ s, 1099511627776 < q.2
  · left
    refine ⟨?_, hfin _ (.inl ⟨hbig, rfl⟩)⟩
    obtain ⟨q, hq, hlt⟩ := hbig
    obtain ⟨x, hx, e⟩ := hkeys2 q hq
    exact ⟨x, hx, by omega⟩
  · right
    have hle : ∀ q ∈ s, q.2 ≤ 1099511627776 := fun q hq => by
      by_cases h : 1099511627776 < q.2
      · exact absurd ⟨q, hq, h⟩ hbig
      · omega
    refine ⟨fun x hx => ?_, T, hfin _ (.inr ⟨hle, rfl⟩), ⟨s, q2, t2⟩, t3⟩
    obtain ⟨q, hq, e⟩ := hkeys x hx
    rw [← e]; exact hle q hq
end Go.Proofs.YtnilkkggnffklaaGreatDoor
