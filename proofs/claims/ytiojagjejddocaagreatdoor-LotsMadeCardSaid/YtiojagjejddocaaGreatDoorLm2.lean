/- Nominations: their check and totals. No condition. -/
import Derived.Test.YtiojagjejddocaaGreatDoorPd
import Derived.Test.YtiojagjejddocaaGreatDoorLm0
namespace Go.Proofs.YtiojagjejddocaaGreatDoor
open Go Go.Sq
set_option linter.unusedVariables false
def mup {K V : Type} (o : KO K) : List (K × V) → K → V → List (K × V)
  | [], x, y => [(x, y)]
  | p :: r, x, y => bif o.eq x p.1 then (p.1, y) :: r else p :: mup o r x y
theorem mup_eq {K V : Type} (o : KO K) (x : K) (y z : V) : ∀ l : List (K × V), mset (ment o l x z) (midx o l x) y = mup o l x y ∧ midx o l x < (ment o l x z).length
  | [] => ⟨rfl, by simp [ment, midx]⟩
  | p :: r => by
    obtain ⟨h1, h2⟩ := mup_eq o x y z r
    cases h : o.eq x p.1 with
    | true => simp [ment, midx, mup, mset, h]
    | false =>
      refine ⟨by simp [ment, midx, mup, mset, h, h1], ?_⟩
      simp [ment, midx, h]; exact h2
theorem mup_keys {K V : Type} {o : KO K} (ho : ∀ a b, o.eq a b = true ↔ a = b) {x : K} {y : V} : ∀ l : List (K × V), ((mup o l x y).map (·.1) = l.map (·.1) ∧ x ∈ l.map (·.1)) ∨ ((mup o l x y).map (·.1) = l.map (·.1) ++ [x] ∧ x ∉ l.map (·.1))
  | [] => .inr ⟨rfl, by simp⟩
  | p :: r => by
    unfold mup
    cases he : o.eq x p.1 with
    | true => exact .inl ⟨rfl, by simp [(ho _ _).1 he]⟩
    | false =>
      have hne : x ≠ p.1 := fun e => by rw [(ho _ _).2 e] at he; cases he
      rcases mup_keys ho (x := x) (y := y) r with ⟨h1, h2⟩ | ⟨h1, h2⟩
      · exact .inl ⟨by simp [h1], by simp at h2 ⊢; exact .inr h2⟩
      · exact .inr ⟨by simp [h1], by simp at h2 ⊢; exact ⟨hne, h2⟩⟩
theorem kO_iff (a b : Nom) : kO_0.eq a b = true ↔ a = b := by
  show (decide (a.1 = b.1) && (decide (a.2.1 = b.2.1) && (decide (a.2.2.1 = b.2.2.1) && (decide (a.2.2.2.1 = b.2.2.2.1) && (decide (a.2.2.2.2.1 = b.2.2.2.2.1) && decide (a.2.2.2.2.2 = b.2.2.2.2.2)))))) = true ↔ _
  simp only [Bool.and_eq_true, decide_eq_true_eq]
  constructor
  · rintro ⟨h1, h2, h3, h4, h5, h6⟩
    obtain ⟨a1, a2, a3, a4, a5, a6⟩ := a
    obtain ⟨b1, b2, b3, b4, b5, b6⟩ := b
    simp only at h1 h2 h3 h4 h5 h6
    subst h1 h2 h3 h4 h5 h6; rfl
  · rintro rfl; simp
def nwith (q : Nom × Int) : Nom := (q.1.1, (q.1.2.1, (q.1.2.2.1, (q.1.2.2.2.1, (q.1.2.2.2.2.1, q.2)))))
theorem nlt_cmp : Papi_Nomination.CmpLt (fun h => (nomination_compare h.1 h.2.1).bind fun y => some y) (fun x y => decide (ncmp x y < 0)) := fun x y => ⟨ncmp x y, by show (nomination_compare x y).bind _ = _; rw [ncmp_ok]; rfl, rfl⟩
theorem nsort_unique {L T T' : List Nom} (hd : ∀ x ∈ L, ∀ y ∈ L, nkey x = nkey y → x = y) (h1 : T.Perm L) (h2 : T.Pairwise fun x y => decide (ncmp y x < 0) = false) (h1' : T'.Perm L) (h2' : T'.Pairwise fun x y => decide (ncmp y x < 0) = false) : T = T' := by
  refine List.Perm.eq_of_pairwise (fun a b ha hb h3 h4 => ?_) h2 h2' (h1.trans h1'.symm)
  have h3 := of_decide_eq_false h3
  have h4 := of_decide_eq_false h4
  have k1 := ncmp_good.anti a b
  have k2 := ncmp_good.anti b a
  exact hd a (h1.mem_iff.1 ha) b (h1'.mem_iff.1 hb) (ncmp_zero (by omega))
abbrev vol (x : Nom) : Int := x.2.2.2.2.2
def n0 : Nom := ([], ([], ([], ([], (0, 0)))))
theorem wi_next (i : Nat) (h : i ≤ 1000000) : wi64 ((i : Int) + 1) = ((i + 1 : Nat) : Int) := by rw [wi (by omega)]; rfl
def sumK (key : Nom) (l : List Nom) : Int := isum (l.map fun z => if nkey z = key then vol z else 0)
theorem sumK_perm {l l' : List Nom} (h : l.Perm l') (key : Nom) : sumK key l = sumK key l' := isum_perm (h.map _)
theorem sumK_next {l : List Nom} {i : Nat} (hi : i < l.length) (key : Nom) : sumK key (l.take (i + 1)) = sumK key (l.take i) + if nkey (l.getD i n0) = key then vol (l.getD i n0) else 0 := by
  unfold sumK
  rw [take_next n0 hi, List.map_append, isum_app]; simp [isum]
theorem sumK_none {l : List Nom} {key : Nom} (h : ∀ x ∈ l, nkey x ≠ key) : sumK key l = 0 := by
  unfold sumK
  induction l with
  | nil => rfl
  | cons x l ih =>
    simp only [List.map_cons, isum]
    rw [ih fun y hy => h y (List.mem_cons_of_mem _ hy), if_neg (h x (by simp))]; rfl
theorem mup_iff {K V : Type} {o : KO K} (ho : ∀ a b, o.eq a b = true ↔ a = b) {x : K} {y : V} : ∀ {l : List (K × V)}, (l.map (·.1)).Nodup → ∀ q, q ∈ mup o l x y ↔ (q ∈ l ∧ q.1 ≠ x) ∨ q = (x, y)
  | [], _, q => by simp [mup]
  | p :: r, hn, q => by
    have hn' : p.1 ∉ r.map (·.1) ∧ (r.map (·.1)).Nodup := by simpa [List.nodup_cons] using hn
    unfold mup
    cases he : o.eq x p.1 with
    | true =>
      have e := (ho _ _).1 he
      simp only [cond_true, List.mem_cons]
      constructor
      · rintro (h | h)
        · exact .inr (by rw [h, e])
        · refine .inl ⟨.inr h, fun h2 => hn'.1 ?_⟩
          rw [← e, ← h2]; exact List.mem_map_of_mem h
      · rintro (⟨h | h, h2⟩ | h)
        · subst h; exact absurd e.symm h2
        · exact .inr h
        · exact .inl (by rw [h, e])
    | false =>
      have hne : x ≠ p.1 := fun e => by rw [(ho _ _).2 e] at he; cases he
      simp only [cond_false, List.mem_cons, mup_iff ho hn'.2 q]
      constructor
      · rintro (h | ⟨h, h2⟩ | h)
        · exact .inl ⟨.inl h, by rw [h]; exact Ne.symm hne⟩
        · exact .inl ⟨.inr h, h2⟩
        · exact .inr h
      · rintro (⟨h | h, h2⟩ | h)
        · exact .inl h
        · exact .inr (.inl ⟨h, h2⟩)
        · exact .inr (.inr h)
theorem mget_iff {K V : Type} {o : KO K} (ho : ∀ a b, o.eq a b = true ↔ a = b) {x : K} {v : V} : ∀ {l : List (K × V)}, (l.map (·.1)).Nodup → (mget o l x = some v ↔ (x, v) ∈ l)
  | [], _ => by simp [mget]
  | p :: r, hn => by
    have hn' : p.1 ∉ r.map (·.1) ∧ (r.map (·.1)).Nodup := by simpa [List.nodup_cons] using hn
    unfold mget
    cases he : o.eq x p.1 with
    | true =>
      have e := (ho _ _).1 he
      subst e
      simp only [cond_true, List.mem_cons]
      constructor
      · intro h; injection h with h; exact .inl (by rw [← h])
      · rintro (h | h)
        · rw [← h]
        · exact absurd (List.mem_map_of_mem (f := (·.1)) h) hn'.1
    | false =>
      have hne : x ≠ p.1 := fun e => by rw [(ho _ _).2 e] at he; cases he
      simp only [cond_false, mget_iff ho hn'.2, List.mem_cons]
      constructor
      · exact .inr
      · rintro (h | h)
        · exact absurd (congrArg Prod.fst h) hne
        · exact h
def tot2 (m : List (Nom × Int)) : Int := isum (m.map (·.2))
theorem tot2_cons (q : Nom × Int) (m : List (Nom × Int)) : tot2 (q :: m) = q.2 + tot2 m := rfl
theorem wtot_mup (key : Nom) (v : Int) : ∀ m : List (Nom × Int), tot2 (mup kO_0 m key ((mget kO_0 m key).getD 0 + v)) = tot2 m + v
  | [] => by simp [mup, mget, tot2, isum]
  | q :: r => by
    cases he : kO_0.eq key q.1 with
    | true =>
      simp only [mup, mget, he, cond_true, Option.getD_some, tot2_cons]
      omega
    | false =>
      have := wtot_mup key v r
      simp only [mup, mget, he, cond_false, tot2_cons]
      omega
structure SumX (l : List Nom) (i : Nat) (m : List (Nom × Int)) : Prop where
  len : m.length ≤ i
  dif : (m.map (·.1)).Nodup
  mem : ∀ q, q ∈ m ↔ (∃ x ∈ l.take i, nkey x = q.1) ∧ q.2 = sumK q.1 (l.take i)
  tot : tot2 m = isum ((l.take i).map vol)
theorem SumX.get {l : List Nom} {i : Nat} {m : List (Nom × Int)} (h : SumX l i m) (key : Nom) : (mget kO_0 m key).getD 0 = sumK key (l.take i) := by
  cases hg : mget kO_0 m key with
  | some v =>
    have := (h.mem _).1 ((mget_iff kO_iff h.dif).1 hg)
    exact this.2
  | none =>
    show (0 : Int) = _
    rw [sumK_none fun x hx e => ?_]
    have := (h.mem (key, sumK key (l.take i))).2 ⟨⟨x, hx, e⟩, rfl⟩
    rw [(mget_iff kO_iff h.dif).2 this] at hg; cases hg
theorem sumK_bd {l : List Nom} (hv : ∀ x ∈ l, 1 ≤ vol x ∧ vol x ≤ 1099511627776) (key : Nom) : 0 ≤ sumK key l ∧ sumK key l ≤ 1099511627776 * (l.length : Int) := by
  have := isum_bd (l := l.map fun z => if nkey z = key then vol z else 0) (a := 0) (b := 1099511627776) fun v hv' => by
    obtain ⟨z, hz, rfl⟩ := List.mem_map.1 hv'
    have := hv z hz
    split <;> omega
  rw [List.length_map] at this
  unfold sumK; omega
theorem sumsX_ok {l : List Nom} (hl : l.length ≤ 1000) (hv : ∀ x ∈ l, 1 ≤ vol x ∧ vol x ≤ 1099511627776) :
    Ok (iter (fun x : Int × List (Nom × Int) => nomination_Totals_L0 l x.1 x.2) (0, [])) fun m => SumX l l.length m := by
  have hsb : ∀ i, i ≤ l.length → ∀ key, 0 ≤ sumK key (l.take i) ∧ sumK key (l.take i) ≤ 1099511627776 * (i : Int) := by
    intro i hi key
    have := sumK_bd (l := l.take i) (fun x hx => hv x (List.mem_of_mem_take hx)) key
    rw [List.length_take, Nat.min_eq_left hi] at this
    exact this
  refine Ok.loop (fun x : Int × List (Nom × Int) => ∃ i : Nat, x.1 = (i : Int) ∧ i ≤ l.length ∧ SumX l i x.2) (fun x => l.length - x.1.toNat) ⟨0, rfl, by omega, ⟨by simp, by simp, fun q => by simp, rfl⟩⟩ ?_
  rintro ⟨i', m⟩ ⟨i, ei, hi, hm⟩
  replace ei : i' = (i : Int) := ei
  subst ei
  try simp only at hm
  unfold nomination_Totals_L0
  refine Ok.bif (fun hc => ?_) fun hc => ?_
  · have hc := of_decide_eq_true hc
    have hi : i < l.length := by (try simp only at hc); omega
    refine Ok.gd (inB_t hi) ?_
    rw [Int.toNat_natCast]
    show Ok (gd (decide (0 ≤ Int.ofNat (midx kO_0 m (nkey (l.getD i n0)))) && Nat.blt (Int.ofNat (midx kO_0 m (nkey (l.getD i n0)))).toNat (ment kO_0 m (nkey (l.getD i n0)) 0).length) (some (Sum.inl (wi64 ((i : Int) + 1), mset (ment kO_0 m (nkey (l.getD i n0)) 0) (Int.ofNat (midx kO_0 m (nkey (l.getD i n0)))).toNat (wi64 (((mget kO_0 m (nkey (l.getD i n0))).getD 0) + vol (l.getD i n0))))))) _
    have hx := gD_mem (d := n0) hi
    have hn := fun key => sumK_next hi key
    have hws := wtot_mup (nkey (l.getD i n0)) (vol (l.getD i n0)) m
    have htn : isum ((l.take (i + 1)).map vol) = isum ((l.take i).map vol) + vol (l.getD i n0) := by
      rw [take_next n0 hi, List.map_append, isum_app]; simp [isum]
    have htk : ∀ z, z ∈ l.take (i + 1) ↔ z ∈ l.take i ∨ z = l.getD i n0 := fun z => by rw [take_next n0 hi]; simp
    rw [hm.get] at hws ⊢
    have hb := hsb i (by omega) (nkey (l.getD i n0))
    generalize l.getD i n0 = x at hx hn hb htk htn hws
    have hvx := hv x hx
    obtain ⟨u1, u2⟩ := mup_eq kO_0 (nkey x) (wi64 (sumK (nkey x) (l.take i) + vol x)) 0 m
    rw [show (Int.ofNat (midx kO_0 m (nkey x))).toNat = midx kO_0 m (nkey x) from rfl, u1]
    refine Ok.gd (by rw [Bool.and_eq_true, decide_eq_true_eq, Nat.blt_eq]; exact ⟨Int.natCast_nonneg _, u2⟩) ?_
    rw [wi_next i (by omega), show wi64 (sumK (nkey x) (l.take i) + vol x) = sumK (nkey x) (l.take i) + vol x from wi (by omega)]
    have hml := hm.len
    refine .ret ⟨⟨i + 1, rfl, hi, ⟨?_, ?_, fun q => ?_, by show tot2 (mup kO_0 m (nkey x) (sumK (nkey x) (l.take i) + vol x)) = _; rw [htn, ← hm.tot]; exact hws⟩⟩, by simp only [Int.toNat_natCast]; omega⟩
    · rcases mup_keys kO_iff (x := nkey x) (y := sumK (nkey x) (l.take i) + vol x) m with ⟨h1, _⟩ | ⟨h1, h2⟩
      · have := congrArg List.length h1; simp at this; (try simp only); omega
      · have := congrArg List.length h1; simp at this; (try simp only); omega
    · rcases mup_keys kO_iff (x := nkey x) (y := sumK (nkey x) (l.take i) + vol x) m with ⟨h1, _⟩ | ⟨h1, h2⟩
      · simp only [h1]; exact hm.dif
      · simp only [h1]
        exact List.nodup_append.2 ⟨hm.dif, by simp, fun a ha b hb e => by rw [List.mem_singleton.1 hb] at e; subst e; exact h2 ha⟩
    · rw [mup_iff kO_iff hm.dif]
      constructor
      · rintro (⟨h, hne⟩ | rfl)
        · obtain ⟨⟨z, hz, e⟩, h2⟩ := (hm.mem q).1 h
          exact ⟨⟨z, (htk z).2 (.inl hz), e⟩, by rw [hn, if_neg (Ne.symm hne), Int.add_zero]; exact h2⟩
        · exact ⟨⟨x, (htk x).2 (.inr rfl), rfl⟩, by rw [hn, if_pos rfl]⟩
      · rintro ⟨⟨z, hz, e⟩, h2⟩
        by_cases hk : q.1 = nkey x
        · refine .inr (Prod.ext hk ?_)
          rw [h2, hk, hn, if_pos rfl]
        · rw [hn, if_neg (Ne.symm hk), Int.add_zero] at h2
          refine .inl ⟨(hm.mem q).2 ⟨⟨z, ?_, e⟩, h2⟩, hk⟩
          rcases (htk z).1 hz with hz | hz
          · exact hz
          · subst hz; exact absurd e.symm hk
  · have hc := of_decide_eq_false hc
    have : i = l.length := by (try simp only at hc); omega
    subst this
    exact .ret hm
theorem SumX.same {l l' : List Nom} (h1 : ∀ key, sumK key l = sumK key l') (h2 : ∀ key, (∃ x ∈ l, nkey x = key) ↔ ∃ x ∈ l', nkey x = key) {m m' : List (Nom × Int)} (hm : SumX l l.length m) (hm' : SumX l' l'.length m') : m.Perm m' := by
  have d : ∀ {l : List Nom} {i : Nat} {m : List (Nom × Int)}, SumX l i m → m.Nodup := fun h => List.Pairwise.of_map (·.1) (fun a b h e => h (by rw [e])) h.dif
  refine (List.perm_ext_iff_of_nodup (d hm) (d hm')).2 fun q => ?_
  rw [hm.mem, hm'.mem, List.take_length, List.take_length, h1 q.1, h2 q.1]
theorem SumX.perm {l l' : List Nom} (h : l.Perm l') {m m' : List (Nom × Int)} (hm : SumX l l.length m) (hm' : SumX l' l'.length m') : m.Perm m' :=
  hm.same (fun key => sumK_perm h key) (fun key => ⟨fun ⟨x, hx, e⟩ => ⟨x, h.mem_iff.1 hx, e⟩, fun ⟨x, hx, e⟩ => ⟨x, h.mem_iff.2 hx, e⟩⟩) hm'
theorem SumX.key {l : List Nom} {i : Nat} {s : List (Nom × Int)} (h : SumX l i s) : ∀ q ∈ s, nkey (nwith q) = q.1 := by
  intro q hq
  obtain ⟨⟨x, _, hx⟩, _⟩ := (h.mem q).1 hq
  show nkey q.1 = q.1
  rw [← hx]; rfl
theorem SumX.hd {l : List Nom} {i : Nat} {s : List (Nom × Int)} (h : SumX l i s) : ∀ x ∈ s.map nwith, ∀ y ∈ s.map nwith, nkey x = nkey y → x = y := by
  intro x hx y hy e
  obtain ⟨a, ha, rfl⟩ := List.mem_map.1 hx
  obtain ⟨b, hb, rfl⟩ := List.mem_map.1 hy
  rw [h.key a ha, h.key b hb] at e
  have : a = b := by
    obtain ⟨i, hi⟩ := List.getElem?_of_mem ha
    obtain ⟨j, hj⟩ := List.getElem?_of_mem hb
    have g1 : (s.map (·.1))[i]? = (s.map (·.1))[j]? := by rw [List.getElem?_map, List.getElem?_map, hi, hj]; simp [e]
    have := (List.getElem?_inj (by simpa using (List.getElem?_eq_some_iff.1 hi).1) h.dif).1 g1
    subst this
    rw [hi] at hj; injection hj
  rw [this]
theorem isum_one (key : Nom) : ∀ {s : List (Nom × Int)}, (s.map (·.1)).Nodup → isum (s.map fun q => if q.1 = key then q.2 else 0) = (mget kO_0 s key).getD 0
  | [], _ => rfl
  | p :: r, hn => by
    have hn' : p.1 ∉ r.map (·.1) ∧ (r.map (·.1)).Nodup := by simpa [List.nodup_cons] using hn
    have ih := isum_one key hn'.2
    unfold mget
    simp only [List.map_cons, isum]
    cases he : kO_0.eq key p.1 with
    | true =>
      have e := (kO_iff _ _).1 he
      rw [if_pos e.symm]
      have hz : isum (r.map fun q => if q.1 = key then q.2 else 0) = 0 := by
        have : ∀ (r : List (Nom × Int)), key ∉ r.map (·.1) → isum (r.map fun q => if q.1 = key then q.2 else 0) = 0 := by
          intro r
          induction r with
          | nil => intro _; rfl
          | cons q r ih =>
            intro h
            simp only [List.map_cons, List.mem_cons, not_or] at h
            simp only [List.map_cons, isum]
            rw [ih h.2, if_neg (Ne.symm h.1)]; rfl
        exact this r (by rw [e]; exact hn'.1)
      rw [hz]
      show p.2 + 0 = p.2
      omega
    | false =>
      have hne : key ≠ p.1 := fun e => by rw [(kO_iff _ _).2 e] at he; cases he
      rw [if_neg (Ne.symm hne), cond_false, ← ih]; omega
theorem SumX.sumT {l : List Nom} {i : Nat} {s : List (Nom × Int)} (h : SumX l i s) {T : List Nom} (hT : T.Perm (s.map nwith)) (key : Nom) : sumK key T = sumK key (l.take i) := by
  rw [sumK_perm hT key, ← h.get key, ← isum_one key h.dif]
  unfold sumK
  rw [List.map_map]
  congr 1
  refine List.map_congr_left fun q hq => ?_
  show (if nkey (nwith q) = key then q.2 else 0) = _
  rw [h.key q hq]
theorem SumX.keyT {l : List Nom} {i : Nat} {s : List (Nom × Int)} (h : SumX l i s) {T : List Nom} (hT : T.Perm (s.map nwith)) (key : Nom) : (∃ x ∈ T, nkey x = key) ↔ ∃ x ∈ l.take i, nkey x = key := by
  constructor
  · rintro ⟨x, hx, rfl⟩
    obtain ⟨q, hq, rfl⟩ := List.mem_map.1 (hT.mem_iff.1 hx)
    rw [h.key q hq]
    exact ((h.mem q).1 hq).1
  · rintro ⟨x, hx, e⟩
    have hq := (h.mem (key, sumK key (l.take i))).2 ⟨⟨x, hx, e⟩, rfl⟩
    exact ⟨_, hT.mem_iff.2 (List.mem_map_of_mem hq), h.key _ hq⟩
theorem SumX.volT {l : List Nom} {i : Nat} {s : List (Nom × Int)} (h : SumX l i s) {T : List Nom} (hT : T.Perm (s.map nwith)) {x : Nom} (hx : x ∈ T) : vol x = sumK (nkey x) (l.take i) := by
  obtain ⟨q, hq, rfl⟩ := List.mem_map.1 (hT.mem_iff.1 hx)
  rw [h.key q hq]
  exact ((h.mem q).1 hq).2
theorem SumX.totT {l : List Nom} {i : Nat} {s : List (Nom × Int)} (h : SumX l i s) {T : List Nom} (hT : T.Perm (s.map nwith)) : isum (T.map vol) = isum ((l.take i).map vol) := by
  rw [isum_perm (hT.map vol), List.map_map, ← h.tot]; rfl
structure TotP (l : List Nom) (T : List Nom) : Prop where
  s : ∃ s, SumX l l.length s ∧ T.Perm (s.map nwith)
  srt : T.Pairwise fun x y => decide (ncmp y x < 0) = false
theorem TotP.len {l T : List Nom} (h : TotP l T) : T.length ≤ l.length := by
  obtain ⟨s, hs, hT⟩ := h.s
  have := hT.length_eq
  have := hs.len
  simp at *; omega
theorem TotP.sum {l T : List Nom} (h : TotP l T) (key : Nom) : sumK key T = sumK key l := by
  obtain ⟨s, hs, hT⟩ := h.s
  have := hs.sumT hT key
  rwa [List.take_length] at this
theorem TotP.keys {l T : List Nom} (h : TotP l T) (key : Nom) : (∃ x ∈ T, nkey x = key) ↔ ∃ x ∈ l, nkey x = key := by
  obtain ⟨s, hs, hT⟩ := h.s
  have := hs.keyT hT key
  rwa [List.take_length] at this
theorem TotP.vol {l T : List Nom} (h : TotP l T) {x : Nom} (hx : x ∈ T) : vol x = sumK (nkey x) l := by
  obtain ⟨s, hs, hT⟩ := h.s
  have := hs.volT hT hx
  rwa [List.take_length] at this
theorem TotP.tot {l T : List Nom} (h : TotP l T) : isum (T.map Go.Proofs.YtiojagjejddocaaGreatDoor.vol) = isum (l.map Go.Proofs.YtiojagjejddocaaGreatDoor.vol) := by
  obtain ⟨s, hs, hT⟩ := h.s
  have := hs.totT hT
  rwa [List.take_length] at this
theorem TotP.strict {l T : List Nom} (h : TotP l T) : T.Pairwise fun x y => ncmp x y < 0 := by
  obtain ⟨s, hs, hT⟩ := h.s
  have hnd : T.Nodup := by
    refine hT.nodup_iff.2 ?_
    have : (s.map nwith).map nkey = s.map (·.1) := by
      rw [List.map_map]
      exact List.map_congr_left fun q hq => hs.key q hq
    exact List.Pairwise.of_map (S := fun a b : Nom => a ≠ b) nkey (fun a b h e => h (by rw [e])) (by rw [this]; exact hs.dif)
  refine List.pairwise_iff_getElem.2 fun i j hi hj hij => ?_
  have h1 := of_decide_eq_false (List.pairwise_iff_getElem.1 h.srt i j hi hj hij)
  have h2 := List.pairwise_iff_getElem.1 hnd i j hi hj hij
  have k1 := ncmp_good.anti T[i] T[j]
  have k2 := ncmp_good.anti T[j] T[i]
  by_cases h3 : ncmp T[i] T[j] < 0
  · exact h3
  · have h4 : ncmp T[i] T[j] = 0 := by omega
    exact absurd (hs.hd _ (hT.mem_iff.1 (List.getElem_mem hi)) _ (hT.mem_iff.1 (List.getElem_mem hj)) (ncmp_zero h4)) h2
theorem totals_any {l : List Nom} (hl : l.length ≤ 1000) (hc : nomination_Check l = some 0) (hv : ∀ x ∈ l, 1 ≤ vol x ∧ vol x ≤ 1099511627776) :
    ((∃ x ∈ l, 1099511627776 < sumK (nkey x) l) ∧ nomination_Totals l = some ([], 4)) ∨ ((∀ x ∈ l, sumK (nkey x) l ≤ 1099511627776) ∧ ∃ T, nomination_Totals l = some (T, 0) ∧ TotP l T) := by
  obtain ⟨s, q1, q2⟩ := sumsX_ok hl hv
  have hsl := q2.len
  have hd := q2.hd
  have hkey := q2.key
  obtain ⟨T, t1, t2, t3⟩ := Papi_Nomination.sort_ok nlt_cmp ncmp_good.swo (s.map nwith) (by simp; omega)
  have hwalk : ∀ v : List Nom × Int, ((∃ q ∈ s, 1099511627776 < q.2) ∧ v = ([], 4)) ∨ ((∀ q ∈ s, q.2 ≤ 1099511627776) ∧ v = (T, 0)) → iterK (fun x2 : List Nom × List (Nom × Int) => nomination_Totals_L1 x2.1 x2.2) ([], ((([], ([], ([], ([], (0, 0))))), 0) :: s)) (fun s2 : List Nom ⊕ (List Nom × Int) => s2.elim (fun s3 => (slices_SortFunc_api_Nomination_api_Nomination (fun h => (nomination_compare h.1 h.2.1).bind fun y => some y) s3).bind fun r2 => some (r2, (0 : Int))) (fun s4 => some (s4.1, s4.2))) = some v := by
    intro v hv'
    refine iterK_inv (fun x : List Nom × List (Nom × Int) => (x.1 ++ x.2.tail.map nwith).Perm (s.map nwith) ∧ ∀ z ∈ x.1, vol z ≤ 1099511627776) (fun x => x.2.tail.length) (by exact ⟨.refl _, fun z hz => by cases hz⟩) (fun x hx => ?_) (fun x hx o ho => ?_)
    · unfold nomination_Totals_L1
      cases ht : x.2.tail with
      | nil => simp [isNilL]
      | cons a t => simp [isNilL]
    · obtain ⟨out, c⟩ := x
      obtain ⟨hx, hov⟩ := hx
      replace hx : (out ++ c.tail.map nwith).Perm (s.map nwith) := hx
      replace hov : ∀ z ∈ out, vol z ≤ 1099511627776 := hov
      unfold nomination_Totals_L1 at ho
      cases ht : c.tail with
      | nil =>
        rw [ht] at ho hx
        simp only [isNilL, cond_true, List.mem_singleton] at ho
        subst ho
        refine .inr ⟨_, rfl, ?_⟩
        simp only [List.map_nil, List.append_nil] at hx
        obtain ⟨T', u1, u2, u3⟩ := Papi_Nomination.sort_ok nlt_cmp ncmp_good.swo out (by have := hx.length_eq; simp at this; omega)
        have := nsort_unique hd (u2.trans hx) u3 t2 t3
        subst this
        have hve : v = (T', 0) := by
          rcases hv' with ⟨⟨q, hq, hlt⟩, _⟩ | ⟨_, h⟩
          · have := hov _ (hx.mem_iff.2 (List.mem_map_of_mem hq))
            have e : vol (nwith q) = q.2 := rfl
            omega
          · exact h
        rw [hve]
        show (slices_SortFunc_api_Nomination_api_Nomination _ out).bind _ = _
        rw [u1]; rfl
      | cons a t =>
        rw [ht] at ho hx
        simp only [isNilL, cond_false, List.mem_map, List.mem_range] at ho
        obtain ⟨i, hi, rfl⟩ := ho
        have hmem : (a :: t).getD i (([], ([], ([], ([], (0, 0))))), 0) ∈ a :: t := gD_mem hi
        have hp : ((pickAt (([], ([], ([], ([], (0, 0))))), 0) (a :: t) i).headD (([], ([], ([], ([], (0, 0))))), 0)) = (a :: t).getD i (([], ([], ([], ([], (0, 0))))), 0) := rfl
        have hper : (nwith ((a :: t).getD i (([], ([], ([], ([], (0, 0))))), 0)) :: ((a :: t).eraseIdx i).map nwith).Perm ((a :: t).map nwith) := by
          have := (erase_perm (L := a :: t) (j := i) (e := (a :: t).getD i (([], ([], ([], ([], (0, 0))))), 0)) (by rw [gD_eq hi]; exact List.getElem?_eq_getElem hi)).map nwith
          rw [List.map_cons] at this
          exact this.symm
        have hval : nwith ((a :: t).getD i (([], ([], ([], ([], (0, 0))))), 0)) ∈ s.map nwith := hx.mem_iff.1 (List.mem_append.2 (.inr (List.mem_map_of_mem hmem)))
        obtain ⟨q, hq, he⟩ := List.mem_map.1 hval
        have hv2 : ((a :: t).getD i (([], ([], ([], ([], (0, 0))))), 0)).2 = q.2 := (congrArg (fun x : Nom => x.2.2.2.2.2) he).symm
        have hol : out.length + (t.length + 1) = s.length := by have := hx.length_eq; simpa using this
        rw [hp]
        by_cases hbig : 1099511627776 < q.2
        · rw [dec_t (by rw [hv2]; exact hbig)]
          simp only [cond_true]
          refine .inr ⟨_, rfl, ?_⟩
          rcases hv' with ⟨_, h⟩ | ⟨h, _⟩
          · rw [h]; rfl
          · have := h q hq; omega
        · rw [dec_f (by rw [hv2]; exact hbig)]
          simp only [cond_false]
          rw [gd_t (fits_t (by omega))]
          refine .inl ⟨_, rfl, ⟨?_, ?_⟩, ?_⟩
          · show ((out ++ [nwith ((a :: t).getD i (([], ([], ([], ([], (0, 0))))), 0))]) ++ ((a :: t).eraseIdx i).map nwith).Perm _
            rw [List.append_assoc]
            exact (List.Perm.append_left out hper).trans hx
          · intro z hz
            replace hz : z ∈ out ++ [nwith ((a :: t).getD i (([], ([], ([], ([], (0, 0))))), 0))] := hz
            rcases List.mem_append.1 hz with hz | hz
            · exact hov z hz
            · rw [List.mem_singleton.1 hz, ← he]
              show q.2 ≤ 1099511627776
              omega
          · show ((a :: t).eraseIdx i).length < (a :: t).length
            rw [List.length_eraseIdx]
            simp at hi ⊢
            split <;> omega
  have hfin : ∀ v, ((∃ q ∈ s, 1099511627776 < q.2) ∧ v = ([], 4)) ∨ ((∀ q ∈ s, q.2 ≤ 1099511627776) ∧ v = (T, 0)) → nomination_Totals l = some v := by
    intro v hv'
    unfold nomination_Totals
    rw [hc]
    simp only [Option.bind_some, decide_true, Bool.not_true, cond_false]
    rw [show iter (fun x => nomination_Totals_L0 l x.1 x.2) (0, []) = some s from q1, Option.bind_some]
    exact hwalk v hv'
  have hkeys : ∀ x ∈ l, ∃ q ∈ s, q.2 = sumK (nkey x) l := fun x hx => ⟨_, (q2.mem (nkey x, sumK (nkey x) (l.take l.length))).2 ⟨⟨x, by rw [List.take_length]; exact hx, rfl⟩, rfl⟩, by rw [List.take_length]⟩
  have hkeys2 : ∀ q ∈ s, ∃ x ∈ l, q.2 = sumK (nkey x) l := fun q hq => by
    obtain ⟨⟨x, hx, e⟩, h2⟩ := (q2.mem q).1 hq
    rw [List.take_length] at hx h2
    exact ⟨x, hx, by rw [e]; exact h2⟩
  by_cases hbig : ∃ q ∈ s, 1099511627776 < q.2
  · left
    refine ⟨?_, hfin _ (.inl ⟨hbig, rfl⟩)⟩
    obtain ⟨q, hq, hlt⟩ := hbig
    obtain ⟨x, hx, e⟩ := hkeys2 q hq
    exact ⟨x, hx, by omega⟩
  · right
    have hle : ∀ q ∈ s, q.2 ≤ 1099511627776 := fun q hq => by
      by_cases h : 1099511627776 < q.2
      · exact absurd ⟨q, hq, h⟩ hbig
      · omega
    refine ⟨fun x hx => ?_, T, hfin _ (.inr ⟨hle, rfl⟩), ⟨s, q2, t2⟩, t3⟩
    obtain ⟨q, hq, e⟩ := hkeys x hx
    rw [← e]; exact hle q hq
def nmB (x : Nom) : Bool := [x.1, x.2.1, x.2.2.1, x.2.2.2.1].all nameB
def numB (x : Nom) : Bool := !decide (x.2.2.1 = x.2.2.2.1) && (decide (0 ≤ x.2.2.2.2.1) && (decide (x.2.2.2.2.1 ≤ 1000000) && (decide (1 ≤ x.2.2.2.2.2) && decide (x.2.2.2.2.2 ≤ 1099511627776))))
def validN (x : Nom) : Bool := nmB x && numB x
theorem nvalid_eq (x : Nom) : nomination_valid x = some (validN x) := by
  have hl : iter (fun y => nomination_valid_L0 x y) 0 = some (bif [x.1, x.2.1, x.2.2.1, x.2.2.2.1].all nameB then .inl () else .inr false) := by
    refine scan [x.1, x.2.1, x.2.2.1, x.2.2.2.1] [] nameB (fun i hi hq => ?_) (fun i hi hq => ?_) ?_
    · unfold nomination_valid_L0
      rw [dec_t (show (i : Int) < ([x.1, x.2.1, x.2.2.1, x.2.2.2.1].length : Int) by omega), cond_true, gd_t (inB_t hi), Int.toNat_natCast, lname_any _, Option.bind_some, hq, w1 hi (by simp)]; rfl
    · unfold nomination_valid_L0
      rw [dec_t (show (i : Int) < ([x.1, x.2.1, x.2.2.1, x.2.2.2.1].length : Int) by omega), cond_true, gd_t (inB_t hi), Int.toNat_natCast, lname_any _, Option.bind_some, hq]; rfl
    · unfold nomination_valid_L0
      rw [dec_f (by omega)]; rfl
  unfold nomination_valid validN nmB numB
  rw [hl, Option.bind_some]
  cases [x.1, x.2.1, x.2.2.1, x.2.2.2.1].all nameB with
  | false => rfl
  | true =>
    simp only [cond_true, Sum.elim_inl, Bool.true_and]
    cases decide (x.2.2.1 = x.2.2.2.1) with
    | true => rfl
    | false =>
      cases decide (0 ≤ x.2.2.2.2.1) with
      | false => rfl
      | true =>
        cases decide (x.2.2.2.2.1 ≤ 1000000) with
        | false => rfl
        | true =>
          cases decide (1 ≤ x.2.2.2.2.2) <;> rfl
def chkN (l : List Nom) : Int := bif Nat.blt 400 l.length then 4 else bif l.all validN then 0 else 9
theorem ncheck_eq (l : List Nom) (hl : l.length ≤ 1000000) : nomination_Check l = some (chkN l) := by
  unfold nomination_Check chkN
  by_cases h4 : 400 < l.length
  · rw [dec_t (show (400 : Int) < (l.length : Int) by omega), show Nat.blt 400 l.length = true by rw [Nat.blt_eq]; exact h4]; rfl
  · rw [dec_f (show ¬ (400 : Int) < (l.length : Int) by omega), show Nat.blt 400 l.length = false by rw [Bool.eq_false_iff, ne_eq, Nat.blt_eq]; exact h4, cond_false, cond_false]
    have hf : ∀ i, i < l.length → ((nomination_Check_1 (l.getD i n0)).bind fun y => some y) = some (!validN (l.getD i n0)) := fun i hi => by
      unfold nomination_Check_1
      show (((nomination_valid (l.getD i n0)).bind fun r => some (!r)).bind fun y => some y) = _
      rw [nvalid_eq _]; rfl
    have hi : iter (fun y => slices_IndexFunc_api_Nomination_api_Nomination_L0 l (fun h => (nomination_Check_1 h.1).bind fun y => some y) y) 0 = some (if l.findIdx (fun p => !validN p) < l.length then .inr ((l.findIdx (fun p => !validN p) : Nat) : Int) else .inl ()) := by
      refine iter_find (step := fun y => slices_IndexFunc_api_Nomination_api_Nomination_L0 l (fun h => (nomination_Check_1 h.1).bind fun y => some y) y) (ε := Unit ⊕ Int) l n0 (fun p => !validN p) (fin := .inl ()) (fun i => .inr (i : Int)) (fun i hi hq => ?_) (fun i hi hq => ?_) ?_
      · unfold slices_IndexFunc_api_Nomination_api_Nomination_L0
        simp only
        rw [dec_t (show (i : Int) < (l.length : Int) by omega), cond_true, gd_t (inB_t hi), Int.toNat_natCast]
        show (((nomination_Check_1 (l.getD i n0)).bind fun y => some y).bind _) = _
        rw [hf i hi, Option.bind_some, hq, w1 hi (by omega)]; rfl
      · unfold slices_IndexFunc_api_Nomination_api_Nomination_L0
        simp only
        rw [dec_t (show (i : Int) < (l.length : Int) by omega), cond_true, gd_t (inB_t hi), Int.toNat_natCast]
        show (((nomination_Check_1 (l.getD i n0)).bind fun y => some y).bind _) = _
        rw [hf i hi, Option.bind_some, hq]; rfl
      · unfold slices_IndexFunc_api_Nomination_api_Nomination_L0
        simp only
        rw [dec_f (by omega)]; rfl
    unfold slices_ContainsFunc_api_Nomination_api_Nomination slices_IndexFunc_api_Nomination_api_Nomination
    rw [hi, Option.bind_some]
    cases hall : l.all validN with
    | true =>
      have : ¬ l.findIdx (fun p => !validN p) < l.length := by
        intro hlt
        have h1 := List.findIdx_getElem (p := fun p => !validN p) (xs := l) (w := hlt)
        have h2 := List.all_eq_true.1 hall _ (List.getElem_mem hlt)
        simp only [h2] at h1
        cases h1
      rw [if_neg this]; rfl
    | false =>
      have : l.findIdx (fun p => !validN p) < l.length := by
        refine List.findIdx_lt_length.2 ?_
        have := Bool.eq_false_iff.1 hall
        rw [ne_eq, List.all_eq_true] at this
        simp only [Classical.not_forall] at this
        obtain ⟨x, hx, hv⟩ := this
        exact ⟨x, hx, by simpa using hv⟩
      rw [if_pos this]
      simp only [Sum.elim_inr, Option.bind_some]
      rw [dec_t (by omega)]; rfl
structure ValN (x : Nom) : Prop where
  nm : ∀ y ∈ [x.1, x.2.1, x.2.2.1, x.2.2.2.1], nameB y = true
  c : 0 ≤ x.2.2.2.2.1 ∧ x.2.2.2.2.1 ≤ 1000000
  v : 1 ≤ x.2.2.2.2.2 ∧ x.2.2.2.2.2 ≤ 1099511627776
theorem valN {x : Nom} (h : validN x = true) : ValN x := by
  unfold validN nmB numB at h
  simp only [Bool.and_eq_true, decide_eq_true_eq] at h
  exact ⟨List.all_eq_true.1 h.1, ⟨h.2.2.1, h.2.2.2.1⟩, h.2.2.2.2⟩
theorem chkN_zero {l : List Nom} (h : chkN l = 0) : (∀ x ∈ l, validN x = true) ∧ l.length ≤ 400 := by
  unfold chkN at h
  cases h1 : Nat.blt 400 l.length with
  | true => rw [h1] at h; cases h
  | false =>
    have h16 : ¬ 400 < l.length := by rw [Bool.eq_false_iff, ne_eq, Nat.blt_eq] at h1; exact h1
    cases h2 : l.all validN with
    | false => rw [h1, h2] at h; cases h
    | true => exact ⟨List.all_eq_true.1 h2, by omega⟩
theorem chkN_ok {l : List Nom} (h : ∀ x ∈ l, validN x = true) (hl : l.length ≤ 400) : chkN l = 0 := by
  unfold chkN
  rw [show Nat.blt 400 l.length = false by rw [Bool.eq_false_iff, ne_eq, Nat.blt_eq]; omega, List.all_eq_true.2 h]; rfl
theorem TotP.eq_of {l T T0 : List Nom} (h : TotP l T) (h0 : T0.Pairwise fun x y => ncmp x y < 0) (hk : ∀ key, (∃ x ∈ T0, nkey x = key) ↔ ∃ x ∈ l, nkey x = key) (hv : ∀ x ∈ T0, x.2.2.2.2.2 = sumK (nkey x) l) : T = T0 := by
  have hs := h.strict
  have nd : ∀ {L : List Nom}, (L.Pairwise fun x y => ncmp x y < 0) → L.Nodup := fun hp => hp.imp fun {a b} hab e => by
    subst e
    have := ncmp_good.anti a a
    omega
  have det : ∀ x y : Nom, nkey x = nkey y → x.2.2.2.2.2 = y.2.2.2.2.2 → x = y := by
    rintro ⟨x1, x2, x3, x4, x5, x6⟩ ⟨y1, y2, y3, y4, y5, y6⟩ e1 e2
    unfold nkey at e1
    simp only [Prod.mk.injEq] at e1 e2
    obtain ⟨rfl, rfl, rfl, rfl, rfl, _⟩ := e1
    subst e2; rfl
  have hp : T.Perm T0 := by
    refine (List.perm_ext_iff_of_nodup (nd hs) (nd h0)).2 fun z => ?_
    constructor
    · intro hz
      obtain ⟨x, hx, e⟩ := (hk (nkey z)).2 ((h.keys (nkey z)).1 ⟨z, hz, rfl⟩)
      have : z = x := det z x e.symm ((h.vol hz).trans ((show sumK (nkey z) l = sumK (nkey x) l by rw [e]).trans (hv x hx).symm))
      rw [this]; exact hx
    · intro hz
      obtain ⟨x, hx, e⟩ := (h.keys (nkey z)).2 ((hk (nkey z)).1 ⟨z, hz, rfl⟩)
      have : z = x := det z x e.symm ((hv z hz).trans ((show sumK (nkey z) l = sumK (nkey x) l by rw [e]).trans (h.vol hx).symm))
      rw [this]; exact hx
  refine List.Perm.eq_of_pairwise (fun a b _ _ h1 h2 => ?_) hs h0 hp
  have := ncmp_good.anti a b
  omega
theorem totals_fit {l : List Nom} (hv : ∀ x ∈ l, validN x = true) (hl : l.length ≤ 400) (hf : ∀ x ∈ l, sumK (nkey x) l ≤ 1099511627776) : ∃ T, nomination_Totals l = some (T, 0) ∧ TotP l T := by
  have hc : nomination_Check l = some 0 := by
    rw [ncheck_eq l (by omega), chkN_ok hv hl]
  rcases totals_any (by omega) hc (fun x hx => (valN (hv x hx)).v) with ⟨⟨x, hx, h⟩, _⟩ | ⟨_, h⟩
  · have := hf x hx
    omega
  · exact h
theorem or4 (a b c d : Int) : orL [a, b, c, d] = if a ≠ 0 then a else if b ≠ 0 then b else if c ≠ 0 then c else d := by
  unfold orL orL orL orL orL
  by_cases h : d = 0
  · simp [h]
  · simp [h]
def cs4 (a b : Nom) : List Int := [cs a.1 b.1, cs a.2.1 b.2.1, cs a.2.2.1 b.2.2.1, cs a.2.2.2.1 b.2.2.2.1]
theorem cs4_get (a b : Nom) {k : Nat} (h : k < 4) : (cs4 a b).getD k 0 = cs ([a.1, a.2.1, a.2.2.1, a.2.2.2.1].getD k []) ([b.1, b.2.1, b.2.2.1, b.2.2.2.1].getD k []) := by
  match k, h with
  | 0, _ => rfl
  | 1, _ => rfl
  | 2, _ => rfl
  | 3, _ => rfl
theorem cmpR_ok (a b : Nom) : ref11_Cmp a b = some (ncmp a b) := by
  have hn : ncmp a b = if ci a.2.2.2.2.1 b.2.2.2.2.1 ≠ 0 then ci a.2.2.2.2.1 b.2.2.2.2.1 else orL (cs4 a b) := by
    unfold cs4; rw [or4]; rfl
  unfold ref11_Cmp
  by_cases hc : a.2.2.2.2.1 = b.2.2.2.2.1
  · have h0 : ci a.2.2.2.2.1 b.2.2.2.2.1 = 0 := by rw [hc]; simp [ci]
    rw [hn, if_neg (by omega), dec_t hc]
    simp only [Bool.not_true, cond_false]
    have key : Ok (iter (fun x : Int => ref11_Cmp_L0 a b x) 0) fun e => (match e with | .inl _ => 0 | .inr x => x) = orL (cs4 a b) := by
      refine Ok.loop (fun v : Int => ∃ k : Nat, v = (k : Int) ∧ k ≤ 4 ∧ orL ((cs4 a b).drop k) = orL (cs4 a b)) (fun v => 4 - v.toNat) ⟨0, rfl, by omega, rfl⟩ ?_
      rintro v ⟨k, rfl, hk, hp⟩
      unfold ref11_Cmp_L0
      refine Ok.bif (fun hlt => ?_) fun hlt => ?_
      · have hlt := of_decide_eq_true hlt
        have hk : k < 4 := by (try simp only [List.length_cons, List.length_nil] at hlt); omega
        have hd : (cs4 a b).drop k = (cs4 a b).getD k 0 :: (cs4 a b).drop (k + 1) := by
          have : k < (cs4 a b).length := hk
          rw [gD_eq this]; exact List.drop_eq_getElem_cons this
        rw [hd, cs4_get a b hk] at hp
        have hp' : (if cs ([a.1, a.2.1, a.2.2.1, a.2.2.2.1].getD k []) ([b.1, b.2.1, b.2.2.1, b.2.2.2.1].getD k []) ≠ 0 then cs ([a.1, a.2.1, a.2.2.1, a.2.2.2.1].getD k []) ([b.1, b.2.1, b.2.2.1, b.2.2.2.1].getD k []) else orL ((cs4 a b).drop (k + 1))) = orL (cs4 a b) := hp
        rw [Int.toNat_natCast]
        refine Ok.gd (inB_t (show k < [a.1, a.2.1, a.2.2.1, a.2.2.2.1].length from hk)) (Ok.gd (inB_t (show k < [b.1, b.2.1, b.2.2.1, b.2.2.2.1].length from hk)) ?_)
        generalize [a.1, a.2.1, a.2.2.1, a.2.2.2.1].getD k [] = x at hp'
        generalize [b.1, b.2.1, b.2.2.1, b.2.2.2.1].getD k [] = y at hp'
        refine Ok.bif (fun hb => ?_) fun hb => ?_
        · have hz : cs x y = -1 := by unfold cs; rw [if_pos hb]
          rw [hz, if_pos (by decide)] at hp'
          exact .ret hp'
        · refine Ok.gd (inB_t (show k < [a.1, a.2.1, a.2.2.1, a.2.2.2.1].length from hk)) (Ok.gd (inB_t (show k < [b.1, b.2.1, b.2.2.1, b.2.2.2.1].length from hk)) ?_)
          rw [hb]
          refine Ok.bif (fun he => ?_) fun he => ?_
          · have he : x ≠ y := by simpa using he
            have h2 : Op.bytesLess y x = true := by
              rcases bl_tri x y with h | h | h
              · rw [h] at hb; cases hb
              · exact absurd h he
              · exact h
            have hz : cs x y = 1 := by unfold cs; rw [if_neg (by simp [hb]), if_pos h2]
            rw [hz, if_pos (by decide)] at hp'
            exact .ret hp'
          · have he : x = y := by simpa using he
            subst he
            have hz : cs x x = 0 := by unfold cs; rw [bl_irrefl]; simp
            rw [hz, if_neg (by simp)] at hp'
            rw [wi_next k (by omega)]
            exact .ret ⟨⟨k + 1, rfl, by omega, hp'⟩, by simp only [Int.toNat_natCast]; omega⟩
      · have hlt := of_decide_eq_false hlt
        have : k = 4 := by (try simp only [List.length_cons, List.length_nil] at hlt); omega
        subst this
        exact .ret hp
    obtain ⟨e, h1, h2⟩ := key
    rw [h1]
    cases e with
    | inl u => show some 0 = _; rw [← h2]
    | inr x => show some x = _; rw [← h2]
  · rw [dec_f hc]
    simp only [Bool.not_false, cond_true]
    rcases Int.lt_or_gt_of_ne hc with h | h
    · have h0 : ci a.2.2.2.2.1 b.2.2.2.2.1 = -1 := by unfold ci; rw [if_pos h]
      rw [hn, h0, dec_t h]; rfl
    · have h0 : ci a.2.2.2.2.1 b.2.2.2.2.1 = 1 := by unfold ci; rw [if_neg (by omega), if_pos h]
      rw [hn, h0, dec_f (by omega)]; rfl
theorem ncmp_self (x : Nom) : ncmp x x = 0 := by
  have := ncmp_good.anti x x
  omega
theorem ncmp_nkey (x y : Nom) : ncmp x y = ncmp (nkey x) (nkey y) := rfl
theorem ncmp_trans {x y z : Nom} (h1 : ncmp x y < 0) (h2 : ncmp y z < 0) : ncmp x z < 0 :=
  of_decide_eq_true (ncmp_good.swo.trans x y z (decide_eq_true h1) (decide_eq_true h2))
theorem rvalidN_eq (x : Nom) : ref11_Valid x = some (validN x) := by
  unfold ref11_Valid validN nmB numB
  simp only [List.all_cons, List.all_nil, Bool.and_true]
  rw [rname_any _, Option.bind_some]
  cases nameB x.1 with
  | false => rfl
  | true =>
    simp only [cond_true, Bool.true_and]
    rw [rname_any _, Option.bind_some]
    cases nameB x.2.1 with
    | false => rfl
    | true =>
      simp only [cond_true, Bool.true_and]
      rw [rname_any _, Option.bind_some]
      cases nameB x.2.2.1 with
      | false => rfl
      | true =>
        simp only [cond_true, Bool.true_and]
        rw [rname_any _, Option.bind_some]
        cases nameB x.2.2.2.1 with
        | false => rfl
        | true =>
          simp only [cond_true, Bool.true_and]
          cases decide (x.2.2.1 = x.2.2.2.1) with
          | true => rfl
          | false =>
            cases decide (0 ≤ x.2.2.2.2.1) with
            | false => rfl
            | true =>
              cases decide (x.2.2.2.2.1 ≤ 1000000) with
              | false => rfl
              | true => cases decide (1 ≤ x.2.2.2.2.2) <;> rfl
theorem rcheckN_eq (l : List Nom) (hl : l.length ≤ 1000000) : ref11_Check l = some (chkN l) := by
  unfold ref11_Check chkN
  by_cases h4 : 400 < l.length
  · rw [dec_t (show (400 : Int) < (l.length : Int) by omega), show Nat.blt 400 l.length = true by rw [Nat.blt_eq]; exact h4]; rfl
  · rw [dec_f (show ¬ (400 : Int) < (l.length : Int) by omega), show Nat.blt 400 l.length = false by rw [Bool.eq_false_iff, ne_eq, Nat.blt_eq]; exact h4, cond_false, cond_false]
    have h1 : iter (fun x => ref11_Check_L0 l x) 0 = some (bif l.all validN then .inl () else .inr 9) := by
      refine scan l n0 validN (fun i hi hq => ?_) (fun i hi hq => ?_) ?_
      · unfold ref11_Check_L0
        rw [dec_t (by omega), cond_true, gd_t (inB_t hi), Int.toNat_natCast]
        show ((ref11_Valid (l.getD i n0)).bind _) = _
        rw [rvalidN_eq _, Option.bind_some, hq, w1 hi (by omega)]; rfl
      · unfold ref11_Check_L0
        rw [dec_t (by omega), cond_true, gd_t (inB_t hi), Int.toNat_natCast]
        show ((ref11_Valid (l.getD i n0)).bind _) = _
        rw [rvalidN_eq _, Option.bind_some, hq]; rfl
      · unfold ref11_Check_L0
        rw [dec_f (by omega)]; rfl
    rw [h1, Option.bind_some]
    cases l.all validN <;> rfl
theorem ins_sorted {K : List Nom} {x : Nom} {at' : Nat} (hs : K.Pairwise fun a b => ncmp a b < 0) (h1 : ∀ j, j < at' → ncmp (K.getD j n0) x < 0) (h2 : at' < K.length → ncmp x (K.getD at' n0) < 0) (hat : at' ≤ K.length) : (K.take at' ++ x :: K.drop at').Pairwise fun a b => ncmp a b < 0 := by
  refine List.pairwise_append.2 ⟨hs.sublist (List.take_sublist _ _), List.pairwise_cons.2 ⟨fun b hb => ?_, hs.sublist (List.drop_sublist _ _)⟩, fun a ha b hb => ?_⟩
  · obtain ⟨j, hj, e⟩ := List.mem_iff_getElem.1 hb
    have hj' : at' + j < K.length := by simp at hj; omega
    have e' : K[at' + j] = b := by rw [← e]; simp
    have hx := h2 (by omega)
    cases j with
    | zero =>
      rw [gD_eq (by omega)] at hx
      simp only [Nat.add_zero] at e'
      rw [← e']; exact hx
    | succ j =>
      have := List.pairwise_iff_getElem.1 hs at' (at' + (j + 1)) (by omega) hj' (by omega)
      rw [gD_eq (by omega)] at hx
      rw [← e']
      exact ncmp_trans hx this
  · have hax : ncmp a x < 0 := by
      obtain ⟨j, hj, e⟩ := List.mem_iff_getElem.1 ha
      have hj' : j < at' ∧ j < K.length := by simp at hj; omega
      have := h1 j hj'.1
      rw [gD_eq hj'.2] at this
      have e' : K[j] = a := by rw [← e]; simp
      rw [← e']; exact this
    rcases List.mem_cons.1 hb with rfl | hb
    · exact hax
    · have hlt : at' < K.length := by
        rcases Nat.lt_or_ge at' K.length with h | h
        · exact h
        · rw [List.drop_of_length_le h] at hb; cases hb
      have hx := h2 hlt
      obtain ⟨j, hj, e⟩ := List.mem_iff_getElem.1 hb
      have hj' : at' + j < K.length := by simp at hj; omega
      have e' : K[at' + j] = b := by rw [← e]; simp
      rw [gD_eq hlt] at hx
      cases j with
      | zero => simp only [Nat.add_zero] at e'; rw [← e']; exact ncmp_trans hax hx
      | succ j =>
        have := List.pairwise_iff_getElem.1 hs at' (at' + (j + 1)) hlt hj' (by omega)
        rw [← e']
        exact ncmp_trans hax (ncmp_trans hx this)
structure OutX (l : List Nom) (i : Nat) (out : List Nom) : Prop where
  srt : (out.map nkey).Pairwise fun a b => ncmp a b < 0
  mem : ∀ key, key ∈ out.map nkey ↔ ∃ x ∈ l.take i, nkey x = key
  vl : ∀ z ∈ out, z.2.2.2.2.2 = sumK (nkey z) (l.take i)
  len : out.length ≤ i
theorem refL1_ok {l out : List Nom} {i : Nat} (hi : i < l.length) (ho : out.length ≤ 1000) :
    Ok (iter (fun x : Int × List Nom => ref11_Totals_L1 l (i : Int) x.1 x.2) (0, out)) fun q => q.2 = out ∧ ∃ k : Nat, q.1 = (k : Int) ∧ k ≤ out.length ∧ (∀ j, j < k → ncmp (out.getD j n0) (l.getD i n0) < 0) ∧ (k < out.length → ¬ ncmp (out.getD k n0) (l.getD i n0) < 0) := by
  refine Ok.loop (fun x : Int × List Nom => x.2 = out ∧ ∃ k : Nat, x.1 = (k : Int) ∧ k ≤ out.length ∧ ∀ j, j < k → ncmp (out.getD j n0) (l.getD i n0) < 0) (fun x => out.length - x.1.toNat) ⟨rfl, 0, rfl, by omega, fun j hj => by omega⟩ ?_
  rintro ⟨k', out'⟩ ⟨e, k, ek, hk, hp⟩
  replace e : out' = out := e
  replace ek : k' = (k : Int) := ek
  subst e ek
  unfold ref11_Totals_L1
  try simp only
  refine Ok.bind (Q := fun q : Bool × List Nom => q.2 = out' ∧ (q.1 = true → k < out'.length ∧ ncmp (out'.getD k n0) (l.getD i n0) < 0) ∧ (q.1 = false → k < out'.length → ¬ ncmp (out'.getD k n0) (l.getD i n0) < 0)) (Ok.bif (fun hc => ?_) fun hc => ?_) ?_
  · have hc := of_decide_eq_true hc
    have hk : k < out'.length := by omega
    refine Ok.gd (inB_t hk) ?_
    simp only [Int.toNat_natCast]
    refine Ok.eq (cmpR_ok (out'.getD k n0) (l.getD i n0)) ?_
    exact .ret ⟨rfl, fun h => ⟨hk, of_decide_eq_true h⟩, fun h _ => of_decide_eq_false h⟩
  · have hc := of_decide_eq_false hc
    exact .ret ⟨rfl, fun h => (by cases h), fun _ h => by omega⟩
  rintro ⟨b, o⟩ ⟨e, h1, h2⟩
  replace e : o = out' := e
  subst e
  refine Ok.bif (fun hb => ?_) fun hb => ?_
  · have hb : b = true := hb
    subst hb
    obtain ⟨h3, h4⟩ := h1 rfl
    rw [wi_next k (by omega)]
    refine .ret ⟨⟨rfl, k + 1, rfl, h3, fun j hj => ?_⟩, by simp only [Int.toNat_natCast]; omega⟩
    rcases Nat.lt_or_ge j k with h | h
    · exact hp j h
    · obtain rfl : j = k := by omega
      exact h4
  · have hb : b = false := hb
    subst hb
    exact .ret ⟨rfl, k, rfl, hk, hp, h2 rfl⟩
theorem refX_ok {l : List Nom} (hl : l.length ≤ 1000) (hv : ∀ x ∈ l, 1 ≤ x.2.2.2.2.2 ∧ x.2.2.2.2.2 ≤ 1099511627776) :
    Ok (iter (fun x : Int × List Nom => ref11_Totals_L0 l x.1 x.2) (0, [])) fun out => OutX l l.length out := by
  refine Ok.loop (fun x : Int × List Nom => ∃ i : Nat, x.1 = (i : Int) ∧ i ≤ l.length ∧ OutX l i x.2) (fun x => l.length - x.1.toNat) ⟨0, rfl, by omega, ⟨by simp, fun key => by simp, fun z hz => (by cases hz), by simp⟩⟩ ?_
  rintro ⟨i', out⟩ ⟨i, ei, hi, hO⟩
  replace ei : i' = (i : Int) := ei
  subst ei
  try simp only at hO
  unfold ref11_Totals_L0
  try simp only
  refine Ok.bif (fun hc => ?_) fun hc => ?_
  · have hc := of_decide_eq_true hc
    have hi : i < l.length := by omega
    have hol := hO.len
    have hx := gD_mem (d := n0) hi
    have hvx := hv _ hx
    have htk : ∀ z, z ∈ l.take (i + 1) ↔ z ∈ l.take i ∨ z = l.getD i n0 := fun z => by rw [take_next n0 hi]; simp
    have hsn := fun key => sumK_next hi key
    rw [wi_next i (by omega)]
    refine Ok.bind (Q := fun o : List Nom => OutX l (i + 1) o) ?_ fun o ho => .ret ⟨⟨i + 1, rfl, hi, ho⟩, by simp only [Int.toNat_natCast]; omega⟩
    refine Ok.gd (inB_t hi) ?_
    refine Ok.bind (refL1_ok hi (by omega)) ?_
    rintro ⟨k', out'⟩ ⟨e, k, ek, hk, hp, hq⟩
    replace e : out' = out := e
    replace ek : k' = (k : Int) := ek
    subst e ek
    try simp only
    simp only [Int.toNat_natCast]
    refine Ok.bind (Q := fun q : Bool × List Nom => q.2 = out' ∧ (q.1 = true → k < out'.length ∧ ncmp (out'.getD k n0) (l.getD i n0) = 0) ∧ (q.1 = false → k < out'.length → ncmp (l.getD i n0) (out'.getD k n0) < 0)) (Ok.bif (fun hc => ?_) fun hc => ?_) ?_
    · have hc := of_decide_eq_true hc
      have hk : k < out'.length := by omega
      refine Ok.gd (inB_t hk) ?_
      refine Ok.eq (cmpR_ok (out'.getD k n0) (l.getD i n0)) ?_
      refine .ret ⟨rfl, fun h => ⟨hk, of_decide_eq_true h⟩, fun h _ => ?_⟩
      have h := of_decide_eq_false h
      have h1 := hq hk
      exact (ncmp_good.anti _ _).2 (by omega)
    · have hc := of_decide_eq_false hc
      exact .ret ⟨rfl, fun h => (by cases h), fun _ h => by omega⟩
    rintro ⟨b, o⟩ ⟨e, h1, h2⟩
    replace e : o = out' := e
    subst e
    have hKget : ∀ j, j < o.length → (o.map nkey).getD j n0 = nkey (o.getD j n0) := fun j hj => gD_map nkey o j n0 n0 hj
    have hkne : ∀ j j', j < o.length → j' < o.length → j ≠ j' → nkey (o.getD j n0) ≠ nkey (o.getD j' n0) := by
      intro j j' hj hj' hne e
      have hpw := List.pairwise_iff_getElem.1 hO.srt
      have g : ∀ (q : Nat) (hq : q < o.length), (o.map nkey)[q]'(by simpa using hq) = nkey (o.getD q n0) := fun q hq => by rw [List.getElem_map, gD_eq hq]
      rcases Nat.lt_or_gt_of_ne hne with h | h
      · have := hpw j j' (by simpa using hj) (by simpa using hj') h
        rw [g j hj, g j' hj', e, ncmp_self] at this; omega
      · have := hpw j' j (by simpa using hj') (by simpa using hj) h
        rw [g j hj, g j' hj', e, ncmp_self] at this; omega
    refine Ok.bif (fun hb => ?_) fun hb => ?_
    · have hb : b = true := hb
      subst hb
      obtain ⟨h3, h4⟩ := h1 rfl
      have hkey := ncmp_zero h4
      refine Ok.gd (inB_t h3) (Ok.gd (inB_t h3) ?_)
      have hvo : (o.getD k n0).2.2.2.2.2 = sumK (nkey (o.getD k n0)) (l.take i) := hO.vl _ (gD_mem (d := n0) h3)
      have hbd := sumK_bd (l := l.take i) (fun x hx => hv x (List.mem_of_mem_take hx)) (nkey (o.getD k n0))
      rw [List.length_take] at hbd
      have hw : wi64 ((o.getD k n0).2.2.2.2.2 + (l.getD i n0).2.2.2.2.2) = (o.getD k n0).2.2.2.2.2 + (l.getD i n0).2.2.2.2.2 := wi (by omega)
      show Ok (some (o.set k ((o.getD k n0).1, ((o.getD k n0).2.1, ((o.getD k n0).2.2.1, ((o.getD k n0).2.2.2.1, ((o.getD k n0).2.2.2.2.1, wi64 ((o.getD k n0).2.2.2.2.2 + (l.getD i n0).2.2.2.2.2)))))))) _
      rw [hw]
      have hmap : (o.set k ((o.getD k n0).1, ((o.getD k n0).2.1, ((o.getD k n0).2.2.1, ((o.getD k n0).2.2.2.1, ((o.getD k n0).2.2.2.2.1, (o.getD k n0).2.2.2.2.2 + (l.getD i n0).2.2.2.2.2)))))).map nkey = o.map nkey := by
        rw [List.map_set]
        have e1 : nkey ((o.getD k n0).1, ((o.getD k n0).2.1, ((o.getD k n0).2.2.1, ((o.getD k n0).2.2.2.1, ((o.getD k n0).2.2.2.2.1, (o.getD k n0).2.2.2.2.2 + (l.getD i n0).2.2.2.2.2))))) = (o.map nkey)[k]'(by simpa using h3) := by
          rw [List.getElem_map, ← gD_eq (d := n0) h3]; rfl
        rw [e1, List.set_getElem_self]
      refine .ret ⟨by rw [hmap]; exact hO.srt, fun key => ?_, fun z hz => ?_, by rw [List.length_set]; omega⟩
      · rw [hmap, hO.mem]
        constructor
        · rintro ⟨z, hz, e⟩; exact ⟨z, (htk z).2 (.inl hz), e⟩
        · rintro ⟨z, hz, e⟩
          rcases (htk z).1 hz with hz | hz
          · exact ⟨z, hz, e⟩
          · subst hz
            refine (hO.mem key).1 ?_
            rw [← e, ← hkey]
            exact List.mem_map_of_mem (gD_mem h3)
      · obtain ⟨j, hj, rfl⟩ := mem_gD n0 hz
        have hj' : j < o.length := by simpa using hj
        rw [gD_set]
        by_cases hjk : k = j
        · subst hjk
          rw [if_pos ⟨rfl, h3⟩, hsn]
          show (o.getD k n0).2.2.2.2.2 + (l.getD i n0).2.2.2.2.2 = sumK (nkey (o.getD k n0)) (l.take i) + (if nkey (l.getD i n0) = nkey (o.getD k n0) then (l.getD i n0).2.2.2.2.2 else 0)
          rw [if_pos hkey.symm, hvo]
        · rw [if_neg (fun h => hjk h.1), hsn, if_neg (fun e => hkne k j h3 hj' hjk (by rw [hkey, e])), Int.add_zero]
          exact hO.vl _ (gD_mem hj')
    · have hb : b = false := hb
      subst hb
      have h3 := h2 rfl
      have htl : (o.take k).length = k := by rw [List.length_take]; omega
      refine Ok.gd (by unfold cutG; simp only [Bool.and_eq_true, decide_eq_true_eq]; omega) ?_
      refine Ok.gd (fits_t (by rw [htl]; omega)) ?_
      refine Ok.gd (fits_t (by simp only [List.nil_append, htl]; omega)) ?_
      refine Ok.gd (by unfold cutG; simp only [Bool.and_eq_true, decide_eq_true_eq]; omega) ?_
      refine Ok.gd (fits_t (by simp only [List.nil_append, List.length_append, htl, List.length_drop, List.length_cons, List.length_nil]; omega)) ?_
      show Ok (some ((([] ++ o.take k) ++ [l.getD i n0]) ++ o.drop k)) _
      have hmap : ((([] ++ o.take k) ++ [l.getD i n0]) ++ o.drop k).map nkey = (o.map nkey).take k ++ nkey (l.getD i n0) :: (o.map nkey).drop k := by
        simp [List.map_take, List.map_drop]
      have hsort : ((o.map nkey).take k ++ nkey (l.getD i n0) :: (o.map nkey).drop k).Pairwise fun a b => ncmp a b < 0 := by
        refine ins_sorted hO.srt (fun j hj => ?_) (fun hlt => ?_) (by simpa using hk)
        · rw [hKget j (by omega)]; exact hp j hj
        · have hlt : k < o.length := by simpa using hlt
          rw [hKget k hlt]; exact h3 hlt
      have hnot : ∀ z ∈ o, nkey z ≠ nkey (l.getD i n0) := by
        intro z hz e
        have hzm : nkey z ∈ (o.map nkey).take k ∨ nkey z ∈ (o.map nkey).drop k := by
          have : nkey z ∈ (o.map nkey).take k ++ (o.map nkey).drop k := by rw [List.take_append_drop]; exact List.mem_map_of_mem hz
          exact List.mem_append.1 this
        obtain ⟨s1, s2, s3⟩ := List.pairwise_append.1 hsort
        rcases hzm with hm | hm
        · have := s3 _ hm _ (List.mem_cons_self)
          rw [e, ncmp_self] at this; omega
        · have := (List.pairwise_cons.1 s2).1 _ hm
          rw [e, ncmp_self] at this; omega
      have hnk : ∀ x ∈ l.take i, nkey x ≠ nkey (l.getD i n0) := by
        intro x hx e
        obtain ⟨z, hz, e2⟩ := List.mem_map.1 ((hO.mem (nkey x)).2 ⟨x, hx, rfl⟩)
        exact hnot z hz (by rw [e2, e])
      refine .ret ⟨by rw [hmap]; exact hsort, fun key => ?_, fun z hz => ?_, ?_⟩
      · rw [hmap]
        have : key ∈ (o.map nkey).take k ++ nkey (l.getD i n0) :: (o.map nkey).drop k ↔ key ∈ o.map nkey ∨ key = nkey (l.getD i n0) := by
          have e : o.map nkey = (o.map nkey).take k ++ (o.map nkey).drop k := (List.take_append_drop k _).symm
          conv => rhs; rw [e]
          simp only [List.mem_append, List.mem_cons]
          constructor
          · rintro (h | h | h)
            · exact .inl (.inl h)
            · exact .inr h
            · exact .inl (.inr h)
          · rintro ((h | h) | h)
            · exact .inl h
            · exact .inr (.inr h)
            · exact .inr (.inl h)
        rw [this, hO.mem]
        constructor
        · rintro (⟨z, hz, e⟩ | h)
          · exact ⟨z, (htk z).2 (.inl hz), e⟩
          · exact ⟨_, (htk _).2 (.inr rfl), h.symm⟩
        · rintro ⟨z, hz, e⟩
          rcases (htk z).1 hz with hz | hz
          · exact .inl ⟨z, hz, e⟩
          · subst hz; exact .inr e.symm
      · have old : ∀ z ∈ o, z.2.2.2.2.2 = sumK (nkey z) (l.take (i + 1)) := fun z hz => by
          rw [hsn, if_neg (fun e => hnot z hz e.symm), Int.add_zero]
          exact hO.vl z hz
        simp only [List.nil_append, List.mem_append, List.mem_singleton] at hz
        rcases hz with (hz | rfl) | hz
        · exact old z (List.mem_of_mem_take hz)
        · rw [hsn, if_pos rfl, sumK_none hnk]
          show (l.getD i n0).2.2.2.2.2 = 0 + (l.getD i n0).2.2.2.2.2
          omega
        · exact old z (List.mem_of_mem_drop hz)
      · simp only [List.nil_append, List.length_append, htl, List.length_drop, List.length_cons, List.length_nil]; omega
  · have hc := of_decide_eq_false hc
    have : i = l.length := by omega
    subst this
    exact .ret hO
theorem rtot_eq (l : List Nom) (hl : l.length ≤ 1000000) : ∃ T e, nomination_Totals l = some (T, e) ∧ ref11_Totals l = some (T, e) ∧ T.length ≤ l.length := by
  by_cases hc : chkN l = 0
  · obtain ⟨hv, h400⟩ := chkN_zero hc
    have hvol := fun x hx => (valN (hv x hx)).v
    obtain ⟨out, o1, o2⟩ := refX_ok (by omega) hvol
    have hlen := o2.len
    have hL2 : iter (fun x3 : Int × List Nom => ref11_Totals_L2 out x3.1 x3.2) (0, out) = some (bif (List.range out.length).all (fun i => !decide (1099511627776 < (out.getD i n0).2.2.2.2.2)) then .inl out else .inr ([], 4)) := by
      refine iter_all (step := fun x3 : Int × List Nom => ref11_Totals_L2 out x3.1 x3.2) out.length (fun i => ((i : Int), out)) (fun i => !decide (1099511627776 < (out.getD i n0).2.2.2.2.2)) (fun i hi _ hq => ?_) (fun i hi _ hq => ?_) (fun _ => ?_)
      · rw [Bool.not_eq_true'] at hq
        simp only
        unfold ref11_Totals_L2
        rw [dec_t (show (i : Int) < (out.length : Int) by omega), cond_true, gd_t (inB_t hi), Int.toNat_natCast]
        show (bif decide (1099511627776 < (out.getD i n0).2.2.2.2.2) then _ else _) = _
        rw [hq, cond_false, w1 hi (by omega)]
      · rw [Bool.not_eq_false'] at hq
        simp only
        unfold ref11_Totals_L2
        rw [dec_t (show (i : Int) < (out.length : Int) by omega), cond_true, gd_t (inB_t hi), Int.toNat_natCast]
        show (bif decide (1099511627776 < (out.getD i n0).2.2.2.2.2) then _ else _) = _
        rw [hq, cond_true]
      · simp only
        unfold ref11_Totals_L2
        rw [dec_f (by omega)]; rfl
    have hout : ∀ z ∈ out, ∃ x ∈ l, nkey x = nkey z ∧ z.2.2.2.2.2 = sumK (nkey x) l := by
      intro z hz
      obtain ⟨x, hx, e⟩ := (o2.mem (nkey z)).1 (List.mem_map_of_mem hz)
      have := o2.vl z hz
      rw [List.take_length] at hx this
      exact ⟨x, hx, e, by rw [e]; exact this⟩
    have hin : ∀ x ∈ l, ∃ z ∈ out, z.2.2.2.2.2 = sumK (nkey x) l := by
      intro x hx
      obtain ⟨z, hz, e⟩ := List.mem_map.1 ((o2.mem (nkey x)).2 ⟨x, by rw [List.take_length]; exact hx, rfl⟩)
      have := o2.vl z hz
      rw [List.take_length, e] at this
      exact ⟨z, hz, this⟩
    have hr : ref11_Totals l = some (bif (List.range out.length).all (fun i => !decide (1099511627776 < (out.getD i n0).2.2.2.2.2)) then (out, 0) else ([], 4)) := by
      unfold ref11_Totals
      rw [rcheckN_eq l hl, hc, Option.bind_some, dec_t rfl]
      simp only [Bool.not_true, cond_false]
      rw [o1, Option.bind_some, hL2, Option.bind_some]
      cases (List.range out.length).all (fun i => !decide (1099511627776 < (out.getD i n0).2.2.2.2.2)) <;> rfl
    rcases totals_any (l := l) (by omega) (by rw [ncheck_eq l hl, hc]) hvol with ⟨⟨x, hx, hb⟩, ht⟩ | ⟨hle, T, ht, hT⟩
    · refine ⟨[], 4, ht, ?_, by simp⟩
      have : (List.range out.length).all (fun i => !decide (1099511627776 < (out.getD i n0).2.2.2.2.2)) = false := by
        rw [Bool.eq_false_iff, ne_eq, all_range]
        intro hall
        obtain ⟨z, hz, e⟩ := hin x hx
        obtain ⟨k, hk, rfl⟩ := mem_gD n0 hz
        have := hall k hk
        rw [Bool.not_eq_true'] at this
        have := of_decide_eq_false this
        omega
      rw [hr, this]; rfl
    · have hall : (List.range out.length).all (fun i => !decide (1099511627776 < (out.getD i n0).2.2.2.2.2)) = true := by
        rw [all_range]
        intro i hi
        obtain ⟨x, hx, _, e⟩ := hout _ (gD_mem (d := n0) hi)
        have := hle x hx
        rw [dec_f (by omega)]; rfl
      have hTo : T = out := hT.eq_of (by
        have := List.pairwise_map.1 o2.srt
        exact this.imp fun {a b} hab => hab) (fun key => by
          have := o2.mem key
          rw [List.take_length] at this
          rw [← this, List.mem_map]) (fun z hz => by
          have := o2.vl z hz
          rwa [List.take_length] at this)
      subst hTo
      exact ⟨T, 0, ht, by rw [hr, hall]; rfl, hlen⟩
  · refine ⟨[], chkN l, ?_, ?_, by simp⟩
    · unfold nomination_Totals
      rw [ncheck_eq l hl, Option.bind_some, dec_f hc]; rfl
    · unfold ref11_Totals
      rw [rcheckN_eq l hl, Option.bind_some, dec_f hc]; rfl
end Go.Proofs.YtiojagjejddocaaGreatDoor
