/- Lots: the totals of nominations. No condition. -/
import Derived.Test.YtiojagjejddocaaGreatDoorLa5
import Derived.Test.YtiojagjejddocaaGreatDoorPn4
namespace Go.Proofs.YtiojagjejddocaaGreatDoor
open Go Go.Sq

/-! ### Maps in the order of births -/
def mup {K V : Type} (o : KO K) : List (K × V) → K → V → List (K × V)
  | [], x, y => [(x, y)]
  | p :: r, x, y => bif o.eq x p.1 then (p.1, y) :: r else p :: mup o r x y
theorem mup_eq {K V : Type} (o : KO K) (x : K) (y z : V) : ∀ l : List (K × V), mset (ment o l x z) (midx o l x) y = mup o l x y ∧ midx o l x < (ment o l x z).length
  | [] => ⟨rfl, by simp [ment, midx]⟩
  | p :: r => by
    obtain ⟨h1, h2⟩ := mup_eq o x y z r
    cases h : o.eq x p.1 with
    | true => simp [ment, midx, mup, mset, h]
    | false =>
      refine ⟨by simp [ment, midx, mup, mset, h, h1], ?_⟩
      simp [ment, midx, h]; exact h2
theorem mup_mem {K V : Type} {o : KO K} (ho : ∀ a b, o.eq a b = true ↔ a = b) {x : K} {y : V} : ∀ {l : List (K × V)} {q : K × V}, q ∈ mup o l x y → q ∈ l ∨ q = (x, y)
  | [], q, h => .inr (by simpa [mup] using h)
  | p :: r, q, h => by
    unfold mup at h
    cases he : o.eq x p.1 with
    | true =>
      rw [he] at h
      rcases List.mem_cons.1 h with h | h
      · have := (ho _ _).1 he
        exact .inr (by rw [h, this])
      · exact .inl (List.mem_cons_of_mem _ h)
    | false =>
      rw [he] at h
      rcases List.mem_cons.1 h with h | h
      · exact .inl (by rw [h]; simp)
      · rcases mup_mem ho h with h | h
        · exact .inl (List.mem_cons_of_mem _ h)
        · exact .inr h
theorem mup_keys {K V : Type} {o : KO K} (ho : ∀ a b, o.eq a b = true ↔ a = b) {x : K} {y : V} : ∀ l : List (K × V), ((mup o l x y).map (·.1) = l.map (·.1) ∧ x ∈ l.map (·.1)) ∨ ((mup o l x y).map (·.1) = l.map (·.1) ++ [x] ∧ x ∉ l.map (·.1))
  | [] => .inr ⟨rfl, by simp⟩
  | p :: r => by
    unfold mup
    cases he : o.eq x p.1 with
    | true => exact .inl ⟨rfl, by simp [(ho _ _).1 he]⟩
    | false =>
      have hne : x ≠ p.1 := fun e => by rw [(ho _ _).2 e] at he; cases he
      rcases mup_keys ho (x := x) (y := y) r with ⟨h1, h2⟩ | ⟨h1, h2⟩
      · exact .inl ⟨by simp [h1], by simp at h2 ⊢; exact .inr h2⟩
      · exact .inr ⟨by simp [h1], by simp at h2 ⊢; exact ⟨hne, h2⟩⟩
theorem mget_mem {K V : Type} {o : KO K} {x : K} {v : V} : ∀ {l : List (K × V)}, mget o l x = some v → ∃ k, (k, v) ∈ l
  | [], h => by cases h
  | p :: r, h => by
    unfold mget at h
    cases he : o.eq x p.1 with
    | true => rw [he] at h; injection h with h; subst h; exact ⟨p.1, by simp⟩
    | false => rw [he] at h; obtain ⟨k, hk⟩ := mget_mem (l := r) h; exact ⟨k, List.mem_cons_of_mem _ hk⟩
theorem kO_iff (a b : Nom) : kO_0.eq a b = true ↔ a = b := by
  show (decide (a.1 = b.1) && (decide (a.2.1 = b.2.1) && (decide (a.2.2.1 = b.2.2.1) && (decide (a.2.2.2.1 = b.2.2.2.1) && (decide (a.2.2.2.2.1 = b.2.2.2.2.1) && decide (a.2.2.2.2.2 = b.2.2.2.2.2)))))) = true ↔ _
  simp only [Bool.and_eq_true, decide_eq_true_eq]
  constructor
  · rintro ⟨h1, h2, h3, h4, h5, h6⟩
    obtain ⟨a1, a2, a3, a4, a5, a6⟩ := a
    obtain ⟨b1, b2, b3, b4, b5, b6⟩ := b
    simp only at h1 h2 h3 h4 h5 h6
    subst h1 h2 h3 h4 h5 h6; rfl
  · rintro rfl; simp

/-! ### The sums -/
structure SumP (l : List Nom) (i : Nat) (m : List (Nom × Int)) : Prop where
  len : m.length ≤ i
  dif : (m.map (·.1)).Nodup
  el : ∀ q ∈ m, (∃ x ∈ l, q.1 = nkey x) ∧ 1 ≤ q.2 ∧ q.2 ≤ 500 * (i : Int)
theorem sums_ok {l : List Nom} (hl : l.length ≤ 14) (hv : ∀ x ∈ l, 1 ≤ x.2.2.2.2.2 ∧ x.2.2.2.2.2 ≤ 500) :
    Ok (iter (fun x : Int × List (Nom × Int) => nomination_Totals_L0 l x.1 x.2) (0, [])) fun m => SumP l 14 m := by
  refine Ok.loop (fun x : Int × List (Nom × Int) => ∃ i : Nat, x.1 = (i : Int) ∧ i ≤ l.length ∧ SumP l i x.2) (fun x => l.length - x.1.toNat) ⟨0, rfl, by omega, ⟨by simp, by simp, fun q hq => by cases hq⟩⟩ ?_
  rintro ⟨i', m⟩ ⟨i, ei, hi, hm⟩
  replace ei : i' = (i : Int) := ei
  subst ei
  try simp only at hm
  unfold nomination_Totals_L0
  refine Ok.bif (fun hc => ?_) fun hc => ?_
  · have hc := of_decide_eq_true hc
    have hi : i < l.length := by (try simp only at hc); omega
    refine Ok.gd (inB_t hi) ?_
    rw [Int.toNat_natCast]
    show Ok (gd (decide (0 ≤ Int.ofNat (midx kO_0 m (nkey (l.getD i n0)))) && Nat.blt (Int.ofNat (midx kO_0 m (nkey (l.getD i n0)))).toNat (ment kO_0 m (nkey (l.getD i n0)) 0).length) (some (Sum.inl (wi64 ((i : Int) + 1), mset (ment kO_0 m (nkey (l.getD i n0)) 0) (Int.ofNat (midx kO_0 m (nkey (l.getD i n0)))).toNat (wi64 (((mget kO_0 m (nkey (l.getD i n0))).getD 0) + (l.getD i n0).2.2.2.2.2)))))) _
    have hx := gD_mem (d := n0) hi
    generalize l.getD i n0 = x at hx
    have hvx := hv x hx
    have hg : 0 ≤ (mget kO_0 m (nkey x)).getD 0 ∧ (mget kO_0 m (nkey x)).getD 0 ≤ 500 * (i : Int) := by
      cases h : mget kO_0 m (nkey x) with
      | none => exact ⟨Int.le_refl 0, by show (0 : Int) ≤ _; omega⟩
      | some v =>
        obtain ⟨k, hk⟩ := mget_mem h
        have := hm.el _ hk
        show 0 ≤ v ∧ v ≤ 500 * (i : Int)
        simp only at this
        omega
    obtain ⟨u1, u2⟩ := mup_eq kO_0 (nkey x) (wi64 (((mget kO_0 m (nkey x)).getD 0) + x.2.2.2.2.2)) 0 m
    rw [show (Int.ofNat (midx kO_0 m (nkey x))).toNat = midx kO_0 m (nkey x) from rfl, u1]
    refine Ok.gd (by rw [Bool.and_eq_true, decide_eq_true_eq, Nat.blt_eq]; exact ⟨Int.natCast_nonneg _, u2⟩) ?_
    rw [wi_next i (by omega), show wi64 (((mget kO_0 m (nkey x)).getD 0) + x.2.2.2.2.2) = ((mget kO_0 m (nkey x)).getD 0) + x.2.2.2.2.2 from wi (by omega)]
    generalize (mget kO_0 m (nkey x)).getD 0 = g at hg
    refine .ret ⟨⟨i + 1, rfl, hi, ⟨?_, ?_, fun q hq => ?_⟩⟩, by simp only [Int.toNat_natCast]; omega⟩
    · have hml := hm.len
      rcases mup_keys kO_iff (x := nkey x) (y := g + x.2.2.2.2.2) m with ⟨h1, _⟩ | ⟨h1, _⟩
      · have := congrArg List.length h1; simp at this; (try simp only); omega
      · have := congrArg List.length h1; simp at this; (try simp only); omega
    · rcases mup_keys kO_iff (x := nkey x) (y := g + x.2.2.2.2.2) m with ⟨h1, _⟩ | ⟨h1, h2⟩
      · simp only [h1]; exact hm.dif
      · simp only [h1]
        exact List.nodup_append.2 ⟨hm.dif, by simp, fun a ha b hb e => by rw [List.mem_singleton.1 hb] at e; subst e; exact h2 ha⟩
    · rcases mup_mem kO_iff hq with hq | hq
      · have := hm.el q hq
        exact ⟨this.1, this.2.1, by omega⟩
      · subst hq
        exact ⟨⟨x, hx, rfl⟩, by (try simp only); omega, by (try simp only); omega⟩
  · have hml := hm.len
    refine .ret ⟨by (try simp only); omega, hm.dif, fun q hq => ?_⟩
    have := hm.el q hq
    exact ⟨this.1, this.2.1, by omega⟩

/-! ### The totals, sorted -/
def nwith (q : Nom × Int) : Nom := (q.1.1, (q.1.2.1, (q.1.2.2.1, (q.1.2.2.2.1, (q.1.2.2.2.2.1, q.2)))))
theorem nlt_cmp : Papi_Nomination.CmpLt (fun h => (nomination_compare h.1 h.2.1).bind fun y => some y) (fun x y => decide (ncmp x y < 0)) := fun x y => ⟨ncmp x y, by show (nomination_compare x y).bind _ = _; rw [ncmp_ok]; rfl, rfl⟩
theorem nsort_unique {L T T' : List Nom} (hd : ∀ x ∈ L, ∀ y ∈ L, nkey x = nkey y → x = y) (h1 : T.Perm L) (h2 : T.Pairwise fun x y => decide (ncmp y x < 0) = false) (h1' : T'.Perm L) (h2' : T'.Pairwise fun x y => decide (ncmp y x < 0) = false) : T = T' := by
  refine List.Perm.eq_of_pairwise (fun a b ha hb h3 h4 => ?_) h2 h2' (h1.trans h1'.symm)
  have h3 := of_decide_eq_false h3
  have h4 := of_decide_eq_false h4
  have k1 := ncmp_good.anti a b
  have k2 := ncmp_good.anti b a
  exact hd a (h1.mem_iff.1 ha) b (h1'.mem_iff.1 hb) (ncmp_zero (by omega))
theorem totals_of {m q : Nat} (hm : m ≤ 26) (hq : q ≤ 26) {l : List Nom} (hl : l.length ≤ 14) (h : ∀ x ∈ l, NomP m q x) {s : List (Nom × Int)} (q1 : iter (fun x : Int × List (Nom × Int) => nomination_Totals_L0 l x.1 x.2) (0, []) = some s) (q2 : SumP l 14 s) :
    ∃ T, nomination_Totals l = some (T, 0) ∧ T.Perm (s.map nwith) ∧ (T.Pairwise fun x y => decide (ncmp y x < 0) = false) ∧ (∀ x ∈ s.map nwith, ∀ y ∈ s.map nwith, nkey x = nkey y → x = y) ∧ ∀ q ∈ s, nkey (nwith q) = q.1 := by
  have hsl := q2.len
  have hkey : ∀ q ∈ s, nkey (nwith q) = q.1 := by
    intro q hq
    obtain ⟨⟨x, _, hx⟩, _⟩ := q2.el q hq
    show nkey q.1 = q.1
    rw [hx]; rfl
  have hd : ∀ x ∈ s.map nwith, ∀ y ∈ s.map nwith, nkey x = nkey y → x = y := by
    intro x hx y hy e
    obtain ⟨a, ha, rfl⟩ := List.mem_map.1 hx
    obtain ⟨b, hb, rfl⟩ := List.mem_map.1 hy
    rw [hkey a ha, hkey b hb] at e
    have : a = b := by
      obtain ⟨i, hi⟩ := List.getElem?_of_mem ha
      obtain ⟨j, hj⟩ := List.getElem?_of_mem hb
      have g1 : (s.map (·.1))[i]? = (s.map (·.1))[j]? := by rw [List.getElem?_map, List.getElem?_map, hi, hj]; simp [e]
      have := (List.getElem?_inj (by simpa using (List.getElem?_eq_some_iff.1 hi).1) q2.dif).1 g1
      subst this
      rw [hi] at hj; injection hj
    rw [this]
  obtain ⟨T, t1, t2, t3⟩ := Papi_Nomination.sort_ok nlt_cmp ncmp_good.swo (s.map nwith) (by simp; omega)
  have hwalk : iterK (fun x2 : List Nom × List (Nom × Int) => nomination_Totals_L1 x2.1 x2.2) ([], ((([], ([], ([], ([], (0, 0))))), 0) :: s)) (fun s2 : List Nom ⊕ (List Nom × Int) => s2.elim (fun s3 => (slices_SortFunc_api_Nomination_api_Nomination (fun h => (nomination_compare h.1 h.2.1).bind fun y => some y) s3).bind fun r2 => some (r2, (0 : Int))) (fun s4 => some (s4.1, s4.2))) = some (T, 0) := by
    refine iterK_inv (fun x : List Nom × List (Nom × Int) => (x.1 ++ x.2.tail.map nwith).Perm (s.map nwith)) (fun x => x.2.tail.length) (by exact .refl _) (fun x hx => ?_) (fun x hx o ho => ?_)
    · unfold nomination_Totals_L1
      cases ht : x.2.tail with
      | nil => simp [isNilL]
      | cons a t => simp [isNilL]
    · obtain ⟨out, c⟩ := x
      replace hx : (out ++ c.tail.map nwith).Perm (s.map nwith) := hx
      unfold nomination_Totals_L1 at ho
      cases ht : c.tail with
      | nil =>
        rw [ht] at ho hx
        simp only [isNilL, cond_true, List.mem_singleton] at ho
        subst ho
        refine .inr ⟨_, rfl, ?_⟩
        simp only [List.map_nil, List.append_nil] at hx
        obtain ⟨T', u1, u2, u3⟩ := Papi_Nomination.sort_ok nlt_cmp ncmp_good.swo out (by have := hx.length_eq; simp at this; omega)
        have := nsort_unique hd (u2.trans hx) u3 t2 t3
        subst this
        show (slices_SortFunc_api_Nomination_api_Nomination _ out).bind _ = _
        rw [u1]; rfl
      | cons a t =>
        rw [ht] at ho hx
        simp only [isNilL, cond_false, List.mem_map, List.mem_range] at ho
        obtain ⟨i, hi, rfl⟩ := ho
        refine .inl ?_
        have hmem : (a :: t).getD i (([], ([], ([], ([], (0, 0))))), 0) ∈ a :: t := gD_mem hi
        have hp : ((pickAt (([], ([], ([], ([], (0, 0))))), 0) (a :: t) i).headD (([], ([], ([], ([], (0, 0))))), 0)) = (a :: t).getD i (([], ([], ([], ([], (0, 0))))), 0) := rfl
        have hper : (nwith ((a :: t).getD i (([], ([], ([], ([], (0, 0))))), 0)) :: ((a :: t).eraseIdx i).map nwith).Perm ((a :: t).map nwith) := by
          have := (erase_perm (L := a :: t) (j := i) (e := (a :: t).getD i (([], ([], ([], ([], (0, 0))))), 0)) (by rw [gD_eq hi]; exact List.getElem?_eq_getElem hi)).map nwith
          rw [List.map_cons] at this
          exact this.symm
        have hval : nwith ((a :: t).getD i (([], ([], ([], ([], (0, 0))))), 0)) ∈ s.map nwith := hx.mem_iff.1 (List.mem_append.2 (.inr (List.mem_map_of_mem hmem)))
        obtain ⟨q, hq, he⟩ := List.mem_map.1 hval
        have hqv := q2.el q hq
        have hv2 : ((a :: t).getD i (([], ([], ([], ([], (0, 0))))), 0)).2 = q.2 := (congrArg (fun x : Nom => x.2.2.2.2.2) he).symm
        have hol : out.length + (t.length + 1) = s.length := by have := hx.length_eq; simpa using this
        rw [hp, dec_f (by rw [hv2]; omega)]
        simp only [cond_false]
        rw [gd_t (fits_t (by omega))]
        refine ⟨_, rfl, ?_, ?_⟩
        · show ((out ++ [nwith ((a :: t).getD i (([], ([], ([], ([], (0, 0))))), 0))]) ++ ((a :: t).eraseIdx i).map nwith).Perm _
          rw [List.append_assoc]
          exact (List.Perm.append_left out hper).trans hx
        · show ((a :: t).eraseIdx i).length < (a :: t).length
          rw [List.length_eraseIdx]
          simp at hi ⊢
          split <;> omega
  refine ⟨T, ?_, t2, t3, hd, hkey⟩
  unfold nomination_Totals
  rw [ncheck_ok hm hq hl h]
  simp only [Option.bind_some, decide_true, Bool.not_true, cond_false]
  rw [show iter (fun x => nomination_Totals_L0 l x.1 x.2) (0, []) = some s from q1, Option.bind_some]
  exact hwalk
theorem totals_ok {m q : Nat} (hm : m ≤ 26) (hq : q ≤ 26) {l : List Nom} (hl : l.length ≤ 14) (h : ∀ x ∈ l, NomP m q x) :
    ∃ T, nomination_Totals l = some (T, 0) ∧ T.length ≤ 14 ∧ ∀ t ∈ T, ∃ x ∈ l, nkey t = nkey x := by
  obtain ⟨s, q1, q2⟩ := sums_ok hl (fun x hx => (h x hx).vol)
  obtain ⟨T, t1, t2, t3, hd, hkey⟩ := totals_of hm hq hl h q1 q2
  refine ⟨T, t1, ?_, fun t ht => ?_⟩
  · have := t2.length_eq
    have := q2.len
    simp at *; omega
  · obtain ⟨q, hq, rfl⟩ := List.mem_map.1 (t2.mem_iff.1 ht)
    obtain ⟨⟨x, hx, e⟩, _⟩ := q2.el q hq
    exact ⟨x, hx, by rw [hkey q hq, e]⟩
end Go.Proofs.YtiojagjejddocaaGreatDoor
