/- LotsSums: what the sums are. No condition. -/
import Derived.Test.YtiojagjejddocaaGreatDoorLa7
namespace Go.Proofs.YtiojagjejddocaaGreatDoor
open Go Go.Sq

/-! ### The sums of a map in the order of births -/
abbrev vol (x : Nom) : Int := vol' x
/-- What the nominations of a key sum up to. -/
def sumK (key : Nom) (l : List Nom) : Int := isum (l.map fun z => if nkey z = key then vol z else 0)
theorem sumK_perm {l l' : List Nom} (h : l.Perm l') (key : Nom) : sumK key l = sumK key l' := isum_perm (h.map _)
theorem sumK_next {l : List Nom} {i : Nat} (hi : i < l.length) (key : Nom) : sumK key (l.take (i + 1)) = sumK key (l.take i) + if nkey (l.getD i n0) = key then vol (l.getD i n0) else 0 := by
  unfold sumK
  rw [take_next n0 hi, List.map_append, isum_app]; simp [isum]
theorem sumK_none {l : List Nom} {key : Nom} (h : ∀ x ∈ l, nkey x ≠ key) : sumK key l = 0 := by
  unfold sumK
  induction l with
  | nil => rfl
  | cons x l ih =>
    simp only [List.map_cons, isum]
    rw [ih fun y hy => h y (List.mem_cons_of_mem _ hy), if_neg (h x (by simp))]; rfl
theorem mup_iff {K V : Type} {o : KO K} (ho : ∀ a b, o.eq a b = true ↔ a = b) {x : K} {y : V} : ∀ {l : List (K × V)}, (l.map (·.1)).Nodup → ∀ q, q ∈ mup o l x y ↔ (q ∈ l ∧ q.1 ≠ x) ∨ q = (x, y)
  | [], _, q => by simp [mup]
  | p :: r, hn, q => by
    have hn' : p.1 ∉ r.map (·.1) ∧ (r.map (·.1)).Nodup := by simpa [List.nodup_cons] using hn
    unfold mup
    cases he : o.eq x p.1 with
    | true =>
      have e := (ho _ _).1 he
      simp only [cond_true, List.mem_cons]
      constructor
      · rintro (h | h)
        · exact .inr (by rw [h, e])
        · refine .inl ⟨.inr h, fun h2 => hn'.1 ?_⟩
          rw [← e, ← h2]; exact List.mem_map_of_mem h
      · rintro (⟨h | h, h2⟩ | h)
        · subst h; exact absurd e.symm h2
        · exact .inr h
        · exact .inl (by rw [h, e])
    | false =>
      have hne : x ≠ p.1 := fun e => by rw [(ho _ _).2 e] at he; cases he
      simp only [cond_false, List.mem_cons, mup_iff ho hn'.2 q]
      constructor
      · rintro (h | ⟨h, h2⟩ | h)
        · exact .inl ⟨.inl h, by rw [h]; exact Ne.symm hne⟩
        · exact .inl ⟨.inr h, h2⟩
        · exact .inr h
      · rintro (⟨h | h, h2⟩ | h)
        · exact .inl h
        · exact .inr (.inl ⟨h, h2⟩)
        · exact .inr (.inr h)
theorem mget_iff {K V : Type} {o : KO K} (ho : ∀ a b, o.eq a b = true ↔ a = b) {x : K} {v : V} : ∀ {l : List (K × V)}, (l.map (·.1)).Nodup → (mget o l x = some v ↔ (x, v) ∈ l)
  | [], _ => by simp [mget]
  | p :: r, hn => by
    have hn' : p.1 ∉ r.map (·.1) ∧ (r.map (·.1)).Nodup := by simpa [List.nodup_cons] using hn
    unfold mget
    cases he : o.eq x p.1 with
    | true =>
      have e := (ho _ _).1 he
      subst e
      simp only [cond_true, List.mem_cons]
      constructor
      · intro h; injection h with h; exact .inl (by rw [← h])
      · rintro (h | h)
        · rw [← h]
        · exact absurd (List.mem_map_of_mem (f := (·.1)) h) hn'.1
    | false =>
      have hne : x ≠ p.1 := fun e => by rw [(ho _ _).2 e] at he; cases he
      simp only [cond_false, mget_iff ho hn'.2, List.mem_cons]
      constructor
      · exact .inr
      · rintro (h | h)
        · exact absurd (congrArg Prod.fst h) hne
        · exact h
/-- What a product's nominations sum up to. -/
def wsum (p : List UInt8) (m : List (Nom × Int)) : Int := isum (m.map fun q => if q.1.2.1 = p then q.2 else 0)
def sumP (p : List UInt8) (l : List Nom) : Int := isum (l.map fun z => if z.2.1 = p then vol z else 0)
theorem sumP_next {l : List Nom} {i : Nat} (hi : i < l.length) (p : List UInt8) : sumP p (l.take (i + 1)) = sumP p (l.take i) + if (l.getD i n0).2.1 = p then vol (l.getD i n0) else 0 := by
  unfold sumP
  rw [take_next n0 hi, List.map_append, isum_app]; simp [isum]
theorem wsum_mup (p : List UInt8) (key : Nom) (v : Int) : ∀ m : List (Nom × Int), wsum p (mup kO_0 m key ((mget kO_0 m key).getD 0 + v)) = wsum p m + if key.2.1 = p then v else 0
  | [] => by simp [mup, mget, wsum, isum]
  | q :: r => by
    cases he : kO_0.eq key q.1 with
    | true =>
      have e := (kO_iff _ _).1 he
      simp only [mup, mget, he, cond_true, wsum, List.map_cons, isum, Option.getD_some]
      rw [← e]
      split <;> omega
    | false =>
      have := wsum_mup p key v r
      unfold wsum at this
      simp only [mup, mget, he, cond_false, wsum, List.map_cons, isum]
      omega
/-- The map of the first i nominations. -/
structure SumX (l : List Nom) (i : Nat) (m : List (Nom × Int)) : Prop where
  dif : (m.map (·.1)).Nodup
  mem : ∀ q, q ∈ m ↔ (∃ x ∈ l.take i, nkey x = q.1) ∧ q.2 = sumK q.1 (l.take i)
  tot : ∀ p, wsum p m = sumP p (l.take i)
theorem SumX.get {l : List Nom} {i : Nat} {m : List (Nom × Int)} (h : SumX l i m) (key : Nom) : (mget kO_0 m key).getD 0 = sumK key (l.take i) := by
  cases hg : mget kO_0 m key with
  | some v =>
    have := (h.mem _).1 ((mget_iff kO_iff h.dif).1 hg)
    exact this.2
  | none =>
    show (0 : Int) = _
    rw [sumK_none fun x hx e => ?_]
    have := (h.mem (key, sumK key (l.take i))).2 ⟨⟨x, hx, e⟩, rfl⟩
    rw [(mget_iff kO_iff h.dif).2 this] at hg; cases hg
theorem sumsX_ok {l : List Nom} (hl : l.length ≤ 14) (hv : ∀ x ∈ l, 1 ≤ vol x ∧ vol x ≤ 500) :
    Ok (iter (fun x : Int × List (Nom × Int) => nomination_Totals_L0 l x.1 x.2) (0, [])) fun m => SumX l l.length m ∧ SumP l 14 m := by
  obtain ⟨m', e', hP⟩ := sums_ok hl hv
  have hX : Ok (iter (fun x : Int × List (Nom × Int) => nomination_Totals_L0 l x.1 x.2) (0, [])) fun m => SumX l l.length m := by
    have hsb : ∀ i, i ≤ l.length → ∀ key, 0 ≤ sumK key (l.take i) ∧ sumK key (l.take i) ≤ 500 * (i : Int) := by
      intro i hi key
      have := isum_bd (l := (l.take i).map fun z => if nkey z = key then vol z else 0) (a := 0) (b := 500) fun v hv' => by
        obtain ⟨z, hz, rfl⟩ := List.mem_map.1 hv'
        have := hv z (List.mem_of_mem_take hz)
        split <;> omega
      rw [List.length_map, List.length_take] at this
      unfold sumK; omega
    refine Ok.loop (fun x : Int × List (Nom × Int) => ∃ i : Nat, x.1 = (i : Int) ∧ i ≤ l.length ∧ SumX l i x.2) (fun x => l.length - x.1.toNat) ⟨0, rfl, by omega, ⟨by simp, fun q => by simp, fun p => rfl⟩⟩ ?_
    rintro ⟨i', m⟩ ⟨i, ei, hi, hm⟩
    replace ei : i' = (i : Int) := ei
    subst ei
    try simp only at hm
    unfold nomination_Totals_L0
    refine Ok.bif (fun hc => ?_) fun hc => ?_
    · have hc := of_decide_eq_true hc
      have hi : i < l.length := by (try simp only at hc); omega
      refine Ok.gd (inB_t hi) ?_
      rw [Int.toNat_natCast]
      show Ok (gd (decide (0 ≤ Int.ofNat (midx kO_0 m (nkey (l.getD i n0)))) && Nat.blt (Int.ofNat (midx kO_0 m (nkey (l.getD i n0)))).toNat (ment kO_0 m (nkey (l.getD i n0)) 0).length) (some (Sum.inl (wi64 ((i : Int) + 1), mset (ment kO_0 m (nkey (l.getD i n0)) 0) (Int.ofNat (midx kO_0 m (nkey (l.getD i n0)))).toNat (wi64 (((mget kO_0 m (nkey (l.getD i n0))).getD 0) + vol (l.getD i n0))))))) _
      have hx := gD_mem (d := n0) hi
      have hn := fun key => sumK_next hi key
      have hnp := fun p => sumP_next hi p
      have hws := fun p => wsum_mup p (nkey (l.getD i n0)) (vol (l.getD i n0)) m
      have htk : ∀ z, z ∈ l.take (i + 1) ↔ z ∈ l.take i ∨ z = l.getD i n0 := fun z => by rw [take_next n0 hi]; simp
      rw [hm.get] at hws ⊢
      have hb := hsb i (by omega) (nkey (l.getD i n0))
      generalize l.getD i n0 = x at hx hn hb htk hnp hws
      have hvx := hv x hx
      obtain ⟨u1, u2⟩ := mup_eq kO_0 (nkey x) (wi64 (sumK (nkey x) (l.take i) + vol x)) 0 m
      rw [show (Int.ofNat (midx kO_0 m (nkey x))).toNat = midx kO_0 m (nkey x) from rfl, u1]
      refine Ok.gd (by rw [Bool.and_eq_true, decide_eq_true_eq, Nat.blt_eq]; exact ⟨Int.natCast_nonneg _, u2⟩) ?_
      rw [wi_next i (by omega), show wi64 (sumK (nkey x) (l.take i) + vol x) = sumK (nkey x) (l.take i) + vol x from wi (by omega)]
      refine .ret ⟨⟨i + 1, rfl, hi, ⟨?_, fun q => ?_, fun p => by rw [hnp, ← hm.tot]; exact hws p⟩⟩, by simp only [Int.toNat_natCast]; omega⟩
      · rcases mup_keys kO_iff (x := nkey x) (y := sumK (nkey x) (l.take i) + vol x) m with ⟨h1, _⟩ | ⟨h1, h2⟩
        · simp only [h1]; exact hm.dif
        · simp only [h1]
          exact List.nodup_append.2 ⟨hm.dif, by simp, fun a ha b hb e => by rw [List.mem_singleton.1 hb] at e; subst e; exact h2 ha⟩
      · rw [mup_iff kO_iff hm.dif]
        constructor
        · rintro (⟨h, hne⟩ | rfl)
          · obtain ⟨⟨z, hz, e⟩, h2⟩ := (hm.mem q).1 h
            exact ⟨⟨z, (htk z).2 (.inl hz), e⟩, by rw [hn, if_neg (Ne.symm hne), Int.add_zero]; exact h2⟩
          · exact ⟨⟨x, (htk x).2 (.inr rfl), rfl⟩, by rw [hn, if_pos rfl]⟩
        · rintro ⟨⟨z, hz, e⟩, h2⟩
          by_cases hk : q.1 = nkey x
          · refine .inr (Prod.ext hk ?_)
            rw [h2, hk, hn, if_pos rfl]
          · rw [hn, if_neg (Ne.symm hk), Int.add_zero] at h2
            refine .inl ⟨(hm.mem q).2 ⟨⟨z, ?_, e⟩, h2⟩, hk⟩
            rcases (htk z).1 hz with hz | hz
            · exact hz
            · subst hz; exact absurd e.symm hk
    · have hc := of_decide_eq_false hc
      have : i = l.length := by (try simp only at hc); omega
      subst this
      exact .ret hm
  obtain ⟨m, e, hm⟩ := hX
  have : m' = m := Option.some.inj (e'.symm.trans e)
  subst this
  exact ⟨m', e, hm, hP⟩
/-- Two lists of the same nominations have the same map, but for its order. -/
theorem SumX.perm {l l' : List Nom} (h : l.Perm l') {m m' : List (Nom × Int)} (hm : SumX l l.length m) (hm' : SumX l' l'.length m') : m.Perm m' := by
  have d : ∀ {l : List Nom} {i : Nat} {m : List (Nom × Int)}, SumX l i m → m.Nodup := fun h => List.Pairwise.of_map (·.1) (fun a b h e => h (by rw [e])) h.dif
  refine (List.perm_ext_iff_of_nodup (d hm) (d hm')).2 fun q => ?_
  rw [hm.mem, hm'.mem, List.take_length, List.take_length, sumK_perm h q.1]
  constructor
  · rintro ⟨⟨x, hx, e⟩, h2⟩; exact ⟨⟨x, h.mem_iff.1 hx, e⟩, h2⟩
  · rintro ⟨⟨x, hx, e⟩, h2⟩; exact ⟨⟨x, h.mem_iff.2 hx, e⟩, h2⟩
end Go.Proofs.YtiojagjejddocaaGreatDoor
/- LotsSums: the totals of the reference. No condition. -/
namespace Go.Proofs.YtiojagjejddocaaGreatDoor
open Go Go.Sq

/-! ### The reference's comparison -/
theorem or4 (a b c d : Int) : orL [a, b, c, d] = if a ≠ 0 then a else if b ≠ 0 then b else if c ≠ 0 then c else d := by
  unfold orL orL orL orL orL
  by_cases h : d = 0
  · simp [h]
  · simp [h]
def cs4 (a b : Nom) : List Int := [cs a.1 b.1, cs a.2.1 b.2.1, cs a.2.2.1 b.2.2.1, cs a.2.2.2.1 b.2.2.2.1]
theorem cs4_get (a b : Nom) {k : Nat} (h : k < 4) : (cs4 a b).getD k 0 = cs ([a.1, a.2.1, a.2.2.1, a.2.2.2.1].getD k []) ([b.1, b.2.1, b.2.2.1, b.2.2.2.1].getD k []) := by
  match k, h with
  | 0, _ => rfl
  | 1, _ => rfl
  | 2, _ => rfl
  | 3, _ => rfl
theorem cmpR_ok (a b : Nom) : ref11_Cmp a b = some (ncmp a b) := by
  have hn : ncmp a b = if ci a.2.2.2.2.1 b.2.2.2.2.1 ≠ 0 then ci a.2.2.2.2.1 b.2.2.2.2.1 else orL (cs4 a b) := by
    unfold cs4; rw [or4]; rfl
  unfold ref11_Cmp
  by_cases hc : a.2.2.2.2.1 = b.2.2.2.2.1
  · have h0 : ci a.2.2.2.2.1 b.2.2.2.2.1 = 0 := by rw [hc]; simp [ci]
    rw [hn, if_neg (by omega), dec_t hc]
    simp only [Bool.not_true, cond_false]
    have key : Ok (iter (fun x : Int => ref11_Cmp_L0 a b x) 0) fun e => (match e with | .inl _ => 0 | .inr x => x) = orL (cs4 a b) := by
      refine Ok.loop (fun v : Int => ∃ k : Nat, v = (k : Int) ∧ k ≤ 4 ∧ orL ((cs4 a b).drop k) = orL (cs4 a b)) (fun v => 4 - v.toNat) ⟨0, rfl, by omega, rfl⟩ ?_
      rintro v ⟨k, rfl, hk, hp⟩
      unfold ref11_Cmp_L0
      refine Ok.bif (fun hlt => ?_) fun hlt => ?_
      · have hlt := of_decide_eq_true hlt
        have hk : k < 4 := by (try simp only [List.length_cons, List.length_nil] at hlt); omega
        have hd : (cs4 a b).drop k = (cs4 a b).getD k 0 :: (cs4 a b).drop (k + 1) := by
          have : k < (cs4 a b).length := hk
          rw [gD_eq this]; exact List.drop_eq_getElem_cons this
        rw [hd, cs4_get a b hk] at hp
        have hp' : (if cs ([a.1, a.2.1, a.2.2.1, a.2.2.2.1].getD k []) ([b.1, b.2.1, b.2.2.1, b.2.2.2.1].getD k []) ≠ 0 then cs ([a.1, a.2.1, a.2.2.1, a.2.2.2.1].getD k []) ([b.1, b.2.1, b.2.2.1, b.2.2.2.1].getD k []) else orL ((cs4 a b).drop (k + 1))) = orL (cs4 a b) := hp
        rw [Int.toNat_natCast]
        refine Ok.gd (inB_t (show k < [a.1, a.2.1, a.2.2.1, a.2.2.2.1].length from hk)) (Ok.gd (inB_t (show k < [b.1, b.2.1, b.2.2.1, b.2.2.2.1].length from hk)) ?_)
        generalize [a.1, a.2.1, a.2.2.1, a.2.2.2.1].getD k [] = x at hp'
        generalize [b.1, b.2.1, b.2.2.1, b.2.2.2.1].getD k [] = y at hp'
        refine Ok.bif (fun hb => ?_) fun hb => ?_
        · have hz : cs x y = -1 := by unfold cs; rw [if_pos hb]
          rw [hz, if_pos (by decide)] at hp'
          exact .ret hp'
        · refine Ok.gd (inB_t (show k < [a.1, a.2.1, a.2.2.1, a.2.2.2.1].length from hk)) (Ok.gd (inB_t (show k < [b.1, b.2.1, b.2.2.1, b.2.2.2.1].length from hk)) ?_)
          rw [hb]
          refine Ok.bif (fun he => ?_) fun he => ?_
          · have he : x ≠ y := by simpa using he
            have h2 : Op.bytesLess y x = true := by
              rcases bl_tri x y with h | h | h
              · rw [h] at hb; cases hb
              · exact absurd h he
              · exact h
            have hz : cs x y = 1 := by unfold cs; rw [if_neg (by simp [hb]), if_pos h2]
            rw [hz, if_pos (by decide)] at hp'
            exact .ret hp'
          · have he : x = y := by simpa using he
            subst he
            have hz : cs x x = 0 := by unfold cs; rw [bl_irrefl]; simp
            rw [hz, if_neg (by simp)] at hp'
            rw [wi_next k (by omega)]
            exact .ret ⟨⟨k + 1, rfl, by omega, hp'⟩, by simp only [Int.toNat_natCast]; omega⟩
      · have hlt := of_decide_eq_false hlt
        have : k = 4 := by (try simp only [List.length_cons, List.length_nil] at hlt); omega
        subst this
        exact .ret hp
    obtain ⟨e, h1, h2⟩ := key
    rw [h1]
    cases e with
    | inl u => show some 0 = _; rw [← h2]
    | inr x => show some x = _; rw [← h2]
  · rw [dec_f hc]
    simp only [Bool.not_false, cond_true]
    rcases Int.lt_or_gt_of_ne hc with h | h
    · have h0 : ci a.2.2.2.2.1 b.2.2.2.2.1 = -1 := by unfold ci; rw [if_pos h]
      rw [hn, h0, dec_t h]; rfl
    · have h0 : ci a.2.2.2.2.1 b.2.2.2.2.1 = 1 := by unfold ci; rw [if_neg (by omega), if_pos h]
      rw [hn, h0, dec_f (by omega)]; rfl
theorem ncmp_self (x : Nom) : ncmp x x = 0 := by
  have := ncmp_good.anti x x
  omega
theorem ncmp_nkey (x y : Nom) : ncmp x y = ncmp (nkey x) (nkey y) := rfl
theorem ncmp_trans {x y z : Nom} (h1 : ncmp x y < 0) (h2 : ncmp y z < 0) : ncmp x z < 0 :=
  of_decide_eq_true (ncmp_good.swo.trans x y z (decide_eq_true h1) (decide_eq_true h2))

/-! ### The reference's totals -/
theorem name3_ok (c : UInt8) (hc : c ∈ [(112 : UInt8), 113]) (i : Nat) (h : i < 26) : ref03_Name (nm c i) = some true := by
  have key : ∀ c ∈ [(112 : UInt8), 113], ∀ i ∈ List.range 26, ref03_Name_c (nm c i) = some true := by decide +kernel
  exact le_ref03_Name _ _ (key c hc i (List.mem_range.2 h))
theorem ship3_ok {x : List UInt8} (h : x = [97] ∨ x = [98] ∨ x = [99]) : ref03_Name x = some true := by
  rcases h with rfl | rfl | rfl
  · exact le_ref03_Name _ _ (by decide +kernel)
  · exact le_ref03_Name _ _ (by decide +kernel)
  · exact le_ref03_Name _ _ (by decide +kernel)
theorem checkR_ok {m q : Nat} (hm : m ≤ 26) (hq : q ≤ 26) {l : List Nom} (hl : l.length ≤ 14) (h : ∀ x ∈ l, NomP m q x) : ref11_Check l = some 0 := by
  unfold ref11_Check
  rw [dec_f (show ¬ (400 : Int) < (l.length : Int) by omega)]
  simp only [cond_false]
  have k1 : iter (fun x : Int => ref11_Check_L0 l x) 0 = some (.inl ()) := by
    refine iter_for (step := fun x : Int => ref11_Check_L0 l x) l.length (fun j => (j : Int)) (fun j hj => ?_) ?_
    · have hx := h _ (gD_mem (d := n0) hj)
      obtain ⟨i1, h1, e1⟩ := hx.pro
      obtain ⟨i2, h2, e2⟩ := hx.frm
      obtain ⟨i3, h3, e3⟩ := hx.to
      have hc := hx.cyc
      have hv := hx.vol
      have hval : ref11_Valid (l.getD j n0) = some true := by
        unfold ref11_Valid
        rw [ship3_ok hx.shi, e1, name3_ok 112 (by decide) i1 (by omega), dec_f hx.ne, e2, name3_ok 113 (by decide) i2 (by omega), e3, name3_ok 113 (by decide) i3 (by omega), dec_t (show 0 ≤ (l.getD j n0).2.2.2.2.1 by omega), dec_t (show (l.getD j n0).2.2.2.2.1 ≤ 1000000 by omega), dec_t (show 1 ≤ (l.getD j n0).2.2.2.2.2 by omega), dec_t (show (l.getD j n0).2.2.2.2.2 ≤ 1099511627776 by omega)]; rfl
      unfold ref11_Check_L0
      simp only [dec_t (show (j : Int) < (l.length : Int) by omega), cond_true, gd_t (inB_t hj), Int.toNat_natCast]
      rw [show ref11_Valid (l.getD j ([], ([], ([], ([], (0, 0)))))) = some true from hval, wi_next j (by omega)]; rfl
    · unfold ref11_Check_L0
      simp only [dec_f (show ¬ (l.length : Int) < (l.length : Int) by omega), cond_false]
  rw [k1]; rfl
structure OutP (l : List Nom) (i : Nat) (out : List Nom) : Prop where
  srt : (out.map nkey).Pairwise fun a b => ncmp a b < 0
  mem : ∀ key, key ∈ out.map nkey ↔ ∃ x ∈ l.take i, nkey x = key
  vl : ∀ z ∈ out, 1 ≤ vol z ∧ vol z ≤ 500 * (i : Int)
  len : out.length ≤ i
theorem ins_sorted {K : List Nom} {x : Nom} {at' : Nat} (hs : K.Pairwise fun a b => ncmp a b < 0) (h1 : ∀ j, j < at' → ncmp (K.getD j n0) x < 0) (h2 : at' < K.length → ncmp x (K.getD at' n0) < 0) (hat : at' ≤ K.length) : (K.take at' ++ x :: K.drop at').Pairwise fun a b => ncmp a b < 0 := by
  refine List.pairwise_append.2 ⟨hs.sublist (List.take_sublist _ _), List.pairwise_cons.2 ⟨fun b hb => ?_, hs.sublist (List.drop_sublist _ _)⟩, fun a ha b hb => ?_⟩
  · obtain ⟨j, hj, e⟩ := List.mem_iff_getElem.1 hb
    have hj' : at' + j < K.length := by simp at hj; omega
    have e' : K[at' + j] = b := by rw [← e]; simp
    have hx := h2 (by omega)
    cases j with
    | zero =>
      rw [gD_eq (by omega)] at hx
      simp only [Nat.add_zero] at e'
      rw [← e']; exact hx
    | succ j =>
      have := List.pairwise_iff_getElem.1 hs at' (at' + (j + 1)) (by omega) hj' (by omega)
      rw [gD_eq (by omega)] at hx
      rw [← e']
      exact ncmp_trans hx this
  · have hax : ncmp a x < 0 := by
      obtain ⟨j, hj, e⟩ := List.mem_iff_getElem.1 ha
      have hj' : j < at' ∧ j < K.length := by simp at hj; omega
      have := h1 j hj'.1
      rw [gD_eq hj'.2] at this
      have e' : K[j] = a := by rw [← e]; simp
      rw [← e']; exact this
    rcases List.mem_cons.1 hb with rfl | hb
    · exact hax
    · have hlt : at' < K.length := by
        rcases Nat.lt_or_ge at' K.length with h | h
        · exact h
        · rw [List.drop_of_length_le h] at hb; cases hb
      have hx := h2 hlt
      obtain ⟨j, hj, e⟩ := List.mem_iff_getElem.1 hb
      have hj' : at' + j < K.length := by simp at hj; omega
      have e' : K[at' + j] = b := by rw [← e]; simp
      rw [gD_eq hlt] at hx
      cases j with
      | zero => simp only [Nat.add_zero] at e'; rw [← e']; exact ncmp_trans hax hx
      | succ j =>
        have := List.pairwise_iff_getElem.1 hs at' (at' + (j + 1)) hlt hj' (by omega)
        rw [← e']
        exact ncmp_trans hax (ncmp_trans hx this)
end Go.Proofs.YtiojagjejddocaaGreatDoor
