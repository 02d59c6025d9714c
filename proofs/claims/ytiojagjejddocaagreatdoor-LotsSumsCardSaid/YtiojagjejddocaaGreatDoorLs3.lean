/- LotsSums: how many totals the reference gives. No condition. -/
import Derived.Test.YtiojagjejddocaaGreatDoorLs2
namespace Go.Proofs.YtiojagjejddocaaGreatDoor
open Go Go.Sq

theorem refL1_ok {l out : List Nom} {i : Nat} (hi : i < l.length) (ho : out.length ≤ 14) :
    Ok (iter (fun x : Int × List Nom => ref11_Totals_L1 l (i : Int) x.1 x.2) (0, out)) fun q => q.2 = out ∧ ∃ k : Nat, q.1 = (k : Int) ∧ k ≤ out.length ∧ (∀ j, j < k → ncmp (out.getD j n0) (l.getD i n0) < 0) ∧ (k < out.length → ¬ ncmp (out.getD k n0) (l.getD i n0) < 0) := by
  refine Ok.loop (fun x : Int × List Nom => x.2 = out ∧ ∃ k : Nat, x.1 = (k : Int) ∧ k ≤ out.length ∧ ∀ j, j < k → ncmp (out.getD j n0) (l.getD i n0) < 0) (fun x => out.length - x.1.toNat) ⟨rfl, 0, rfl, by omega, fun j hj => by omega⟩ ?_
  rintro ⟨k', out'⟩ ⟨e, k, ek, hk, hp⟩
  replace e : out' = out := e
  replace ek : k' = (k : Int) := ek
  subst e ek
  unfold ref11_Totals_L1
  try simp only
  refine Ok.bind (Q := fun q : Bool × List Nom => q.2 = out' ∧ (q.1 = true → k < out'.length ∧ ncmp (out'.getD k n0) (l.getD i n0) < 0) ∧ (q.1 = false → k < out'.length → ¬ ncmp (out'.getD k n0) (l.getD i n0) < 0)) (Ok.bif (fun hc => ?_) fun hc => ?_) ?_
  · have hc := of_decide_eq_true hc
    have hk : k < out'.length := by omega
    refine Ok.gd (inB_t hk) ?_
    simp only [Int.toNat_natCast]
    refine Ok.eq (cmpR_ok (out'.getD k n0) (l.getD i n0)) ?_
    exact .ret ⟨rfl, fun h => ⟨hk, of_decide_eq_true h⟩, fun h _ => of_decide_eq_false h⟩
  · have hc := of_decide_eq_false hc
    exact .ret ⟨rfl, fun h => (by cases h), fun _ h => by omega⟩
  rintro ⟨b, o⟩ ⟨e, h1, h2⟩
  replace e : o = out' := e
  subst e
  refine Ok.bif (fun hb => ?_) fun hb => ?_
  · have hb : b = true := hb
    subst hb
    obtain ⟨h3, h4⟩ := h1 rfl
    rw [wi_next k (by omega)]
    refine .ret ⟨⟨rfl, k + 1, rfl, h3, fun j hj => ?_⟩, by simp only [Int.toNat_natCast]; omega⟩
    rcases Nat.lt_or_ge j k with h | h
    · exact hp j h
    · obtain rfl : j = k := by omega
      exact h4
  · have hb : b = false := hb
    subst hb
    exact .ret ⟨rfl, k, rfl, hk, hp, h2 rfl⟩
theorem refL0_ok {l : List Nom} (hl : l.length ≤ 14) (hv : ∀ x ∈ l, 1 ≤ vol x ∧ vol x ≤ 500) :
    Ok (iter (fun x : Int × List Nom => ref11_Totals_L0 l x.1 x.2) (0, [])) fun out => OutP l l.length out := by
  refine Ok.loop (fun x : Int × List Nom => ∃ i : Nat, x.1 = (i : Int) ∧ i ≤ l.length ∧ OutP l i x.2) (fun x => l.length - x.1.toNat) ⟨0, rfl, by omega, ⟨by simp, fun key => by simp, fun z hz => (by cases hz), by simp⟩⟩ ?_
  rintro ⟨i', out⟩ ⟨i, ei, hi, hO⟩
  replace ei : i' = (i : Int) := ei
  subst ei
  try simp only at hO
  unfold ref11_Totals_L0
  try simp only
  refine Ok.bif (fun hc => ?_) fun hc => ?_
  · have hc := of_decide_eq_true hc
    have hi : i < l.length := by omega
    have hol := hO.len
    have hx := gD_mem (d := n0) hi
    have hvx := hv _ hx
    have htk : ∀ z, z ∈ l.take (i + 1) ↔ z ∈ l.take i ∨ z = l.getD i n0 := fun z => by rw [take_next n0 hi]; simp
    rw [wi_next i (by omega)]
    refine Ok.bind (Q := fun o : List Nom => OutP l (i + 1) o) ?_ fun o ho => .ret ⟨⟨i + 1, rfl, hi, ho⟩, by simp only [Int.toNat_natCast]; omega⟩
    refine Ok.gd (inB_t hi) ?_
    refine Ok.bind (refL1_ok hi (by omega)) ?_
    rintro ⟨k', out'⟩ ⟨e, k, ek, hk, hp, hq⟩
    replace e : out' = out := e
    replace ek : k' = (k : Int) := ek
    subst e ek
    try simp only
    simp only [Int.toNat_natCast]
    refine Ok.bind (Q := fun q : Bool × List Nom => q.2 = out' ∧ (q.1 = true → k < out'.length ∧ ncmp (out'.getD k n0) (l.getD i n0) = 0) ∧ (q.1 = false → k < out'.length → ncmp (l.getD i n0) (out'.getD k n0) < 0)) (Ok.bif (fun hc => ?_) fun hc => ?_) ?_
    · have hc := of_decide_eq_true hc
      have hk : k < out'.length := by omega
      refine Ok.gd (inB_t hk) ?_
      refine Ok.eq (cmpR_ok (out'.getD k n0) (l.getD i n0)) ?_
      refine .ret ⟨rfl, fun h => ⟨hk, of_decide_eq_true h⟩, fun h _ => ?_⟩
      have h := of_decide_eq_false h
      have h1 := hq hk
      exact (ncmp_good.anti _ _).2 (by omega)
    · have hc := of_decide_eq_false hc
      exact .ret ⟨rfl, fun h => (by cases h), fun _ h => by omega⟩
    rintro ⟨b, o⟩ ⟨e, h1, h2⟩
    replace e : o = out' := e
    subst e
    have hKget : ∀ j, j < o.length → (o.map nkey).getD j n0 = nkey (o.getD j n0) := fun j hj => gD_map nkey o j n0 n0 hj
    refine Ok.bif (fun hb => ?_) fun hb => ?_
    · have hb : b = true := hb
      subst hb
      obtain ⟨h3, h4⟩ := h1 rfl
      have hkey := ncmp_zero h4
      refine Ok.gd (inB_t h3) (Ok.gd (inB_t h3) ?_)
      have hvo := hO.vl _ (gD_mem (d := n0) h3)
      have hw : wi64 (vol (o.getD k n0) + vol (l.getD i n0)) = vol (o.getD k n0) + vol (l.getD i n0) := wi (by omega)
      show Ok (some (o.set k ((o.getD k n0).1, ((o.getD k n0).2.1, ((o.getD k n0).2.2.1, ((o.getD k n0).2.2.2.1, ((o.getD k n0).2.2.2.2.1, wi64 (vol (o.getD k n0) + vol (l.getD i n0))))))))) _
      rw [hw]
      have hmap : (o.set k ((o.getD k n0).1, ((o.getD k n0).2.1, ((o.getD k n0).2.2.1, ((o.getD k n0).2.2.2.1, ((o.getD k n0).2.2.2.2.1, vol (o.getD k n0) + vol (l.getD i n0))))))).map nkey = o.map nkey := by
        rw [List.map_set]
        have e1 : nkey ((o.getD k n0).1, ((o.getD k n0).2.1, ((o.getD k n0).2.2.1, ((o.getD k n0).2.2.2.1, ((o.getD k n0).2.2.2.2.1, vol (o.getD k n0) + vol (l.getD i n0)))))) = (o.map nkey)[k]'(by simpa using h3) := by
          rw [List.getElem_map, ← gD_eq (d := n0) h3]; rfl
        rw [e1, List.set_getElem_self]
      refine .ret ⟨by rw [hmap]; exact hO.srt, fun key => ?_, fun z hz => ?_, by rw [List.length_set]; omega⟩
      · rw [hmap, hO.mem]
        constructor
        · rintro ⟨z, hz, e⟩; exact ⟨z, (htk z).2 (.inl hz), e⟩
        · rintro ⟨z, hz, e⟩
          rcases (htk z).1 hz with hz | hz
          · exact ⟨z, hz, e⟩
          · subst hz
            refine (hO.mem key).1 ?_
            rw [← e, ← hkey]
            exact List.mem_map_of_mem (gD_mem h3)
      · rcases List.mem_or_eq_of_mem_set hz with hz | rfl
        · have := hO.vl z hz
          omega
        · show 1 ≤ vol (o.getD k n0) + vol (l.getD i n0) ∧ vol (o.getD k n0) + vol (l.getD i n0) ≤ _
          omega
    · have hb : b = false := hb
      subst hb
      have h3 := h2 rfl
      have htl : (o.take k).length = k := by rw [List.length_take]; omega
      refine Ok.gd (by unfold cutG; simp only [Bool.and_eq_true, decide_eq_true_eq]; omega) ?_
      refine Ok.gd (fits_t (by rw [htl]; omega)) ?_
      refine Ok.gd (fits_t (by simp only [List.nil_append, htl]; omega)) ?_
      refine Ok.gd (by unfold cutG; simp only [Bool.and_eq_true, decide_eq_true_eq]; omega) ?_
      refine Ok.gd (fits_t (by simp only [List.nil_append, List.length_append, htl, List.length_drop, List.length_cons, List.length_nil]; omega)) ?_
      show Ok (some ((([] ++ o.take k) ++ [l.getD i n0]) ++ o.drop k)) _
      have hmap : ((([] ++ o.take k) ++ [l.getD i n0]) ++ o.drop k).map nkey = (o.map nkey).take k ++ nkey (l.getD i n0) :: (o.map nkey).drop k := by
        simp [List.map_take, List.map_drop]
      refine .ret ⟨?_, fun key => ?_, fun z hz => ?_, ?_⟩
      · rw [hmap]
        refine ins_sorted hO.srt (fun j hj => ?_) (fun hlt => ?_) (by simpa using hk)
        · rw [hKget j (by omega)]; exact hp j hj
        · have hlt : k < o.length := by simpa using hlt
          rw [hKget k hlt]; exact h3 hlt
      · rw [hmap]
        have : key ∈ (o.map nkey).take k ++ nkey (l.getD i n0) :: (o.map nkey).drop k ↔ key ∈ o.map nkey ∨ key = nkey (l.getD i n0) := by
          have e : o.map nkey = (o.map nkey).take k ++ (o.map nkey).drop k := (List.take_append_drop k _).symm
          conv => rhs; rw [e]
          simp only [List.mem_append, List.mem_cons]
          constructor
          · rintro (h | h | h)
            · exact .inl (.inl h)
            · exact .inr h
            · exact .inl (.inr h)
          · rintro ((h | h) | h)
            · exact .inl h
            · exact .inr (.inr h)
            · exact .inr (.inl h)
        rw [this, hO.mem]
        constructor
        · rintro (⟨z, hz, e⟩ | h)
          · exact ⟨z, (htk z).2 (.inl hz), e⟩
          · exact ⟨_, (htk _).2 (.inr rfl), h.symm⟩
        · rintro ⟨z, hz, e⟩
          rcases (htk z).1 hz with hz | hz
          · exact .inl ⟨z, hz, e⟩
          · subst hz; exact .inr e.symm
      · simp only [List.nil_append, List.mem_append, List.mem_singleton] at hz
        rcases hz with (hz | rfl) | hz
        · have := hO.vl z (List.mem_of_mem_take hz); omega
        · omega
        · have := hO.vl z (List.mem_of_mem_drop hz); omega
      · simp only [List.nil_append, List.length_append, htl, List.length_drop, List.length_cons, List.length_nil]; omega
  · have hc := of_decide_eq_false hc
    have : i = l.length := by omega
    subst this
    exact .ret hO
theorem refT_ok {m q : Nat} (hm : m ≤ 26) (hq : q ≤ 26) {l : List Nom} (hl : l.length ≤ 14) (h : ∀ x ∈ l, NomP m q x) : Ok (ref11_Totals l) fun r => r.2 = 0 ∧ OutP l l.length r.1 := by
  unfold ref11_Totals
  refine Ok.eq (checkR_ok hm hq hl h) ?_
  simp only [decide_true, Bool.not_true, cond_false]
  refine Ok.bind (refL0_ok hl fun x hx => (h x hx).vol) fun out hO => ?_
  have hol := hO.len
  refine Ok.bind (Q := fun e : List Nom ⊕ (List Nom × Int) => e = .inl out) ?_ fun e he => by subst he; exact .ret ⟨rfl, hO⟩
  refine Ok.loop (fun x : Int × List Nom => x.2 = out ∧ ∃ k : Nat, x.1 = (k : Int)) (fun x => out.length - x.1.toNat) ⟨rfl, 0, rfl⟩ ?_
  rintro ⟨k', o⟩ ⟨e, k, ek⟩
  replace e : o = out := e
  replace ek : k' = (k : Int) := ek
  subst e ek
  unfold ref11_Totals_L2
  try simp only
  refine Ok.bif (fun hc => ?_) fun hc => .ret rfl
  have hc := of_decide_eq_true hc
  have hk : k < o.length := by omega
  refine Ok.gd (inB_t hk) ?_
  rw [Int.toNat_natCast]
  have hv := hO.vl _ (gD_mem (d := n0) hk)
  show Ok (bif decide (1099511627776 < vol (o.getD k n0)) then _ else _) _
  rw [dec_f (by omega)]
  simp only [cond_false]
  rw [wi_next k (by omega)]
  exact .ret ⟨⟨rfl, k + 1, rfl⟩, by simp only [Int.toNat_natCast]; omega⟩
/-- There are as many totals as keys. -/
theorem ref_len {l : List Nom} {out : List Nom} (hO : OutP l l.length out) {m : List (Nom × Int)} (hm : SumX l l.length m) : out.length = m.length := by
  have d1 : (out.map nkey).Nodup := hO.srt.imp fun {a b} h e => by subst e; rw [ncmp_self] at h; omega
  have hp : (out.map nkey).Perm (m.map (·.1)) := by
    refine (List.perm_ext_iff_of_nodup d1 hm.dif).2 fun key => ?_
    rw [hO.mem]
    constructor
    · rintro ⟨x, hx, e⟩
      exact List.mem_map.2 ⟨(key, sumK key (l.take l.length)), (hm.mem _).2 ⟨⟨x, hx, e⟩, rfl⟩, rfl⟩
    · intro h
      obtain ⟨q, hq, rfl⟩ := List.mem_map.1 h
      exact ((hm.mem q).1 hq).1
  have := hp.length_eq
  simpa using this
end Go.Proofs.YtiojagjejddocaaGreatDoor
