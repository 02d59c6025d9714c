/- Nominations: totals that fit; the comparison of the reference. No condition. -/
import Derived.Test.YtnilkkggnffklaaGreatDoorNm4
namespace Go.Proofs.YtnilkkggnffklaaGreatDoor
open Go Go.Sq
set_option linter.unusedVariables false
theorem TotP.eq_of {l T T0 : List Nom} (h : TotP l T) (h0 : T0.Pairwise fun x y => ncmp x y < 0) (hk : ∀ key, (∃ x ∈ T0, nkey x = key) ↔ ∃ x ∈ l, nkey x = key) (hv : ∀ x ∈ T0, x.2.2.2.2.2 = sumK (nkey x) l) : T = T0 := by
  have hs := h.strict
  have nd : ∀ {L : List Nom}, (L.Pairwise fun x y => ncmp x y < 0) → L.Nodup := fun hp => hp.imp fun {a b} hab e => by
    subst e
    have := ncmp_good.anti a a
    omega
  have det : ∀ x y : Nom, nkey x = nkey y → x.2.2.2.2.2 = y.2.2.2.2.2 → x = y := by
    rintro ⟨x1, x2, x3, x4, x5, x6⟩ ⟨y1, y2, y3, y4, y5, y6⟩ e1 e2
    unfold nkey at e1
    simp only [Prod.mk.injEq] at e1 e2
    obtain ⟨rfl, rfl, rfl, rfl, rfl, _⟩ := e1
    subst e2; rfl
  have hp : T.Perm T0 := by
    refine (List.perm_ext_iff_of_nodup (nd hs) (nd h0)).2 fun z => ?_
    constructor
    · intro hz
      obtain ⟨x, hx, e⟩ := (hk (nkey z)).2 ((h.keys (nkey z)).1 ⟨z, hz, rfl⟩)
      have : z = x := det z x e.symm ((h.vol hz).trans ((show sumK (nkey z) l = sumK (nkey x) l by rw [e]).trans (hv x hx).symm))
      rw [this]; exact hx
    · intro hz
      obtain ⟨x, hx, e⟩ := (h.keys (nkey z)).2 ((hk (nkey z)).1 ⟨z, hz, rfl⟩)
      have : z = x := det z x e.symm ((hv z hz).trans ((show sumK (nkey z) l = sumK (nkey x) l by rw [e]).trans (h.vol hx).symm))
      rw [this]; exact hx
  refine List.Perm.eq_of_pairwise (fun a b _ _ h1 h2 => ?_) hs h0 hp
  have := ncmp_good.anti a b
  omega
theorem or4 (a b c d : Int) : orL [a, b, c, d] = if a ≠ 0 then a else if b ≠ 0 then b else if c ≠ 0 then c else d := by
  unfold orL orL orL orL orL
  by_cases h : d = 0
  · simp [h]
  · simp [h]
def cs4 (a b : Nom) : List Int := [cs a.1 b.1, cs a.2.1 b.2.1, cs a.2.2.1 b.2.2.1, cs a.2.2.2.1 b.2.2.2.1]
theorem cs4_get (a b : Nom) {k : Nat} (h : k < 4) : (cs4 a b).getD k 0 = cs ([a.1, a.2.1, a.2.2.1, a.2.2.2.1].getD k []) ([b.1, b.2.1, b.2.2.1, b.2.2.2.1].getD k []) := by
  match k, h with
  | 0, _ => rfl
  | 1, _ => rfl
  | 2, _ => rfl
  | 3, _ => rfl
theorem cmpR_ok (a b : Nom) : ref11_Cmp a b = some (ncmp a b) := by
  have hn : ncmp a b = if ci a.2.2.2.2.1 b.2.2.2.2.1 ≠ 0 then ci a.2.2.2.2.1 b.2.2.2.2.1 else orL (cs4 a b) := by
    unfold cs4; rw [or4]; rfl
  unfold ref11_Cmp
  by_cases hc : a.2.2.2.2.1 = b.2.2.2.2.1
  · have h0 : ci a.2.2.2.2.1 b.2.2.2.2.1 = 0 := by rw [hc]; simp [ci]
    rw [hn, if_neg (by omega), dec_t hc]
    simp only [Bool.not_true, cond_false]
    have key : Ok (iter (fun x : Int => ref11_Cmp_L0 a b x) 0) fun e => (match e with | .inl _ => 0 | .inr x => x) = orL (cs4 a b) := by
      refine Ok.loop (fun v : Int => ∃ k : Nat, v = (k : Int) ∧ k ≤ 4 ∧ orL ((cs4 a b).drop k) = orL (cs4 a b)) (fun v => 4 - v.toNat) ⟨0, rfl, by omega, rfl⟩ ?_
      rintro v ⟨k, rfl, hk, hp⟩
      unfold ref11_Cmp_L0
      refine Ok.bif (fun hlt => ?_) fun hlt => ?_
      · have hlt := of_decide_eq_true hlt
        have hk : k < 4 := by (try simp only [List.length_cons, List.length_nil] at hlt); omega
        have hd : (cs4 a b).drop k = (cs4 a b).getD k 0 :: (cs4 a b).drop (k + 1) := by
          have : k < (cs4 a b).length := hk
          rw [gD_eq this]; exact List.drop_eq_getElem_cons this
        rw [hd, cs4_get a b hk] at hp
        have hp' : (if cs ([a.1, a.2.1, a.2.2.1, a.2.2.2.1].getD k []) ([b.1, b.2.1, b.2.2.1, b.2.2.2.1].getD k []) ≠ 0 then cs ([a.1, a.2.1, a.2.2.1, a.2.2.2.1].getD k []) ([b.1, b.2.1, b.2.2.1, b.2.2.2.1].getD k []) else orL ((cs4 a b).drop (k + 1))) = orL (cs4 a b) := hp
        rw [Int.toNat_natCast]
        refine Ok.gd (inB_t (show k < [a.1, a.2.1, a.2.2.1, a.2.2.2.1].length from hk)) (Ok.gd (inB_t (show k < [b.1, b.2.1, b.2.2.1, b.2.2.2.1].length from hk)) ?_)
        generalize [a.1, a.2.1, a.2.2.1, a.2.2.2.1].getD k [] = x at hp'
        generalize [b.1, b.2.1, b.2.2.1, b.2.2.2.1].getD k [] = y at hp'
        refine Ok.bif (fun hb => ?_) fun hb => ?_
        · have hz : cs x y = -1 := by unfold cs; rw [if_pos hb]
          rw [hz, if_pos (by decide)] at hp'
          exact .ret hp'
        · refine Ok.gd (inB_t (show k < [a.1, a.2.1, a.2.2.1, a.2.2.2.1].length from hk)) (Ok.gd (inB_t (show k < [b.1, b.2.1, b.2.2.1, b.2.2.2.1].length from hk)) ?_)
          rw [hb]
          refine Ok.bif (fun he => ?_) fun he => ?_
          · have he : x ≠ y := by simpa using he
            have h2 : Op.bytesLess y x = true := by
              rcases bl_tri x y with h | h | h
              · rw [h] at hb; cases hb
              · exact absurd h he
              · exact h
            have hz : cs x y = 1 := by unfold cs; rw [if_neg (by simp [hb]), if_pos h2]
            rw [hz, if_pos (by decide)] at hp'
            exact .ret hp'
          · have he : x = y := by simpa using he
            subst he
            have hz : cs x x = 0 := by unfold cs; rw [bl_irrefl]; simp
            rw [hz, if_neg (by simp)] at hp'
            rw [wi_next k (by omega)]
            exact .ret ⟨⟨k + 1, rfl, by omega, hp'⟩, by simp only [Int.toNat_natCast]; omega⟩
      · have hlt := of_decide_eq_false hlt
        have : k = 4 := by (try simp only [List.length_cons, List.length_nil] at hlt); omega
        subst this
        exact .ret hp
    obtain ⟨e, h1, h2⟩ := key
    rw [h1]
    cases e with
    | inl u => show some 0 = _; rw [← h2]
    | inr x => show some x = _; rw [← h2]
  · rw [dec_f hc]
    simp only [Bool.not_false, cond_true]
    rcases Int.lt_or_gt_of_ne hc with h | h
    · have h0 : ci a.2.2.2.2.1 b.2.2.2.2.1 = -1 := by unfold ci; rw [if_pos h]
      rw [hn, h0, dec_t h]; rfl
    · have h0 : ci a.2.2.2.2.1 b.2.2.2.2.1 = 1 := by unfold ci; rw [if_neg (by omega), if_pos h]
      rw [hn, h0, dec_f (by omega)]; rfl
theorem ncmp_self (x : Nom) : ncmp x x = 0 := by
  have := ncmp_good.anti x x
  omega
theorem ncmp_trans {x y z : Nom} (h1 : ncmp x y < 0) (h2 : ncmp y z < 0) : ncmp x z < 0 :=
  of_decide_eq_true (ncmp_good.swo.trans x y z (decide_eq_true h1) (decide_eq_true h2))
end Go.Proofs.YtnilkkggnffklaaGreatDoor
