/- Fills as they are made; order; the law AuditParts. No condition. -/
import Derived.Test.YtnhaphgnpgaocaaAu1
namespace Go.Proofs.Ytnhaphgnpgaocaa
open Go Go.Sq

theorem pc_dec (x y : Pc) : (decide (x.1 = y.1) && decide (x.2 = y.2)) = decide (x = y) := by
  by_cases h : x = y
  · subst h; simp
  · rw [dec_f h]
    by_cases h1 : x.1 = y.1
    · rw [dec_f (show ¬ x.2 = y.2 from fun h2 => h (Prod.ext h1 h2)), Bool.and_false]
    · rw [dec_f h1, Bool.false_and]
theorem same_eq {a b : List Pc} (h : a.length ≤ 1000000) : slices_Equal_api_Piece_api_Piece a b = some (decide (a = b)) ∧ ref28_SamePieces a b = some (decide (a = b)) := by
  unfold slices_Equal_api_Piece_api_Piece ref28_SamePieces
  by_cases hl : a.length = b.length
  · rw [dec_t (show (a.length : Int) = (b.length : Int) by omega)]
    simp only [Bool.not_true, cond_false]
    have k1 := iter_all (step := fun x => slices_Equal_api_Piece_api_Piece_L0 a b x) a.length (fun i => (i : Int)) (fun i => decide (a.getD i pz = b.getD i pz)) (fin := .inl ()) (bad := .inr false) (fun i hi _ hp => by
        unfold slices_Equal_api_Piece_api_Piece_L0
        simp only [dec_t (show (i : Int) < (a.length : Int) by omega), cond_true, gd_t (inB_t hi), gd_t (inB_t (hl ▸ hi)), Int.toNat_natCast, show ((0, 0) : Pc) = pz from rfl, pc_dec, hp, Bool.not_true, cond_false]
        rw [wi (by omega)]; rfl) (fun i hi _ hp => by
        unfold slices_Equal_api_Piece_api_Piece_L0
        simp only [dec_t (show (i : Int) < (a.length : Int) by omega), cond_true, gd_t (inB_t hi), gd_t (inB_t (hl ▸ hi)), Int.toNat_natCast, show ((0, 0) : Pc) = pz from rfl, pc_dec, hp, Bool.not_false]) (fun _ => by
        unfold slices_Equal_api_Piece_api_Piece_L0
        simp only [dec_f (show ¬ (a.length : Int) < (a.length : Int) by omega), cond_false])
    have k2 := iter_all (step := fun x => ref28_SamePieces_L0 a b x) a.length (fun i => (i : Int)) (fun i => decide (a.getD i pz = b.getD i pz)) (fin := .inl ()) (bad := .inr false) (fun i hi _ hp => by
        unfold ref28_SamePieces_L0
        simp only [dec_t (show (i : Int) < (a.length : Int) by omega), cond_true, gd_t (inB_t hi), gd_t (inB_t (hl ▸ hi)), Int.toNat_natCast, show ((0, 0) : Pc) = pz from rfl, pc_dec, hp, Bool.not_true, cond_false]
        rw [wi (by omega)]; rfl) (fun i hi _ hp => by
        unfold ref28_SamePieces_L0
        simp only [dec_t (show (i : Int) < (a.length : Int) by omega), cond_true, gd_t (inB_t hi), gd_t (inB_t (hl ▸ hi)), Int.toNat_natCast, show ((0, 0) : Pc) = pz from rfl, pc_dec, hp, Bool.not_false]) (fun _ => by
        unfold ref28_SamePieces_L0
        simp only [dec_f (show ¬ (a.length : Int) < (a.length : Int) by omega), cond_false])
    rw [show (0 : Int) = ((0 : Nat) : Int) from rfl, k1, k2]
    have e : (List.range a.length).all (fun i => decide (a.getD i pz = b.getD i pz)) = decide (a = b) := by
      by_cases hab : a = b
      · rw [dec_t hab]
        refine all_range.2 fun i _ => ?_
        rw [hab]; exact dec_t rfl
      · rw [dec_f hab]
        refine Bool.eq_false_iff.2 fun hh => hab (ext_gD pz hl fun k hk => ?_)
        have := all_range.1 hh k hk
        exact of_decide_eq_true this
    rw [e]
    cases decide (a = b) <;> exact ⟨rfl, rfl⟩
  · rw [dec_f (show ¬ (a.length : Int) = (b.length : Int) by omega), dec_f (show ¬ a = b from fun h => hl (by rw [h]))]
    exact ⟨rfl, rfl⟩

/-! ### Order -/
def orderF (before after vin out : List Pc) (back : Bool) : Bool × Int :=
  bif vB before && (vB after && (vB vin && vB out)) then (decide ((pushF before vin back) = (0, after, out)), 0) else (false, 14)
theorem pushF_len (f g : List Pc) (back : Bool) : (pushF f g back).2.1.length ≤ 200 ∧ (pushF f g back).2.2.length ≤ 200 := by
  unfold pushF
  split
  · generalize (if back = true then joinF (spl (f ++ g) (tot g)).2 else joinF (spl (g ++ f) (tot f)).1) = A
    generalize (if back = true then joinF (spl (f ++ g) (tot g)).1 else joinF (spl (g ++ f) (tot f)).2) = B
    split
    · simp
    · next h => rw [not_or] at h; exact ⟨by simp only; omega, by simp only; omega⟩
  · simp
theorem order_fin {r : Int × List Pc × List Pc} {after out : List Pc} : (decide (r = (0, after, out)), (0 : Int)) = if r.1 = 0 then (if r.2.1 = after then (decide (r.2.2 = out), 0) else (false, 0)) else (false, 0) := by
  obtain ⟨e, F, O⟩ := r
  by_cases h1 : e = 0
  · subst h1
    rw [if_pos rfl]
    by_cases h2 : F = after
    · subst h2; rw [if_pos rfl]; simp
    · rw [if_neg h2, dec_f (fun h => by injection h with _ h; injection h with h _; exact h2 h)]
  · rw [if_neg h1, dec_f (fun h => by injection h with h _; exact h1 h)]
theorem order_eq (before after vin out : List Pc) (back : Bool) : audit_Order before after vin out back = some (orderF before after vin out back) ∧ ref45_Order before after vin out back = some (orderF before after vin out back) := by
  have fin : ∀ (f g : List (List (Int × Int))), True := fun _ _ => trivial
  obtain ⟨l1, l2⟩ := pushF_len before vin back
  have s1 := same_eq (a := (pushF before vin back).2.1) (b := after) (by omega)
  have s2 := same_eq (a := (pushF before vin back).2.2) (b := out) (by omega)
  have ck : ∀ i, i < 4 → ∃ f : List Pc, [before, after, vin, out].getD i [] = f := fun i _ => ⟨_, rfl⟩
  have k1 := iter_all (step := fun x => audit_Order_L0 before after vin out x) 4 (fun i => (i : Int)) (fun i => vB ([before, after, vin, out].getD i [])) (fin := .inl ()) (bad := .inr (false, 14)) (fun i hi _ hp => by
      unfold audit_Order_L0
      rw [show ([before, after, vin, out].length : Int) = 4 from rfl, show ([before, after, vin, out].length) = 4 from rfl, dec_t (show (i : Int) < 4 by omega), gd_t (inB_t hi), Int.toNat_natCast, (valid_eq _).1, hp]
      simp only [cond_true, Option.bind_some, Bool.not_true, cond_false]
      rw [wi (by omega)]; rfl) (fun i hi _ hp => by
      unfold audit_Order_L0
      rw [show ([before, after, vin, out].length : Int) = 4 from rfl, show ([before, after, vin, out].length) = 4 from rfl, dec_t (show (i : Int) < 4 by omega), gd_t (inB_t hi), Int.toNat_natCast, (valid_eq _).1, hp]
      rfl) (fun _ => by
      unfold audit_Order_L0
      rw [show ([before, after, vin, out].length : Int) = 4 from rfl, dec_f (show ¬ ((4 : Nat) : Int) < 4 by omega)]; rfl)
  have hal : (List.range 4).all (fun i => vB ([before, after, vin, out].getD i [])) = (vB before && (vB after && (vB vin && vB out))) := by
    show (vB before && (vB after && (vB vin && (vB out && true)))) = _
    rw [Bool.and_true]
  rw [hal] at k1
  unfold audit_Order ref45_Order orderF
  rw [show (0 : Int) = ((0 : Nat) : Int) from rfl, k1, (valid_eq before).2, (valid_eq after).2, (valid_eq vin).2, (valid_eq out).2, (push_eq before vin back).1, (push_eq before vin back).2]
  cases vB before with
  | false => exact ⟨rfl, rfl⟩
  | true =>
  cases vB after with
  | false => exact ⟨rfl, rfl⟩
  | true =>
  cases vB vin with
  | false => exact ⟨rfl, rfl⟩
  | true =>
  cases vB out with
  | false => exact ⟨rfl, rfl⟩
  | true =>
    simp only [Bool.and_self, cond_true, Option.bind_some, Sum.elim_inl, s1.1, s2.1, s1.2, s2.2, Bool.not_true, cond_false]
    rw [show ((0 : Nat) : Int) = 0 from rfl, order_fin]
    by_cases h1 : (pushF before vin back).1 = 0
    · rw [if_pos h1, dec_t h1]
      by_cases h2 : (pushF before vin back).2.1 = after
      · rw [if_pos h2, dec_t h2]; exact ⟨rfl, rfl⟩
      · rw [if_neg h2, dec_f h2]; exact ⟨rfl, rfl⟩
    · rw [if_neg h1, dec_f h1]; exact ⟨rfl, rfl⟩
theorem order_true {f g F O : List Pc} {back : Bool} (h : PushE f g back F O) : orderF f F g O back = (true, 0) := by
  unfold orderF
  rw [vB_iff.2 h.vf, vB_iff.2 h.vg, vB_iff.2 h.VF2.1, vB_iff.2 h.VF2.2, dec_t (push_iff.2 h)]; rfl

/-! ### Fills as they are made -/
theorem tot_app (f g : List Pc) : tot (f ++ g) = tot f + tot g := by unfold tot; rw [List.map_append, isum_app]
theorem tot_one (p : Pc) : tot [p] = p.2 := by simp [tot, isum]
theorem fill_eq {v c : Int} {s : List Int} {p : Int} (h : SrcOk s p) (hv : 0 ≤ v ∧ v ≤ 1000000) (hc : 1 ≤ c ∧ c ≤ 1000) : Ok (keep_Src_Fill v c s p) fun r => ∃ (f : List Pc) (p' : Int), r = (f, s, p') ∧ SrcOk s p' ∧ f.length ≤ 12 ∧ (∀ q ∈ f, (0 ≤ q.1 ∧ q.1 < c) ∧ 1 ≤ q.2) ∧ tot f ≤ v ∧ (1 ≤ v → 1 ≤ f.length) := by
  unfold keep_Src_Fill
  refine Ok.bind (Q := fun r => ∃ (f : List Pc) (p' : Int), r = (s, p', f) ∧ SrcOk s p' ∧ f.length ≤ 12 ∧ (∀ q ∈ f, (0 ≤ q.1 ∧ q.1 < c) ∧ 1 ≤ q.2) ∧ tot f ≤ v ∧ (1 ≤ v → 1 ≤ f.length)) ?_ fun r hr => ?_
  · refine Ok.loop (fun x => ∃ (w p' : Int) (f : List Pc), x = (w, s, p', f) ∧ 0 ≤ w ∧ SrcOk s p' ∧ f.length ≤ 12 ∧ (∀ q ∈ f, (0 ≤ q.1 ∧ q.1 < c) ∧ 1 ≤ q.2) ∧ tot f + w = v) (fun x => x.1.toNat) ⟨v, p, [], rfl, hv.1, h, by simp, by simp, by simp [tot, isum]⟩ ?_
    rintro _ ⟨w, p', f, rfl, k1, k2, k3, k4, k5⟩
    have htf : 0 ≤ tot f := isum_nn fun x hx => by
      obtain ⟨q, hq, rfl⟩ := List.mem_map.1 hx
      have := (k4 q hq).2; omega
    unfold keep_Src_Fill_L0
    simp only
    by_cases hw : 0 < w
    · rw [dec_t hw]
      simp only [cond_true, Option.bind_some]
      refine Ok.bif (fun hlt => ?_) (fun hlt => Ok.ret ⟨f, p', rfl, k2, k3, k4, by omega, fun _ => by have := of_decide_eq_false hlt; omega⟩)
      have hlt : f.length < 12 := by have := of_decide_eq_true hlt; omega
      obtain ⟨b, p1, q1, q2, q3, q4⟩ := n_eq (n := c) k2 (by omega) (by omega)
      refine Ok.eq q1 ?_
      have hm : wi64 (Int.tdiv (wi64 (w * 2)) 3) = w * 2 / 3 := by
        rw [wi (n := w * 2) (by omega), Int.tdiv_eq_ediv_of_nonneg (by omega), wi (by omega)]
      rw [hm]
      obtain ⟨n, p2, r1, r2, r3, r4⟩ := range_eq (lo := 1) (hi := max 1 (w * 2 / 3)) q4 (by omega) (by omega) (by omega)
      refine Ok.eq r1 ?_
      have h6 : (bif decide ((f.length : Int) = 11) then some (w, f) else some (n, f)) = some ((if f.length = 11 then w else n), f) := by
        by_cases h11 : f.length = 11
        · rw [dec_t (show (f.length : Int) = 11 by omega), if_pos h11]; rfl
        · rw [dec_f (show ¬ (f.length : Int) = 11 by omega), if_neg h11]; rfl
      simp only
      rw [h6, Option.bind_some]
      simp only
      obtain ⟨m, hm1, hm2, hm3⟩ : ∃ m : Int, min (if f.length = 11 then w else n) w = m ∧ 1 ≤ m ∧ m ≤ w := ⟨_, rfl, by split <;> omega, by split <;> omega⟩
      rw [hm1]
      have tm : 0 ≤ Int.tmod (wi64 (b + 1)) c ∧ Int.tmod (wi64 (b + 1)) c < c := by
        rw [wi (by omega)]
        exact ⟨Int.tmod_nonneg _ (by omega), Int.tmod_lt_of_pos _ (by omega)⟩
      have app : ∀ b' : Int, 0 ≤ b' ∧ b' < c → Sq.gd (fits (f.length + 1) 16) (some (Sum.inl (α := Int × List Int × Int × List (Int × Int)) (β := List Int × Int × List (Int × Int)) (wi64 (w - m), s, p2, f ++ [(b', m)]))) = some (Sum.inl (w - m, s, p2, f ++ [(b', m)])) ∧ ((∃ (w' p' : Int) (f' : List Pc), (w - m, s, p2, f ++ [(b', m)]) = (w', s, p', f') ∧ 0 ≤ w' ∧ SrcOk s p' ∧ f'.length ≤ 12 ∧ (∀ q ∈ f', (0 ≤ q.1 ∧ q.1 < c) ∧ 1 ≤ q.2) ∧ tot f' + w' = v) ∧ (w - m).toNat < w.toNat) := by
        intro b' hb'
        rw [wi (n := w - m) (by omega)]
        refine ⟨by rw [gd_t (fits_t (by omega))], ⟨w - m, p2, _, rfl, by omega, r4, by simp; omega, fun q hq => ?_, by rw [tot_app, tot_one]; simp only; omega⟩, by omega⟩
        rcases List.mem_append.1 hq with hq | hq
        · exact k4 q hq
        · rw [List.mem_singleton.1 hq]; exact ⟨hb', hm2⟩
      rcases List.eq_nil_or_concat f with rfl | ⟨l, q, rfl⟩
      · rw [show (bif decide (0 < ((([] : List Pc).length : Nat) : Int)) then Sq.gd (inB (wi64 ((([] : List Pc).length : Int) - 1)) ([] : List Pc).length) (some (decide ((([] : List Pc).getD ((wi64 ((([] : List Pc).length : Int) - 1)).toNat) (0, 0)).1 = b), ([] : List Pc))) else some (false, ([] : List Pc))) = some (false, []) from rfl]
        simp only [Option.bind_some, cond_false, Sum.elim_inl]
        obtain ⟨ae, ah⟩ := app b ⟨q2, q3⟩; rw [ae]; exact Ok.ret ah
      · rw [List.concat_eq_append] at *
        have hll : (l ++ [q]).length = l.length + 1 := by simp
        have e1 : wi64 (((l ++ [q]).length : Int) - 1) = ((l ++ [q]).length - 1 : Nat) := by rw [wi (by omega)]; omega
        have hlb : (l ++ [q]).length - 1 < (l ++ [q]).length := by omega
        rw [dec_t (show (0 : Int) < ((l ++ [q]).length : Int) by omega), e1, gd_t (inB_t hlb), Int.toNat_natCast, show ((0, 0) : Pc) = pz from rfl, last_at, dec_f (show ¬ c = 0 by omega)]
        simp only [cond_true, Option.bind_some, Bool.not_false, gd_tt, e1, gd_t (inB_t hlb), Int.toNat_natCast, last_at, set_last]
        by_cases g1 : q.1 = b
        · rw [dec_t g1]
          simp only [cond_true]
          by_cases g2 : q.1 = Int.tmod (wi64 (b + 1)) c
          · rw [dec_t g2]
            simp only [cond_true, Option.bind_some, Sum.elim_inr]
            have hq0 := k4 q (by simp)
            rw [tot_app, tot_one] at k5 htf
            have htl : 0 ≤ tot l := isum_nn fun x hx => by
              obtain ⟨q', hq', rfl⟩ := List.mem_map.1 hx
              have := (k4 q' (by simp [hq'])).2; omega
            rw [show wi64 (q.2 + m) = q.2 + m from wi (by omega), wi (n := w - m) (by omega)]
            refine Ok.ret ⟨⟨w - m, p2, _, rfl, by omega, r4, by simp at k3 ⊢; omega, fun q' hq' => ?_, by rw [tot_app, tot_one]; simp only; omega⟩, by simp only; omega⟩
            rcases List.mem_append.1 hq' with hq' | hq'
            · exact k4 q' (by simp [hq'])
            · rw [List.mem_singleton.1 hq']; exact ⟨hq0.1, by simp only; omega⟩
          · rw [dec_f g2]
            simp only [Option.bind_some, cond_false, Sum.elim_inl]
            obtain ⟨ae, ah⟩ := app _ tm; rw [ae]; exact Ok.ret ah
        · rw [dec_f g1]
          simp only [Option.bind_some, cond_false, Sum.elim_inl]
          obtain ⟨ae, ah⟩ := app b ⟨q2, q3⟩; rw [ae]; exact Ok.ret ah
    · rw [dec_f hw]
      refine Ok.ret ⟨f, p', rfl, k2, k3, k4, by omega, fun h1 => ?_⟩
      cases f with
      | nil => simp [tot, isum] at k5; omega
      | cons q f => simp
  · obtain ⟨f, p', rfl, r1, r2⟩ := hr
    exact Ok.ret ⟨f, p', rfl, r1, r2⟩

/-! ### AuditParts -/
theorem merge_eq {f : List Pc} (hl : f.length ≤ 400) (h : ∀ p ∈ f, (0 ≤ p.1 ∧ p.1 ≤ 999) ∧ 0 ≤ p.2 ∧ p.2 ≤ 1000000) : ref14_Merge f = some (joinF f) := by
  have k := iter_for (step := fun x => ref14_Merge_L0 f x) f.length (fun i => (i : Int)) (e := .inl ()) (fun i hi => by
      have hq := h _ (gD_mem (d := pz) hi)
      unfold ref14_Merge_L0 ref14_Proper
      simp only [dec_t (show (i : Int) < (f.length : Int) by omega), cond_true, gd_t (inB_t hi), Int.toNat_natCast, show ((0, 0) : Pc) = pz from rfl, dec_t hq.1.1, dec_t (show (f.getD i pz).1 < 1000 by omega), Option.bind_some, Bool.not_true, cond_false, dec_f (show ¬ (f.getD i pz).2 < 0 by omega), dec_f (show ¬ 1000000 < (f.getD i pz).2 by omega)]
      rw [wi (by omega)]; rfl) (by
      unfold ref14_Merge_L0
      simp only [dec_f (show ¬ (f.length : Int) < (f.length : Int) by omega), cond_false])
  unfold ref14_Merge
  rw [dec_f (show ¬ (400 : Int) < (f.length : Int) by omega), show (0 : Int) = ((0 : Nat) : Int) from rfl, k]
  simp only [cond_false, Option.bind_some, Sum.elim_inl, (merged_eq (f := f) ⟨by omega, fun p hp => by have := h p hp; omega⟩).2]
theorem VF.mg {f : List Pc} (h : VF f) : ∀ p ∈ f, (0 ≤ p.1 ∧ p.1 ≤ 999) ∧ 0 ≤ p.2 ∧ p.2 ≤ 1000000 := fun p hp => by
  have h1 := h.norm.pos p hp
  have h2 := h.rng p hp
  omega
theorem VF.merge {f g : List Pc} (hf : VF f) (hg : VF g) : ref14_Merge (f ++ g) = some (joinF (f ++ g)) :=
  merge_eq (by have := hf.len; have := hg.len; simp; omega) fun p hp => (List.mem_append.1 hp).elim (hf.mg p) (hg.mg p)
theorem VF.join {f g : List Pc} (hf : VF f) (hg : VF g) : Norm (joinF (f ++ g)) ∧ exp (joinF (f ++ g)) = exp f ++ exp g := by
  have := joinF_ok (f := f ++ g) fun p hp => (List.mem_append.1 hp).elim (fun h => (hf.vol p h).1) (fun h => (hg.vol p h).1)
  rw [exp_app] at this
  exact this

theorem PushE.turn {f g F O : List Pc} {back : Bool} (h : PushE f g back F O) : PushE F O (!back) f g := by
  have hv := h.VF2
  refine ⟨hv.1, hv.2, h.vf.len, h.vg.len, h.vf.norm, h.vg.norm, fun hb => ?_, fun hb => ?_, h.eF.symm, h.eO.symm⟩
  · have := h.fw (by simpa using hb)
    exact this.symm
  · have := h.bk (by simpa using hb)
    exact this.symm
theorem PushE.join {f a b x y p q : List Pc} {back : Bool} (h : PushE f a back x p) (h' : PushE x b back y q) (ha : tot a ≤ 15) (hb : tot b ≤ 15) :
    PushE f (if back = true then joinF (a ++ b) else joinF (b ++ a)) back y (if back = true then joinF (p ++ q) else joinF (q ++ p)) := by
  have v1 := h.VF2
  have v2 := h'.VF2
  have ea := h.vg.elen
  have eb := h'.vg.elen
  have ep := h.eO
  have eq := h'.eO
  have eF := h.eF
  have eF' := h'.eF
  have ca := h.vg.batch
  have cb := h'.vg.batch
  cases back with
  | true =>
    obtain ⟨n1, x1⟩ := h.vg.join h'.vg
    obtain ⟨n2, x2⟩ := v1.2.join v2.2
    simp only [if_true]
    have l1 := norm_len n1.pos
    have l2 := norm_len n2.pos
    rw [x1, List.length_append] at l1
    rw [x2, List.length_append] at l2
    refine ⟨h.vf, VF.of (by omega) n1 (fun c hc => ?_) (by rw [x1, List.length_append]; omega), h'.lF, by omega, h'.nF, n2, fun _ => ?_, fun hb => (by cases hb), by omega, ?_⟩
    · rw [x1] at hc
      exact (List.mem_append.1 hc).elim (ca c) (cb c)
    · rw [x1, x2, List.append_assoc, h'.bk rfl, ← List.append_assoc, h.bk rfl, List.append_assoc]
    · rw [x1, x2, List.length_append, List.length_append]; omega
  | false =>
    obtain ⟨n1, x1⟩ := h'.vg.join h.vg
    obtain ⟨n2, x2⟩ := v2.2.join v1.2
    simp only [Bool.false_eq_true, if_false]
    have l1 := norm_len n1.pos
    have l2 := norm_len n2.pos
    rw [x1, List.length_append] at l1
    rw [x2, List.length_append] at l2
    refine ⟨h.vf, VF.of (by omega) n1 (fun c hc => ?_) (by rw [x1, List.length_append]; omega), h'.lF, by omega, h'.nF, n2, fun hb => (by cases hb), fun _ => ?_, by omega, ?_⟩
    · rw [x1] at hc
      exact (List.mem_append.1 hc).elim (cb c) (ca c)
    · rw [x1, x2, ← List.append_assoc, h'.fw rfl, List.append_assoc, h.fw rfl, List.append_assoc]
    · rw [x1, x2, List.length_append, List.length_append]; omega

theorem few_eq (l : List Int) : second_Few l = some (decide ((l.length : Int) ≤ 400)) := rfl
theorem parts_true {l : List Int} {back : Bool} (hl : ∀ x ∈ l, i64P x) : law45_AuditParts l back = some true := by
  refine Ok.true ?_
  have aw : Ok (law45_awake.bind fun r => some r) (fun b => b = true) := Ok.eq awake_true (Ok.ret rfl)
  unfold law45_AuditParts
  refine Ok.eq (few_eq l) (Ok.bif (fun _ => aw) fun _ => ?_)
  obtain ⟨s, hs, s0⟩ := new_eq hl
  refine Ok.eq hs ?_
  obtain ⟨v0, p1, a1, a2, a3, s1⟩ := range_eq (lo := 20) (hi := 200) s0 (by omega) (by omega) (by omega)
  refine Ok.eq a1 (Ok.bind (fill_eq s1 (by omega) (by omega)) ?_)
  rintro _ ⟨f, p2, rfl, s2, -, -, -⟩
  obtain ⟨v1, p3, b1, b2, b3, s3⟩ := range_eq (lo := 1) (hi := 15) s2 (by omega) (by omega) (by omega)
  refine Ok.eq b1 (Ok.bind (fill_eq s3 (by omega) (by omega)) ?_)
  rintro _ ⟨a, p4, rfl, s4, -, -, ta, -⟩
  obtain ⟨v2, p5, c1, c2, c3, s5⟩ := range_eq (lo := 1) (hi := 15) s4 (by omega) (by omega) (by omega)
  refine Ok.eq c1 (Ok.bind (fill_eq s5 (by omega) (by omega)) ?_)
  rintro _ ⟨b, p6, rfl, s6, -, -, tb, -⟩
  simp only
  refine Ok.eq (push_eq f a back).2 (Ok.eq (push_eq _ b back).2 ?_)
  obtain ⟨e1, x, p, h1⟩ : ∃ e x p, pushF f a back = (e, x, p) := ⟨_, _, _, rfl⟩
  rw [h1]
  obtain ⟨e2, y, q, h2⟩ : ∃ e y q, pushF x b back = (e, y, q) := ⟨_, _, _, rfl⟩
  simp only [h2]
  by_cases g1 : e1 = 0
  · rw [dec_t g1]
    by_cases g2 : e2 = 0
    · rw [dec_t g2]
      simp only [Bool.not_true, cond_false, Option.bind_some]
      subst g1 g2
      have P1 := push_iff.1 h1
      have P2 := push_iff.1 h2
      have v1 := P1.VF2
      have v2 := P2.VF2
      have P3 := P1.join P2 (by omega) (by omega)
      have P4 := P1.turn
      have lx := v1.1.len
      have lp := v1.2.len
      have ly := v2.1.len
      have lq := v2.2.len
      have la := P1.vg.len
      have lb := P2.vg.len
      refine Ok.eq (order_eq _ _ _ _ _).1 (Ok.eq (order_eq _ _ _ _ _).1 ?_)
      rw [order_true P1, order_true P2]
      refine Ok.gd (fits_t (by omega)) (Ok.gd (fits_t (by simp; omega)) ?_)
      rw [List.nil_append]
      refine Ok.eq (P2.vg.merge P1.vg) ?_
      refine Ok.gd (fits_t (by omega)) (Ok.gd (fits_t (by simp; omega)) ?_)
      rw [List.nil_append]
      refine Ok.eq (v2.2.merge v1.2) ?_
      refine Ok.bind (Q := fun z => z = ((if back = true then joinF (a ++ b) else joinF (b ++ a)), (if back = true then joinF (p ++ q) else joinF (q ++ p)), p, y)) ?_ ?_
      · cases back with
        | true =>
          simp only [cond_true, if_true]
          refine Ok.gd (fits_t (by omega)) (Ok.gd (fits_t (by simp; omega)) ?_)
          rw [List.nil_append]
          refine Ok.eq (P1.vg.merge P2.vg) ?_
          refine Ok.gd (fits_t (by omega)) (Ok.gd (fits_t (by simp; omega)) ?_)
          rw [List.nil_append]
          exact Ok.eq (v1.2.merge v2.2) (Ok.ret rfl)
        | false => exact Ok.ret rfl
      · rintro _ rfl
        simp only
        refine Ok.eq (order_eq _ _ _ _ _).1 (Ok.eq (order_eq _ _ _ _ _).1 ?_)
        rw [order_true P3, order_true P4]
        exact aw
    · rw [dec_f g2]; exact aw
  · rw [dec_f g1]; exact aw
end Go.Proofs.Ytnhaphgnpgaocaa
