/- Lines, words and numbers. No condition. -/
import Derived.Test.YtpgigbdefbeagaaGreatDoorPr8
namespace Go.Proofs.YtpgigbdefbeagaaGreatDoor
open Go Go.Sq
theorem qkg (t : Str) (f k : Nat) (hf : f ≤ k) (hk : k < t.length) : t.drop f = (t.take k).drop f ++ t.getD k 0 :: t.drop (k + 1) := by
 conv => lhs; rw [← List.take_append_drop k t]
 rw [List.drop_append_of_le_length (by simp; omega), List.drop_eq_getElem_cons hk, gD_eq hk]
theorem qg1 (t : Str) (f k : Nat) (hf : f ≤ k) (hk : k < t.length) : (t.take (k + 1)).drop f = (t.take k).drop f ++ [t.getD k 0] := by
 rw [qbe 0 hk, List.drop_append_of_le_length (by simp; omega)]
theorem ql5 (t : Str) (hl : t.length ≤ 1000000) : qeH t = some (lns t) := by
 unfold qeH
 have h : Ok (iter (fun x => qe7 t x.1 x.2.1 x.2.2) (0, 0, [])) (fun e => ∃ f : Nat, e.1 = (f : Int) ∧ f ≤ t.length ∧ lns t = e.2 ++ lns (t.drop f) ∧ (10 : UInt8) ∉ t.drop f ∧ e.2.length ≤ t.length) := by
  refine Ok.loop (fun x : Int × Int × List Str => ∃ f k : Nat, x.1 = (f : Int) ∧ x.2.1 = (k : Int) ∧ f ≤ k ∧ k ≤ t.length ∧ lns t = x.2.2 ++ lns (t.drop f) ∧ (10 : UInt8) ∉ (t.take k).drop f ∧ x.2.2.length ≤ k) (fun x => t.length - x.2.1.toNat) ⟨0, 0, rfl, rfl, by omega, by omega, by simp, by simp, by simp⟩ ?_
  rintro ⟨fr, i, out⟩ ⟨f, k, h1, h2, h3, h4, h5, h6, h7⟩
  simp only at h1 h2 h5 h7
  subst h1 h2
  unfold qe7
  simp only
  refine Ok.bif (fun hc => ?_) fun hc => ?_
  ·have hc := of_decide_eq_true hc
   have hk : k < t.length := by omega
   refine Ok.gd (inB_t hk) ?_
   rw [Int.toNat_natCast, eqU _ 10 10 rfl]
   cases hb : t.getD k 0 == 10 with
   | true =>
    rw [beq_iff_eq] at hb
    rw [cond_true, gd_t (inR_t h3 (by omega)), gd_t (qaz (by omega)), Option.bind_some, w1 (n := 1000001) (by omega) (by omega), Int.toNat_natCast]
    refine .ret ⟨⟨k + 1, k + 1, rfl, rfl, by omega, by omega, ?_, by simp, by simp; omega⟩, by simp only [Int.toNat_natCast]; omega⟩
    rw [h5, qkg t f k h3 hk, hb, qk7 _ h6, List.append_assoc]; rfl
   | false =>
    rw [beq_eq_false_iff_ne] at hb
    rw [cond_false, Option.bind_some, w1 (n := 1000001) (by omega) (by omega)]
    refine .ret ⟨⟨f, k + 1, rfl, rfl, by omega, by omega, h5, ?_, by simp only; omega⟩, by simp only [Int.toNat_natCast]; omega⟩
    rw [qg1 t f k h3 hk]
    simp only [List.mem_append, List.mem_singleton, not_or]
    exact ⟨h6, fun e => hb e.symm⟩
  ·have hc := of_decide_eq_false hc
   have : k = t.length := by omega
   subst this
   rw [List.take_length] at h6
   exact .ret ⟨f, rfl, h3, h5, h6, h7⟩
 obtain ⟨⟨fr, out⟩, e, f, h1, h2, h3, h4, h5⟩ := h
 simp only at h1 h3 h5
 subst h1
 rw [e, Option.bind_some]
 simp only
 rw [h3, qqe h4]
 by_cases hf : f < t.length
 ·rw [dec_t (show (f : Int) < (t.length : Int) by omega), cond_true, gd_t (by simp [cutG]; omega), gd_t (qaz (by omega)), Int.toNat_natCast, if_neg (fun e => by have := congrArg List.length e; simp at this; omega)]
 ·rw [dec_f (show ¬ (f : Int) < (t.length : Int) by omega), cond_false, if_pos (List.drop_of_length_le (by omega)), List.append_nil]
theorem qsB (s : Str) (hl : s.length ≤ 1000000) : qhR s = some (splB 32 s) := by
 unfold qhR
 suffices h : Ok (iter (fun x => qgl s x.1 x.2.1 x.2.2) (0, 0, [])) (fun e => e = splB 32 s) by rw [ok_eq h]; rfl
 refine Ok.loop (fun x : Int × Int × List Str => ∃ f k : Nat, x.1 = (f : Int) ∧ x.2.1 = (k : Int) ∧ ((f ≤ k ∧ k ≤ s.length ∧ splB 32 s = x.2.2 ++ splB 32 (s.drop f) ∧ (32 : UInt8) ∉ (s.take k).drop f ∧ x.2.2.length ≤ k) ∨ (k = s.length + 1 ∧ x.2.2 = splB 32 s))) (fun x => s.length + 1 - x.2.1.toNat) ⟨0, 0, rfl, rfl, .inl ⟨by omega, by omega, by simp, by simp, by simp⟩⟩ ?_
 rintro ⟨fr, i, out⟩ ⟨f, k, h1, h2, h3⟩
 simp only at h1 h2 h3
 subst h1 h2
 unfold qgl
 simp only
 rcases h3 with ⟨h3, h4, h5, h6, h7⟩ | ⟨h3, h4⟩
 ·rw [dec_t (show (k : Int) ≤ (s.length : Int) by omega), cond_true]
  by_cases hk : k = s.length
  ·rw [dec_t (show (k : Int) = (s.length : Int) by omega), cond_true, Option.bind_some]
   simp only
   rw [cond_true, gd_t (inR_t h3 h4), gd_t (qaz (by omega)), Option.bind_some, w1 (n := 1000001) (by omega) (by omega), Int.toNat_natCast, Int.toNat_natCast]
   refine .ret ⟨⟨k + 1, k + 1, rfl, rfl, .inr ⟨by omega, ?_⟩⟩, by simp only [Int.toNat_natCast]; omega⟩
   have e : (s.take k).drop f = s.drop f := by rw [hk, List.take_length]
   rw [e] at h6 ⊢
   rw [h5, qk5 h6]
  ·have hk : k < s.length := by omega
   rw [dec_f (show ¬ (k : Int) = (s.length : Int) by omega), cond_false, gd_t (inB_t hk), Option.bind_some, Int.toNat_natCast, eqU _ 32 32 rfl]
   simp only
   cases hb : s.getD k 0 == 32 with
   | true =>
    rw [beq_iff_eq] at hb
    rw [cond_true, gd_t (inR_t h3 h4), gd_t (qaz (by omega)), Option.bind_some, w1 (n := 1000001) (by omega) (by omega), Int.toNat_natCast]
    refine .ret ⟨⟨k + 1, k + 1, rfl, rfl, .inl ⟨by omega, by omega, ?_, by simp, by simp; omega⟩⟩, by simp only [Int.toNat_natCast]; omega⟩
    rw [h5, qkg s f k h3 hk, hb, qhW _ h6, List.append_assoc]; rfl
   | false =>
    rw [beq_eq_false_iff_ne] at hb
    rw [cond_false, Option.bind_some, w1 (n := 1000001) (by omega) (by omega)]
    refine .ret ⟨⟨f, k + 1, rfl, rfl, .inl ⟨by omega, by omega, h5, ?_, by simp only; omega⟩⟩, by simp only [Int.toNat_natCast]; omega⟩
    rw [qg1 s f k h3 hk]
    simp only [List.mem_append, List.mem_singleton, not_or]
    exact ⟨h6, fun e => hb e.symm⟩
 ·rw [dec_f (show ¬ (k : Int) ≤ (s.length : Int) by omega)]
  exact .ret h4
theorem qhm (w : List Str) (hl : ∀ s ∈ w, s.length ≤ 1000000) : qdR w = some (qa7 w) := by
 unfold qdR qa7
 by_cases h16 : 16 < w.length
 ·rw [dec_t (show 16 < (w.length : Int) by omega), show Nat.ble w.length 16 = false by rw [Bool.eq_false_iff, ne_eq, Nat.ble_eq]; omega]; rfl
 ·rw [dec_f (show ¬ 16 < (w.length : Int) by omega), cond_false, show Nat.ble w.length 16 = true by rw [Nat.ble_eq]; omega, Bool.true_and]
  have h1 : ∀ v, v < w.length → iter (fun x => qcd w (v : Int) x) 0 = some (bif (w.getD v []).all wch then .inl () else .inr false) := by
   intro v hv
   have hvl := hl _ (qaC (d := []) hv)
   refine scan (w.getD v []) 0 wch (fun i hi hq => ?_) (fun i hi hq => ?_) ?_
   ·obtain ⟨h1, h2⟩ := wch_t hq
    unfold qcd
    rw [gd_t (inB_t hv), gd_t (inB_t hv), gd_t (inB_t hv), Int.toNat_natCast, dec_t (show (i : Int) < ((w.getD v []).length : Int) by omega), cond_true, gd_t (inB_t hi), gd_t (inB_t hi), Int.toNat_natCast, lt33, h1, cond_false, gt126, h2, Option.bind_some, cond_false, w1 hi (by omega)]
   ·unfold qcd
    rw [gd_t (inB_t hv), gd_t (inB_t hv), gd_t (inB_t hv), Int.toNat_natCast, dec_t (show (i : Int) < ((w.getD v []).length : Int) by omega), cond_true, gd_t (inB_t hi), gd_t (inB_t hi), Int.toNat_natCast, lt33]
    rcases wch_f hq with h1 | ⟨h1, h2⟩
    ·rw [h1]; rfl
    ·rw [h1, cond_false, gt126, h2]; rfl
   ·unfold qcd
    rw [gd_t (inB_t hv), Int.toNat_natCast, dec_f (by omega)]; rfl
  have h2 : iter (fun x => qaQ w x) 0 = some (bif (List.range w.length).all (fun i => wordB (w.getD i []) && !(decide (i = 0) && (w.getD i []).headD 0 == 35)) then .inl () else .inr false) := by
   have step : ∀ i, i < w.length → qaQ w (i : Int) = some (bif wordB (w.getD i []) && !(decide (i = 0) && (w.getD i []).headD 0 == 35) then .inl ((i + 1 : Nat) : Int) else .inr (.inr false)) := by
    intro i hi
    unfold qaQ
    rw [dec_t (by omega), cond_true, gd_t (inB_t hi), gd_t (inB_t hi), Int.toNat_natCast, h1 i hi]
    cases hw : w.getD i [] with
    | nil => rfl
    | cons a r =>
     rw [dec_f (by simp), cond_false]
     unfold wordB
     by_cases h0 : i = 0
     ·subst h0
      rw [show decide (((0 : Nat) : Int) = 0) = true from rfl, cond_true, gd_t (inB0 (by simp)), eq35, show decide ((0 : Nat) = 0) = true from rfl, Bool.true_and]
      show (some ((a : UInt8) == 35)).bind _ = some (bif (List.all (a :: r) wch && !List.isEmpty (a :: r)) && !(a == 35) then _ else _)
      rw [Option.bind_some]
      cases a == 35 with
      | true => rw [Bool.not_true, Bool.and_false]; rfl
      | false =>
       rw [cond_false, Option.bind_some]
       cases (a :: r).all wch with
       | false => rfl
       | true => rw [cond_true]; simp only [Sum.elim_inl]; rw [w1 hi (by omega)]; rfl
     ·rw [dec_f (show ¬ ((i : Int) = 0) by omega), cond_false, Option.bind_some, cond_false, Option.bind_some, dec_f h0]
      cases (a :: r).all wch with
      | false => rfl
      | true => rw [cond_true]; simp only [Sum.elim_inl]; rw [w1 hi (by omega)]; rfl
   refine qci (step := fun x => qaQ w x) w.length (fun i => (i : Int)) _ (fun i hi _ hq => ?_) (fun i hi _ hq => ?_) (fun _ => ?_)
   ·show qaQ w (i : Int) = _
    rw [step i hi, hq]; rfl
   ·show qaQ w (i : Int) = _
    rw [step i hi, hq]; rfl
   ·show qaQ w (w.length : Int) = _
    unfold qaQ
    rw [dec_f (by omega)]; rfl
  rw [h2, Option.bind_some]
  have e : (List.range w.length).all (fun i => wordB (w.getD i []) && !(decide (i = 0) && (w.getD i []).headD 0 == 35)) = (w.all wordB && !((w.headD []).headD 0 == 35)) := by
   rw [Bool.eq_iff_iff, qhF, Bool.and_eq_true, ← qlW w [] wordB, qhF]
   constructor
   ·intro h
    refine ⟨fun i hi => by have := h i hi; rw [Bool.and_eq_true] at this; exact this.1, ?_⟩
    cases w with
    | nil => rfl
    | cons a r =>
     have := h 0 (by simp)
     rw [Bool.and_eq_true, dec_t rfl, Bool.true_and] at this
     exact this.2
   ·rintro ⟨h3, h4⟩ i hi
    rw [Bool.and_eq_true]
    refine ⟨h3 i hi, ?_⟩
    by_cases h0 : i = 0
    ·subst h0
     rw [dec_t rfl, Bool.true_and]
     cases w with
     | nil => simp at hi
     | cons a r => exact h4
    ·rw [dec_f h0]; rfl
  rw [e]
  cases (w.all wordB && !((w.headD []).headD 0 == 35)) <;> rfl
theorem qla : ∀ {s x : Str}, x ∈ lns s → x.length ≤ s.length
 | [], x, h => by simp [lns] at h
 | b :: l, x, h => by
  unfold lns at h
  cases hb : b == (10 : UInt8) with
  | true =>
   rw [hb] at h
   rcases List.mem_cons.1 h with rfl | h
   ·simp
   ·have := qla h; simp; omega
  | false =>
   rw [hb] at h
   simp only [cond_false] at h
   split at h
   ·simp at h; subst h; simp
   ·rename_i q t hs
    rcases List.mem_cons.1 h with rfl | h
    ·have := qla (s := l) (x := q) (by rw [hs]; simp)
     simp; omega
    ·have := qla (s := l) (x := x) (by rw [hs]; simp [h])
     simp; omega
theorem qqs (t : Str) (hl : t.length ≤ 1000000) : qfD t = some (qax t) := by
 unfold qfD qax
 by_cases h1 : 16384 < t.length
 ·rw [dec_t (show 16384 < (t.length : Int) by omega), show Nat.blt 16384 t.length = true by rw [Nat.blt_eq]; exact h1]; rfl
 ·rw [dec_f (show ¬ 16384 < (t.length : Int) by omega), cond_false, show Nat.blt 16384 t.length = false by rw [Bool.eq_false_iff, ne_eq, Nat.blt_eq]; exact h1, Bool.false_or, ql5 t hl, Option.bind_some]
  by_cases h2 : 400 < (lns t).length
  ·rw [dec_t (show 400 < ((lns t).length : Int) by omega), show Nat.blt 400 (lns t).length = true by rw [Nat.blt_eq]; exact h2]; rfl
  ·rw [dec_f (show ¬ 400 < ((lns t).length : Int) by omega), cond_false, show Nat.blt 400 (lns t).length = false by rw [Bool.eq_false_iff, ne_eq, Nat.blt_eq]; exact h2, cond_false]
   have hm : ∀ x ∈ lns t, x.length ≤ 1000000 := fun x hx => Nat.le_trans (qla hx) hl
   generalize lns t = r at h2 hm
   suffices h : Ok (iter (fun x => qe9 r x.1 x.2.1 x.2.2) (0, r, [])) (fun e => match qb2 r with
     | some l => e = .inl l
     | none => e = .inr ([], 3)) by
    obtain ⟨e, h3, h4⟩ := h
    rw [h3, Option.bind_some]
    cases hm : qb2 r with
    | none => rw [hm] at h4; rw [h4]; rfl
    | some l => rw [hm] at h4; rw [h4]; rfl
   refine Ok.loop (fun x : Int × List Str × List (List Str) => ∃ k : Nat, x.1 = (k : Int) ∧ k ≤ r.length ∧ x.2.1 = r ∧ qb2 r = (qb2 (r.drop k)).map (x.2.2 ++ ·) ∧ x.2.2.length ≤ k) (fun x => r.length - x.1.toNat) ⟨0, rfl, by omega, rfl, ?_, by simp⟩ ?_
   ·show _ = (qb2 r).map ([] ++ ·)
    cases qb2 r <;> simp
   rintro ⟨v, l, out⟩ ⟨k, g0, g1, g2, g3, g4⟩
   simp only at g0 g2 g3 g4
   subst g0 g2
   unfold qe9
   simp only
   refine Ok.bif (fun hc => ?_) fun hc => ?_
   ·have hc := of_decide_eq_true hc
    have hk : k < l.length := by omega
    have hX := hm _ (qaC (d := []) hk)
    rw [List.drop_eq_getElem_cons hk, ← gD_eq (d := []) hk] at g3
    rw [Int.toNat_natCast]
    generalize hXe : l.getD k [] = X at hX g3
    have e1 : (gd (inB (k : Int) l.length) <| bif decide (X = []) then some (true, l, out) else gd (inB (k : Int) l.length) <| gd (inB 0 X.length) <| some (decide ((Int.ofNat (X.getD 0 0).toNat) = 35), l, out)) = some (X.isEmpty || X.headD 0 == 35, l, out) := by
     rw [gd_t (inB_t hk), gd_t (inB_t hk)]
     cases X with
     | nil => rfl
     | cons a q => rw [dec_f (by simp), cond_false, gd_t (inB0 (by simp)), eq35]; rfl
    rw [e1, Option.bind_some]
    simp only
    rw [qhl] at g3
    unfold qkd at g3
    cases hc : X.isEmpty || X.headD 0 == 35 with
    | true =>
     rw [hc] at g3
     rw [cond_true, gd_t (qaz (by omega)), Option.bind_some]
     simp only [Sum.elim_inl]
     rw [w1 hk (by omega)]
     refine .ret ⟨⟨k + 1, rfl, by omega, rfl, ?_, by simp; omega⟩, by simp only [Int.toNat_natCast]; omega⟩
     rw [g3]
     simp only [cond_true]
     cases qb2 (l.drop (k + 1)) <;> simp
    | false =>
     rw [hc] at g3
     rw [cond_false, gd_t (inB_t hk), hXe, qsB X hX, Option.bind_some, qhm _ (fun s hs => Nat.le_trans (qgE hs) hX), Option.bind_some]
     have hpw : qa7 (splB 32 X) = qgr (splB 32 X) := by
      unfold qgr
      cases hs : splB 32 X with
      | nil => exact absurd hs (qjC _ _)
      | cons => rfl
     rw [hpw]
     cases hw : qgr (splB 32 X) with
     | false =>
      rw [hw] at g3
      refine .ret ?_
      rw [g3]; rfl
     | true =>
      rw [hw] at g3
      rw [Bool.not_true, cond_false, gd_t (qaz (by omega)), Option.bind_some]
      simp only [Sum.elim_inl]
      rw [w1 hk (by omega)]
      refine .ret ⟨⟨k + 1, rfl, by omega, rfl, ?_, by simp; omega⟩, by simp only [Int.toNat_natCast]; omega⟩
      rw [g3]
      simp only [cond_true, cond_false]
      cases qb2 (l.drop (k + 1)) <;> simp
   ·have hc := of_decide_eq_false hc
    have : k = l.length := by omega
    subst this
    refine .ret ?_
    rw [g3]
    simp [qb2]
theorem qrq (w : List Str) (hl : szW w ≤ 1000000000) : qgD w = some (joinS w) := by
 unfold qgD
 suffices h : Ok (iter (fun x => qfA w x.1 x.2) ([], 0)) (fun e => e = joinS w) by rw [ok_eq h]; rfl
 refine Ok.loop (fun x : Str × Int => ∃ k : Nat, x.2 = (k : Int) ∧ k ≤ w.length ∧ x.1 = joinS (w.take k)) (fun x => w.length - x.2.toNat) ⟨0, rfl, by omega, rfl⟩ ?_
 rintro ⟨s, v⟩ ⟨k, h1, h2, h3⟩
 simp only at h1 h3
 subst h1 h3
 unfold qfA
 simp only
 unfold szW at hl
 have hb : (joinS (w.take k)).length ≤ sumL w + w.length := by
  have := qk9 (w.take k)
  have := ql0 w k
  have : (w.take k).length ≤ w.length := by simp; omega
  omega
 refine Ok.bif (fun hc => ?_) fun hc => ?_
 ·have hc := of_decide_eq_true hc
  have hk : k < w.length := by omega
  have hX : (w.getD k []).length ≤ sumL w := by
   have := ql0 w (k + 1)
   rw [qbe [] hk, qnX] at this
   have e : sumL [w.getD k []] = (w.getD k []).length := by simp [sumL]
   omega
  by_cases h0 : k = 0
  ·subst h0
   rw [dec_f (show ¬ (0 : Int) < ((0 : Nat) : Int) by omega), cond_false, Option.bind_some, gd_t (inB_t hk), gd_t (Nat.ble_eq_true_of_le (by rw [Int.toNat_natCast]; omega)), w1 hk (by omega)]
   refine .ret ⟨⟨1, rfl, by omega, ?_⟩, by simp only [Int.toNat_natCast]; omega⟩
   rw [qbe [] hk, Int.toNat_natCast]
   simp [joinS, Lib.join, List.intercalate]
  ·rw [dec_t (show (0 : Int) < (k : Int) by omega), cond_true, gd_t (Nat.ble_eq_true_of_le (by show (joinS (w.take k)).length + 1 ≤ _; omega)), Option.bind_some, gd_t (inB_t hk), gd_t (Nat.ble_eq_true_of_le (by rw [Int.toNat_natCast, List.length_append]; show (joinS (w.take k)).length + 1 + _ ≤ _; omega)), w1 hk (by omega)]
   refine .ret ⟨⟨k + 1, rfl, by omega, ?_⟩, by simp only [Int.toNat_natCast]; omega⟩
   have hne : w.take k ≠ [] := by intro e; have := congrArg List.length e; rw [List.length_take, List.length_nil] at this; omega
   rw [qbe [] hk, qke _ hne, Int.toNat_natCast, List.append_assoc]; rfl
 ·have hc := of_decide_eq_false hc
  have : k = w.length := by omega
  subst this
  exact .ret (by rw [List.take_length])
theorem qrr (l : List (List Str)) (hb : BJ l) : qfi l = some (qeZ l) := by
 unfold qfi qeZ
 by_cases h1 : 400 < l.length
 ·rw [dec_t (show 400 < (l.length : Int) by omega), show Nat.blt 400 l.length = true by rw [Nat.blt_eq]; exact h1]; rfl
 ·rw [dec_f (show ¬ 400 < (l.length : Int) by omega), cond_false, show Nat.blt 400 l.length = false by rw [Bool.eq_false_iff, ne_eq, Nat.blt_eq]; exact h1, cond_false]
  have h2 : iter (fun x => qdn l x) 0 = some (bif l.all qa7 then .inl () else .inr ([], 3)) := by
   refine scan l [] qa7 (fun i hi hq => ?_) (fun i hi hq => ?_) ?_
   ·unfold qdn
    rw [dec_t (by omega), cond_true, gd_t (inB_t hi), Int.toNat_natCast, qhm _ (hb _ (qaC hi)).2, Option.bind_some, hq, Bool.not_true, cond_false, w1 hi (by omega)]
   ·unfold qdn
    rw [dec_t (by omega), cond_true, gd_t (inB_t hi), Int.toNat_natCast, qhm _ (hb _ (qaC hi)).2, Option.bind_some, hq]; rfl
   ·unfold qdn
    rw [dec_f (by omega)]; rfl
  rw [h2, Option.bind_some]
  cases ha : l.all qa7 with
  | false => rfl
  | true =>
   simp only [cond_true, Sum.elim_inl, Bool.not_true, cond_false]
   have hpr : ∀ k, k < l.length → qa7 (l.getD k []) = true := fun k hk => List.all_eq_true.1 ha _ (qaC hk)
   suffices h : Ok (iter (fun x2 => qfB l x2.1 x2.2) ([], 0)) (fun e => if 16384 < (txt l).length then e = .inr ([], 4) else e = .inl (txt l)) by
    obtain ⟨e, h3, h4⟩ := h
    rw [h3, Option.bind_some]
    by_cases h5 : 16384 < (txt l).length
    ·rw [if_pos h5] at h4; rw [h4, show Nat.blt 16384 (txt l).length = true by rw [Nat.blt_eq]; exact h5]; rfl
    ·rw [if_neg h5] at h4; rw [h4, show Nat.blt 16384 (txt l).length = false by rw [Bool.eq_false_iff, ne_eq, Nat.blt_eq]; exact h5]; rfl
   refine Ok.loop (fun x : Str × Int => ∃ k : Nat, x.2 = (k : Int) ∧ k ≤ l.length ∧ x.1 = txt (l.take k) ∧ x.1.length ≤ 16384) (fun x => l.length - x.2.toNat) ⟨0, rfl, by omega, rfl, by simp⟩ ?_
   rintro ⟨s, v⟩ ⟨k, g1, g2, g3, g4⟩
   simp only at g1 g3 g4
   subst g1 g3
   unfold qfB
   simp only
   refine Ok.bif (fun hc => ?_) fun hc => ?_
   ·have hc := of_decide_eq_true hc
    have hk : k < l.length := by omega
    have hsz := qqm (hpr k hk) (hb _ (qaC hk)).2
    refine Ok.gd (inB_t hk) ?_
    rw [Int.toNat_natCast]
    refine Ok.eq (qrq _ (by omega)) ?_
    have hj : (joinS (l.getD k [])).length ≤ 17000000 := by have := qk9 (l.getD k []); unfold szW at hsz; omega
    refine Ok.gd (Nat.ble_eq_true_of_le (by show (joinS (l.getD k [])).length + 1 ≤ _; omega)) ?_
    refine Ok.gd (Nat.ble_eq_true_of_le (by rw [List.length_append]; show _ + ((joinS (l.getD k [])).length + 1) ≤ _; omega)) ?_
    have e : txt (l.take k) ++ (joinS (l.getD k []) ++ [10]) = txt (l.take (k + 1)) := by rw [qbe [] hk, qqk, qsy]
    rw [e]
    refine Ok.bif (fun hc => ?_) fun hc => ?_
    ·have hc := of_decide_eq_true hc
     have := qrn l (k + 1)
     exact .ret (by dsimp only; rw [if_pos (by omega)])
    ·have hc := of_decide_eq_false hc
     rw [w1 hk (by omega)]
     exact .ret ⟨⟨k + 1, rfl, by omega, rfl, by simp only; omega⟩, by simp only [Int.toNat_natCast]; omega⟩
   ·have hc := of_decide_eq_false hc
    have : k = l.length := by omega
    subst this
    rw [List.take_length] at g4 ⊢
    exact .ret (by dsimp only; rw [if_neg (by omega)])
theorem ql6 : ∀ (a b : Str) (acc : Nat), valD acc (a ++ b) = valD (valD acc a) b
 | [], _, _ => rfl
 | _ :: a, b, _ => ql6 a b _
theorem qqt (s : Str) (k : Nat) : valD 0 (s.take k) ≤ valD 0 s := by
 have := ql6 (s.take k) (s.drop k) 0
 rw [List.take_append_drop] at this
 rw [this]; exact qnc _ _
theorem qs9 (r : Str) (h : r.length ≤ 1000000) : iter (fun x => qce r x) 0 = some (bif r.all dig then .inl () else .inr (0, 3)) := by
 refine scan r 0 dig (fun i hi hq => ?_) (fun i hi hq => ?_) ?_
 ·simp only [dig, Bool.and_eq_true, Nat.ble_eq] at hq
  unfold qce
  rw [dec_t (by omega), cond_true, gd_t (inB_t hi), gd_t (inB_t hi), Int.toNat_natCast, dec_f (by simp only [Int.ofNat_eq_natCast]; omega), cond_false, dec_f (by simp only [Int.ofNat_eq_natCast]; omega), Option.bind_some, cond_false, w1 hi (by omega)]
 ·have hq : ¬ (48 ≤ (r.getD i 0).toNat ∧ (r.getD i 0).toNat ≤ 57) := by
   intro h; rw [show dig (r.getD i 0) = true by simp only [dig, Bool.and_eq_true, Nat.ble_eq]; exact h] at hq; cases hq
  unfold qce
  rw [dec_t (by omega), cond_true, gd_t (inB_t hi), gd_t (inB_t hi), Int.toNat_natCast]
  by_cases h48 : (r.getD i 0).toNat < 48
  ·rw [dec_t (by simp only [Int.ofNat_eq_natCast]; omega)]; rfl
  ·rw [dec_f (by simp only [Int.ofNat_eq_natCast]; omega), cond_false, dec_t (by simp only [Int.ofNat_eq_natCast]; omega)]; rfl
 ·unfold qce
  rw [dec_f (by omega)]; rfl
theorem qta (r : Str) (h : r.length ≤ 1000000) (hd : r.all dig = true) : iter (fun x2 => qeI r x2.1 x2.2) (0, 0) = some (bif decide (9007199254740992 < valD 0 r) then .inr (0, 1) else .inl (valD 0 r : Int)) := by
 refine ok_eq ?_
 refine Ok.loop (fun x : Int × Int => ∃ k : Nat, x.2 = (k : Int) ∧ k ≤ r.length ∧ x.1 = (valD 0 (r.take k) : Int) ∧ valD 0 (r.take k) ≤ 9007199254740992) (fun x => r.length - x.2.toNat) ?_ ?_
 ·refine ⟨0, ?_, ?_, ?_, ?_⟩
  ·rfl
  ·exact Nat.zero_le _
  ·rfl
  ·show valD 0 [] ≤ _
   unfold valD
   exact Nat.zero_le _
 rintro ⟨n, v⟩ ⟨k, g1, g2, g3, g4⟩
 simp only at g1 g3
 subst g1 g3
 unfold qeI
 simp only
 refine Ok.bif (fun hc => ?_) fun hc => ?_
 ·have hc := of_decide_eq_true hc
  have hk : k < r.length := by omega
  have hdk : dig (r.getD k 0) = true := List.all_eq_true.1 hd _ (qaC hk)
  simp only [dig, Bool.and_eq_true, Nat.ble_eq] at hdk
  have hv : valD 0 (r.take (k + 1)) = valD 0 (r.take k) * 10 + ((r.getD k 0).toNat - 48) := by rw [qbe 0 hk, qhV]
  have e1 : wi64 ((wi64 ((valD 0 (r.take k) : Int) * 10)) + (wi64 (wu8 ((Int.ofNat (r.getD k 0).toNat) - 48)))) = (valD 0 (r.take (k + 1)) : Int) := by
   rw [show wu8 ((Int.ofNat (r.getD k 0).toNat) - 48) = (((r.getD k 0).toNat - 48 : Nat) : Int) by rw [show wu8 ((Int.ofNat (r.getD k 0).toNat) - 48) = (Int.ofNat (r.getD k 0).toNat) - 48 from IntWalk.u8_in _ (by simp only [Int.ofNat_eq_natCast]; omega)]; simp only [Int.ofNat_eq_natCast]; omega]
   rw [wi (n := (valD 0 (r.take k) : Int) * 10) (by omega), wi (n := (((r.getD k 0).toNat - 48 : Nat) : Int)) (by omega), wi (by omega), hv]; omega
  refine Ok.gd (inB_t hk) ?_
  rw [Int.toNat_natCast, e1]
  have hmono := qqt r (k + 1)
  refine Ok.bif (fun hb => ?_) fun hb => ?_
  ·have hb := of_decide_eq_true hb
   refine .ret ?_
   dsimp only
   rw [dec_t (show 9007199254740992 < valD 0 r by omega)]; rfl
  ·have hb := of_decide_eq_false hb
   rw [w1 hk (by omega)]
   exact .ret ⟨⟨k + 1, rfl, by omega, rfl, by omega⟩, by simp only [Int.toNat_natCast]; omega⟩
 ·have hc := of_decide_eq_false hc
  have : k = r.length := by omega
  subst this
  refine .ret ?_
  dsimp only
  rw [List.take_length] at g4 ⊢
  rw [dec_f (show ¬ 9007199254740992 < valD 0 r by omega)]; rfl
theorem qsC (s : Str) (h : s.length ≤ 1000000) : qeY s = some (qfG s) := by
 have hl : (dgs s).length ≤ s.length := by
  cases s with
  | nil => exact Nat.le_refl _
  | cons c r => rw [qfF]; cases c == 45 <;> simp
 unfold qeY
 have e1 : (bif decide (0 < (s.length : Int)) then (gd (inB 0 s.length) <| some (decide ((Int.ofNat (s.getD 0 0).toNat) = 45))) else some false) = some (mns s) := by
  cases s with
  | nil => rfl
  | cons c r => rw [dec_t (by simp), cond_true, gd_t (inB0 (by simp)), eqU _ 45 45 rfl]; rfl
 rw [e1, Option.bind_some]
 have e2 : (bif mns s then (gd (cutG (some (.i64, 1)) none s.length) <| some (s.drop 1)) else some s) = some (dgs s) := by
  cases s with
  | nil => rfl
  | cons c r =>
   rw [qfF]
   show (bif c == 45 then _ else _) = _
   cases c == 45 with
   | true => rw [cond_true, gd_t (by simp [cutG]; omega)]; rfl
   | false => rfl
 rw [e2, Option.bind_some]
 have hx : (decide (1 < ((dgs s).length : Int)) || mns s) = !decide (s = [48]) ∨ (dgs s).headD 0 ≠ 48 := by
  by_cases h48 : (dgs s).headD 0 = 48
  ·left
   cases s with
   | nil => cases h48
   | cons c r =>
    rw [qfF] at h48 ⊢
    show (decide _ || (c == 45)) = _
    cases hc : c == 45 with
    | true =>
     rw [beq_iff_eq] at hc; subst hc
     rw [Bool.or_true, dec_f (by simp)]; rfl
    | false =>
     rw [hc, cond_false] at h48
     have h48' : c = 48 := h48
     subst h48'
     rw [cond_false, Bool.or_false]
     cases r with
     | nil => rfl
     | cons d q => rw [dec_t (by simp; omega), dec_f (by simp)]; rfl
  ·exact .inr h48
 have e3 : (bif decide (dgs s = []) then some true else (gd (inB 0 (dgs s).length) <| bif decide ((Int.ofNat ((dgs s).getD 0 0).toNat) = 48) then (bif decide (1 < ((dgs s).length : Int)) then some true else some (mns s)) else some false)) = some ((dgs s).isEmpty || ((dgs s).headD 0 == 48 && !decide (s = [48]))) := by
  cases hd : dgs s with
  | nil => rfl
  | cons c r =>
   rw [hd] at hx
   rw [dec_f (by simp), cond_false, gd_t (inB0 (by simp)), eqU _ 48 48 rfl]
   simp only [List.isEmpty_cons, Bool.false_or, List.headD_cons, List.getD_cons_zero] at hx ⊢
   cases hc : c == 48 with
   | false => rfl
   | true =>
    rw [beq_iff_eq] at hc
    rcases hx with hx | hx
    ·rw [← hx, cond_true, Bool.true_and]
     cases decide (1 < ((c :: r).length : Int)) <;> rfl
    ·exact absurd hc hx
 rw [e3, Option.bind_some]
 unfold qfG
 cases hc : (dgs s).isEmpty || ((dgs s).headD 0 == 48 && !decide (s = [48])) with
 | true => rfl
 | false =>
  rw [cond_false, qs9 _ (by omega), Option.bind_some]
  cases hd : (dgs s).all dig with
  | false => rfl
  | true =>
   simp only [cond_true, Sum.elim_inl, Bool.false_or, Bool.not_true, cond_false]
   rw [qta _ (by omega) hd, Option.bind_some]
   by_cases hv : 9007199254740992 < valD 0 (dgs s)
   ·rw [dec_t hv]; rfl
   ·rw [dec_f hv]
    simp only [cond_false, Sum.elim_inl]
    cases mns s with
    | true => rw [cond_true, wi (by omega), Option.bind_some, cond_true, show (0 : Int) - (valD 0 (dgs s) : Int) = -(valD 0 (dgs s) : Int) by omega]
    | false => rfl
/-! ### Names -/
end Go.Proofs.YtpgigbdefbeagaaGreatDoor
namespace Go.Proofs.YtpgigbdefbeagaaGreatDoor
open Go Go.Sq
theorem ql7 (s : Int × List UInt8) (hs : s.2.length ≤ 1) (n : Nat) (acc : List UInt8) (hn : n < 1000000000000000000) (hacc : acc.length ≤ 100) :
  qcm s (n : Int) acc = bif decide (n < 10) then some (.inr (s.2 ++ (chr n :: acc))) else some (.inl (((n / 10 : Nat) : Int), chr n :: acc)) := by
 have e1 : Int.tmod (n : Int) 10 = ((n % 10 : Nat) : Int) := by rw [Int.tmod_eq_emod_of_nonneg (by omega)]; omega
 have e2 : Int.tdiv (n : Int) 10 = ((n / 10 : Nat) : Int) := by rw [Int.tdiv_eq_ediv_of_nonneg (by omega)]; omega
 have e3 : qa2 [wu8 (wi64 (48 + Int.tmod (n : Int) 10))] = [chr n] := by
  rw [e1, wi (by omega), show wu8 (48 + ((n % 10 : Nat) : Int)) = 48 + ((n % 10 : Nat) : Int) from IntWalk.u8_in _ (by omega)]
  show [UInt8.ofNat (48 + ((n % 10 : Nat) : Int)).toNat] = [UInt8.ofNat (48 + n % 10)]
  rw [show (48 + ((n % 10 : Nat) : Int)).toNat = 48 + n % 10 by omega]
 unfold qcm
 simp only [e3, e2]
 rw [gd_t (Nat.ble_eq_true_of_le (by simp; omega)), wi (by omega)]
 by_cases h : n < 10
 ·rw [dec_t (show ((n / 10 : Nat) : Int) ≤ 0 by omega), dec_t h, cond_true, cond_true, gd_t (Nat.ble_eq_true_of_le (by simp; omega))]; rfl
 ·rw [dec_f (show ¬ ((n / 10 : Nat) : Int) ≤ 0 by omega), dec_f h]; rfl
theorem ql8 (s : Int × List UInt8) (hs : s.2.length ≤ 1) : ∀ (m n : Nat) (acc : List UInt8), n < 10 ^ (m + 1) → acc.length + m ≤ 17 → ∃ D, Digs n D ∧ D.length ≤ m + 1 ∧ iter (fun x => qcm s x.1 x.2) ((n : Int), acc) = some (s.2 ++ (D ++ acc)) := by
 intro m
 induction m with
 | zero =>
  intro n acc hn hacc
  have hn : n < 10 := by simpa using hn
  refine ⟨[chr n], ⟨by simp, ?_, ?_, ?_, ?_⟩, by simp, ?_⟩
  ·rw [List.all_cons, qk4]; rfl
  ·show 0 * 10 + ((chr n).toNat - 48) = n
   rw [qid]; omega
  ·intro h0 he
   have h2 := congrArg UInt8.toNat (show chr n = 48 from he)
   rw [qid] at h2
   have : (48 : UInt8).toNat = 48 := rfl
   omega
  ·rintro rfl; rfl
  ·refine qdD ?_
   show qcm s (n : Int) acc = _
   rw [ql7 s hs n acc (by omega) (by omega), dec_t hn]; rfl
 | succ m ih =>
  intro n acc hn hacc
  have hb : n < 1000000000000000000 := Nat.lt_of_lt_of_le hn (Nat.le_trans (Nat.pow_le_pow_right (by decide) (show m + 1 + 1 ≤ 18 by omega)) (by decide))
  by_cases h10 : n < 10
  ·obtain ⟨D, h1, h2, h3⟩ := ih n acc (Nat.lt_of_lt_of_le h10 (Nat.le_self_pow (by omega) 10)) (by omega)
   exact ⟨D, h1, by omega, h3⟩
  ·obtain ⟨D, h1, h2, h3⟩ := ih (n / 10) (chr n :: acc) (by rw [Nat.pow_succ] at hn; exact Nat.div_lt_of_lt_mul (by rw [Nat.mul_comm]; exact hn)) (by simp; omega)
   refine ⟨D ++ [chr n], ⟨by simp, ?_, ?_, ?_, by omega⟩, by simp; omega, ?_⟩
   ·rw [List.all_append, h1.all, List.all_cons, qk4]; rfl
   ·rw [qhV, h1.val, qid]; omega
   ·intro _
    have := h1.hd (by omega)
    have hne := h1.ne
    cases D with
    | nil => exact absurd rfl hne
    | cons a r => exact this
   ·refine (qee (y := (((n / 10 : Nat) : Int), chr n :: acc)) ?_).trans ?_
    ·show qcm s (n : Int) acc = _
     rw [ql7 s hs n acc hb (by omega), dec_f h10]; rfl
    ·rw [h3, List.append_assoc]; rfl
theorem qsD (k : Int) (h1 : -9999999999999999 ≤ k) (h2 : k ≤ 9999999999999999) : ∃ D, Digs k.natAbs D ∧ D.length ≤ 16 ∧ qfh k = some (if k < 0 then 45 :: D else D) := by
 unfold qfh
 by_cases hk : k < 0
 ·rw [dec_t hk, cond_true, Option.bind_some]
  obtain ⟨D, d1, d2, d3⟩ := ql8 (wi64 (0 - k), [45]) (by simp) 15 k.natAbs [] (by omega) (by simp)
  refine ⟨D, d1, by omega, ?_⟩
  have e : wi64 (0 - k) = (k.natAbs : Int) := by rw [wi (by omega)]; omega
  rw [e] at d3 ⊢
  rw [if_pos hk, d3, List.append_nil]; rfl
 ·rw [dec_f hk, cond_false, Option.bind_some]
  obtain ⟨D, d1, d2, d3⟩ := ql8 (k, []) (by simp) 15 k.natAbs [] (by omega) (by simp)
  refine ⟨D, d1, by omega, ?_⟩
  have e : ((k.natAbs : Nat) : Int) = k := by omega
  rw [e] at d3
  rw [if_neg hk, d3, List.append_nil]; rfl
theorem qqu : ∀ (l : List UInt8) (acc : Nat), acc * 10 ^ l.length ≤ valD acc l
 | [], acc => by rw [List.length_nil, Nat.pow_zero, Nat.mul_one]; exact Nat.le_refl _
 | c :: r, acc => by
  have h := qqu r (acc * 10 + (c.toNat - 48))
  show acc * 10 ^ (r.length + 1) ≤ valD (acc * 10 + (c.toNat - 48)) r
  have h2 : acc * 10 * 10 ^ r.length ≤ (acc * 10 + (c.toNat - 48)) * 10 ^ r.length := Nat.mul_le_mul_right _ (by omega)
  rw [Nat.pow_succ, Nat.mul_comm (10 ^ r.length) 10, ← Nat.mul_assoc]
  omega
theorem qqv {c : UInt8} (h : dig c = true) : 48 ≤ c.toNat ∧ c.toNat ≤ 57 := by
 unfold dig at h
 simpa only [Bool.and_eq_true, Nat.ble_eq] using h
theorem qqw : ∀ (n : Nat) (D : List UInt8), Digs n D → D = Lib.decDigits n := by
 intro n
 induction n using Nat.strongRecOn with
 | ind n ih =>
  intro D h
  rcases List.eq_nil_or_concat D with rfl | ⟨E, c, rfl⟩
  ·exact absurd rfl h.ne
  ·rw [List.concat_eq_append] at h ⊢
   have hall := h.all
   rw [List.all_append, Bool.and_eq_true] at hall
   have hc : dig c = true := by simpa using hall.2
   obtain ⟨c1, c2⟩ := qqv hc
   have hv := h.val
   rw [qhV] at hv
   have hcc : UInt8.ofNat (48 + (c.toNat - 48)) = c := by rw [show 48 + (c.toNat - 48) = c.toNat by omega]; simp
   cases hE : E with
   | nil =>
    subst hE
    have hv' : 0 * 10 + (c.toNat - 48) = n := hv
    rw [Lib.decDigits_one (by omega), show n = c.toNat - 48 by omega, hcc]; rfl
   | cons a r =>
    have hn0 : n ≠ 0 := by
     intro e
     have := h.z e
     rw [hE] at this
     simp at this
    have hhd : a ≠ 48 := by
     have := h.hd (by omega)
     rw [hE] at this
     simpa using this
    have hea : dig a = true := by
     have := hall.1
     rw [hE] at this
     simp only [List.all_cons, Bool.and_eq_true] at this
     exact this.1
    obtain ⟨a1, a2⟩ := qqv hea
    have ha48 : a.toNat ≠ 48 := fun e => hhd (by rw [← UInt8.toNat_inj]; exact e)
    have hval : 1 ≤ valD 0 E := by
     rw [hE]
     have := qqu r (0 * 10 + (a.toNat - 48))
     have h1 : 1 ≤ (0 * 10 + (a.toNat - 48)) * 10 ^ r.length := Nat.one_le_iff_ne_zero.2 (Nat.mul_ne_zero (by omega) (Nat.ne_of_gt (Nat.pow_pos (by omega))))
     show 1 ≤ valD (0 * 10 + (a.toNat - 48)) r
     omega
    have hdE : Digs (n / 10) E := by
     refine ⟨by rw [hE]; simp, hall.1, by omega, fun _ => by rw [hE]; exact hhd, fun e => by omega⟩
    have := ih (n / 10) (by omega) E hdE
    rw [← hE, Lib.decDigits, dif_neg (by omega), ← this, show n % 10 = c.toNat - 48 by omega, hcc]
theorem sN {n : Int} {s : List Int} {p : Int} (h : SrcOk s p) (h1 : 1 ≤ n) (h2 : n ≤ 4611686018427387904) : Ok (qas n s p) fun q => SrcOk q.2.1 q.2.2 ∧ 0 ≤ q.1 ∧ q.1 < n :=
 (srcN h h1 h2).mono fun q ⟨e, hq, a, b⟩ => ⟨by rw [e]; exact hq, a, b⟩
theorem sNn {n : Nat} {s : List Int} {p : Int} (h : SrcOk s p) (h1 : 1 ≤ n) (h2 : n ≤ 1000000) : Ok (qas (n : Int) s p) fun q => SrcOk q.2.1 q.2.2 ∧ ∃ k : Nat, q.1 = (k : Int) ∧ k < n :=
 (sN h (n := (n : Int)) (by omega) (by omega)).mono fun q ⟨hq, a, b⟩ => ⟨hq, q.1.toNat, by omega, by omega⟩
theorem sP {l s : List Int} {p : Int} (h : SrcOk s p) (h1 : l ≠ []) (h2 : l.length ≤ 1000000) : Ok (qab l s p) fun q => SrcOk q.2.1 q.2.2 ∧ q.1 ∈ l :=
 (srcP h h1 h2).mono fun q ⟨e, hq, a⟩ => ⟨by rw [e]; exact hq, a⟩
theorem sT {l : List (List UInt8)} {s : List Int} {p : Int} (h : SrcOk s p) (h1 : l ≠ []) (h2 : l.length ≤ 1000000) : Ok (qbM l s p) fun q => SrcOk q.2.1 q.2.2 ∧ q.1 ∈ l := by
 have hp := List.length_pos_iff.2 h1
 unfold qbM
 refine Ok.bind (sNn h (by omega) h2) ?_
 rintro ⟨r, s1, p1⟩ ⟨h, i, e, hi⟩
 simp only at h e
 subst e
 refine Ok.gd (inB_t hi) (.ret ⟨h, ?_⟩)
 rw [Int.toNat_natCast]; exact qaC hi
theorem name6 (f : List UInt8) (n : Int) (hf : f.length ≤ 100) : Ok (qb9 f n) fun r => r.length ≤ 101 := by
 unfold qb9
 have hl : ∀ x : Int, (qa2 [x]).length = 1 := fun x => rfl
 refine Ok.gd (Nat.ble_eq_true_of_le (by rw [hl]; omega)) (.ret ?_)
 rw [List.length_append, hl]; omega
theorem wrong6 {k : Nat} {n : Net} (hn : NetP k n) {s : List Int} {p : Int} (h : SrcOk s p) : Ok (qdJ n s p) fun q => SrcOk q.2.1 q.2.2 ∧ q.1.2.2.1.length = n.2.2.1.length := by
 have a2 := hn.k2; have a6 := hn.k6; have a4 := hn.ports.len; have a5 := hn.stats.len; have a7 := hn.segs.len; have a8 := hn.segk; have a9 := hn.some'
 have a1 : n.1.length = k := by rw [hn.nodes, qhj]
 unfold qdJ
 simp only [List.nil_append]
 refine Ok.gd (qaz (by omega)) (Ok.gd (qaz (by omega)) (Ok.gd (qaz (by omega)) (Ok.gd (qaz (by omega)) ?_)))
 refine Ok.bind (sNn h (by omega) (by omega)) ?_
 rintro ⟨_, s1, p1⟩ ⟨h, r, rfl, hr⟩
 simp only at h
 refine Ok.gd (inB_t hr) ?_
 simp only [Int.toNat_natCast]
 have hsg := (hn.segs.rng _ (qaC (d := ([], (0, (0, (0, (0, (0, []))))))) hr)).pts
 have hpl := hsg.l8
 refine Ok.gd (qaz (by omega)) ?_
 refine Ok.bind (sN h (n := 12) (by omega) (by omega)) ?_
 rintro ⟨c, s2, p2⟩ ⟨h, _, _⟩
 simp only at h
 refine Ok.bind (Q := fun q : Int × Int × Int × Int × Int × Int × List Pt × List Int × Int × List Str × List Seg × List Port × List Stat => SrcOk q.2.2.2.2.2.2.2.1 q.2.2.2.2.2.2.2.2.1 ∧ q.2.2.2.2.2.2.2.2.2.2.1.length = n.2.1.length ∧ q.2.2.2.2.2.2.2.2.2.2.2.1.length = n.2.2.1.length) ?_ ?_
 ·refine Ok.bif (fun _ => ?_) fun _ => Ok.bif (fun _ => ?_) fun _ => Ok.bif (fun _ => ?_) fun _ => Ok.bif (fun _ => ?_) fun _ => Ok.bif (fun _ => ?_) fun _ => Ok.bif (fun _ => ?_) fun _ => Ok.bif (fun _ => ?_) fun _ => Ok.bif (fun _ => ?_) fun _ => Ok.bif (fun _ => ?_) fun _ => Ok.bif (fun _ => ?_) fun _ => Ok.bif (fun _ => ?_) fun _ => ?_
  ·refine Ok.bind (sNn h (by omega) (by omega)) ?_
   rintro ⟨_, s3, p3⟩ ⟨h, i, rfl, hi⟩
   simp only at h
   refine Ok.bind (sT h (by simp) (by simp)) ?_
   rintro ⟨x, s4, p4⟩ ⟨h, _⟩
   exact Ok.gd (inB_t hi) (.ret ⟨h, rfl, rfl⟩)
  ·exact Ok.bind (sP h (by simp) (by simp)) fun q hq => .ret ⟨hq.1, rfl, rfl⟩
  ·exact Ok.bind (sP h (by simp) (by simp)) fun q hq => .ret ⟨hq.1, rfl, rfl⟩
  ·exact Ok.bind (sP h (by simp) (by simp)) fun q hq => .ret ⟨hq.1, rfl, rfl⟩
  ·exact Ok.bind (sP h (by simp) (by simp)) fun q hq => .ret ⟨hq.1, rfl, rfl⟩
  ·refine Ok.bif (fun hc => ?_) fun _ => .ret ⟨h, rfl, rfl⟩
   have hc := of_decide_eq_true hc
   refine Ok.bind (sNn h (by omega) (by omega)) ?_
   rintro ⟨_, s3, p3⟩ ⟨h, i, rfl, hi⟩
   simp only at h
   refine Ok.bind (sP h (by simp) (by simp)) ?_
   rintro ⟨x, s4, p4⟩ ⟨h, _⟩
   exact Ok.gd (inB_t hi) (.ret ⟨h, rfl, rfl⟩)
  ·have hm : min (3 : Int) (wi64 (((n.2.1.getD r ([], (0, (0, (0, (0, (0, []))))))).2.2.2.2.2.2.length : Int) + 1)) = ((min 3 ((n.2.1.getD r ([], (0, (0, (0, (0, (0, []))))))).2.2.2.2.2.2.length + 1) : Nat) : Int) := by rw [wi (by omega)]; omega
   rw [hm]
   refine Ok.bind (sNn h (by omega) (by omega)) ?_
   rintro ⟨_, s3, p3⟩ ⟨h, i, rfl, hi⟩
   simp only at h
   exact Ok.gd (inR_t (a := 0) (by omega) (by omega)) (.ret ⟨h, rfl, rfl⟩)
  ·refine Ok.bif (fun hc => ?_) fun _ => .ret ⟨h, rfl, rfl⟩
   have hc := of_decide_eq_true hc
   refine Ok.bind (sNn h (by omega) (by omega)) ?_
   rintro ⟨_, s3, p3⟩ ⟨h, i, rfl, hi⟩
   simp only at h
   refine Ok.bind (sP h (by simp) (by simp)) ?_
   rintro ⟨x, s4, p4⟩ ⟨h, _⟩
   exact Ok.gd (inB_t hi) (.ret ⟨h, rfl, rfl⟩)
  ·refine Ok.bif (fun hc => ?_) fun _ => .ret ⟨h, rfl, rfl⟩
   refine Ok.bind (sNn h (by omega) (by omega)) ?_
   rintro ⟨_, s3, p3⟩ ⟨h, i, rfl, hi⟩
   simp only at h
   refine Ok.bind (sT h (by simp) (by simp)) fun q1 h1 => Ok.bind (sP h1.1 (by simp) (by simp)) fun q2 h2 => Ok.bind (sP h2.1 (by simp) (by simp)) fun q3 h3 => ?_
   exact Ok.gd (inB_t hi) (.ret ⟨h3.1, rfl, by simp⟩)
  ·exact Ok.bind (sT h (by simp) (by simp)) fun q1 h1 => Ok.bind (sP h1.1 (by simp) (by simp)) fun q2 h2 => Ok.bind (sP h2.1 (by simp) (by simp)) fun q3 h3 => Ok.bind (sP h3.1 (by simp) (by simp)) fun q4 h4 => Ok.bind (sP h4.1 (by simp) (by simp)) fun q5 h5 => Ok.gd (qaz (by omega)) (.ret ⟨h5.1, rfl, rfl⟩)
  ·exact Ok.bind (sP h (by simp) (by simp)) fun q1 h1 => Ok.bind (sP h1.1 (by simp) (by simp)) fun q2 h2 => .ret ⟨h2.1, rfl, rfl⟩
  ·refine Ok.bind (Q := fun q : List Int × Int × List Str × List Seg × List Port × List Stat × List Pt => SrcOk q.1 q.2.1 ∧ q.2.2.2.1.length = n.2.1.length ∧ q.2.2.2.2.1.length = n.2.2.1.length) ?_ fun q hq => .ret hq
   refine Ok.loop (fun x : List Int × Int × List Str × List Seg × List Port × List Stat × List Pt => SrcOk x.1 x.2.1 ∧ x.2.2.1.length ≤ 25 ∧ x.2.2.2.1.length = n.2.1.length ∧ x.2.2.2.2.1.length = n.2.2.1.length) (fun x => 25 - x.2.2.1.length) ⟨h, by (try simp only); omega, rfl, rfl⟩ ?_
   rintro ⟨s3, p3, n2, n3, n4, n5, x⟩ ⟨h, hl, e1, e2⟩
   unfold qfj
   simp only at h hl e1 e2 ⊢
   refine Ok.bind (sN h (n := 2) (by omega) (by omega)) ?_
   rintro ⟨c2, s4, p4⟩ ⟨h, _, _⟩
   simp only at h
   rw [show wi64 (23 + c2) = 23 + c2 from wi (by omega)]
   refine Ok.bif (fun hc => ?_) fun _ => .ret ⟨h, e1, e2⟩
   have hc := of_decide_eq_true hc
   refine Ok.bind (name6 [121] (n2.length : Int) (by simp)) fun a ha => ?_
   refine Ok.bind (name6 [] _ (by simp)) fun b hb => ?_
   refine Ok.gd (Nat.ble_eq_true_of_le (by omega)) (Ok.gd (qaz (by omega)) (.ret ⟨⟨h, by simp; omega, e1, e2⟩, by simp; omega⟩))
 rintro ⟨q1, q2, q3, q4, q5, q6, q7, s3, p3, q10, q11, q12, q13⟩ ⟨h, e1, e2⟩
 simp only at h e1 e2
 exact Ok.gd (inB_t (by (try simp only); omega)) (.ret ⟨h, e2⟩)
/-! ### The law -/
end Go.Proofs.YtpgigbdefbeagaaGreatDoor
