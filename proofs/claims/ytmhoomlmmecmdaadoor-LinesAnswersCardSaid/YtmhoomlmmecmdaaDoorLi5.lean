/- Texts in lines of words: the reference's Split. No condition. -/
import Derived.Test.YtmhoomlmmecmdaaDoorLi4
namespace Go.Proofs.YtmhoomlmmecmdaaDoor
open Go Go.Sq

theorem eqU (b c : UInt8) (n : Int) (h : (c.toNat : Int) = n) : decide ((Int.ofNat b.toNat) = n) = (b == c) := by
  rw [Bool.eq_iff_iff, decide_eq_true_iff, beq_iff_eq]
  simp only [Int.ofNat_eq_natCast]
  constructor
  · intro e; exact UInt8.toNat_inj.1 (by omega)
  · rintro rfl; exact h
theorem drop_split (t : Str) (f k : Nat) (hf : f ≤ k) (hk : k < t.length) : t.drop f = (t.take k).drop f ++ t.getD k 0 :: t.drop (k + 1) := by
  conv => lhs; rw [← List.take_append_drop k t]
  rw [List.drop_append_of_le_length (by simp; omega), List.drop_eq_getElem_cons hk, gD_eq hk]
theorem take_drop_next (t : Str) (f k : Nat) (hf : f ≤ k) (hk : k < t.length) : (t.take (k + 1)).drop f = (t.take k).drop f ++ [t.getD k 0] := by
  rw [take_next 0 hk, List.drop_append_of_le_length (by simp; omega)]
theorem rlines_eq (t : Str) (hl : t.length ≤ 1000000) : ref03_Lines t = some (lns t) := by
  unfold ref03_Lines
  have h : Ok (iter (fun x => ref03_Lines_L0 t x.1 x.2.1 x.2.2) (0, 0, [])) (fun e => ∃ f : Nat, e.1 = (f : Int) ∧ f ≤ t.length ∧ lns t = e.2 ++ lns (t.drop f) ∧ (10 : UInt8) ∉ t.drop f ∧ e.2.length ≤ t.length) := by
    refine Ok.loop (fun x : Int × Int × List Str => ∃ f k : Nat, x.1 = (f : Int) ∧ x.2.1 = (k : Int) ∧ f ≤ k ∧ k ≤ t.length ∧ lns t = x.2.2 ++ lns (t.drop f) ∧ (10 : UInt8) ∉ (t.take k).drop f ∧ x.2.2.length ≤ k) (fun x => t.length - x.2.1.toNat) ⟨0, 0, rfl, rfl, by omega, by omega, by simp, by simp, by simp⟩ ?_
    rintro ⟨fr, i, out⟩ ⟨f, k, h1, h2, h3, h4, h5, h6, h7⟩
    simp only at h1 h2 h5 h7
    subst h1 h2
    unfold ref03_Lines_L0
    simp only
    refine Ok.bif (fun hc => ?_) fun hc => ?_
    · have hc := of_decide_eq_true hc
      have hk : k < t.length := by omega
      refine Ok.gd (inB_t hk) ?_
      rw [Int.toNat_natCast, eqU _ 10 10 rfl]
      cases hb : t.getD k 0 == 10 with
      | true =>
        rw [beq_iff_eq] at hb
        rw [cond_true, gd_t (inR_t h3 (by omega)), gd_t (fits_t (by omega)), Option.bind_some, w1 (n := 1000001) (by omega) (by omega), Int.toNat_natCast]
        refine .ret ⟨⟨k + 1, k + 1, rfl, rfl, by omega, by omega, ?_, by simp, by simp; omega⟩, by simp only [Int.toNat_natCast]; omega⟩
        rw [h5, drop_split t f k h3 hk, hb, lns_app _ h6, List.append_assoc]; rfl
      | false =>
        rw [beq_eq_false_iff_ne] at hb
        rw [cond_false, Option.bind_some, w1 (n := 1000001) (by omega) (by omega)]
        refine .ret ⟨⟨f, k + 1, rfl, rfl, by omega, by omega, h5, ?_, by simp only; omega⟩, by simp only [Int.toNat_natCast]; omega⟩
        rw [take_drop_next t f k h3 hk]
        simp only [List.mem_append, List.mem_singleton, not_or]
        exact ⟨h6, fun e => hb e.symm⟩
    · have hc := of_decide_eq_false hc
      have : k = t.length := by omega
      subst this
      rw [List.take_length] at h6
      exact .ret ⟨f, rfl, h3, h5, h6, h7⟩
  obtain ⟨⟨fr, out⟩, e, f, h1, h2, h3, h4, h5⟩ := h
  simp only at h1 h3 h5
  subst h1
  rw [e, Option.bind_some]
  simp only
  rw [h3, lns_no h4]
  by_cases hf : f < t.length
  · rw [dec_t (show (f : Int) < (t.length : Int) by omega), cond_true, gd_t (by simp [cutG]; omega), gd_t (fits_t (by omega)), Int.toNat_natCast, if_neg (fun e => by have := congrArg List.length e; simp at this; omega)]
  · rw [dec_f (show ¬ (f : Int) < (t.length : Int) by omega), cond_false, if_pos (List.drop_of_length_le (by omega)), List.append_nil]
theorem rcut_eq (s : Str) (hl : s.length ≤ 1000000) : ref03_cut s = some (splB 32 s) := by
  unfold ref03_cut
  suffices h : Ok (iter (fun x => ref03_cut_L0 s x.1 x.2.1 x.2.2) (0, 0, [])) (fun e => e = splB 32 s) by rw [ok_eq h]; rfl
  refine Ok.loop (fun x : Int × Int × List Str => ∃ f k : Nat, x.1 = (f : Int) ∧ x.2.1 = (k : Int) ∧ ((f ≤ k ∧ k ≤ s.length ∧ splB 32 s = x.2.2 ++ splB 32 (s.drop f) ∧ (32 : UInt8) ∉ (s.take k).drop f ∧ x.2.2.length ≤ k) ∨ (k = s.length + 1 ∧ x.2.2 = splB 32 s))) (fun x => s.length + 1 - x.2.1.toNat) ⟨0, 0, rfl, rfl, .inl ⟨by omega, by omega, by simp, by simp, by simp⟩⟩ ?_
  rintro ⟨fr, i, out⟩ ⟨f, k, h1, h2, h3⟩
  simp only at h1 h2 h3
  subst h1 h2
  unfold ref03_cut_L0
  simp only
  rcases h3 with ⟨h3, h4, h5, h6, h7⟩ | ⟨h3, h4⟩
  · rw [dec_t (show (k : Int) ≤ (s.length : Int) by omega), cond_true]
    by_cases hk : k = s.length
    · rw [dec_t (show (k : Int) = (s.length : Int) by omega), cond_true, Option.bind_some]
      simp only
      rw [cond_true, gd_t (inR_t h3 h4), gd_t (fits_t (by omega)), Option.bind_some, w1 (n := 1000001) (by omega) (by omega), Int.toNat_natCast, Int.toNat_natCast]
      refine .ret ⟨⟨k + 1, k + 1, rfl, rfl, .inr ⟨by omega, ?_⟩⟩, by simp only [Int.toNat_natCast]; omega⟩
      have e : (s.take k).drop f = s.drop f := by rw [hk, List.take_length]
      rw [e] at h6 ⊢
      rw [h5, splB_no h6]
    · have hk : k < s.length := by omega
      rw [dec_f (show ¬ (k : Int) = (s.length : Int) by omega), cond_false, gd_t (inB_t hk), Option.bind_some, Int.toNat_natCast, eqU _ 32 32 rfl]
      simp only
      cases hb : s.getD k 0 == 32 with
      | true =>
        rw [beq_iff_eq] at hb
        rw [cond_true, gd_t (inR_t h3 h4), gd_t (fits_t (by omega)), Option.bind_some, w1 (n := 1000001) (by omega) (by omega), Int.toNat_natCast]
        refine .ret ⟨⟨k + 1, k + 1, rfl, rfl, .inl ⟨by omega, by omega, ?_, by simp, by simp; omega⟩⟩, by simp only [Int.toNat_natCast]; omega⟩
        rw [h5, drop_split s f k h3 hk, hb, splB_app _ h6, List.append_assoc]; rfl
      | false =>
        rw [beq_eq_false_iff_ne] at hb
        rw [cond_false, Option.bind_some, w1 (n := 1000001) (by omega) (by omega)]
        refine .ret ⟨⟨f, k + 1, rfl, rfl, .inl ⟨by omega, by omega, h5, ?_, by simp only; omega⟩⟩, by simp only [Int.toNat_natCast]; omega⟩
        rw [take_drop_next s f k h3 hk]
        simp only [List.mem_append, List.mem_singleton, not_or]
        exact ⟨h6, fun e => hb e.symm⟩
  · rw [dec_f (show ¬ (k : Int) ≤ (s.length : Int) by omega)]
    exact .ret h4
theorem rproper_eq (w : List Str) (hl : ∀ s ∈ w, s.length ≤ 1000000) : ref03_proper w = some (properB w) := by
  unfold ref03_proper properB
  by_cases h16 : 16 < w.length
  · rw [dec_t (show 16 < (w.length : Int) by omega), show Nat.ble w.length 16 = false by rw [Bool.eq_false_iff, ne_eq, Nat.ble_eq]; omega]; rfl
  · rw [dec_f (show ¬ 16 < (w.length : Int) by omega), cond_false, show Nat.ble w.length 16 = true by rw [Nat.ble_eq]; omega, Bool.true_and]
    have h1 : ∀ v, v < w.length → iter (fun x => ref03_proper_L1 w (v : Int) x) 0 = some (bif (w.getD v []).all wch then .inl () else .inr false) := by
      intro v hv
      have hvl := hl _ (gD_mem (d := []) hv)
      refine scan (w.getD v []) 0 wch (fun i hi hq => ?_) (fun i hi hq => ?_) ?_
      · obtain ⟨h1, h2⟩ := wch_t hq
        unfold ref03_proper_L1
        rw [gd_t (inB_t hv), gd_t (inB_t hv), gd_t (inB_t hv), Int.toNat_natCast, dec_t (show (i : Int) < ((w.getD v []).length : Int) by omega), cond_true, gd_t (inB_t hi), gd_t (inB_t hi), Int.toNat_natCast, lt33, h1, cond_false, gt126, h2, Option.bind_some, cond_false, w1 hi (by omega)]
      · unfold ref03_proper_L1
        rw [gd_t (inB_t hv), gd_t (inB_t hv), gd_t (inB_t hv), Int.toNat_natCast, dec_t (show (i : Int) < ((w.getD v []).length : Int) by omega), cond_true, gd_t (inB_t hi), gd_t (inB_t hi), Int.toNat_natCast, lt33]
        rcases wch_f hq with h1 | ⟨h1, h2⟩
        · rw [h1]; rfl
        · rw [h1, cond_false, gt126, h2]; rfl
      · unfold ref03_proper_L1
        rw [gd_t (inB_t hv), Int.toNat_natCast, dec_f (by omega)]; rfl
    have h2 : iter (fun x => ref03_proper_L0 w x) 0 = some (bif (List.range w.length).all (fun i => wordB (w.getD i []) && !(decide (i = 0) && (w.getD i []).headD 0 == 35)) then .inl () else .inr false) := by
      have step : ∀ i, i < w.length → ref03_proper_L0 w (i : Int) = some (bif wordB (w.getD i []) && !(decide (i = 0) && (w.getD i []).headD 0 == 35) then .inl ((i + 1 : Nat) : Int) else .inr (.inr false)) := by
        intro i hi
        unfold ref03_proper_L0
        rw [dec_t (by omega), cond_true, gd_t (inB_t hi), gd_t (inB_t hi), Int.toNat_natCast, h1 i hi]
        cases hw : w.getD i [] with
        | nil => rfl
        | cons a r =>
          rw [dec_f (by simp), cond_false]
          unfold wordB
          by_cases h0 : i = 0
          · subst h0
            rw [show decide (((0 : Nat) : Int) = 0) = true from rfl, cond_true, gd_t (inB0 (by simp)), eq35, show decide ((0 : Nat) = 0) = true from rfl, Bool.true_and]
            show (some ((a : UInt8) == 35)).bind _ = some (bif (List.all (a :: r) wch && !List.isEmpty (a :: r)) && !(a == 35) then _ else _)
            rw [Option.bind_some]
            cases a == 35 with
            | true => rw [Bool.not_true, Bool.and_false]; rfl
            | false =>
              rw [cond_false, Option.bind_some]
              cases (a :: r).all wch with
              | false => rfl
              | true => rw [cond_true]; simp only [Sum.elim_inl]; rw [w1 hi (by omega)]; rfl
          · rw [dec_f (show ¬ ((i : Int) = 0) by omega), cond_false, Option.bind_some, cond_false, Option.bind_some, dec_f h0]
            cases (a :: r).all wch with
            | false => rfl
            | true => rw [cond_true]; simp only [Sum.elim_inl]; rw [w1 hi (by omega)]; rfl
      refine iter_all (step := fun x => ref03_proper_L0 w x) w.length (fun i => (i : Int)) _ (fun i hi _ hq => ?_) (fun i hi _ hq => ?_) (fun _ => ?_)
      · show ref03_proper_L0 w (i : Int) = _
        rw [step i hi, hq]; rfl
      · show ref03_proper_L0 w (i : Int) = _
        rw [step i hi, hq]; rfl
      · show ref03_proper_L0 w (w.length : Int) = _
        unfold ref03_proper_L0
        rw [dec_f (by omega)]; rfl
    rw [h2, Option.bind_some]
    have e : (List.range w.length).all (fun i => wordB (w.getD i []) && !(decide (i = 0) && (w.getD i []).headD 0 == 35)) = (w.all wordB && !((w.headD []).headD 0 == 35)) := by
      rw [Bool.eq_iff_iff, all_range, Bool.and_eq_true, ← all_gD w [] wordB, all_range]
      constructor
      · intro h
        refine ⟨fun i hi => by have := h i hi; rw [Bool.and_eq_true] at this; exact this.1, ?_⟩
        cases w with
        | nil => rfl
        | cons a r =>
          have := h 0 (by simp)
          rw [Bool.and_eq_true, dec_t rfl, Bool.true_and] at this
          exact this.2
      · rintro ⟨h3, h4⟩ i hi
        rw [Bool.and_eq_true]
        refine ⟨h3 i hi, ?_⟩
        by_cases h0 : i = 0
        · subst h0
          rw [dec_t rfl, Bool.true_and]
          cases w with
          | nil => simp at hi
          | cons a r => exact h4
        · rw [dec_f h0]; rfl
    rw [e]
    cases (w.all wordB && !((w.headD []).headD 0 == 35)) <;> rfl
theorem lns_mem : ∀ {s x : Str}, x ∈ lns s → x.length ≤ s.length
  | [], x, h => by simp [lns] at h
  | b :: l, x, h => by
    unfold lns at h
    cases hb : b == (10 : UInt8) with
    | true =>
      rw [hb] at h
      rcases List.mem_cons.1 h with rfl | h
      · simp
      · have := lns_mem h; simp; omega
    | false =>
      rw [hb] at h
      simp only [cond_false] at h
      split at h
      · simp at h; subst h; simp
      · rename_i q t hs
        rcases List.mem_cons.1 h with rfl | h
        · have := lns_mem (s := l) (x := q) (by rw [hs]; simp)
          simp; omega
        · have := lns_mem (s := l) (x := x) (by rw [hs]; simp [h])
          simp; omega
theorem rsplit_eq (t : Str) (hl : t.length ≤ 1000000) : ref03_Split t = some (specSplit t) := by
  unfold ref03_Split specSplit
  by_cases h1 : 16384 < t.length
  · rw [dec_t (show 16384 < (t.length : Int) by omega), show Nat.blt 16384 t.length = true by rw [Nat.blt_eq]; exact h1]; rfl
  · rw [dec_f (show ¬ 16384 < (t.length : Int) by omega), cond_false, show Nat.blt 16384 t.length = false by rw [Bool.eq_false_iff, ne_eq, Nat.blt_eq]; exact h1, Bool.false_or, rlines_eq t hl, Option.bind_some]
    by_cases h2 : 400 < (lns t).length
    · rw [dec_t (show 400 < ((lns t).length : Int) by omega), show Nat.blt 400 (lns t).length = true by rw [Nat.blt_eq]; exact h2]; rfl
    · rw [dec_f (show ¬ 400 < ((lns t).length : Int) by omega), cond_false, show Nat.blt 400 (lns t).length = false by rw [Bool.eq_false_iff, ne_eq, Nat.blt_eq]; exact h2, cond_false]
      have hm : ∀ x ∈ lns t, x.length ≤ 1000000 := fun x hx => Nat.le_trans (lns_mem hx) hl
      generalize lns t = r at h2 hm
      suffices h : Ok (iter (fun x => ref03_Split_L0 r x.1 x.2.1 x.2.2) (0, r, [])) (fun e => match linesM r with
          | some l => e = .inl l
          | none => e = .inr ([], 3)) by
        obtain ⟨e, h3, h4⟩ := h
        rw [h3, Option.bind_some]
        cases hm : linesM r with
        | none => rw [hm] at h4; rw [h4]; rfl
        | some l => rw [hm] at h4; rw [h4]; rfl
      refine Ok.loop (fun x : Int × List Str × List (List Str) => ∃ k : Nat, x.1 = (k : Int) ∧ k ≤ r.length ∧ x.2.1 = r ∧ linesM r = (linesM (r.drop k)).map (x.2.2 ++ ·) ∧ x.2.2.length ≤ k) (fun x => r.length - x.1.toNat) ⟨0, rfl, by omega, rfl, ?_, by simp⟩ ?_
      · show _ = (linesM r).map ([] ++ ·)
        cases linesM r <;> simp
      rintro ⟨v, l, out⟩ ⟨k, g0, g1, g2, g3, g4⟩
      simp only at g0 g2 g3 g4
      subst g0 g2
      unfold ref03_Split_L0
      simp only
      refine Ok.bif (fun hc => ?_) fun hc => ?_
      · have hc := of_decide_eq_true hc
        have hk : k < l.length := by omega
        have hX := hm _ (gD_mem (d := []) hk)
        rw [List.drop_eq_getElem_cons hk, ← gD_eq (d := []) hk] at g3
        rw [Int.toNat_natCast]
        generalize hXe : l.getD k [] = X at hX g3
        have e1 : (gd (inB (k : Int) l.length) <| bif decide (X = []) then some (true, l, out) else gd (inB (k : Int) l.length) <| gd (inB 0 X.length) <| some (decide ((Int.ofNat (X.getD 0 0).toNat) = 35), l, out)) = some (X.isEmpty || X.headD 0 == 35, l, out) := by
          rw [gd_t (inB_t hk), gd_t (inB_t hk)]
          cases X with
          | nil => rfl
          | cons a q => rw [dec_f (by simp), cond_false, gd_t (inB0 (by simp)), eq35]; rfl
        rw [e1, Option.bind_some]
        simp only
        rw [linesM_cons] at g3
        unfold lineOf at g3
        cases hc : X.isEmpty || X.headD 0 == 35 with
        | true =>
          rw [hc] at g3
          rw [cond_true, gd_t (fits_t (by omega)), Option.bind_some]
          simp only [Sum.elim_inl]
          rw [w1 hk (by omega)]
          refine .ret ⟨⟨k + 1, rfl, by omega, rfl, ?_, by simp; omega⟩, by simp only [Int.toNat_natCast]; omega⟩
          rw [g3]
          simp only [cond_true]
          cases linesM (l.drop (k + 1)) <;> simp
        | false =>
          rw [hc] at g3
          rw [cond_false, gd_t (inB_t hk), hXe, rcut_eq X hX, Option.bind_some, rproper_eq _ (fun s hs => Nat.le_trans (splB_mem hs) hX), Option.bind_some]
          have hpw : properB (splB 32 X) = wordsB (splB 32 X) := by
            unfold wordsB
            cases hs : splB 32 X with
            | nil => exact absurd hs (splB_ne _ _)
            | cons => rfl
          rw [hpw]
          cases hw : wordsB (splB 32 X) with
          | false =>
            rw [hw] at g3
            refine .ret ?_
            rw [g3]; rfl
          | true =>
            rw [hw] at g3
            rw [Bool.not_true, cond_false, gd_t (fits_t (by omega)), Option.bind_some]
            simp only [Sum.elim_inl]
            rw [w1 hk (by omega)]
            refine .ret ⟨⟨k + 1, rfl, by omega, rfl, ?_, by simp; omega⟩, by simp only [Int.toNat_natCast]; omega⟩
            rw [g3]
            simp only [cond_true, cond_false]
            cases linesM (l.drop (k + 1)) <;> simp
      · have hc := of_decide_eq_false hc
        have : k = l.length := by omega
        subst this
        refine .ret ?_
        rw [g3]
        simp [linesM]
end Go.Proofs.YtmhoomlmmecmdaaDoor
