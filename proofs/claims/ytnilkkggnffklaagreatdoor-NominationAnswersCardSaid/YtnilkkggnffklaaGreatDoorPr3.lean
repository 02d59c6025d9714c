/- Splitting by the reference; joining lines. No condition. -/
import Derived.Test.YtnilkkggnffklaaGreatDoorPr2
namespace Go.Proofs.YtnilkkggnffklaaGreatDoor
open Go Go.Sq
set_option linter.unusedVariables false
theorem eqU (b c : UInt8) (n : Int) (h : (c.toNat : Int) = n) : decide ((Int.ofNat b.toNat) = n) = (b == c) := by
  rw [Bool.eq_iff_iff, decide_eq_true_iff, beq_iff_eq]
  simp only [Int.ofNat_eq_natCast]
  constructor
  · intro e; exact UInt8.toNat_inj.1 (by omega)
  · rintro rfl; exact h
theorem drop_split (t : Str) (f k : Nat) (hf : f ≤ k) (hk : k < t.length) : t.drop f = (t.take k).drop f ++ t.getD k 0 :: t.drop (k + 1) := by
  conv => lhs; rw [← List.take_append_drop k t]
  rw [List.drop_append_of_le_length (by simp; omega), List.drop_eq_getElem_cons hk, gD_eq hk]
theorem take_drop_next (t : Str) (f k : Nat) (hf : f ≤ k) (hk : k < t.length) : (t.take (k + 1)).drop f = (t.take k).drop f ++ [t.getD k 0] := by
  rw [take_next 0 hk, List.drop_append_of_le_length (by simp; omega)]
theorem rlines_eq (t : Str) (hl : t.length ≤ 1000000) : ref03_Lines t = some (lns t) := by
  unfold ref03_Lines
  have h : Ok (iter (fun x => ref03_Lines_L0 t x.1 x.2.1 x.2.2) (0, 0, [])) (fun e => ∃ f : Nat, e.1 = (f : Int) ∧ f ≤ t.length ∧ lns t = e.2 ++ lns (t.drop f) ∧ (10 : UInt8) ∉ t.drop f ∧ e.2.length ≤ t.length) := by
    refine Ok.loop (fun x : Int × Int × List Str => ∃ f k : Nat, x.1 = (f : Int) ∧ x.2.1 = (k : Int) ∧ f ≤ k ∧ k ≤ t.length ∧ lns t = x.2.2 ++ lns (t.drop f) ∧ (10 : UInt8) ∉ (t.take k).drop f ∧ x.2.2.length ≤ k) (fun x => t.length - x.2.1.toNat) ⟨0, 0, rfl, rfl, by omega, by omega, by simp, by simp, by simp⟩ ?_
    rintro ⟨fr, i, out⟩ ⟨f, k, h1, h2, h3, h4, h5, h6, h7⟩
    simp only at h1 h2 h5 h7
    subst h1 h2
    unfold ref03_Lines_L0
    simp only
    refine Ok.bif (fun hc => ?_) fun hc => ?_
    · have hc := of_decide_eq_true hc
      have hk : k < t.length := by omega
      refine Ok.gd (inB_t hk) ?_
      rw [Int.toNat_natCast, eqU _ 10 10 rfl]
      cases hb : t.getD k 0 == 10 with
      | true =>
        rw [beq_iff_eq] at hb
        rw [cond_true, gd_t (inR_t h3 (by omega)), gd_t (fits_t (by omega)), Option.bind_some, w1 (n := 1000001) (by omega) (by omega), Int.toNat_natCast]
        refine .ret ⟨⟨k + 1, k + 1, rfl, rfl, by omega, by omega, ?_, by simp, by simp; omega⟩, by simp only [Int.toNat_natCast]; omega⟩
        rw [h5, drop_split t f k h3 hk, hb, lns_app _ h6, List.append_assoc]; rfl
      | false =>
        rw [beq_eq_false_iff_ne] at hb
        rw [cond_false, Option.bind_some, w1 (n := 1000001) (by omega) (by omega)]
        refine .ret ⟨⟨f, k + 1, rfl, rfl, by omega, by omega, h5, ?_, by simp only; omega⟩, by simp only [Int.toNat_natCast]; omega⟩
        rw [take_drop_next t f k h3 hk]
        simp only [List.mem_append, List.mem_singleton, not_or]
        exact ⟨h6, fun e => hb e.symm⟩
    · have hc := of_decide_eq_false hc
      have : k = t.length := by omega
      subst this
      rw [List.take_length] at h6
      exact .ret ⟨f, rfl, h3, h5, h6, h7⟩
  obtain ⟨⟨fr, out⟩, e, f, h1, h2, h3, h4, h5⟩ := h
  simp only at h1 h3 h5
  subst h1
  rw [e, Option.bind_some]
  simp only
  rw [h3, lns_no h4]
  by_cases hf : f < t.length
  · rw [dec_t (show (f : Int) < (t.length : Int) by omega), cond_true, gd_t (by simp [cutG]; omega), gd_t (fits_t (by omega)), Int.toNat_natCast, if_neg (fun e => by have := congrArg List.length e; simp at this; omega)]
  · rw [dec_f (show ¬ (f : Int) < (t.length : Int) by omega), cond_false, if_pos (List.drop_of_length_le (by omega)), List.append_nil]
theorem rcut_eq (s : Str) (hl : s.length ≤ 1000000) : ref03_cut s = some (splB 32 s) := by
  unfold ref03_cut
  suffices h : Ok (iter (fun x => ref03_cut_L0 s x.1 x.2.1 x.2.2) (0, 0, [])) (fun e => e = splB 32 s) by rw [ok_eq h]; rfl
  refine Ok.loop (fun x : Int × Int × List Str => ∃ f k : Nat, x.1 = (f : Int) ∧ x.2.1 = (k : Int) ∧ ((f ≤ k ∧ k ≤ s.length ∧ splB 32 s = x.2.2 ++ splB 32 (s.drop f) ∧ (32 : UInt8) ∉ (s.take k).drop f ∧ x.2.2.length ≤ k) ∨ (k = s.length + 1 ∧ x.2.2 = splB 32 s))) (fun x => s.length + 1 - x.2.1.toNat) ⟨0, 0, rfl, rfl, .inl ⟨by omega, by omega, by simp, by simp, by simp⟩⟩ ?_
  rintro ⟨fr, i, out⟩ ⟨f, k, h1, h2, h3⟩
  simp only at h1 h2 h3
  subst h1 h2
  unfold ref03_cut_L0
  simp only
  rcases h3 with ⟨h3, h4, h5, h6, h7⟩ | ⟨h3, h4⟩
  · rw [dec_t (show (k : Int) ≤ (s.length : Int) by omega), cond_true]
    by_cases hk : k = s.length
    · rw [dec_t (show (k : Int) = (s.length : Int) by omega), cond_true, Option.bind_some]
      simp only
      rw [cond_true, gd_t (inR_t h3 h4), gd_t (fits_t (by omega)), Option.bind_some, w1 (n := 1000001) (by omega) (by omega), Int.toNat_natCast, Int.toNat_natCast]
      refine .ret ⟨⟨k + 1, k + 1, rfl, rfl, .inr ⟨by omega, ?_⟩⟩, by simp only [Int.toNat_natCast]; omega⟩
      have e : (s.take k).drop f = s.drop f := by rw [hk, List.take_length]
      rw [e] at h6 ⊢
      rw [h5, splB_no h6]
    · have hk : k < s.length := by omega
      rw [dec_f (show ¬ (k : Int) = (s.length : Int) by omega), cond_false, gd_t (inB_t hk), Option.bind_some, Int.toNat_natCast, eqU _ 32 32 rfl]
      simp only
      cases hb : s.getD k 0 == 32 with
      | true =>
        rw [beq_iff_eq] at hb
        rw [cond_true, gd_t (inR_t h3 h4), gd_t (fits_t (by omega)), Option.bind_some, w1 (n := 1000001) (by omega) (by omega), Int.toNat_natCast]
        refine .ret ⟨⟨k + 1, k + 1, rfl, rfl, .inl ⟨by omega, by omega, ?_, by simp, by simp; omega⟩⟩, by simp only [Int.toNat_natCast]; omega⟩
        rw [h5, drop_split s f k h3 hk, hb, splB_app _ h6, List.append_assoc]; rfl
      | false =>
        rw [beq_eq_false_iff_ne] at hb
        rw [cond_false, Option.bind_some, w1 (n := 1000001) (by omega) (by omega)]
        refine .ret ⟨⟨f, k + 1, rfl, rfl, .inl ⟨by omega, by omega, h5, ?_, by simp only; omega⟩⟩, by simp only [Int.toNat_natCast]; omega⟩
        rw [take_drop_next s f k h3 hk]
        simp only [List.mem_append, List.mem_singleton, not_or]
        exact ⟨h6, fun e => hb e.symm⟩
  · rw [dec_f (show ¬ (k : Int) ≤ (s.length : Int) by omega)]
    exact .ret h4
theorem rproper_eq (w : List Str) (hl : ∀ s ∈ w, s.length ≤ 1000000) : ref03_proper w = some (properB w) := by
  unfold ref03_proper properB
  by_cases h16 : 16 < w.length
  · rw [dec_t (show 16 < (w.length : Int) by omega), show Nat.ble w.length 16 = false by rw [Bool.eq_false_iff, ne_eq, Nat.ble_eq]; omega]; rfl
  · rw [dec_f (show ¬ 16 < (w.length : Int) by omega), cond_false, show Nat.ble w.length 16 = true by rw [Nat.ble_eq]; omega, Bool.true_and]
    have h1 : ∀ v, v < w.length → iter (fun x => ref03_proper_L1 w (v : Int) x) 0 = some (bif (w.getD v []).all wch then .inl () else .inr false) := by
      intro v hv
      have hvl := hl _ (gD_mem (d := []) hv)
      refine scan (w.getD v []) 0 wch (fun i hi hq => ?_) (fun i hi hq => ?_) ?_
      · obtain ⟨h1, h2⟩ := wch_t hq
        unfold ref03_proper_L1
        rw [gd_t (inB_t hv), gd_t (inB_t hv), gd_t (inB_t hv), Int.toNat_natCast, dec_t (show (i : Int) < ((w.getD v []).length : Int) by omega), cond_true, gd_t (inB_t hi), gd_t (inB_t hi), Int.toNat_natCast, lt33, h1, cond_false, gt126, h2, Option.bind_some, cond_false, w1 hi (by omega)]
      · unfold ref03_proper_L1
        rw [gd_t (inB_t hv), gd_t (inB_t hv), gd_t (inB_t hv), Int.toNat_natCast, dec_t (show (i : Int) < ((w.getD v []).length : Int) by omega), cond_true, gd_t (inB_t hi), gd_t (inB_t hi), Int.toNat_natCast, lt33]
        rcases wch_f hq with h1 | ⟨h1, h2⟩
        · rw [h1]; rfl
        · rw [h1, cond_false, gt126, h2]; rfl
      · unfold ref03_proper_L1
        rw [gd_t (inB_t hv), Int.toNat_natCast, dec_f (by omega)]; rfl
    have h2 : iter (fun x => ref03_proper_L0 w x) 0 = some (bif (List.range w.length).all (fun i => wordB (w.getD i []) && !(decide (i = 0) && (w.getD i []).headD 0 == 35)) then .inl () else .inr false) := by
      have step : ∀ i, i < w.length → ref03_proper_L0 w (i : Int) = some (bif wordB (w.getD i []) && !(decide (i = 0) && (w.getD i []).headD 0 == 35) then .inl ((i + 1 : Nat) : Int) else .inr (.inr false)) := by
        intro i hi
        unfold ref03_proper_L0
        rw [dec_t (by omega), cond_true, gd_t (inB_t hi), gd_t (inB_t hi), Int.toNat_natCast, h1 i hi]
        cases hw : w.getD i [] with
        | nil => rfl
        | cons a r =>
          rw [dec_f (by simp), cond_false]
          unfold wordB
          by_cases h0 : i = 0
          · subst h0
            rw [show decide (((0 : Nat) : Int) = 0) = true from rfl, cond_true, gd_t (inB0 (by simp)), eq35, show decide ((0 : Nat) = 0) = true from rfl, Bool.true_and]
            show (some ((a : UInt8) == 35)).bind _ = some (bif (List.all (a :: r) wch && !List.isEmpty (a :: r)) && !(a == 35) then _ else _)
            rw [Option.bind_some]
            cases a == 35 with
            | true => rw [Bool.not_true, Bool.and_false]; rfl
            | false =>
              rw [cond_false, Option.bind_some]
              cases (a :: r).all wch with
              | false => rfl
              | true => rw [cond_true]; simp only [Sum.elim_inl]; rw [w1 hi (by omega)]; rfl
          · rw [dec_f (show ¬ ((i : Int) = 0) by omega), cond_false, Option.bind_some, cond_false, Option.bind_some, dec_f h0]
            cases (a :: r).all wch with
            | false => rfl
            | true => rw [cond_true]; simp only [Sum.elim_inl]; rw [w1 hi (by omega)]; rfl
      refine iter_all (step := fun x => ref03_proper_L0 w x) w.length (fun i => (i : Int)) _ (fun i hi _ hq => ?_) (fun i hi _ hq => ?_) (fun _ => ?_)
      · show ref03_proper_L0 w (i : Int) = _
        rw [step i hi, hq]; rfl
      · show ref03_proper_L0 w (i : Int) = _
        rw [step i hi, hq]; rfl
      · show ref03_proper_L0 w (w.length : Int) = _
        unfold ref03_proper_L0
        rw [dec_f (by omega)]; rfl
    rw [h2, Option.bind_some]
    have e : (List.range w.length).all (fun i => wordB (w.getD i []) && !(decide (i = 0) && (w.getD i []).headD 0 == 35)) = (w.all wordB && !((w.headD []).headD 0 == 35)) := by
      rw [Bool.eq_iff_iff, all_range, Bool.and_eq_true, ← all_gD w [] wordB, all_range]
      constructor
      · intro h
        refine ⟨fun i hi => by have := h i hi; rw [Bool.and_eq_true] at this; exact this.1, ?_⟩
        cases w with
        | nil => rfl
        | cons a r =>
          have := h 0 (by simp)
          rw [Bool.and_eq_true, dec_t rfl, Bool.true_and] at this
          exact this.2
      · rintro ⟨h3, h4⟩ i hi
        rw [Bool.and_eq_true]
        refine ⟨h3 i hi, ?_⟩
        by_cases h0 : i = 0
        · subst h0
          rw [dec_t rfl, Bool.true_and]
          cases w with
          | nil => simp at hi
          | cons a r => exact h4
        · rw [dec_f h0]; rfl
    rw [e]
    cases (w.all wordB && !((w.headD []).headD 0 == 35)) <;> rfl
theorem lns_mem : ∀ {s x : Str}, x ∈ lns s → x.length ≤ s.length
  | [], x, h => by simp [lns] at h
  | b :: l, x, h => by
    unfold lns at h
    cases hb : b == (10 : UInt8) with
    | true =>
      rw [hb] at h
      rcases List.mem_cons.1 h with rfl | h
      · simp
      · have := lns_mem h; simp; omega
    | false =>
      rw [hb] at h
      simp only [cond_false] at h
      split at h
      · simp at h; subst h; simp
      · rename_i q t hs
        rcases List.mem_cons.1 h with rfl | h
        · have := lns_mem (s := l) (x := q) (by rw [hs]; simp)
          simp; omega
        · have := lns_mem (s := l) (x := x) (by rw [hs]; simp [h])
          simp; omega
theorem rsplit_eq (t : Str) (hl : t.length ≤ 1000000) : ref03_Split t = some (specSplit t) := by
  unfold ref03_Split specSplit
  by_cases h1 : 16384 < t.length
  · rw [dec_t (show 16384 < (t.length : Int) by omega), show Nat.blt 16384 t.length = true by rw [Nat.blt_eq]; exact h1]; rfl
  · rw [dec_f (show ¬ 16384 < (t.length : Int) by omega), cond_false, show Nat.blt 16384 t.length = false by rw [Bool.eq_false_iff, ne_eq, Nat.blt_eq]; exact h1, Bool.false_or, rlines_eq t hl, Option.bind_some]
    by_cases h2 : 400 < (lns t).length
    · rw [dec_t (show 400 < ((lns t).length : Int) by omega), show Nat.blt 400 (lns t).length = true by rw [Nat.blt_eq]; exact h2]; rfl
    · rw [dec_f (show ¬ 400 < ((lns t).length : Int) by omega), cond_false, show Nat.blt 400 (lns t).length = false by rw [Bool.eq_false_iff, ne_eq, Nat.blt_eq]; exact h2, cond_false]
      have hm : ∀ x ∈ lns t, x.length ≤ 1000000 := fun x hx => Nat.le_trans (lns_mem hx) hl
      generalize lns t = r at h2 hm
      suffices h : Ok (iter (fun x => ref03_Split_L0 r x.1 x.2.1 x.2.2) (0, r, [])) (fun e => match linesM r with
          | some l => e = .inl l
          | none => e = .inr ([], 3)) by
        obtain ⟨e, h3, h4⟩ := h
        rw [h3, Option.bind_some]
        cases hm : linesM r with
        | none => rw [hm] at h4; rw [h4]; rfl
        | some l => rw [hm] at h4; rw [h4]; rfl
      refine Ok.loop (fun x : Int × List Str × List (List Str) => ∃ k : Nat, x.1 = (k : Int) ∧ k ≤ r.length ∧ x.2.1 = r ∧ linesM r = (linesM (r.drop k)).map (x.2.2 ++ ·) ∧ x.2.2.length ≤ k) (fun x => r.length - x.1.toNat) ⟨0, rfl, by omega, rfl, ?_, by simp⟩ ?_
      · show _ = (linesM r).map ([] ++ ·)
        cases linesM r <;> simp
      rintro ⟨v, l, out⟩ ⟨k, g0, g1, g2, g3, g4⟩
      simp only at g0 g2 g3 g4
      subst g0 g2
      unfold ref03_Split_L0
      simp only
      refine Ok.bif (fun hc => ?_) fun hc => ?_
      · have hc := of_decide_eq_true hc
        have hk : k < l.length := by omega
        have hX := hm _ (gD_mem (d := []) hk)
        rw [List.drop_eq_getElem_cons hk, ← gD_eq (d := []) hk] at g3
        rw [Int.toNat_natCast]
        generalize hXe : l.getD k [] = X at hX g3
        have e1 : (gd (inB (k : Int) l.length) <| bif decide (X = []) then some (true, l, out) else gd (inB (k : Int) l.length) <| gd (inB 0 X.length) <| some (decide ((Int.ofNat (X.getD 0 0).toNat) = 35), l, out)) = some (X.isEmpty || X.headD 0 == 35, l, out) := by
          rw [gd_t (inB_t hk), gd_t (inB_t hk)]
          cases X with
          | nil => rfl
          | cons a q => rw [dec_f (by simp), cond_false, gd_t (inB0 (by simp)), eq35]; rfl
        rw [e1, Option.bind_some]
        simp only
        rw [linesM_cons] at g3
        unfold lineOf at g3
        cases hc : X.isEmpty || X.headD 0 == 35 with
        | true =>
          rw [hc] at g3
          rw [cond_true, gd_t (fits_t (by omega)), Option.bind_some]
          simp only [Sum.elim_inl]
          rw [w1 hk (by omega)]
          refine .ret ⟨⟨k + 1, rfl, by omega, rfl, ?_, by simp; omega⟩, by simp only [Int.toNat_natCast]; omega⟩
          rw [g3]
          simp only [cond_true]
          cases linesM (l.drop (k + 1)) <;> simp
        | false =>
          rw [hc] at g3
          rw [cond_false, gd_t (inB_t hk), hXe, rcut_eq X hX, Option.bind_some, rproper_eq _ (fun s hs => Nat.le_trans (splB_mem hs) hX), Option.bind_some]
          have hpw : properB (splB 32 X) = wordsB (splB 32 X) := by
            unfold wordsB
            cases hs : splB 32 X with
            | nil => exact absurd hs (splB_ne _ _)
            | cons => rfl
          rw [hpw]
          cases hw : wordsB (splB 32 X) with
          | false =>
            rw [hw] at g3
            refine .ret ?_
            rw [g3]; rfl
          | true =>
            rw [hw] at g3
            rw [Bool.not_true, cond_false, gd_t (fits_t (by omega)), Option.bind_some]
            simp only [Sum.elim_inl]
            rw [w1 hk (by omega)]
            refine .ret ⟨⟨k + 1, rfl, by omega, rfl, ?_, by simp; omega⟩, by simp only [Int.toNat_natCast]; omega⟩
            rw [g3]
            simp only [cond_true, cond_false]
            cases linesM (l.drop (k + 1)) <;> simp
      · have hc := of_decide_eq_false hc
        have : k = l.length := by omega
        subst this
        refine .ret ?_
        rw [g3]
        simp [linesM]
abbrev joinS (w : List Str) : Str := Lib.join w [32]
theorem joinS_cons2 (a b : Str) (r : List Str) : joinS (a :: b :: r) = a ++ 32 :: joinS (b :: r) := by
  simp [joinS, Lib.join, List.intercalate]
theorem joinS_snoc (x : Str) : ∀ {l : List Str}, l ≠ [] → joinS (l ++ [x]) = joinS l ++ 32 :: x
  | [], h => absurd rfl h
  | [a], _ => by
    show joinS (a :: x :: []) = _
    rw [joinS_cons2]
    simp [joinS, Lib.join, List.intercalate]
  | a :: b :: r, _ => by
    show joinS (a :: b :: (r ++ [x])) = _
    rw [joinS_cons2, joinS_cons2, show b :: (r ++ [x]) = (b :: r) ++ [x] from rfl, joinS_snoc x (by simp), List.append_assoc]; rfl
def sumL (w : List Str) : Nat := (w.map List.length).sum
theorem sumL_app (a b : List Str) : sumL (a ++ b) = sumL a + sumL b := by simp [sumL]
theorem sumL_take (w : List Str) (k : Nat) : sumL (w.take k) ≤ sumL w := by
  have := sumL_app (w.take k) (w.drop k)
  rw [List.take_append_drop] at this; omega
theorem sumL_le {w : List Str} {n : Nat} (h : ∀ s ∈ w, s.length ≤ n) : sumL w ≤ w.length * n := by
  induction w with
  | nil => simp [sumL]
  | cons a r ih =>
    have h1 := h a (by simp)
    have h2 := ih (fun s hs => h s (by simp [hs]))
    have : sumL (a :: r) = a.length + sumL r := by simp [sumL]
    rw [this, List.length_cons, Nat.add_mul]; omega
theorem joinS_len : ∀ {w : List Str}, w ≠ [] → (joinS w).length + 1 = sumL w + w.length
  | [], h => absurd rfl h
  | [a], _ => by simp [joinS, Lib.join, List.intercalate, sumL]
  | a :: b :: r, _ => by
    rw [joinS_cons2]
    have ih := joinS_len (w := b :: r) (by simp)
    have : sumL (a :: b :: r) = a.length + sumL (b :: r) := by simp [sumL]
    rw [this]
    simp only [List.length_append, List.length_cons] at ih ⊢
    omega
theorem joinS_le (w : List Str) : (joinS w).length ≤ sumL w + w.length := by
  cases w with
  | nil => simp [joinS, Lib.join, List.intercalate]
  | cons a r => have := joinS_len (w := a :: r) (by simp); omega
def txt (l : List (List Str)) : Str := l.flatMap fun w => joinS w ++ [10]
theorem txt_app (a b : List (List Str)) : txt (a ++ b) = txt a ++ txt b := by simp [txt]
theorem txt_one (w : List Str) : txt [w] = joinS w ++ [10] := by simp [txt]
def szW (w : List Str) : Nat := w.length + sumL w
def szL (l : List (List Str)) : Nat := (l.map szW).sum
theorem szL_app (a b : List (List Str)) : szL (a ++ b) = szL a + szL b := by simp [szL]
theorem txt_len : ∀ l : List (List Str), szL l ≤ (txt l).length ∧ (txt l).length ≤ szL l + l.length
  | [] => by simp [szL, txt]
  | w :: r => by
    obtain ⟨h1, h2⟩ := txt_len r
    have e1 : szL (w :: r) = szW w + szL r := by simp [szL]
    have e2 : (txt (w :: r)).length = (joinS w).length + 1 + (txt r).length := by simp [txt]; omega
    rw [e1, e2, List.length_cons]
    cases w with
    | nil => simp [szW, sumL, joinS, Lib.join, List.intercalate]; omega
    | cons a q =>
      have := joinS_len (w := a :: q) (by simp)
      unfold szW; omega
theorem txt_take (l : List (List Str)) (k : Nat) : (txt (l.take k)).length ≤ (txt l).length := by
  have := txt_app (l.take k) (l.drop k)
  rw [List.take_append_drop] at this
  rw [this, List.length_append]; omega
def specJoin (l : List (List Str)) : Str × Int := bif Nat.blt 400 l.length then ([], 4) else bif !l.all properB then ([], 3) else bif Nat.blt 16384 (txt l).length then ([], 4) else (txt l, 0)
theorem rline_eq (w : List Str) (hl : szW w ≤ 1000000000) : ref03_Line w = some (joinS w) := by
  unfold ref03_Line
  suffices h : Ok (iter (fun x => ref03_Line_L0 w x.1 x.2) ([], 0)) (fun e => e = joinS w) by rw [ok_eq h]; rfl
  refine Ok.loop (fun x : Str × Int => ∃ k : Nat, x.2 = (k : Int) ∧ k ≤ w.length ∧ x.1 = joinS (w.take k)) (fun x => w.length - x.2.toNat) ⟨0, rfl, by omega, rfl⟩ ?_
  rintro ⟨s, v⟩ ⟨k, h1, h2, h3⟩
  simp only at h1 h3
  subst h1 h3
  unfold ref03_Line_L0
  simp only
  unfold szW at hl
  have hb : (joinS (w.take k)).length ≤ sumL w + w.length := by
    have := joinS_le (w.take k)
    have := sumL_take w k
    have : (w.take k).length ≤ w.length := by simp; omega
    omega
  refine Ok.bif (fun hc => ?_) fun hc => ?_
  · have hc := of_decide_eq_true hc
    have hk : k < w.length := by omega
    have hX : (w.getD k []).length ≤ sumL w := by
      have := sumL_take w (k + 1)
      rw [take_next [] hk, sumL_app] at this
      have e : sumL [w.getD k []] = (w.getD k []).length := by simp [sumL]
      omega
    by_cases h0 : k = 0
    · subst h0
      rw [dec_f (show ¬ (0 : Int) < ((0 : Nat) : Int) by omega), cond_false, Option.bind_some, gd_t (inB_t hk), gd_t (Nat.ble_eq_true_of_le (by rw [Int.toNat_natCast]; omega)), w1 hk (by omega)]
      refine .ret ⟨⟨1, rfl, by omega, ?_⟩, by simp only [Int.toNat_natCast]; omega⟩
      rw [take_next [] hk, Int.toNat_natCast]
      simp [joinS, Lib.join, List.intercalate]
    · rw [dec_t (show (0 : Int) < (k : Int) by omega), cond_true, gd_t (Nat.ble_eq_true_of_le (by show (joinS (w.take k)).length + 1 ≤ _; omega)), Option.bind_some, gd_t (inB_t hk), gd_t (Nat.ble_eq_true_of_le (by rw [Int.toNat_natCast, List.length_append]; show (joinS (w.take k)).length + 1 + _ ≤ _; omega)), w1 hk (by omega)]
      refine .ret ⟨⟨k + 1, rfl, by omega, ?_⟩, by simp only [Int.toNat_natCast]; omega⟩
      have hne : w.take k ≠ [] := by intro e; have := congrArg List.length e; rw [List.length_take, List.length_nil] at this; omega
      rw [take_next [] hk, joinS_snoc _ hne, Int.toNat_natCast, List.append_assoc]; rfl
  · have hc := of_decide_eq_false hc
    have : k = w.length := by omega
    subst this
    exact .ret (by rw [List.take_length])
/-- Lists of words of moderate size. -/
def BJ (l : List (List Str)) : Prop := ∀ w ∈ l, w.length ≤ 1000000 ∧ ∀ s ∈ w, s.length ≤ 1000000
theorem proper_sz {w : List Str} (h : properB w = true) (hb : ∀ s ∈ w, s.length ≤ 1000000) : szW w ≤ 17000000 := by
  unfold properB at h
  rw [Bool.and_eq_true, Bool.and_eq_true, Nat.ble_eq] at h
  have := sumL_le hb
  have h2 : w.length * 1000000 ≤ 16 * 1000000 := Nat.mul_le_mul_right _ h.1.1
  unfold szW; omega
theorem rjoin_eq (l : List (List Str)) (hb : BJ l) : ref03_Join l = some (specJoin l) := by
  unfold ref03_Join specJoin
  by_cases h1 : 400 < l.length
  · rw [dec_t (show 400 < (l.length : Int) by omega), show Nat.blt 400 l.length = true by rw [Nat.blt_eq]; exact h1]; rfl
  · rw [dec_f (show ¬ 400 < (l.length : Int) by omega), cond_false, show Nat.blt 400 l.length = false by rw [Bool.eq_false_iff, ne_eq, Nat.blt_eq]; exact h1, cond_false]
    have h2 : iter (fun x => ref03_Join_L0 l x) 0 = some (bif l.all properB then .inl () else .inr ([], 3)) := by
      refine scan l [] properB (fun i hi hq => ?_) (fun i hi hq => ?_) ?_
      · unfold ref03_Join_L0
        rw [dec_t (by omega), cond_true, gd_t (inB_t hi), Int.toNat_natCast, rproper_eq _ (hb _ (gD_mem hi)).2, Option.bind_some, hq, Bool.not_true, cond_false, w1 hi (by omega)]
      · unfold ref03_Join_L0
        rw [dec_t (by omega), cond_true, gd_t (inB_t hi), Int.toNat_natCast, rproper_eq _ (hb _ (gD_mem hi)).2, Option.bind_some, hq]; rfl
      · unfold ref03_Join_L0
        rw [dec_f (by omega)]; rfl
    rw [h2, Option.bind_some]
    cases ha : l.all properB with
    | false => rfl
    | true =>
      simp only [cond_true, Sum.elim_inl, Bool.not_true, cond_false]
      have hpr : ∀ k, k < l.length → properB (l.getD k []) = true := fun k hk => List.all_eq_true.1 ha _ (gD_mem hk)
      suffices h : Ok (iter (fun x2 => ref03_Join_L1 l x2.1 x2.2) ([], 0)) (fun e => if 16384 < (txt l).length then e = .inr ([], 4) else e = .inl (txt l)) by
        obtain ⟨e, h3, h4⟩ := h
        rw [h3, Option.bind_some]
        by_cases h5 : 16384 < (txt l).length
        · rw [if_pos h5] at h4; rw [h4, show Nat.blt 16384 (txt l).length = true by rw [Nat.blt_eq]; exact h5]; rfl
        · rw [if_neg h5] at h4; rw [h4, show Nat.blt 16384 (txt l).length = false by rw [Bool.eq_false_iff, ne_eq, Nat.blt_eq]; exact h5]; rfl
      refine Ok.loop (fun x : Str × Int => ∃ k : Nat, x.2 = (k : Int) ∧ k ≤ l.length ∧ x.1 = txt (l.take k) ∧ x.1.length ≤ 16384) (fun x => l.length - x.2.toNat) ⟨0, rfl, by omega, rfl, by simp⟩ ?_
      rintro ⟨s, v⟩ ⟨k, g1, g2, g3, g4⟩
      simp only at g1 g3 g4
      subst g1 g3
      unfold ref03_Join_L1
      simp only
      refine Ok.bif (fun hc => ?_) fun hc => ?_
      · have hc := of_decide_eq_true hc
        have hk : k < l.length := by omega
        have hsz := proper_sz (hpr k hk) (hb _ (gD_mem hk)).2
        refine Ok.gd (inB_t hk) ?_
        rw [Int.toNat_natCast]
        refine Ok.eq (rline_eq _ (by omega)) ?_
        have hj : (joinS (l.getD k [])).length ≤ 17000000 := by have := joinS_le (l.getD k []); unfold szW at hsz; omega
        refine Ok.gd (Nat.ble_eq_true_of_le (by show (joinS (l.getD k [])).length + 1 ≤ _; omega)) ?_
        refine Ok.gd (Nat.ble_eq_true_of_le (by rw [List.length_append]; show _ + ((joinS (l.getD k [])).length + 1) ≤ _; omega)) ?_
        have e : txt (l.take k) ++ (joinS (l.getD k []) ++ [10]) = txt (l.take (k + 1)) := by rw [take_next [] hk, txt_app, txt_one]
        rw [e]
        refine Ok.bif (fun hc => ?_) fun hc => ?_
        · have hc := of_decide_eq_true hc
          have := txt_take l (k + 1)
          exact .ret (by dsimp only; rw [if_pos (by omega)])
        · have hc := of_decide_eq_false hc
          rw [w1 hk (by omega)]
          exact .ret ⟨⟨k + 1, rfl, by omega, rfl, by simp only; omega⟩, by simp only [Int.toNat_natCast]; omega⟩
      · have hc := of_decide_eq_false hc
        have : k = l.length := by omega
        subst this
        rw [List.take_length] at g4 ⊢
        exact .ret (by dsimp only; rw [if_neg (by omega)])
theorem toBytes_ofBytes (x : Str) : toBytes (ofBytes x) = x := by
  unfold toBytes ofBytes
  rw [List.map_map]
  conv => rhs; rw [← List.map_id x]
  refine List.map_congr_left fun b _ => ?_
  show UInt8.ofNat (Int.toNat (b.toNat : Int)) = b
  rw [Int.toNat_natCast]
  exact UInt8.ofNat_toNat
theorem ofBytes_app (a b : Str) : ofBytes (a ++ b) = ofBytes a ++ ofBytes b := by simp [ofBytes]
theorem proper_words {w : List Str} (h : w ≠ []) : wordsB w = properB w := by
  unfold wordsB
  cases w with
  | nil => exact absurd rfl h
  | cons => rfl
/-- The sizes, up to 32768. -/
theorem joinL1 (l : List (List Str)) (k : Nat) (hne : l.getD k [] ≠ []) (hb : ∀ s ∈ l.getD k [], s.length ≤ 1000000) (h16 : (l.getD k []).length ≤ 16) (m : Nat) (hm : m ≤ 32800) :
    iter (fun x => lines_JoinB_L1 l (k : Int) x.1 x.2) ((m : Int), 0) = some (((min (m + sumL (l.getD k [])) 32768 : Nat) : Int)) := by
  refine ok_eq ?_
  have hpos : 0 < (l.getD k []).length := by cases h : l.getD k [] with | nil => exact absurd h hne | cons => simp
  refine Ok.loop (fun x : Int × Int => ∃ j : Nat, x.2 = (j : Int) ∧ j ≤ (l.getD k []).length ∧ x.1 = (((if j = 0 then m else min (m + sumL ((l.getD k []).take j)) 32768 : Nat)) : Int)) (fun x => (l.getD k []).length - x.2.toNat) ⟨0, rfl, by omega, rfl⟩ ?_
  rintro ⟨n, v⟩ ⟨j, g1, g2, g3⟩
  simp only at g1 g3
  subst g1 g3
  unfold lines_JoinB_L1
  simp only
  rw [Int.toNat_natCast]
  generalize l.getD k [] = w at *
  have hcap : (if j = 0 then m else min (m + sumL (w.take j)) 32768 : Nat) ≤ 32800 := by split <;> omega
  refine Ok.bif (fun hc => ?_) fun hc => ?_
  · have hc := of_decide_eq_true hc
    have hj : j < w.length := by omega
    have hX := hb _ (gD_mem (d := []) hj)
    refine Ok.gd (inB_t hj) ?_
    rw [Int.toNat_natCast]
    have e1 : wi64 (((if j = 0 then m else min (m + sumL (w.take j)) 32768 : Nat) : Int) + ((w.getD j []).length : Int)) = (((if j = 0 then m else min (m + sumL (w.take j)) 32768) + (w.getD j []).length : Nat) : Int) := by rw [wi (by omega)]; omega
    rw [e1]
    have hs : sumL (w.take (j + 1)) = sumL (w.take j) + (w.getD j []).length := by rw [take_next [] hj, sumL_app]; simp [sumL]
    have h00 : sumL (w.take 0) = 0 := by simp [sumL]
    have e2 : (Option.bind (α := Int) (bif decide (32768 < (((if j = 0 then m else min (m + sumL (w.take j)) 32768) + (w.getD j []).length : Nat) : Int)) then some 32768 else some (((if j = 0 then m else min (m + sumL (w.take j)) 32768) + (w.getD j []).length : Nat) : Int)) fun s2 => some s2) = some ((min (m + sumL (w.take (j + 1))) 32768 : Nat) : Int) := by
      rw [hs]
      by_cases hj0 : j = 0
      · subst hj0
        rw [if_pos rfl, h00]
        by_cases hlt : 32768 < m + (w.getD 0 []).length
        · rw [dec_t (by omega), cond_true, Option.bind_some]; congr 1; omega
        · rw [dec_f (by omega), cond_false, Option.bind_some]; congr 1; omega
      · rw [if_neg hj0]
        by_cases hlt : 32768 < min (m + sumL (w.take j)) 32768 + (w.getD j []).length
        · rw [dec_t (by omega), cond_true, Option.bind_some]; congr 1; omega
        · rw [dec_f (by omega), cond_false, Option.bind_some]; congr 1; omega
    have e3 : (bif decide (32768 < (((if j = 0 then m else min (m + sumL (w.take j)) 32768) + (w.getD j []).length : Nat) : Int)) then some 32768 else some (((if j = 0 then m else min (m + sumL (w.take j)) 32768) + (w.getD j []).length : Nat) : Int)) = some ((min (m + sumL (w.take (j + 1))) 32768 : Nat) : Int) := by
      rw [← e2]; cases (bif decide (32768 < (((if j = 0 then m else min (m + sumL (w.take j)) 32768) + (w.getD j []).length : Nat) : Int)) then some (32768 : Int) else some (((if j = 0 then m else min (m + sumL (w.take j)) 32768) + (w.getD j []).length : Nat) : Int)) <;> rfl
    rw [e3, Option.bind_some, w1 hj (by omega)]
    exact .ret ⟨⟨j + 1, rfl, by omega, by rw [if_neg (by omega)]⟩, by simp only [Int.toNat_natCast]; omega⟩
  · have hc := of_decide_eq_false hc
    have : j = w.length := by omega
    subst this
    refine .ret ?_
    dsimp only
    rw [if_neg (by omega), List.take_length]
theorem joinL0 (l : List (List Str)) (hb : BJ l) (hl : l.length ≤ 400) : iter (fun x2 => lines_JoinB_L0 l x2.1 x2.2) (0, 0) = some (bif l.all properB then .inl (((min (szL l) 32768 : Nat)) : Int) else .inr ([], 3)) := by
  have h := iter_all (step := fun x2 : Int × Int => lines_JoinB_L0 l x2.1 x2.2) l.length (fun i => (((min (szL (l.take i)) 32768 : Nat) : Int), (i : Int))) (fun i => properB (l.getD i [])) (fin := Sum.inl (((min (szL l) 32768 : Nat)) : Int)) (bad := Sum.inr (([] : Str), (3 : Int))) (fun i hi _ hq => ?_) (fun i hi _ hq => ?_) (fun _ => ?_)
  · rw [all_gD l [] properB] at h
    rw [← h]
    rfl
  · show lines_JoinB_L0 l ((min (szL (l.take i)) 32768 : Nat) : Int) (i : Int) = _
    unfold lines_JoinB_L0
    rw [dec_t (by omega), cond_true, gd_t (inB_t hi), Int.toNat_natCast]
    have hs : szL (l.take (i + 1)) = szL (l.take i) + szW (l.getD i []) := by rw [take_next [] hi, szL_app]; simp [szL]
    by_cases h0 : l.getD i [] = []
    · rw [h0] at hs ⊢
      have hz : szW ([] : List Str) = 0 := rfl
      have e1 : wi64 (((min (szL (l.take i)) 32768 : Nat) : Int) + (([] : List Str).length : Int)) = ((min (szL (l.take (i + 1))) 32768 : Nat) : Int) := by
        rw [hs, hz, show (([] : List Str).length : Int) = 0 from rfl, wi (by omega)]; omega
      rw [dec_f (show ¬ (0 : Int) < (([] : List Str).length : Int) by simp), cond_false, Option.bind_some, cond_false, e1]
      have e2 : iter (fun x => lines_JoinB_L1 l (i : Int) x.1 x.2) (((min (szL (l.take (i + 1))) 32768 : Nat) : Int), 0) = some ((min (szL (l.take (i + 1))) 32768 : Nat) : Int) := by
        refine iter_inr ?_
        show lines_JoinB_L1 l (i : Int) _ 0 = _
        unfold lines_JoinB_L1
        rw [Int.toNat_natCast, h0]; rfl
      rw [e2, Option.bind_some, w1 hi (by omega)]
    · have hw := hb _ (gD_mem (d := []) hi)
      have hpos : 0 < (l.getD i []).length := by cases h : l.getD i [] with | nil => exact absurd h h0 | cons => simp
      have h16 : (l.getD i []).length ≤ 16 := by
        have := hq; unfold properB at this
        rw [Bool.and_eq_true, Bool.and_eq_true, Nat.ble_eq] at this; exact this.1.1
      rw [dec_t (show (0 : Int) < ((l.getD i []).length : Int) by omega), cond_true, words_eq _ hw.2, proper_words h0, hq, Option.bind_some, Option.bind_some]
      have e1 : wi64 (((min (szL (l.take i)) 32768 : Nat) : Int) + ((l.getD i []).length : Int)) = ((min (szL (l.take i)) 32768 + (l.getD i []).length : Nat) : Int) := by rw [wi (by omega)]; omega
      rw [e1, Bool.not_true, cond_false, joinL1 l i h0 hw.2 h16 _ (by omega), Option.bind_some, w1 hi (by omega)]
      congr 3
      rw [hs]; unfold szW; omega
  · show lines_JoinB_L0 l ((min (szL (l.take i)) 32768 : Nat) : Int) (i : Int) = _
    have h0 : l.getD i [] ≠ [] := by
      intro e; rw [e] at hq; cases hq
    have hw := hb _ (gD_mem (d := []) hi)
    have hpos : 0 < (l.getD i []).length := by cases h : l.getD i [] with | nil => exact absurd h h0 | cons => simp
    unfold lines_JoinB_L0
    rw [dec_t (by omega), cond_true, gd_t (inB_t hi), Int.toNat_natCast, dec_t (show (0 : Int) < ((l.getD i []).length : Int) by omega), cond_true, words_eq _ hw.2, proper_words h0, hq]; rfl
  · show lines_JoinB_L0 l ((min (szL (l.take l.length)) 32768 : Nat) : Int) (l.length : Int) = _
    unfold lines_JoinB_L0
    rw [dec_f (by omega), cond_false, List.take_length]
theorem joinL2 (l : List (List Str)) (hpr : l.all properB = true) (hb : BJ l) (hl : l.length ≤ 400) (hsz : szL l < 32768) (n : Int) (hn : n < 32768) : iter (fun x3 => lines_JoinB_L2 l n x3.1 x3.2) (0, []) = some (ofBytes (txt l)) := by
  have h := iter_for (step := fun x3 : Int × List Int => lines_JoinB_L2 l n x3.1 x3.2) l.length (fun i => ((i : Int), ofBytes (txt (l.take i)))) (e := ofBytes (txt l)) (fun i hi => ?_) ?_
  · exact h
  · show lines_JoinB_L2 l n (i : Int) (ofBytes (txt (l.take i))) = _
    have hpi : properB (l.getD i []) = true := List.all_eq_true.1 hpr _ (gD_mem hi)
    have hjl := joinS_le (l.getD i [])
    have hw := proper_sz hpi (hb _ (gD_mem (d := []) hi)).2
    unfold szW at hw
    have htl := txt_len l
    have htt := txt_take l i
    have hj2 : (Lib.join (l.getD i []) [32]).length ≤ 140737488355328 := (by omega : (joinS (l.getD i [])).length ≤ 140737488355328)
    unfold lines_JoinB_L2
    rw [dec_t (by omega), cond_true, gd_t (inB_t hi), Int.toNat_natCast, dec_t hn, cond_true]
    have e1 : joinT (l.getD i []) [32] = some (joinS (l.getD i [])) := by
      unfold joinT
      rw [Nat.ble_eq_true_of_le (show (l.getD i []).length ≤ 140737488355328 by omega), Nat.ble_eq_true_of_le hj2]; rfl
    rw [e1, Option.bind_some, gd_t (Nat.ble_eq_true_of_le (by show (joinS (l.getD i [])).length + 1 ≤ _; omega))]
    unfold strings_Builder_WriteString ccT
    rw [Option.bind_some, gd_t (by
      rw [Bool.and_eq_true, Nat.blt_eq]
      exact ⟨by simp, fits_t (by rw [ofBytes_len, List.length_append, show ([10] : Str).length = 1 from rfl]; omega)⟩), Option.bind_some, Option.bind_some, w1 hi (by omega)]
    simp only
    rw [take_next [] hi, txt_app, txt_one, ofBytes_app, ofBytes_app, ofBytes_app]
  · show lines_JoinB_L2 l n (l.length : Int) (ofBytes (txt (l.take l.length))) = _
    unfold lines_JoinB_L2
    rw [dec_f (by omega), cond_false, List.take_length]
theorem joinL2n (l : List (List Str)) (hl : l.length ≤ 400) : iter (fun x3 => lines_JoinB_L2 l 32768 x3.1 x3.2) (0, []) = some [] := by
  have h := iter_for (step := fun x3 : Int × List Int => lines_JoinB_L2 l 32768 x3.1 x3.2) l.length (fun i => ((i : Int), ([] : List Int))) (e := []) (fun i hi => ?_) ?_
  · exact h
  · show lines_JoinB_L2 l 32768 (i : Int) [] = _
    unfold lines_JoinB_L2
    rw [dec_t (by omega), cond_true, gd_t (inB_t hi), dec_f (by decide), cond_false, Option.bind_some, w1 hi (by omega)]
  · show lines_JoinB_L2 l 32768 (l.length : Int) [] = _
    unfold lines_JoinB_L2
    rw [dec_f (by omega)]; rfl
theorem ljoinE : lines_JoinE [] = some ([], 0) := by
  have h1 : iter (fun x2 : Int × Int => lines_JoinE_L0 [] x2.1 x2.2) (0, 0) = some (.inl 0) := iter_inr rfl
  have h2 : iter (fun x3 : Int => lines_JoinE_L2 [] 0 x3) 0 = some () := iter_inr rfl
  unfold lines_JoinE
  rw [dec_f (by simp), cond_false, h1, Option.bind_some]
  simp only [Sum.elim_inl]
  rw [h2]; rfl
theorem ljoin_eq (l : List (List Str)) (hb : BJ l) : lines_Join l = some (specJoin l) := by
  unfold lines_Join
  cases hl : l with
  | nil => exact ljoinE
  | cons w0 r0 =>
    rw [← hl]
    have hne : l ≠ [] := by rw [hl]; simp
    rw [show isNilL l = false by rw [hl]; rfl, cond_false]
    unfold lines_JoinB specJoin
    by_cases h1 : 400 < l.length
    · rw [dec_t (show 400 < (l.length : Int) by omega), show Nat.blt 400 l.length = true by rw [Nat.blt_eq]; exact h1]; rfl
    · rw [dec_f (show ¬ 400 < (l.length : Int) by omega), cond_false, show Nat.blt 400 l.length = false by rw [Bool.eq_false_iff, ne_eq, Nat.blt_eq]; exact h1, cond_false, joinL0 l hb (by omega), Option.bind_some]
      cases ha : l.all properB with
      | false => rfl
      | true =>
        simp only [cond_true, Sum.elim_inl, Bool.not_true, cond_false]
        have htl := txt_len l
        by_cases hs : szL l < 32768
        · have e : min (szL l) 32768 = szL l := by omega
          rw [e, joinL2 l ha hb (by omega) hs _ (by omega), Option.bind_some, dec_f (show ¬ ((szL l : Int) = 32768) by omega), cond_false]
          unfold strings_Builder_Len strings_Builder_String
          rw [Option.bind_some, Option.bind_some]
          simp only
          rw [ofBytes_len]
          by_cases h5 : 16384 < (txt l).length
          · rw [dec_t (show 16384 < ((txt l).length : Int) by omega), show Nat.blt 16384 (txt l).length = true by rw [Nat.blt_eq]; exact h5]; rfl
          · rw [dec_f (show ¬ 16384 < ((txt l).length : Int) by omega), show Nat.blt 16384 (txt l).length = false by rw [Bool.eq_false_iff, ne_eq, Nat.blt_eq]; exact h5]
            have hpos : 0 < (txt l).length := by
              rw [hl]
              simp [txt]; omega
            rw [cond_false, gd_t (by rw [Nat.blt_eq]; exact hpos), gd_t (by
              rw [Bool.and_eq_true, Bool.and_eq_true, Nat.blt_eq]
              exact ⟨hpos, by simp, decide_eq_true (by rw [toBytes_ofBytes])⟩), toBytes_ofBytes]; rfl
        · have e : min (szL l) 32768 = 32768 := by omega
          rw [e]
          rw [show (((32768 : Nat) : Int)) = 32768 from rfl, joinL2n l (by omega), Option.bind_some, show Nat.blt 16384 (txt l).length = true by rw [Nat.blt_eq]; omega]; rfl
end Go.Proofs.YtnilkkggnffklaaGreatDoor
