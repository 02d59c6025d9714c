/- The law NominationAnswers, in plain Lean. No condition. -/
import Derived.Test.YtnilkkggnffklaaGreatDoorNm7
namespace Go.Proofs.YtnilkkggnffklaaGreatDoor
open Go Go.Sq
set_option linter.unusedVariables false
theorem valD_lt : ∀ (l : List UInt8) (acc : Nat), acc * 10 ^ l.length ≤ valD acc l
  | [], acc => by rw [List.length_nil, Nat.pow_zero, Nat.mul_one]; exact Nat.le_refl _
  | c :: r, acc => by
    have h := valD_lt r (acc * 10 + (c.toNat - 48))
    show acc * 10 ^ (r.length + 1) ≤ valD (acc * 10 + (c.toNat - 48)) r
    have h2 : acc * 10 * 10 ^ r.length ≤ (acc * 10 + (c.toNat - 48)) * 10 ^ r.length := Nat.mul_le_mul_right _ (by omega)
    rw [Nat.pow_succ, Nat.mul_comm (10 ^ r.length) 10, ← Nat.mul_assoc]
    omega
theorem dig_nat {c : UInt8} (h : dig c = true) : 48 ≤ c.toNat ∧ c.toNat ≤ 57 := by
  unfold dig at h
  simpa only [Bool.and_eq_true, Nat.ble_eq] using h
theorem digs_uniq : ∀ (n : Nat) (D : List UInt8), Digs n D → D = Lib.decDigits n := by
  intro n
  induction n using Nat.strongRecOn with
  | ind n ih =>
    intro D h
    rcases List.eq_nil_or_concat D with rfl | ⟨E, c, rfl⟩
    · exact absurd rfl h.ne
    · rw [List.concat_eq_append] at h ⊢
      have hall := h.all
      rw [List.all_append, Bool.and_eq_true] at hall
      have hc : dig c = true := by simpa using hall.2
      obtain ⟨c1, c2⟩ := dig_nat hc
      have hv := h.val
      rw [valD_app] at hv
      have hcc : UInt8.ofNat (48 + (c.toNat - 48)) = c := by rw [show 48 + (c.toNat - 48) = c.toNat by omega]; simp
      cases hE : E with
      | nil =>
        subst hE
        have hv' : 0 * 10 + (c.toNat - 48) = n := hv
        rw [Lib.decDigits_one (by omega), show n = c.toNat - 48 by omega, hcc]; rfl
      | cons a r =>
        have hn0 : n ≠ 0 := by
          intro e
          have := h.z e
          rw [hE] at this
          simp at this
        have hhd : a ≠ 48 := by
          have := h.hd (by omega)
          rw [hE] at this
          simpa using this
        have hea : dig a = true := by
          have := hall.1
          rw [hE] at this
          simp only [List.all_cons, Bool.and_eq_true] at this
          exact this.1
        obtain ⟨a1, a2⟩ := dig_nat hea
        have ha48 : a.toNat ≠ 48 := fun e => hhd (by rw [← UInt8.toNat_inj]; exact e)
        have hval : 1 ≤ valD 0 E := by
          rw [hE]
          have := valD_lt r (0 * 10 + (a.toNat - 48))
          have h1 : 1 ≤ (0 * 10 + (a.toNat - 48)) * 10 ^ r.length := Nat.one_le_iff_ne_zero.2 (Nat.mul_ne_zero (by omega) (Nat.ne_of_gt (Nat.pow_pos (by omega))))
          show 1 ≤ valD (0 * 10 + (a.toNat - 48)) r
          omega
        have hdE : Digs (n / 10) E := by
          refine ⟨by rw [hE]; simp, hall.1, by omega, fun _ => by rw [hE]; exact hhd, fun e => by omega⟩
        have := ih (n / 10) (by omega) E hdE
        rw [← hE, Lib.decDigits, dif_neg (by omega), ← this, show n % 10 = c.toNat - 48 by omega, hcc]
theorem rtext_eq {n : Int} (h0 : 0 ≤ n) (h1 : n ≤ 9999999999999999) : ref03_Text n = some (Lib.itoa n) := by
  obtain ⟨D, h, _, e⟩ := text_eq n (by omega) h1
  rw [e, if_neg (by omega), itoa_nat h0, digs_uniq _ _ h, show n.natAbs = n.toNat by omega]
/-! ### Valid, check, format, parse by the reference -/
theorem rname_any (s : Str) : ref03_Name s = some (nameB s) := by
  by_cases hl : s.length ≤ 1000000
  · exact rname_eq s hl
  · unfold ref03_Name nameB
    rw [dec_f (show ¬ (s.length : Int) < 1 by omega), cond_false, dec_t (show 12 < (s.length : Int) by omega), show Nat.ble s.length 12 = false by rw [Bool.eq_false_iff, ne_eq, Nat.ble_eq]; omega]
    cases Nat.ble 1 s.length <;> rfl
theorem rvalidN_eq (x : Nom) : ref11_Valid x = some (validN x) := by
  unfold ref11_Valid validN nmB numB
  simp only [List.all_cons, List.all_nil, Bool.and_true]
  rw [rname_any _, Option.bind_some]
  cases nameB x.1 with
  | false => rfl
  | true =>
    simp only [cond_true, Bool.true_and]
    rw [rname_any _, Option.bind_some]
    cases nameB x.2.1 with
    | false => rfl
    | true =>
      simp only [cond_true, Bool.true_and]
      rw [rname_any _, Option.bind_some]
      cases nameB x.2.2.1 with
      | false => rfl
      | true =>
        simp only [cond_true, Bool.true_and]
        rw [rname_any _, Option.bind_some]
        cases nameB x.2.2.2.1 with
        | false => rfl
        | true =>
          simp only [cond_true, Bool.true_and]
          cases decide (x.2.2.1 = x.2.2.2.1) with
          | true => rfl
          | false =>
            cases decide (0 ≤ x.2.2.2.2.1) with
            | false => rfl
            | true =>
              cases decide (x.2.2.2.2.1 ≤ 1000000) with
              | false => rfl
              | true => cases decide (1 ≤ x.2.2.2.2.2) <;> rfl
theorem rcheckN_eq (l : List Nom) (hl : l.length ≤ 1000000) : ref11_Check l = some (chkN l) := by
  unfold ref11_Check chkN
  by_cases h4 : 400 < l.length
  · rw [dec_t (show (400 : Int) < (l.length : Int) by omega), show Nat.blt 400 l.length = true by rw [Nat.blt_eq]; exact h4]; rfl
  · rw [dec_f (show ¬ (400 : Int) < (l.length : Int) by omega), show Nat.blt 400 l.length = false by rw [Bool.eq_false_iff, ne_eq, Nat.blt_eq]; exact h4, cond_false, cond_false]
    have h1 : iter (fun x => ref11_Check_L0 l x) 0 = some (bif l.all validN then .inl () else .inr 9) := by
      refine scan l n0 validN (fun i hi hq => ?_) (fun i hi hq => ?_) ?_
      · unfold ref11_Check_L0
        rw [dec_t (by omega), cond_true, gd_t (inB_t hi), Int.toNat_natCast]
        show ((ref11_Valid (l.getD i n0)).bind _) = _
        rw [rvalidN_eq _, Option.bind_some, hq, w1 hi (by omega)]; rfl
      · unfold ref11_Check_L0
        rw [dec_t (by omega), cond_true, gd_t (inB_t hi), Int.toNat_natCast]
        show ((ref11_Valid (l.getD i n0)).bind _) = _
        rw [rvalidN_eq _, Option.bind_some, hq]; rfl
      · unfold ref11_Check_L0
        rw [dec_f (by omega)]; rfl
    rw [h1, Option.bind_some]
    cases l.all validN <;> rfl
theorem rfm_loop (l : List Nom) (hv : ∀ p ∈ l, validN p = true) (hl : l.length ≤ 1000) : iter (fun x : Int × List (List Str) => ref11_Format_L0 l x.1 x.2) (0, []) = some (l.map wOf) := by
  have h0 : ((0 : Int), ([] : List (List Str))) = (fun k : Nat => ((k : Int), (l.take k).map wOf)) 0 := rfl
  rw [h0]
  refine iter_for (step := fun x : Int × List (List Str) => ref11_Format_L0 l x.1 x.2) l.length (fun k : Nat => ((k : Int), (l.take k).map wOf)) (fun k hk => ?_) ?_
  · simp only
    have v := valN (hv _ (gD_mem (d := n0) hk))
    unfold ref11_Format_L0
    rw [dec_t (show (k : Int) < (l.length : Int) by omega), cond_true, gd_t (inB_t hk), Int.toNat_natCast]
    show ((ref03_Text (l.getD k n0).2.2.2.2.1).bind fun r2 => (ref03_Text (l.getD k n0).2.2.2.2.2).bind fun r3 => gd (fits (((l.take k).map wOf).length + 1) 24) (some (.inl (wi64 ((k : Int) + 1), (l.take k).map wOf ++ [[cmdN, r2, (l.getD k n0).1, (l.getD k n0).2.1, (l.getD k n0).2.2.1, (l.getD k n0).2.2.2.1, r3]])) : Option ((Int × List (List Str)) ⊕ List (List Str)))) = _
    rw [rtext_eq v.c.1 (by have := v.c.2; omega), Option.bind_some, rtext_eq (by have := v.v.1; omega) (by have := v.v.2; omega), Option.bind_some, gd_t (fits_t (by simp only [List.length_map, List.length_take]; omega)), w1 hk (by omega), take_next n0 hk, List.map_append]; rfl
  · simp only
    unfold ref11_Format_L0
    rw [dec_f (by omega), List.take_length]; rfl
theorem rfmt_eq (l : List Nom) (hl : l.length ≤ 1000000) : ref11_Format l = some (fmtN l) := by
  unfold ref11_Format fmtN
  rw [rcheckN_eq l hl, Option.bind_some]
  by_cases hc : chkN l = 0
  · obtain ⟨hv, h16⟩ := chkN_zero hc
    rw [dec_t hc]
    simp only [Bool.not_true, cond_false]
    rw [rfm_loop l hv (by omega), Option.bind_some, rjoin_eq _ (wOfs_bj hv)]; rfl
  · rw [dec_f hc]; rfl
def badE (v : Int) (e : Int) : List Nom × Int × Int := ([], wi64 (v + 1), e)
noncomputable def lineR (v : Int) (w : List Str) (out : List Nom) : Option (List Nom ⊕ (List Nom × Int × Int)) :=
  Option.bind (α := Bool × List Nom) (bif !decide ((w.length : Int) = 7) then some (true, out) else gd (inB 0 w.length) (some ((!decide (w.getD 0 [] = cmdN)), out))) fun s =>
    bif s.1 then some (.inr (badE v 3)) else
      gd (inB 1 w.length) ((ref03_Number (w.getD 1 [])).bind fun r2 => gd (inB 6 w.length) ((ref03_Number (w.getD 6 [])).bind fun r3 =>
        Option.bind (α := Bool × List Nom) (bif !decide (r2.2 = 0) then some (true, s.2) else some ((!decide (r3.2 = 0)), s.2)) fun s2 =>
          bif s2.1 then some (.inr (badE v 3)) else
            gd (inB 2 w.length) (gd (inB 3 w.length) (gd (inB 4 w.length) (gd (inB 5 w.length) ((ref11_Valid (w.getD 2 [], (w.getD 3 [], (w.getD 4 [], (w.getD 5 [], (r2.1, r3.1)))))).bind fun r4 =>
              bif !r4 then some (.inr (badE v 9)) else gd (fits (s2.2.length + 1) 80) (some (.inl (s2.2 ++ [(w.getD 2 [], (w.getD 3 [], (w.getD 4 [], (w.getD 5 [], (r2.1, r3.1)))))])))))))))
def sumP (v : Int) : List Nom ⊕ Int → List Nom ⊕ (List Nom × Int × Int)
  | .inl o => .inl o
  | .inr e => .inr (badE v e)
theorem lineR_eq (v : Int) {w : List Str} (hb : ∀ y ∈ w, y.length ≤ 1000000) (hne : w ≠ []) {out : List Nom} (ho : out.length ≤ 1000000) : lineR v w out = some (sumP v (stepN out w)) := by
  have hemp : w.isEmpty = false := by cases w with | nil => exact absurd rfl hne | cons => rfl
  unfold stepN
  rw [hemp, cond_false]
  by_cases h7 : w.length = 7
  · obtain ⟨w0, x1, w2, w3, w4, w5, w6, rfl⟩ : ∃ w0 w1 w2 w3 w4 w5 w6, w = [w0, w1, w2, w3, w4, w5, w6] := by
      match w, h7 with
      | [w0, w1, w2, w3, w4, w5, w6], _ => exact ⟨w0, w1, w2, w3, w4, w5, w6, rfl⟩
    have e : lineR v [w0, x1, w2, w3, w4, w5, w6] out = bif !decide (w0 = cmdN) then some (.inr (badE v 3)) else (ref03_Number x1).bind fun r2 => (ref03_Number w6).bind fun r3 =>
        Option.bind (α := Bool × List Nom) (bif !decide (r2.2 = 0) then some (true, out) else some ((!decide (r3.2 = 0)), out)) fun s2 =>
          bif s2.1 then some (.inr (badE v 3)) else (ref11_Valid (w2, (w3, (w4, (w5, (r2.1, r3.1)))))).bind fun r4 =>
              bif !r4 then some (.inr (badE v 9)) else gd (fits (s2.2.length + 1) 80) (some (.inl (s2.2 ++ [(w2, (w3, (w4, (w5, (r2.1, r3.1)))))]))) := rfl
    have es : readN [w0, x1, w2, w3, w4, w5, w6] = bif decide (w0 = cmdN) then (bif okN x1 && okN w6 then (bif validN (w2, (w3, (w4, (w5, ((specNum x1).1, (specNum w6).1))))) then ((w2, (w3, (w4, (w5, ((specNum x1).1, (specNum w6).1))))), 0) else (n0, 9)) else (n0, 3)) else (n0, 3) := rfl
    rw [e, es, rnum_eq x1 (hb x1 (by simp)), Option.bind_some, rnum_eq w6 (hb w6 (by simp)), Option.bind_some]
    have hv : ref11_Valid (w2, (w3, (w4, (w5, ((specNum x1).1, (specNum w6).1))))) = some (validN (w2, (w3, (w4, (w5, ((specNum x1).1, (specNum w6).1)))))) := rvalidN_eq _
    unfold okN
    cases decide (w0 = cmdN) with
    | false => rfl
    | true =>
      cases decide ((specNum x1).2 = 0) with
      | false => rfl
      | true =>
        cases decide ((specNum w6).2 = 0) with
        | false => rfl
        | true =>
          simp only [Bool.not_true, cond_false, cond_true, Option.bind_some, Bool.and_self]
          rw [hv]
          cases validN (w2, (w3, (w4, (w5, ((specNum x1).1, (specNum w6).1))))) with
          | false => rfl
          | true =>
            simp only [Option.bind_some, Bool.not_true, cond_false, cond_true, decide_true]
            rw [gd_t (fits_t (by omega))]; rfl
  · rw [readN_n7 h7]
    unfold lineR
    rw [dec_f (show ¬ (w.length : Int) = 7 by omega)]; rfl
theorem rparse_step (r : List (List Str) × Int) (i : Nat) (hi : i < r.1.length) (hr : r.1.length ≤ 1000000) (hb : ∀ x ∈ r.1.getD i [], x.length ≤ 1000000) (out : List Nom) (ho : out.length ≤ i) :
    ref11_Parse_L0 r (i : Int) out = some (stepR out i (r.1.getD i [])) := by
  have e : ref11_Parse_L0 r (i : Int) out = bif decide ((i : Int) < (r.1.length : Int)) then Option.bind (α := List Nom ⊕ (List Nom × Int × Int)) (gd (inB (i : Int) r.1.length) (bif decide (((r.1.getD (i : Int).toNat []).length : Int) = 0) then some (.inl out) else lineR (i : Int) (r.1.getD (i : Int).toNat []) out)) fun s5 =>
      s5.elim (fun s6 => some (.inl (wi64 ((i : Int) + 1), s6))) (fun s7 => some (.inr (.inr (s7.1, s7.2.1, s7.2.2)))) else some (.inr (.inl out)) := rfl
  rw [e, dec_t (show (i : Int) < (r.1.length : Int) by omega), cond_true, gd_t (inB_t hi), Int.toNat_natCast, w1 hi (by omega)]
  generalize r.1.getD i [] = w at hb
  unfold stepR
  by_cases hne : w = []
  · subst hne; rfl
  · have hl : w.length ≠ 0 := fun h => hne (List.eq_nil_of_length_eq_zero h)
    rw [dec_f (show ¬ (w.length : Int) = 0 by omega), cond_false, lineR_eq _ hb hne (by omega), Option.bind_some]
    cases stepN out w with
    | inl o => rfl
    | inr e =>
      show (some (.inr (.inr ([], wi64 ((i : Int) + 1), e))) : Option ((Int × List Nom) ⊕ (List Nom ⊕ (List Nom × Int × Int)))) = _
      rw [w1 hi (by omega)]
theorem rparseT_eq (t : Str) (ht : t.length ≤ 1000000) : ref11_Parse t = some (parseT t) := by
  unfold ref11_Parse parseT
  rw [rsplit_eq t ht, Option.bind_some]
  by_cases h : (specSplit t).2 = 0
  · obtain ⟨b1, b2⟩ := spec_bnd h
    rw [dec_t h]
    simp only [Bool.not_true, cond_false]
    have hl := parse_loopG (ls := (specSplit t).1) (step := fun x2 : Int × List Nom => ref11_Parse_L0 (specSplit t) x2.1 x2.2) (fun i hi out ho => rparse_step (specSplit t) i hi b1 (b2 _ (gD_mem hi)) out ho)
      (fun out => by simp only; unfold ref11_Parse_L0; rw [dec_f (by omega)]; rfl) (specSplit t).1 [] [] rfl (by simp)
    have hl' : iter (fun x2 : Int × List Nom => ref11_Parse_L0 (specSplit t) x2.1 x2.2) (0, []) = some (parseE 0 [] (specSplit t).1) := hl
    rw [hl', Option.bind_some]
    cases parseE 0 [] (specSplit t).1 <;> rfl
  · rw [dec_f h]; rfl
theorem parseE_len : ∀ (ls : List (List Str)) (i : Nat) (out : List Nom), ((parseE i out ls).elim (fun o => (o, (0 : Int), (0 : Int))) (fun e => e)).1.length ≤ out.length + ls.length
  | [], i, out => by simp [parseE]
  | w :: r, i, out => by
    unfold parseE
    cases hp : stepN out w with
    | inl o =>
      have := parseE_len r (i + 1) o
      have := stepN_len hp
      simp only [List.length_cons]
      omega
    | inr e => simp
theorem parseT_len (t : Str) : (parseT t).1.length ≤ 1000000 := by
  unfold parseT
  by_cases h : (specSplit t).2 = 0
  · have b := spec_bnd h
    rw [dec_t h]
    have := parseE_len (specSplit t).1 0 []
    simp only [List.length_nil] at this
    have b1 := b.1
    show ((parseE 0 [] (specSplit t).1).elim (fun o => (o, (0 : Int), (0 : Int))) (fun e => e)).1.length ≤ _
    omega
  · rw [dec_f h]; simp

/-! ### The totals of the reference -/
theorem ins_sorted {K : List Nom} {x : Nom} {at' : Nat} (hs : K.Pairwise fun a b => ncmp a b < 0) (h1 : ∀ j, j < at' → ncmp (K.getD j n0) x < 0) (h2 : at' < K.length → ncmp x (K.getD at' n0) < 0) (hat : at' ≤ K.length) : (K.take at' ++ x :: K.drop at').Pairwise fun a b => ncmp a b < 0 := by
  refine List.pairwise_append.2 ⟨hs.sublist (List.take_sublist _ _), List.pairwise_cons.2 ⟨fun b hb => ?_, hs.sublist (List.drop_sublist _ _)⟩, fun a ha b hb => ?_⟩
  · obtain ⟨j, hj, e⟩ := List.mem_iff_getElem.1 hb
    have hj' : at' + j < K.length := by simp at hj; omega
    have e' : K[at' + j] = b := by rw [← e]; simp
    have hx := h2 (by omega)
    cases j with
    | zero =>
      rw [gD_eq (by omega)] at hx
      simp only [Nat.add_zero] at e'
      rw [← e']; exact hx
    | succ j =>
      have := List.pairwise_iff_getElem.1 hs at' (at' + (j + 1)) (by omega) hj' (by omega)
      rw [gD_eq (by omega)] at hx
      rw [← e']
      exact ncmp_trans hx this
  · have hax : ncmp a x < 0 := by
      obtain ⟨j, hj, e⟩ := List.mem_iff_getElem.1 ha
      have hj' : j < at' ∧ j < K.length := by simp at hj; omega
      have := h1 j hj'.1
      rw [gD_eq hj'.2] at this
      have e' : K[j] = a := by rw [← e]; simp
      rw [← e']; exact this
    rcases List.mem_cons.1 hb with rfl | hb
    · exact hax
    · have hlt : at' < K.length := by
        rcases Nat.lt_or_ge at' K.length with h | h
        · exact h
        · rw [List.drop_of_length_le h] at hb; cases hb
      have hx := h2 hlt
      obtain ⟨j, hj, e⟩ := List.mem_iff_getElem.1 hb
      have hj' : at' + j < K.length := by simp at hj; omega
      have e' : K[at' + j] = b := by rw [← e]; simp
      rw [gD_eq hlt] at hx
      cases j with
      | zero => simp only [Nat.add_zero] at e'; rw [← e']; exact ncmp_trans hax hx
      | succ j =>
        have := List.pairwise_iff_getElem.1 hs at' (at' + (j + 1)) hlt hj' (by omega)
        rw [← e']
        exact ncmp_trans hax (ncmp_trans hx this)
structure OutX (l : List Nom) (i : Nat) (out : List Nom) : Prop where
  srt : (out.map nkey).Pairwise fun a b => ncmp a b < 0
  mem : ∀ key, key ∈ out.map nkey ↔ ∃ x ∈ l.take i, nkey x = key
  vl : ∀ z ∈ out, z.2.2.2.2.2 = sumK (nkey z) (l.take i)
  len : out.length ≤ i
theorem refL1_ok {l out : List Nom} {i : Nat} (hi : i < l.length) (ho : out.length ≤ 1000) :
    Ok (iter (fun x : Int × List Nom => ref11_Totals_L1 l (i : Int) x.1 x.2) (0, out)) fun q => q.2 = out ∧ ∃ k : Nat, q.1 = (k : Int) ∧ k ≤ out.length ∧ (∀ j, j < k → ncmp (out.getD j n0) (l.getD i n0) < 0) ∧ (k < out.length → ¬ ncmp (out.getD k n0) (l.getD i n0) < 0) := by
  refine Ok.loop (fun x : Int × List Nom => x.2 = out ∧ ∃ k : Nat, x.1 = (k : Int) ∧ k ≤ out.length ∧ ∀ j, j < k → ncmp (out.getD j n0) (l.getD i n0) < 0) (fun x => out.length - x.1.toNat) ⟨rfl, 0, rfl, by omega, fun j hj => by omega⟩ ?_
  rintro ⟨k', out'⟩ ⟨e, k, ek, hk, hp⟩
  replace e : out' = out := e
  replace ek : k' = (k : Int) := ek
  subst e ek
  unfold ref11_Totals_L1
  try simp only
  refine Ok.bind (Q := fun q : Bool × List Nom => q.2 = out' ∧ (q.1 = true → k < out'.length ∧ ncmp (out'.getD k n0) (l.getD i n0) < 0) ∧ (q.1 = false → k < out'.length → ¬ ncmp (out'.getD k n0) (l.getD i n0) < 0)) (Ok.bif (fun hc => ?_) fun hc => ?_) ?_
  · have hc := of_decide_eq_true hc
    have hk : k < out'.length := by omega
    refine Ok.gd (inB_t hk) ?_
    simp only [Int.toNat_natCast]
    refine Ok.eq (cmpR_ok (out'.getD k n0) (l.getD i n0)) ?_
    exact .ret ⟨rfl, fun h => ⟨hk, of_decide_eq_true h⟩, fun h _ => of_decide_eq_false h⟩
  · have hc := of_decide_eq_false hc
    exact .ret ⟨rfl, fun h => (by cases h), fun _ h => by omega⟩
  rintro ⟨b, o⟩ ⟨e, h1, h2⟩
  replace e : o = out' := e
  subst e
  refine Ok.bif (fun hb => ?_) fun hb => ?_
  · have hb : b = true := hb
    subst hb
    obtain ⟨h3, h4⟩ := h1 rfl
    rw [wi_next k (by omega)]
    refine .ret ⟨⟨rfl, k + 1, rfl, h3, fun j hj => ?_⟩, by simp only [Int.toNat_natCast]; omega⟩
    rcases Nat.lt_or_ge j k with h | h
    · exact hp j h
    · obtain rfl : j = k := by omega
      exact h4
  · have hb : b = false := hb
    subst hb
    exact .ret ⟨rfl, k, rfl, hk, hp, h2 rfl⟩
theorem refX_ok {l : List Nom} (hl : l.length ≤ 1000) (hv : ∀ x ∈ l, 1 ≤ x.2.2.2.2.2 ∧ x.2.2.2.2.2 ≤ 1099511627776) :
    Ok (iter (fun x : Int × List Nom => ref11_Totals_L0 l x.1 x.2) (0, [])) fun out => OutX l l.length out := by
  refine Ok.loop (fun x : Int × List Nom => ∃ i : Nat, x.1 = (i : Int) ∧ i ≤ l.length ∧ OutX l i x.2) (fun x => l.length - x.1.toNat) ⟨0, rfl, by omega, ⟨by simp, fun key => by simp, fun z hz => (by cases hz), by simp⟩⟩ ?_
  rintro ⟨i', out⟩ ⟨i, ei, hi, hO⟩
  replace ei : i' = (i : Int) := ei
  subst ei
  try simp only at hO
  unfold ref11_Totals_L0
  try simp only
  refine Ok.bif (fun hc => ?_) fun hc => ?_
  · have hc := of_decide_eq_true hc
    have hi : i < l.length := by omega
    have hol := hO.len
    have hx := gD_mem (d := n0) hi
    have hvx := hv _ hx
    have htk : ∀ z, z ∈ l.take (i + 1) ↔ z ∈ l.take i ∨ z = l.getD i n0 := fun z => by rw [take_next n0 hi]; simp
    have hsn := fun key => sumK_next hi key
    rw [wi_next i (by omega)]
    refine Ok.bind (Q := fun o : List Nom => OutX l (i + 1) o) ?_ fun o ho => .ret ⟨⟨i + 1, rfl, hi, ho⟩, by simp only [Int.toNat_natCast]; omega⟩
    refine Ok.gd (inB_t hi) ?_
    refine Ok.bind (refL1_ok hi (by omega)) ?_
    rintro ⟨k', out'⟩ ⟨e, k, ek, hk, hp, hq⟩
    replace e : out' = out := e
    replace ek : k' = (k : Int) := ek
    subst e ek
    try simp only
    simp only [Int.toNat_natCast]
    refine Ok.bind (Q := fun q : Bool × List Nom => q.2 = out' ∧ (q.1 = true → k < out'.length ∧ ncmp (out'.getD k n0) (l.getD i n0) = 0) ∧ (q.1 = false → k < out'.length → ncmp (l.getD i n0) (out'.getD k n0) < 0)) (Ok.bif (fun hc => ?_) fun hc => ?_) ?_
    · have hc := of_decide_eq_true hc
      have hk : k < out'.length := by omega
      refine Ok.gd (inB_t hk) ?_
      refine Ok.eq (cmpR_ok (out'.getD k n0) (l.getD i n0)) ?_
      refine .ret ⟨rfl, fun h => ⟨hk, of_decide_eq_true h⟩, fun h _ => ?_⟩
      have h := of_decide_eq_false h
      have h1 := hq hk
      exact (ncmp_good.anti _ _).2 (by omega)
    · have hc := of_decide_eq_false hc
      exact .ret ⟨rfl, fun h => (by cases h), fun _ h => by omega⟩
    rintro ⟨b, o⟩ ⟨e, h1, h2⟩
    replace e : o = out' := e
    subst e
    have hKget : ∀ j, j < o.length → (o.map nkey).getD j n0 = nkey (o.getD j n0) := fun j hj => gD_map nkey o j n0 n0 hj
    have hkne : ∀ j j', j < o.length → j' < o.length → j ≠ j' → nkey (o.getD j n0) ≠ nkey (o.getD j' n0) := by
      intro j j' hj hj' hne e
      have hpw := List.pairwise_iff_getElem.1 hO.srt
      have g : ∀ (q : Nat) (hq : q < o.length), (o.map nkey)[q]'(by simpa using hq) = nkey (o.getD q n0) := fun q hq => by rw [List.getElem_map, gD_eq hq]
      rcases Nat.lt_or_gt_of_ne hne with h | h
      · have := hpw j j' (by simpa using hj) (by simpa using hj') h
        rw [g j hj, g j' hj', e, ncmp_self] at this; omega
      · have := hpw j' j (by simpa using hj') (by simpa using hj) h
        rw [g j hj, g j' hj', e, ncmp_self] at this; omega
    refine Ok.bif (fun hb => ?_) fun hb => ?_
    · have hb : b = true := hb
      subst hb
      obtain ⟨h3, h4⟩ := h1 rfl
      have hkey := ncmp_zero h4
      refine Ok.gd (inB_t h3) (Ok.gd (inB_t h3) ?_)
      have hvo : (o.getD k n0).2.2.2.2.2 = sumK (nkey (o.getD k n0)) (l.take i) := hO.vl _ (gD_mem (d := n0) h3)
      have hbd := sumK_bd (l := l.take i) (fun x hx => hv x (List.mem_of_mem_take hx)) (nkey (o.getD k n0))
      rw [List.length_take] at hbd
      have hw : wi64 ((o.getD k n0).2.2.2.2.2 + (l.getD i n0).2.2.2.2.2) = (o.getD k n0).2.2.2.2.2 + (l.getD i n0).2.2.2.2.2 := wi (by omega)
      show Ok (some (o.set k ((o.getD k n0).1, ((o.getD k n0).2.1, ((o.getD k n0).2.2.1, ((o.getD k n0).2.2.2.1, ((o.getD k n0).2.2.2.2.1, wi64 ((o.getD k n0).2.2.2.2.2 + (l.getD i n0).2.2.2.2.2)))))))) _
      rw [hw]
      have hmap : (o.set k ((o.getD k n0).1, ((o.getD k n0).2.1, ((o.getD k n0).2.2.1, ((o.getD k n0).2.2.2.1, ((o.getD k n0).2.2.2.2.1, (o.getD k n0).2.2.2.2.2 + (l.getD i n0).2.2.2.2.2)))))).map nkey = o.map nkey := by
        rw [List.map_set]
        have e1 : nkey ((o.getD k n0).1, ((o.getD k n0).2.1, ((o.getD k n0).2.2.1, ((o.getD k n0).2.2.2.1, ((o.getD k n0).2.2.2.2.1, (o.getD k n0).2.2.2.2.2 + (l.getD i n0).2.2.2.2.2))))) = (o.map nkey)[k]'(by simpa using h3) := by
          rw [List.getElem_map, ← gD_eq (d := n0) h3]; rfl
        rw [e1, List.set_getElem_self]
      refine .ret ⟨by rw [hmap]; exact hO.srt, fun key => ?_, fun z hz => ?_, by rw [List.length_set]; omega⟩
      · rw [hmap, hO.mem]
        constructor
        · rintro ⟨z, hz, e⟩; exact ⟨z, (htk z).2 (.inl hz), e⟩
        · rintro ⟨z, hz, e⟩
          rcases (htk z).1 hz with hz | hz
          · exact ⟨z, hz, e⟩
          · subst hz
            refine (hO.mem key).1 ?_
            rw [← e, ← hkey]
            exact List.mem_map_of_mem (gD_mem h3)
      · obtain ⟨j, hj, rfl⟩ := mem_gD n0 hz
        have hj' : j < o.length := by simpa using hj
        rw [gD_set]
        by_cases hjk : k = j
        · subst hjk
          rw [if_pos ⟨rfl, h3⟩, hsn]
          show (o.getD k n0).2.2.2.2.2 + (l.getD i n0).2.2.2.2.2 = sumK (nkey (o.getD k n0)) (l.take i) + (if nkey (l.getD i n0) = nkey (o.getD k n0) then (l.getD i n0).2.2.2.2.2 else 0)
          rw [if_pos hkey.symm, hvo]
        · rw [if_neg (fun h => hjk h.1), hsn, if_neg (fun e => hkne k j h3 hj' hjk (by rw [hkey, e])), Int.add_zero]
          exact hO.vl _ (gD_mem hj')
    · have hb : b = false := hb
      subst hb
      have h3 := h2 rfl
      have htl : (o.take k).length = k := by rw [List.length_take]; omega
      refine Ok.gd (by unfold cutG; simp only [Bool.and_eq_true, decide_eq_true_eq]; omega) ?_
      refine Ok.gd (fits_t (by rw [htl]; omega)) ?_
      refine Ok.gd (fits_t (by simp only [List.nil_append, htl]; omega)) ?_
      refine Ok.gd (by unfold cutG; simp only [Bool.and_eq_true, decide_eq_true_eq]; omega) ?_
      refine Ok.gd (fits_t (by simp only [List.nil_append, List.length_append, htl, List.length_drop, List.length_cons, List.length_nil]; omega)) ?_
      show Ok (some ((([] ++ o.take k) ++ [l.getD i n0]) ++ o.drop k)) _
      have hmap : ((([] ++ o.take k) ++ [l.getD i n0]) ++ o.drop k).map nkey = (o.map nkey).take k ++ nkey (l.getD i n0) :: (o.map nkey).drop k := by
        simp [List.map_take, List.map_drop]
      have hsort : ((o.map nkey).take k ++ nkey (l.getD i n0) :: (o.map nkey).drop k).Pairwise fun a b => ncmp a b < 0 := by
        refine ins_sorted hO.srt (fun j hj => ?_) (fun hlt => ?_) (by simpa using hk)
        · rw [hKget j (by omega)]; exact hp j hj
        · have hlt : k < o.length := by simpa using hlt
          rw [hKget k hlt]; exact h3 hlt
      have hnot : ∀ z ∈ o, nkey z ≠ nkey (l.getD i n0) := by
        intro z hz e
        have hzm : nkey z ∈ (o.map nkey).take k ∨ nkey z ∈ (o.map nkey).drop k := by
          have : nkey z ∈ (o.map nkey).take k ++ (o.map nkey).drop k := by rw [List.take_append_drop]; exact List.mem_map_of_mem hz
          exact List.mem_append.1 this
        obtain ⟨s1, s2, s3⟩ := List.pairwise_append.1 hsort
        rcases hzm with hm | hm
        · have := s3 _ hm _ (List.mem_cons_self)
          rw [e, ncmp_self] at this; omega
        · have := (List.pairwise_cons.1 s2).1 _ hm
          rw [e, ncmp_self] at this; omega
      have hnk : ∀ x ∈ l.take i, nkey x ≠ nkey (l.getD i n0) := by
        intro x hx e
        obtain ⟨z, hz, e2⟩ := List.mem_map.1 ((hO.mem (nkey x)).2 ⟨x, hx, rfl⟩)
        exact hnot z hz (by rw [e2, e])
      refine .ret ⟨by rw [hmap]; exact hsort, fun key => ?_, fun z hz => ?_, ?_⟩
      · rw [hmap]
        have : key ∈ (o.map nkey).take k ++ nkey (l.getD i n0) :: (o.map nkey).drop k ↔ key ∈ o.map nkey ∨ key = nkey (l.getD i n0) := by
          have e : o.map nkey = (o.map nkey).take k ++ (o.map nkey).drop k := (List.take_append_drop k _).symm
          conv => rhs; rw [e]
          simp only [List.mem_append, List.mem_cons]
          constructor
          · rintro (h | h | h)
            · exact .inl (.inl h)
            · exact .inr h
            · exact .inl (.inr h)
          · rintro ((h | h) | h)
            · exact .inl h
            · exact .inr (.inr h)
            · exact .inr (.inl h)
        rw [this, hO.mem]
        constructor
        · rintro (⟨z, hz, e⟩ | h)
          · exact ⟨z, (htk z).2 (.inl hz), e⟩
          · exact ⟨_, (htk _).2 (.inr rfl), h.symm⟩
        · rintro ⟨z, hz, e⟩
          rcases (htk z).1 hz with hz | hz
          · exact .inl ⟨z, hz, e⟩
          · subst hz; exact .inr e.symm
      · have old : ∀ z ∈ o, z.2.2.2.2.2 = sumK (nkey z) (l.take (i + 1)) := fun z hz => by
          rw [hsn, if_neg (fun e => hnot z hz e.symm), Int.add_zero]
          exact hO.vl z hz
        simp only [List.nil_append, List.mem_append, List.mem_singleton] at hz
        rcases hz with (hz | rfl) | hz
        · exact old z (List.mem_of_mem_take hz)
        · rw [hsn, if_pos rfl, sumK_none hnk]
          show (l.getD i n0).2.2.2.2.2 = 0 + (l.getD i n0).2.2.2.2.2
          omega
        · exact old z (List.mem_of_mem_drop hz)
      · simp only [List.nil_append, List.length_append, htl, List.length_drop, List.length_cons, List.length_nil]; omega
  · have hc := of_decide_eq_false hc
    have : i = l.length := by omega
    subst this
    exact .ret hO
theorem rtot_eq (l : List Nom) (hl : l.length ≤ 1000000) : ∃ T e, nomination_Totals l = some (T, e) ∧ ref11_Totals l = some (T, e) ∧ T.length ≤ l.length := by
  by_cases hc : chkN l = 0
  · obtain ⟨hv, h400⟩ := chkN_zero hc
    have hvol := fun x hx => (valN (hv x hx)).v
    obtain ⟨out, o1, o2⟩ := refX_ok (by omega) hvol
    have hlen := o2.len
    have hL2 : iter (fun x3 : Int × List Nom => ref11_Totals_L2 out x3.1 x3.2) (0, out) = some (bif (List.range out.length).all (fun i => !decide (1099511627776 < (out.getD i n0).2.2.2.2.2)) then .inl out else .inr ([], 4)) := by
      refine iter_all (step := fun x3 : Int × List Nom => ref11_Totals_L2 out x3.1 x3.2) out.length (fun i => ((i : Int), out)) (fun i => !decide (1099511627776 < (out.getD i n0).2.2.2.2.2)) (fun i hi _ hq => ?_) (fun i hi _ hq => ?_) (fun _ => ?_)
      · rw [Bool.not_eq_true'] at hq
        simp only
        unfold ref11_Totals_L2
        rw [dec_t (show (i : Int) < (out.length : Int) by omega), cond_true, gd_t (inB_t hi), Int.toNat_natCast]
        show (bif decide (1099511627776 < (out.getD i n0).2.2.2.2.2) then _ else _) = _
        rw [hq, cond_false, w1 hi (by omega)]
      · rw [Bool.not_eq_false'] at hq
        simp only
        unfold ref11_Totals_L2
        rw [dec_t (show (i : Int) < (out.length : Int) by omega), cond_true, gd_t (inB_t hi), Int.toNat_natCast]
        show (bif decide (1099511627776 < (out.getD i n0).2.2.2.2.2) then _ else _) = _
        rw [hq, cond_true]
      · simp only
        unfold ref11_Totals_L2
        rw [dec_f (by omega)]; rfl
    have hout : ∀ z ∈ out, ∃ x ∈ l, nkey x = nkey z ∧ z.2.2.2.2.2 = sumK (nkey x) l := by
      intro z hz
      obtain ⟨x, hx, e⟩ := (o2.mem (nkey z)).1 (List.mem_map_of_mem hz)
      have := o2.vl z hz
      rw [List.take_length] at hx this
      exact ⟨x, hx, e, by rw [e]; exact this⟩
    have hin : ∀ x ∈ l, ∃ z ∈ out, z.2.2.2.2.2 = sumK (nkey x) l := by
      intro x hx
      obtain ⟨z, hz, e⟩ := List.mem_map.1 ((o2.mem (nkey x)).2 ⟨x, by rw [List.take_length]; exact hx, rfl⟩)
      have := o2.vl z hz
      rw [List.take_length, e] at this
      exact ⟨z, hz, this⟩
    have hr : ref11_Totals l = some (bif (List.range out.length).all (fun i => !decide (1099511627776 < (out.getD i n0).2.2.2.2.2)) then (out, 0) else ([], 4)) := by
      unfold ref11_Totals
      rw [rcheckN_eq l hl, hc, Option.bind_some, dec_t rfl]
      simp only [Bool.not_true, cond_false]
      rw [o1, Option.bind_some, hL2, Option.bind_some]
      cases (List.range out.length).all (fun i => !decide (1099511627776 < (out.getD i n0).2.2.2.2.2)) <;> rfl
    rcases totals_any (l := l) (by omega) (by rw [ncheck_eq l hl, hc]) hvol with ⟨⟨x, hx, hb⟩, ht⟩ | ⟨hle, T, ht, hT⟩
    · refine ⟨[], 4, ht, ?_, by simp⟩
      have : (List.range out.length).all (fun i => !decide (1099511627776 < (out.getD i n0).2.2.2.2.2)) = false := by
        rw [Bool.eq_false_iff, ne_eq, all_range]
        intro hall
        obtain ⟨z, hz, e⟩ := hin x hx
        obtain ⟨k, hk, rfl⟩ := mem_gD n0 hz
        have := hall k hk
        rw [Bool.not_eq_true'] at this
        have := of_decide_eq_false this
        omega
      rw [hr, this]; rfl
    · have hall : (List.range out.length).all (fun i => !decide (1099511627776 < (out.getD i n0).2.2.2.2.2)) = true := by
        rw [all_range]
        intro i hi
        obtain ⟨x, hx, _, e⟩ := hout _ (gD_mem (d := n0) hi)
        have := hle x hx
        rw [dec_f (by omega)]; rfl
      have hTo : T = out := hT.eq_of (by
        have := List.pairwise_map.1 o2.srt
        exact this.imp fun {a b} hab => hab) (fun key => by
          have := o2.mem key
          rw [List.take_length] at this
          rw [← this, List.mem_map]) (fun z hz => by
          have := o2.vl z hz
          rwa [List.take_length] at this)
      subst hTo
      exact ⟨T, 0, ht, by rw [hr, hall]; rfl, hlen⟩
  · refine ⟨[], chkN l, ?_, ?_, by simp⟩
    · unfold nomination_Totals
      rw [ncheck_eq l hl, Option.bind_some, dec_f hc]; rfl
    · unfold ref11_Totals
      rw [rcheckN_eq l hl, Option.bind_some, dec_f hc]; rfl

/-! ### The law -/
theorem odd_ok {s : List Int} {p : Int} (h : SrcOk s p) {l : List Nom} (hl : l.length ≤ 1000) : Ok (law11_odd s p l) (fun r => r.1.length ≤ 1001 ∧ r.2.2.2 = l) := by
  unfold law11_odd
  refine Ok.gd (fits_t (by omega)) ?_
  simp only [List.nil_append]
  refine Ok.bif (fun hc => .ret ⟨by simp, rfl⟩) fun hc => ?_
  have hc := of_decide_eq_false hc
  obtain ⟨r, p1, e1, a1, b1, h1⟩ := n_eq (n := (l.length : Int)) h (by omega) (by omega)
  refine Ok.eq e1 ?_
  obtain ⟨m, rfl⟩ : ∃ m : Nat, r = (m : Int) := ⟨r.toNat, by omega⟩
  have hm : m < l.length := by omega
  refine Ok.gd (inB_t hm) ?_
  obtain ⟨r2, p2, e2, a2, b2, h2⟩ := n_eq (n := 5) h1 (by omega) (by omega)
  refine Ok.eq e2 ?_
  simp only [Int.toNat_natCast]
  have fin : ∀ x : Nom, (l.set m x).length ≤ 1001 ∧ l = l := fun x => ⟨by rw [List.length_set]; omega, rfl⟩
  refine Ok.bif (fun _ => ?_) fun _ => ?_
  · refine Ok.bind (text_ok h2 (by simp) (by simp)) ?_
    rintro ⟨x, d5, d6⟩ ⟨q1, q2, q3⟩
    exact .ret (fin _)
  · refine Ok.bif (fun _ => .ret (fin _)) fun _ => ?_
    refine Ok.bif (fun _ => ?_) fun _ => ?_
    · obtain ⟨r4, p4, e4, a4, h4⟩ := pick_eq (l := [(-1), 1000000, 1000001]) h2 (by simp) (by simp)
      exact Ok.eq e4 (.ret (fin _))
    · refine Ok.bif (fun _ => ?_) fun _ => .ret (fin _)
      obtain ⟨r4, p4, e4, a4, h4⟩ := pick_eq (l := [0, (-1), 1099511627776, 1099511627777]) h2 (by simp) (by simp)
      exact Ok.eq e4 (.ret (fin _))
theorem L0_ok (raw : List Nom) (hl : raw.length ≤ 60) : iter (fun x => law11_NominationAnswers_L0 raw x) 0 = some (.inr true) ∨ iter (fun x => law11_NominationAnswers_L0 raw x) 0 = some (.inl ()) := by
  have hs := scan raw n0 (step := fun x => law11_NominationAnswers_L0 raw x) (ε := Unit ⊕ Bool) (fun p => !decide (200 < wi64 ((wi64 ((wi64 ((p.1.length : Int) + (p.2.1.length : Int))) + (p.2.2.1.length : Int))) + (p.2.2.2.1.length : Int)))) (fin := .inl ()) (bad := .inr true) (fun i hi hq => by
    unfold law11_NominationAnswers_L0
    rw [Bool.not_eq_true'] at hq
    rw [dec_t (show (i : Int) < (raw.length : Int) by omega), cond_true, gd_t (inB_t hi), Int.toNat_natCast]
    show (bif decide (200 < wi64 ((wi64 ((wi64 (((raw.getD i n0).1.length : Int) + ((raw.getD i n0).2.1.length : Int))) + ((raw.getD i n0).2.2.1.length : Int))) + ((raw.getD i n0).2.2.2.1.length : Int))) then _ else _) = _
    rw [hq, cond_false, w1 hi (by omega)]) (fun i hi hq => by
    unfold law11_NominationAnswers_L0
    rw [Bool.not_eq_false'] at hq
    rw [dec_t (show (i : Int) < (raw.length : Int) by omega), cond_true, gd_t (inB_t hi), Int.toNat_natCast]
    show (bif decide (200 < wi64 ((wi64 ((wi64 (((raw.getD i n0).1.length : Int) + ((raw.getD i n0).2.1.length : Int))) + ((raw.getD i n0).2.2.1.length : Int))) + ((raw.getD i n0).2.2.2.1.length : Int))) then _ else _) = _
    rw [hq, cond_true, awake_true]; rfl) (by
    unfold law11_NominationAnswers_L0
    rw [dec_f (by omega)]; rfl)
  rw [hs]
  cases raw.all (fun p => !decide (200 < wi64 ((wi64 ((wi64 ((p.1.length : Int) + (p.2.1.length : Int))) + (p.2.2.1.length : Int))) + (p.2.2.2.1.length : Int)))) with
  | false => exact .inl rfl
  | true => exact .inr rfl
abbrev R5 := List Nom × List Int × Int × List Nom
theorem L1_ok (raw : List Nom) (r5 : R5) (h : ∀ T ∈ [raw, r5.2.2.2, r5.1, r5.2.2.2 ++ r5.2.2.2], T.length ≤ 10000) : iter (fun x2 => law11_NominationAnswers_L1 raw r5 x2) 0 = some (.inl ()) := by
  obtain ⟨TT, hTT⟩ : ∃ TT : List (List Nom), TT = [raw, r5.2.2.2, r5.1, r5.2.2.2 ++ r5.2.2.2] := ⟨_, rfl⟩
  rw [← hTT] at h
  have hl4 : TT.length = 4 := by rw [hTT]; rfl
  refine scanT TT [] (fun i hi => ?_) ?_
  · unfold law11_NominationAnswers_L1
    rw [← hTT, dec_t (show (i : Int) < (TT.length : Int) by omega), cond_true, gd_t (inB_t hi), Int.toNat_natCast i]
    have hT := h _ (gD_mem (d := []) hi)
    generalize TT.getD i [] = T at hT ⊢
    obtain ⟨W, e, t1, t2, t3⟩ := rtot_eq T (by omega)
    rw [fmt_eq T (by omega), Option.bind_some, rfmt_eq T (by omega), Option.bind_some, t1, Option.bind_some, t2, Option.bind_some, ncheck_eq T (by omega), Option.bind_some, rcheckN_eq T (by omega), Option.bind_some]
    simp only [decide_true, Bool.not_true, cond_false]
    rw [same_refl W (by omega), Option.bind_some]
    simp only [Bool.not_true, cond_false, Option.bind_some]
    rw [w1 hi (by omega)]
  · unfold law11_NominationAnswers_L1
    rw [← hTT, dec_f (by omega)]; rfl
theorem L2_ok (s : Str) (r13 : Str × Int) (h0 : s.length ≤ 10000) (h1 : r13.1.length ≤ 10000) : iter (fun x3 => law11_NominationAnswers_L2 s r13 x3) 0 = some (.inl ()) := by
  obtain ⟨T, hT⟩ : ∃ T : List Str, T = [s, r13.1, r13.1 ++ s, (s ++ [10]) ++ r13.1, r13.1 ++ [110, 111, 109, 105, 110, 97, 116, 101, 32, 49, 32, 97, 32, 98, 32, 99, 32, 99, 32, 53], r13.1 ++ [110, 111, 109, 105, 110, 97, 116, 101, 32, 49, 32, 97, 32, 98, 32, 99, 32, 100], r13.1 ++ [110, 111, 109, 105, 110, 97, 116, 101, 32, 120, 32, 97, 32, 98, 32, 99, 32, 100, 32, 53, 10], r13.1 ++ [110, 111, 109, 105, 110, 97, 116, 105, 111, 110, 32, 49, 32, 97, 32, 98, 32, 99, 32, 100, 32, 53, 10], r13.1 ++ [110, 111, 109, 105, 110, 97, 116, 101, 32, 49, 32, 97, 32, 98, 32, 99, 32, 100, 32, 49, 48, 57, 57, 53, 49, 49, 54, 50, 55, 55, 55, 55, 10]] := ⟨_, rfl⟩
  have hb : ∀ t ∈ T, t.length ≤ 1000000 := by
    intro t ht
    rw [hT] at ht
    simp only [List.mem_cons, List.not_mem_nil, or_false] at ht
    rcases ht with rfl | rfl | rfl | rfl | rfl | rfl | rfl | rfl | rfl <;> first | omega | (simp only [List.length_append, List.length_cons, List.length_nil]; omega)
  have hTl : T.length = 9 := by rw [hT]; rfl
  refine scanT T [] (fun i hi => ?_) ?_
  · unfold law11_NominationAnswers_L2
    rw [← hT]
    have ht := hb _ (gD_mem (d := []) hi)
    rw [dec_t (show (i : Int) < (T.length : Int) by omega), cond_true, gd_t (inB_t hi)]
    simp only [Int.toNat_natCast]
    rw [parseT_eq _ ht, Option.bind_some, rparseT_eq _ ht, Option.bind_some, same_refl _ (parseT_len _), Option.bind_some]
    simp only [decide_true, Bool.not_true, cond_false, Option.bind_some]
    rw [w1 hi (by omega)]
  · unfold law11_NominationAnswers_L2
    rw [← hT, dec_f (by omega)]; rfl
theorem answers_true (raw : List Nom) (s : Str) {l : List Int} (hl : ∀ x ∈ l, i64P x) : law11_NominationAnswers raw s l = some true := by
  refine ok_eq ?_
  unfold law11_NominationAnswers
  rw [awake_true]
  refine Ok.bind (Q := fun c : Bool => c = false → raw.length ≤ 60 ∧ s.length ≤ 1000) ?_ fun c hc => ?_
  · refine Ok.bif (fun _ => .ret (fun h => by cases h)) fun h1 => .ret fun h3 => ?_
    have h1 := of_decide_eq_false h1
    have h3 := of_decide_eq_false h3
    omega
  cases c with
  | true => exact ⟨true, rfl, rfl⟩
  | false =>
    obtain ⟨hr, hs⟩ := hc rfl
    rw [cond_false]
    rcases L0_ok raw hr with h0 | h0
    · rw [h0]; exact ⟨true, rfl, rfl⟩
    · rw [h0, Option.bind_some]
      simp only [Sum.elim_inl]
      obtain ⟨s0, p0, a, e1, e2, ha, hs0⟩ := made0 hl
      have hn := ha.n
      refine Ok.eq e1 ?_
      refine Ok.eq e2 ?_
      refine Ok.bind (odd_ok (l := a) hs0 (by omega)) ?_
      rintro ⟨o, d5, d6, a'⟩ ⟨g1, g2⟩
      simp only at g1 g2
      subst g2
      refine Ok.gd (fits_t (by (try dsimp only); omega)) ?_
      rw [L1_ok raw (o, d5, d6, a') (fun T hT => by
        simp only [List.mem_cons, List.not_mem_nil, or_false] at hT
        rcases hT with rfl | rfl | rfl | rfl
        · omega
        · omega
        · omega
        · rw [List.length_append]; omega), Option.bind_some]
      simp only [Sum.elim_inl]
      have ht := wOfs_txt ha.valid
      rw [rfmt_eq a' (by omega), Option.bind_some, fmtN_ok ha.valid (by omega)]
      simp only
      rw [gd_t (Nat.ble_eq_true_of_le (by omega)), gd_t (Nat.ble_eq_true_of_le (by simp only [List.length_cons, List.length_nil]; omega)), gd_t (Nat.ble_eq_true_of_le (by simp only [List.length_append, List.length_cons, List.length_nil]; omega)), gd_t (Nat.ble_eq_true_of_le (by simp only [List.length_cons, List.length_nil]; omega)), gd_t (Nat.ble_eq_true_of_le (by simp only [List.length_cons, List.length_nil]; omega)), gd_t (Nat.ble_eq_true_of_le (by simp only [List.length_cons, List.length_nil]; omega)), gd_t (Nat.ble_eq_true_of_le (by simp only [List.length_cons, List.length_nil]; omega)), gd_t (Nat.ble_eq_true_of_le (by simp only [List.length_cons, List.length_nil]; omega))]
      rw [L2_ok s (txt (a'.map wOf), 0) (by omega) (by show (txt (a'.map wOf)).length ≤ 10000; omega)]
      exact ⟨true, rfl, rfl⟩
end Go.Proofs.YtnilkkggnffklaaGreatDoor
