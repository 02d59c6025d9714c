/- The law ProductAnswers, in plain Lean. No condition. -/
import Derived.Test.YtihbfecdccamoaaGreatDoorPr9
namespace Go.Proofs.YtihbfecdccamoaaGreatDoor
open Go Go.Sq
set_option linter.unusedVariables false

/-! ### Parse -/
def stepR (out : List Pro) (i : Nat) (w : List Str) : (Int × List Pro) ⊕ (List Pro ⊕ (List Pro × Int × Int)) := match stepP out w with | .inl o => .inl (((i + 1 : Nat) : Int), o) | .inr e => .inr (.inr ([], ((i + 1 : Nat) : Int), e))
theorem parse_loopG {ls : List (List Str)} {step : Int × List Pro → Option ((Int × List Pro) ⊕ (List Pro ⊕ (List Pro × Int × Int)))} (hs : ∀ i, i < ls.length → ∀ out : List Pro, out.length ≤ 16 → step ((i : Int), out) = some (stepR out i (ls.getD i [])))
    (he : ∀ out, step ((ls.length : Int), out) = some (.inr (.inl out))) : ∀ (rest pre : List (List Str)) (out : List Pro), ls = pre ++ rest → out.length ≤ 16 → iter step ((pre.length : Int), out) = some (parseE pre.length out rest)
  | [], pre, out, h, ho => by
    rw [List.append_nil] at h
    subst h
    exact iter_inr (he out)
  | w :: rest, pre, out, h, ho => by
    have hi : pre.length < ls.length := by rw [h]; simp
    have hw : ls.getD pre.length [] = w := by rw [h, gD_app, if_neg (by omega), Nat.sub_self]; rfl
    have k := hs pre.length hi out ho
    rw [hw] at k
    unfold stepR at k
    unfold parseE
    cases hp : stepP out w with
    | inr e =>
      rw [hp] at k
      exact iter_inr k
    | inl o =>
      rw [hp] at k
      rw [iter_inl k]
      have := parse_loopG hs he rest (pre ++ [w]) o (by rw [h]; simp) (stepP_len hp ho)
      rw [List.length_append] at this
      exact this
abbrev RpX := Int × Int × Int × Int × Int × List Pro
abbrev RpE := (Int × Int × Int × Int × List Pro) ⊕ (List Pro × Int × Int)
noncomputable def rpStep (r : List (List Str) × Int) (v : Int) (x : RpX) : Option (RpX ⊕ RpE) := ref04_Parse_L1 r v x.1 x.2.1 x.2.2.1 x.2.2.2.1 x.2.2.2.2.1 x.2.2.2.2.2
def badE (v : Int) (e : Int) : List Pro × Int × Int := ([], wi64 (v + 1), e)
section
variable {r : List (List Str) × Int} {i : Nat} {a x c0 c1 c2 c3 : Str} (hw : r.1.getD i [] = [a, x, c0, c1, c2, c3]) {out : List Pro}
include hw
theorem rp0 (h : c0.length ≤ 1000000) (p q s t : Int) : rpStep r (i : Int) (0, p, q, s, t, out) = some (bif okN c0 then .inl (1, (specNum c0).1, q, s, t, out) else .inr (.inr (badE (i : Int) 3))) := by
  unfold rpStep ref04_Parse_L1
  simp only [Int.toNat_natCast]
  rw [hw]
  show ((ref03_Number c0).bind fun r2 => bif !decide (r2.2 = 0) then (some (.inr (.inr (badE (i : Int) 3))) : Option (RpX ⊕ RpE)) else some (.inl (1, r2.1, q, s, t, out))) = _
  rw [rnum_eq c0 h, Option.bind_some]
  unfold okN
  cases decide ((specNum c0).2 = 0) <;> rfl
theorem rp1 (h : c1.length ≤ 1000000) (p q s t : Int) : rpStep r (i : Int) (1, p, q, s, t, out) = some (bif okN c1 then .inl (2, p, (specNum c1).1, s, t, out) else .inr (.inr (badE (i : Int) 3))) := by
  unfold rpStep ref04_Parse_L1
  simp only [Int.toNat_natCast]
  rw [hw]
  show ((ref03_Number c1).bind fun r2 => bif !decide (r2.2 = 0) then (some (.inr (.inr (badE (i : Int) 3))) : Option (RpX ⊕ RpE)) else some (.inl (2, p, r2.1, s, t, out))) = _
  rw [rnum_eq c1 h, Option.bind_some]
  unfold okN
  cases decide ((specNum c1).2 = 0) <;> rfl
theorem rp2 (h : c2.length ≤ 1000000) (p q s t : Int) : rpStep r (i : Int) (2, p, q, s, t, out) = some (bif okN c2 then .inl (3, p, q, (specNum c2).1, t, out) else .inr (.inr (badE (i : Int) 3))) := by
  unfold rpStep ref04_Parse_L1
  simp only [Int.toNat_natCast]
  rw [hw]
  show ((ref03_Number c2).bind fun r2 => bif !decide (r2.2 = 0) then (some (.inr (.inr (badE (i : Int) 3))) : Option (RpX ⊕ RpE)) else some (.inl (3, p, q, r2.1, t, out))) = _
  rw [rnum_eq c2 h, Option.bind_some]
  unfold okN
  cases decide ((specNum c2).2 = 0) <;> rfl
theorem rp3 (h : c3.length ≤ 1000000) (p q s t : Int) : rpStep r (i : Int) (3, p, q, s, t, out) = some (bif okN c3 then .inl (4, p, q, s, (specNum c3).1, out) else .inr (.inr (badE (i : Int) 3))) := by
  unfold rpStep ref04_Parse_L1
  simp only [Int.toNat_natCast]
  rw [hw]
  show ((ref03_Number c3).bind fun r2 => bif !decide (r2.2 = 0) then (some (.inr (.inr (badE (i : Int) 3))) : Option (RpX ⊕ RpE)) else some (.inl (4, p, q, s, r2.1, out))) = _
  rw [rnum_eq c3 h, Option.bind_some]
  unfold okN
  cases decide ((specNum c3).2 = 0) <;> rfl
theorem rpLoop (hb : ∀ y ∈ [a, x, c0, c1, c2, c3], y.length ≤ 1000000) : iter (rpStep r (i : Int)) (0, 0, 0, 0, 0, out) =
    some (bif okN c0 && (okN c1 && (okN c2 && okN c3)) then .inl ((specNum c0).1, (specNum c1).1, (specNum c2).1, (specNum c3).1, out) else .inr (badE (i : Int) 3)) := by
  have k0 := rp0 hw (out := out) (hb c0 (by simp)) 0 0 0 0
  cases e0 : okN c0 with
  | false => rw [e0] at k0; exact iter_inr k0
  | true =>
    rw [e0] at k0
    rw [iter_inl k0]
    have k1 := rp1 hw (out := out) (hb c1 (by simp)) (specNum c0).1 0 0 0
    cases e1 : okN c1 with
    | false => rw [e1] at k1; exact iter_inr k1
    | true =>
      rw [e1] at k1
      rw [iter_inl k1]
      have k2 := rp2 hw (out := out) (hb c2 (by simp)) (specNum c0).1 (specNum c1).1 0 0
      cases e2 : okN c2 with
      | false => rw [e2] at k2; exact iter_inr k2
      | true =>
        rw [e2] at k2
        rw [iter_inl k2]
        have k3 := rp3 hw (out := out) (hb c3 (by simp)) (specNum c0).1 (specNum c1).1 (specNum c2).1 0
        cases e3 : okN c3 with
        | false => rw [e3] at k3; exact iter_inr k3
        | true =>
          rw [e3] at k3
          rw [iter_inl k3]
          exact iter_inr rfl
end
/-- What is done with a line that is not empty. -/
noncomputable def lineR (r : List (List Str) × Int) (v : Int) (w : List Str) (out : List Pro) : Option (List Pro ⊕ (List Pro × Int × Int)) :=
  Option.bind (α := Bool × List Pro) (bif !decide ((w.length : Int) = 6) then some (true, out) else gd (inB 0 w.length) (some ((!decide (w.getD 0 [] = cmdP)), out))) fun s =>
    bif s.1 then some (.inr (badE v 3)) else (iter (rpStep r v) (0, 0, 0, 0, 0, s.2)).bind fun s2 =>
      s2.elim (fun s3 => gd (inB 1 w.length) ((ref04_Valid (w.getD 1 [], (s3.1, (s3.2.1, (s3.2.2.1, s3.2.2.2.1))))).bind fun r3 => bif !r3 then some (.inr (badE v 9)) else
        (ref04_Find s3.2.2.2.2 (w.getD 1 [])).bind fun r4 => bif decide (0 ≤ r4) then some (.inr (badE v 7)) else bif decide ((s3.2.2.2.2.length : Int) = 16) then some (.inr (badE v 4)) else
          gd (fits (s3.2.2.2.2.length + 1) 48) (some (.inl (s3.2.2.2.2 ++ [(w.getD 1 [], (s3.1, (s3.2.1, (s3.2.2.1, s3.2.2.2.1))))])))))
      (fun s4 => some (.inr (s4.1, s4.2.1, s4.2.2)))
def sumP (v : Int) : List Pro ⊕ Int → List Pro ⊕ (List Pro × Int × Int)
  | .inl o => .inl o
  | .inr e => .inr (badE v e)
theorem lineR_eq {r : List (List Str) × Int} {i : Nat} {w : List Str} (hw : r.1.getD i [] = w) (hb : ∀ y ∈ w, y.length ≤ 1000000) (hne : w ≠ []) {out : List Pro} (ho : out.length ≤ 16) : lineR r (i : Int) w out = some (sumP (i : Int) (stepP out w)) := by
  have hemp : w.isEmpty = false := by cases w with | nil => exact absurd rfl hne | cons => rfl
  unfold lineR stepP
  rw [hemp, cond_false]
  by_cases h6 : w.length = 6
  · obtain ⟨a, x, c0, c1, c2, c3, rfl⟩ : ∃ a x c0 c1 c2 c3, w = [a, x, c0, c1, c2, c3] := by
      match w, h6 with
      | [a, x, c0, c1, c2, c3], _ => exact ⟨a, x, c0, c1, c2, c3, rfl⟩
    have es : readS [a, x, c0, c1, c2, c3] = bif decide (a = cmdP) then read6 x c0 c1 c2 c3 else (P0, 3) := rfl
    rw [es]
    show ((bif (!decide (a = cmdP)) then some (.inr (badE (i : Int) 3)) else (iter (rpStep r (i : Int)) (0, 0, 0, 0, 0, out)).bind fun s2 =>
      s2.elim (fun s3 => (ref04_Valid (x, (s3.1, (s3.2.1, (s3.2.2.1, s3.2.2.2.1))))).bind fun r3 => bif !r3 then some (.inr (badE (i : Int) 9)) else
        (ref04_Find s3.2.2.2.2 x).bind fun r4 => bif decide (0 ≤ r4) then some (.inr (badE (i : Int) 7)) else bif decide ((s3.2.2.2.2.length : Int) = 16) then some (.inr (badE (i : Int) 4)) else
          gd (fits (s3.2.2.2.2.length + 1) 48) (some (.inl (s3.2.2.2.2 ++ [(x, (s3.1, (s3.2.1, (s3.2.2.1, s3.2.2.2.1))))]))))
      (fun s4 => some (.inr (s4.1, s4.2.1, s4.2.2)))) : Option (List Pro ⊕ (List Pro × Int × Int))) = _
    cases decide (a = cmdP) with
    | false => rfl
    | true =>
      simp only [Bool.not_true, cond_false, cond_true]
      rw [rpLoop hw hb, Option.bind_some]
      unfold read6
      cases okN c0 && (okN c1 && (okN c2 && okN c3)) with
      | false => rfl
      | true =>
        simp only [cond_true, Sum.elim_inl]
        rw [rvalid_eq _ (hb x (by simp)), Option.bind_some]
        cases validB (x, ((specNum c0).1, ((specNum c1).1, ((specNum c2).1, (specNum c3).1)))) with
        | false => rfl
        | true =>
          simp only [Bool.not_true, cond_false, cond_true, decide_true]
          rw [rfind_eq _ _ (by omega), Option.bind_some]
          unfold fndI
          by_cases hf : fnd out x < out.length
          · rw [if_pos hf, dec_t (show (0 : Int) ≤ (fnd out x : Int) by omega), show Nat.blt (fnd out x) out.length = true by rw [Nat.blt_eq]; exact hf]; rfl
          · rw [if_neg hf, show Nat.blt (fnd out x) out.length = false by rw [Bool.eq_false_iff, ne_eq, Nat.blt_eq]; exact hf]
            by_cases h16 : out.length = 16
            · rw [dec_t (show (out.length : Int) = 16 by omega), show Nat.beq out.length 16 = true by rw [Nat.beq_eq]; exact h16]; rfl
            · rw [dec_f (show ¬ (out.length : Int) = 16 by omega), show Nat.beq out.length 16 = false by rw [Bool.eq_false_iff, ne_eq, Nat.beq_eq]; exact h16, gd_t (fits_t (by omega))]; rfl
  · rw [readS_n6 h6, dec_f (show ¬ (w.length : Int) = 6 by omega)]; rfl
theorem rparse_step (r : List (List Str) × Int) (i : Nat) (hi : i < r.1.length) (hr : r.1.length ≤ 1000000) (hb : ∀ x ∈ r.1.getD i [], x.length ≤ 1000000) (out : List Pro) (ho : out.length ≤ 16) :
    ref04_Parse_L0 r (i : Int) out = some (stepR out i (r.1.getD i [])) := by
  have e : ref04_Parse_L0 r (i : Int) out = bif decide ((i : Int) < (r.1.length : Int)) then Option.bind (α := List Pro ⊕ (List Pro × Int × Int)) (gd (inB (i : Int) r.1.length) (bif decide (((r.1.getD (i : Int).toNat []).length : Int) = 0) then some (.inl out) else lineR r (i : Int) (r.1.getD (i : Int).toNat []) out)) fun s5 =>
      s5.elim (fun s6 => some (.inl (wi64 ((i : Int) + 1), s6))) (fun s7 => some (.inr (.inr (s7.1, s7.2.1, s7.2.2)))) else some (.inr (.inl out)) := rfl
  rw [e, dec_t (show (i : Int) < (r.1.length : Int) by omega), cond_true, gd_t (inB_t hi), Int.toNat_natCast, w1 hi (by omega)]
  generalize hw : r.1.getD i [] = w at hb
  unfold stepR
  by_cases hne : w = []
  · subst hne; rfl
  · have hl : w.length ≠ 0 := fun h => hne (List.eq_nil_of_length_eq_zero h)
    rw [dec_f (show ¬ (w.length : Int) = 0 by omega), cond_false, lineR_eq hw hb hne ho, Option.bind_some]
    cases stepP out w with
    | inl o => rfl
    | inr e =>
      show (some (.inr (.inr ([], wi64 ((i : Int) + 1), e))) : Option ((Int × List Pro) ⊕ (List Pro ⊕ (List Pro × Int × Int)))) = _
      rw [w1 hi (by omega)]
def parseT (t : Str) : List Pro × Int × Int := bif !decide ((specSplit t).2 = 0) then ([], 0, (specSplit t).2) else endP (parseE 0 [] (specSplit t).1)
theorem spec_bnd {t : Str} (h : (specSplit t).2 = 0) : (specSplit t).1.length ≤ 1000000 ∧ ∀ w ∈ (specSplit t).1, ∀ x ∈ w, x.length ≤ 1000000 := by
  unfold specSplit at h ⊢
  generalize hc : (Nat.blt 16384 t.length || Nat.blt 400 (lns t).length) = c at h ⊢
  cases c with
  | true => cases h
  | false =>
    rw [Bool.or_eq_false_iff] at hc
    have h1 : ¬ 16384 < t.length := by have := hc.1; rw [Bool.eq_false_iff, ne_eq, Nat.blt_eq] at this; exact this
    have h2 : ¬ 400 < (lns t).length := by have := hc.2; rw [Bool.eq_false_iff, ne_eq, Nat.blt_eq] at this; exact this
    simp only [cond_false] at h ⊢
    cases hm : linesM (lns t) with
    | none => rw [hm] at h; cases h
    | some c =>
      obtain ⟨g1, g2, g3⟩ := linesM_ok hm
      have ht := lns_tot t
      exact ⟨by show c.length ≤ _; omega, fun w hw x hx => by have := (g3 w hw).2 x hx; omega⟩
theorem parseT_eq (t : Str) (ht : t.length ≤ 1000000) : product_Parse t = some (parseT t) := by
  unfold parseT
  by_cases h : (specSplit t).2 = 0
  · obtain ⟨b1, b2⟩ := spec_bnd h
    have e : specSplit t = ((specSplit t).1, 0) := by rw [← h]
    rw [parse_eq ht e b1 b2, dec_t h]; rfl
  · rw [parse_bad ht rfl h, dec_f h]; rfl
theorem rparseT_eq (t : Str) (ht : t.length ≤ 1000000) : ref04_Parse t = some (parseT t) := by
  unfold ref04_Parse parseT
  rw [rsplit_eq t ht, Option.bind_some]
  by_cases h : (specSplit t).2 = 0
  · obtain ⟨b1, b2⟩ := spec_bnd h
    rw [dec_t h]
    simp only [Bool.not_true, cond_false]
    have hl := parse_loopG (ls := (specSplit t).1) (step := fun x2 : Int × List Pro => ref04_Parse_L0 (specSplit t) x2.1 x2.2) (fun i hi out ho => rparse_step (specSplit t) i hi b1 (b2 _ (gD_mem hi)) out ho)
      (fun out => by simp only; unfold ref04_Parse_L0; rw [dec_f (by omega)]; rfl) (specSplit t).1 [] [] rfl (by simp)
    have hl' : iter (fun x2 : Int × List Pro => ref04_Parse_L0 (specSplit t) x2.1 x2.2) (0, []) = some (parseE 0 [] (specSplit t).1) := hl
    rw [hl', Option.bind_some]
    unfold endP
    cases parseE 0 [] (specSplit t).1 <;> rfl
  · rw [dec_f h]; rfl
theorem parseE_len : ∀ (ls : List (List Str)) (i : Nat) (out : List Pro), out.length ≤ 16 → (endP (parseE i out ls)).1.length ≤ 16
  | [], i, out, h => h
  | w :: r, i, out, h => by
    unfold parseE
    cases hp : stepP out w with
    | inl o => exact parseE_len r (i + 1) o (stepP_len hp h)
    | inr e => simp [endP]
theorem parseT_len (t : Str) : (parseT t).1.length ≤ 16 := by
  unfold parseT
  cases !decide ((specSplit t).2 = 0) with
  | true => simp
  | false => exact parseE_len _ _ _ (by simp)

/-! ### The law -/
theorem prodw_ok (k : Nat) (hk : k ≤ 100) {s : List Int} {p : Int} (h : SrcOk s p) : Ok (keep_Src_Product (k : Int) s p) (fun r => r.2.1 = s ∧ SrcOk s r.2.2 ∧ r.1.1.length ≤ 13) := by
  unfold keep_Src_Product
  have hn : ∃ x : Str, keep_name [112] (k : Int) = some x ∧ x.length ≤ 13 := ⟨_, rfl, by show 2 ≤ 13; omega⟩
  obtain ⟨x, e, hx⟩ := hn
  rw [e, Option.bind_some]
  obtain ⟨r2, p2, e2, a2, b2, h2⟩ := range_eq (lo := 400) (hi := 1200) h (by omega) (by omega) (by omega)
  refine Ok.eq e2 ?_
  obtain ⟨r3, p3, e3, a3, h3⟩ := pick_eq (l := [0, 830, 2000, 1]) h2 (by simp) (by simp)
  refine Ok.eq e3 ?_
  obtain ⟨r4, p4, e4, a4, h4⟩ := pick_eq (l := [0, 800, 5000, 3]) h3 (by simp) (by simp)
  refine Ok.eq e4 ?_
  obtain ⟨r5, p5, e5, a5, h5⟩ := pick_eq (l := [1, 700, 1000, 1300, 2000]) h4 (by simp) (by simp)
  exact Ok.eq e5 (.ret ⟨rfl, h5, hx⟩)
def NmL (n : Nat) (l : List Pro) : Prop := ∀ p ∈ l, p.1.length ≤ n
abbrev S6 := List Int × Int × List Pro × List Pro × List Pro
theorem many_ok {s : List Int} {p : Int} (h : SrcOk s p) (a b : List Pro) : Ok (iter (fun x2 : Int × List Int × Int × List Pro × List Pro × List Pro => law04_ProductAnswers_L1 x2.1 x2.2.1 x2.2.2.1 x2.2.2.2.1 x2.2.2.2.2.1 x2.2.2.2.2.2) (0, s, p, a, b, []))
    (fun r : S6 => r.1 = s ∧ SrcOk s r.2.1 ∧ r.2.2.1 = a ∧ r.2.2.2.1 = b ∧ 15 ≤ r.2.2.2.2.length ∧ r.2.2.2.2.length ≤ 17 ∧ NmL 13 r.2.2.2.2) := by
  refine Ok.loop (fun x : Int × List Int × Int × List Pro × List Pro × List Pro => x.1 = (x.2.2.2.2.2.length : Int) ∧ x.2.1 = s ∧ SrcOk s x.2.2.1 ∧ x.2.2.2.1 = a ∧ x.2.2.2.2.1 = b ∧ x.2.2.2.2.2.length ≤ 17 ∧ NmL 13 x.2.2.2.2.2) (fun x => 17 - x.2.2.2.2.2.length)
    ⟨rfl, rfl, h, rfl, rfl, by simp, fun q hq => by cases hq⟩ ?_
  rintro ⟨i, d, d2, a', b', many⟩ ⟨g1, g2, g3, g4, g5, g6, g7⟩
  simp only at g1 g2 g3 g4 g5 g6 g7
  subst g1 g2 g4 g5
  unfold law04_ProductAnswers_L1
  obtain ⟨r7, p7, e7, a7, b7, h7⟩ := n_eq (n := 3) g3 (by omega) (by omega)
  refine Ok.eq e7 ?_
  have hw : wi64 (15 + r7) = 15 + r7 := wi (by omega)
  refine Ok.bif (fun hc => ?_) fun hc => ?_
  · have hc := of_decide_eq_true hc
    have hc' : (many.length : Int) < 15 + r7 := by have : (many.length : Int) < wi64 (15 + r7) := hc; omega
    refine Ok.bind (prodw_ok many.length (by omega) h7) ?_
    rintro ⟨x, d5, d6⟩ ⟨q1, q2, q3⟩
    simp only at q1 q2 q3
    subst q1
    refine Ok.gd (fits_t (by (try dsimp only); omega)) (.ret ?_)
    refine ⟨⟨by show wi64 ((many.length : Int) + 1) = ((many ++ [_]).length : Int); rw [wi (by omega)]; simp, rfl, q2, rfl, rfl, by show (many ++ [_]).length ≤ 17; simp only [List.length_append, List.length_cons, List.length_nil]; omega, fun q hq => ?_⟩, ?_⟩
    · rcases List.mem_append.1 hq with hq | hq
      · exact g7 q hq
      · rw [List.mem_singleton.1 hq]; exact q3
    · show 17 - (many ++ [_]).length < 17 - many.length
      simp only [List.length_append, List.length_cons, List.length_nil]; omega
  · have hc := of_decide_eq_false hc
    have hc' : ¬ (many.length : Int) < 15 + r7 := by have : ¬ (many.length : Int) < wi64 (15 + r7) := hc; omega
    exact .ret ⟨rfl, h7, rfl, rfl, by show 15 ≤ many.length; omega, g6, g7⟩
theorem scanT {A ε : Type} (l : List A) (d : A) {step : Int → Option (Int ⊕ ε)} {fin : ε} (h1 : ∀ i, i < l.length → step (i : Int) = some (.inl ((i + 1 : Nat) : Int))) (h3 : step (l.length : Int) = some (.inr fin)) : iter step 0 = some fin := by
  have := scan l d (step := step) (fun _ => true) (fin := fin) (bad := fin) (fun i hi _ => h1 i hi) (fun i hi hq => by cases hq) h3
  rw [this]
  cases l.all (fun _ => true) <;> rfl
theorem L3_ok (raw : List Pro) (s6 : S6) (v2 : Nat) (h : NmL 1000 ([raw, s6.2.2.1, s6.2.2.2.1, s6.2.2.2.2].getD v2 [])) (hl : ([raw, s6.2.2.1, s6.2.2.2.1, s6.2.2.2.2].getD v2 []).length ≤ 1000) :
    iter (fun x3 => law04_ProductAnswers_L3 raw s6 (v2 : Int) x3) 0 = some (.inl ()) := by
  obtain ⟨T, hT⟩ : ∃ T : List Pro, T = [raw, s6.2.2.1, s6.2.2.2.1, s6.2.2.2.2].getD v2 [] := ⟨_, rfl⟩
  rw [← hT] at h hl
  refine scanT T P0 (fun i hi => ?_) ?_
  · unfold law04_ProductAnswers_L3
    rw [Int.toNat_natCast v2, ← hT, Int.toNat_natCast i]
    have hx : (T.getD i P0).1.length ≤ 1000000 := by have := h _ (gD_mem (d := P0) hi); omega
    rw [dec_t (show (i : Int) < (T.length : Int) by omega), cond_true, gd_t (inB_t hi), valid_eq _ hx, Option.bind_some, gd_t (inB_t hi), rvalid_eq _ hx, Option.bind_some, w1 hi (by omega)]
    cases validB (T.getD i P0) <;> rfl
  · unfold law04_ProductAnswers_L3
    rw [Int.toNat_natCast v2, ← hT, dec_f (by omega)]; rfl
theorem L2_ok (raw : List Pro) (name : Str) (s6 : S6) (h : ∀ T ∈ [raw, s6.2.2.1, s6.2.2.2.1, s6.2.2.2.2], NmL 1000 T ∧ T.length ≤ 1000) : iter (fun x4 => law04_ProductAnswers_L2 raw name s6 x4) 0 = some (.inl ()) := by
  refine scanT [raw, s6.2.2.1, s6.2.2.2.1, s6.2.2.2.2] [] (fun i hi => ?_) ?_
  · obtain ⟨h1, h2⟩ := h _ (gD_mem (d := []) hi)
    have hL3 := L3_ok raw s6 i h1 h2
    unfold law04_ProductAnswers_L2
    rw [hL3]
    rw [dec_t (show (i : Int) < (([raw, s6.2.2.1, s6.2.2.2.1, s6.2.2.2.2] : List (List Pro)).length : Int) by omega), cond_true, gd_t (inB_t hi)]
    simp only [Int.toNat_natCast]
    obtain ⟨T, hT⟩ : ∃ T : List Pro, T = [raw, s6.2.2.1, s6.2.2.2.1, s6.2.2.2.2].getD i [] := ⟨_, rfl⟩
    rw [← hT] at h1 h2
    rw [← hT]
    have hx : ∀ p ∈ T, p.1.length ≤ 1000000 := fun p hp => by have := h1 p hp; omega
    have hTl : T.length ≤ 1000000 := by omega
    rw [fmt_eq T hx hTl, Option.bind_some, rfmt_eq T hx hTl, Option.bind_some, check_eq T hx hTl, Option.bind_some, rcheck_eq T hx hTl, Option.bind_some]
    simp only [decide_true, Bool.not_true, cond_false]
    rw [find_eq T name hTl, Option.bind_some, rfind_eq T name hTl, Option.bind_some, find_eq T _ hTl, Option.bind_some, rfind_eq T _ hTl, Option.bind_some]
    simp only [decide_true, Bool.not_true, cond_false, Option.bind_some, Sum.elim_inl]
    rw [w1 hi (by simp)]
  · unfold law04_ProductAnswers_L2
    rw [dec_f (by omega)]; rfl
theorem L4_ok (s : Str) (r19 r20 : Str × Int) (r22 : Str) (h0 : s.length ≤ 10000) (h1 : r19.1.length ≤ 10000) (h2 : r20.1.length ≤ 10000) (h3 : r22.length ≤ 10000) : iter (fun x5 => law04_ProductAnswers_L4 s r19 r20 r22 x5) 0 = some (.inl ()) := by
  obtain ⟨T, hT⟩ : ∃ T : List Str, T = ([s, r19.1, r19.1 ++ s, r19.1 ++ r19.1, (s ++ [10]) ++ r19.1, ((r19.1 ++ [112, 114, 111, 100, 117, 99, 116, 32, 120, 32]) ++ r22) ++ [32, 48, 32, 48, 32, 49], r19.1 ++ [112, 114, 111, 100, 117, 99, 116, 32, 120, 32, 52, 48, 48, 32, 48, 32, 48], r19.1 ++ [112, 114, 111, 100, 117, 107, 116, 32, 120, 32, 52, 48, 48, 32, 48, 32, 48, 32, 49, 10], r20.1 ++ [112, 114, 111, 100, 117, 99, 116, 32, 122, 32, 52, 48, 48, 32, 48, 32, 48, 32, 49, 10, 112, 114, 111, 100, 117, 99, 116, 32, 122, 122, 32, 52, 48, 48, 32, 48, 32, 48, 32, 49, 10], r19.1 ++ [112, 114, 111, 100, 117, 99, 116, 32, 120, 32, 52, 48, 48, 32, 97, 32, 48, 32, 49]] : List Str) := ⟨_, rfl⟩
  have hb : ∀ t ∈ T, t.length ≤ 1000000 := by
    intro t ht
    rw [hT] at ht
    simp only [List.mem_cons, List.not_mem_nil, or_false] at ht
    rcases ht with rfl | rfl | rfl | rfl | rfl | rfl | rfl | rfl | rfl | rfl <;> first | omega | (simp only [List.length_append, List.length_cons, List.length_nil]; omega)
  have hTl : T.length = 10 := by rw [hT]; rfl
  refine scanT T [] (fun i hi => ?_) ?_
  · unfold law04_ProductAnswers_L4
    rw [← hT]
    have ht := hb _ (gD_mem (d := []) hi)
    rw [dec_t (show (i : Int) < (T.length : Int) by omega), cond_true, gd_t (inB_t hi)]
    simp only [Int.toNat_natCast]
    rw [parseT_eq _ ht, Option.bind_some, rparseT_eq _ ht, Option.bind_some, same_refl _ (by have := parseT_len (T.getD i []); omega), Option.bind_some]
    simp only [decide_true, Bool.not_true, cond_false, Option.bind_some]
    rw [w1 hi (by omega)]
  · unfold law04_ProductAnswers_L4
    rw [← hT, dec_f (by omega)]; rfl
theorem L0_ok (raw : List Pro) (hl : raw.length ≤ 40) : iter (fun x => law04_ProductAnswers_L0 raw x) 0 = some (.inr true) ∨ (iter (fun x => law04_ProductAnswers_L0 raw x) 0 = some (.inl ()) ∧ NmL 40 raw) := by
  have hs := scan raw P0 (step := fun x => law04_ProductAnswers_L0 raw x) (ε := Unit ⊕ Bool) (fun p => !decide (40 < (p.1.length : Int))) (fin := .inl ()) (bad := .inr true) (fun i hi hq => by
    unfold law04_ProductAnswers_L0
    rw [Bool.not_eq_true'] at hq
    rw [dec_t (show (i : Int) < (raw.length : Int) by omega), cond_true, gd_t (inB_t hi), Int.toNat_natCast, hq, cond_false, w1 hi (by omega)]) (fun i hi hq => by
    unfold law04_ProductAnswers_L0
    rw [Bool.not_eq_false'] at hq
    rw [dec_t (show (i : Int) < (raw.length : Int) by omega), cond_true, gd_t (inB_t hi), Int.toNat_natCast, hq, cond_true, awake_true]; rfl) (by
    unfold law04_ProductAnswers_L0
    rw [dec_f (by omega)]; rfl)
  rw [hs]
  cases hc : raw.all (fun p => !decide (40 < (p.1.length : Int))) with
  | false => exact .inl rfl
  | true =>
    refine .inr ⟨rfl, fun p hp => ?_⟩
    have := List.all_eq_true.1 hc p hp
    rw [Bool.not_eq_true'] at this
    have := of_decide_eq_false this
    omega
theorem answers_true (raw : List Pro) (name s : Str) {l : List Int} (hl : ∀ x ∈ l, i64P x) : law04_ProductAnswers raw name s l = some true := by
  refine ok_eq ?_
  unfold law04_ProductAnswers
  rw [awake_true]
  refine Ok.bind (Q := fun c : Bool => c = false → raw.length ≤ 40 ∧ s.length ≤ 1000) ?_ fun c hc => ?_
  · refine Ok.bif (fun _ => .ret (fun h => by cases h)) fun h1 => ?_
    refine Ok.bif (fun _ => .ret (fun h => by cases h)) fun h2 => .ret fun h3 => ?_
    have h1 := of_decide_eq_false h1
    have h3 := of_decide_eq_false h3
    omega
  cases c with
  | true => exact ⟨true, rfl, rfl⟩
  | false =>
    obtain ⟨hr, hs⟩ := hc rfl
    rw [cond_false]
    rcases L0_ok raw hr with h0 | ⟨h0, hnm⟩
    · rw [h0]; exact ⟨true, rfl, rfl⟩
    · rw [h0, Option.bind_some]
      simp only [Sum.elim_inl, List.nil_append]
      obtain ⟨s0, e, hs0⟩ := new_eq hl
      refine Ok.eq e ?_
      refine Ok.bind (prods_ok hs0) ?_
      rintro ⟨s1, p1, a⟩ ⟨q1, q2, q3⟩
      simp only at q1 q2 q3
      subst q1
      have n0 := q3.n0
      have n4 := q3.n4
      have ha : NmL 13 a := by
        intro p hp
        obtain ⟨k, hk, rfl⟩ := mem_gD P0 hp
        rw [(q3.p k hk).nm]; simp
      refine Ok.gd (fits_t (by (try dsimp only); omega)) ?_
      obtain ⟨r5, p5, e5, a5, b5, h5⟩ := n_eq (n := (a.length : Int)) q2 (by omega) (by omega)
      refine Ok.eq e5 ?_
      refine Ok.gd (inB0 (by (try dsimp only); omega)) ?_
      refine Ok.bind (odd_ok (a.getD 0 P0) (ha _ (gD_mem (by omega))) h5) ?_
      rintro ⟨q, d5, d6⟩ ⟨g1, g2, g3⟩
      simp only at g1 g2 g3
      subst g2
      obtain ⟨m, rfl⟩ : ∃ m : Nat, r5 = (m : Int) := ⟨r5.toNat, by omega⟩
      refine Ok.gd (inB_t (show m < a.length by omega)) ?_
      refine Ok.bind (many_ok g3 a (a.set m q)) ?_
      rintro s6 ⟨w1', w2, w3, w4, w5, w6, w7⟩
      have hb : NmL 13 (a.set m q) := fun p hp => by
        rcases List.mem_or_eq_of_mem_set hp with hp | rfl
        · exact ha p hp
        · exact g1
      have hT : ∀ T ∈ [raw, s6.2.2.1, s6.2.2.2.1, s6.2.2.2.2], NmL 1000 T ∧ T.length ≤ 1000 := by
        intro T hT
        simp only [List.mem_cons, List.not_mem_nil, or_false] at hT
        rcases hT with rfl | rfl | rfl | rfl
        · exact ⟨fun p hp => by have := hnm p hp; omega, by omega⟩
        · rw [w3]; exact ⟨fun p hp => by have := ha p hp; omega, by omega⟩
        · rw [w4]; exact ⟨fun p hp => by have := hb p hp; omega, by simp; omega⟩
        · exact ⟨fun p hp => by have := w7 p hp; omega, by omega⟩
      rw [L2_ok raw name s6 hT, Option.bind_some]
      simp only [Sum.elim_inl]
      rw [w3, rfmt_eq a (fun p hp => by have := ha p hp; omega) (by omega), Option.bind_some]
      have h15 : cutG none (some (.i64, 15)) s6.2.2.2.2.length = true := by
        show _ = true
        simp only [cutG, Bool.and_eq_true, decide_eq_true_eq]
        omega
      rw [gd_t h15, rfmt_eq (s6.2.2.2.2.take 15) (fun p hp => by have := w7 p (List.mem_of_mem_take hp); omega) (by rw [List.length_take]; omega), Option.bind_some]
      have f1 := fmt_len a
      have f2 := fmt_len (s6.2.2.2.2.take 15)
      rw [gd_t (Nat.ble_eq_true_of_le (by omega)), gd_t (Nat.ble_eq_true_of_le (by omega)), gd_t (Nat.ble_eq_true_of_le (by simp only [List.length_cons, List.length_nil]; omega)), gd_t (Nat.ble_eq_true_of_le (by simp only [List.length_append, List.length_cons, List.length_nil]; omega)), gd_t (Nat.ble_eq_true_of_le (by simp only [List.length_cons, List.length_nil]; omega))]
      obtain ⟨r21, p21, e21, a21, b21, h21⟩ := range_eq (lo := 398) (hi := 402) (s := s6.1) (p := s6.2.1) (by rw [w1']; exact w2) (by omega) (by omega) (by omega)
      refine Ok.eq e21 ?_
      have hi := itoa_len (n := r21) (by omega) (by omega)
      refine Ok.eq (rtext_eq (n := r21) (by omega) (by omega)) ?_
      rw [gd_t (Nat.ble_eq_true_of_le (by simp only [List.length_append, List.length_cons, List.length_nil]; omega)), gd_t (Nat.ble_eq_true_of_le (by simp only [List.length_append, List.length_cons, List.length_nil]; omega)), gd_t (Nat.ble_eq_true_of_le (by simp only [List.length_cons, List.length_nil]; omega)), gd_t (Nat.ble_eq_true_of_le (by simp only [List.length_cons, List.length_nil]; omega)), gd_t (Nat.ble_eq_true_of_le (by simp only [List.length_cons, List.length_nil]; omega)), gd_t (Nat.ble_eq_true_of_le (by simp only [List.length_cons, List.length_nil]; omega))]
      rw [L4_ok s (fmtS a) (fmtS (s6.2.2.2.2.take 15)) (Lib.itoa r21) (by omega) (by omega) (by omega) (by omega)]
      exact ⟨true, rfl, rfl⟩
end Go.Proofs.YtihbfecdccamoaaGreatDoor
