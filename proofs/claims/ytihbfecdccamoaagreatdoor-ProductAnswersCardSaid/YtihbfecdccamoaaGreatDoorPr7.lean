/- Tables of products: a line is read; a text is parsed; a table is formatted. No condition. -/
import Derived.Test.YtihbfecdccamoaaGreatDoorPr6
namespace Go.Proofs.YtihbfecdccamoaaGreatDoor
open Go Go.Sq
set_option linter.unusedVariables false

/-! ### A line -/
abbrev cmdP : Str := [112, 114, 111, 100, 117, 99, 116]
def okN (s : Str) : Bool := decide ((specNum s).2 = 0)
def read6 (x c0 c1 c2 c3 : Str) : Pro × Int :=
  bif okN c0 && (okN c1 && (okN c2 && okN c3)) then
    (bif validB (x, ((specNum c0).1, ((specNum c1).1, ((specNum c2).1, (specNum c3).1)))) then ((x, ((specNum c0).1, ((specNum c1).1, ((specNum c2).1, (specNum c3).1)))), 0) else (P0, 9))
  else (P0, 3)
def readS : List Str → Pro × Int
  | [w0, w1, c0, c1, c2, c3] => bif decide (w0 = cmdP) then read6 w1 c0 c1 c2 c3 else (P0, 3)
  | _ => (P0, 3)
abbrev RdX := Int × Str × Int × Int × Int × Int × Int × Int × Int × Int
abbrev RdE := (Str × Int × Int × Int × Int × Int × Int × Int × Int) ⊕ (Int × Str × Int × Int × Int × Int)
noncomputable def rdStep (w : List Str) (x : RdX) : Option (RdX ⊕ RdE) :=
  product_read_L0 w x.1 x.2.1 x.2.2.1 x.2.2.2.1 x.2.2.2.2.1 x.2.2.2.2.2.1 x.2.2.2.2.2.2.1 x.2.2.2.2.2.2.2.1 x.2.2.2.2.2.2.2.2.1 x.2.2.2.2.2.2.2.2.2
def badR : RdE := .inr (3, [], 0, 0, 0, 0)
theorem rd0 (a x c0 c1 c2 c3 : Str) (h : c0.length ≤ 281474976710656) (p q r s : Int) : rdStep [a, x, c0, c1, c2, c3] (0, [], 0, 0, 0, 0, p, q, r, s) = some (bif okN c0 then .inl (1, [], 0, 0, 0, 0, (specNum c0).1, q, r, s) else .inr badR) := by
  have e : rdStep [a, x, c0, c1, c2, c3] (0, [], 0, 0, 0, 0, p, q, r, s) = (lines_Number c0).bind fun y => bif !decide (y.2 = 0) then some (.inr badR) else some (.inl (1, [], 0, 0, 0, 0, y.1, q, r, s)) := rfl
  rw [e, num_eq c0 h, Option.bind_some]
  unfold okN
  cases decide ((specNum c0).2 = 0) <;> rfl
theorem rd1 (a x c0 c1 c2 c3 : Str) (h : c1.length ≤ 281474976710656) (p q r s : Int) : rdStep [a, x, c0, c1, c2, c3] (1, [], 0, 0, 0, 0, p, q, r, s) = some (bif okN c1 then .inl (2, [], 0, 0, 0, 0, p, (specNum c1).1, r, s) else .inr badR) := by
  have e : rdStep [a, x, c0, c1, c2, c3] (1, [], 0, 0, 0, 0, p, q, r, s) = (lines_Number c1).bind fun y => bif !decide (y.2 = 0) then some (.inr badR) else some (.inl (2, [], 0, 0, 0, 0, p, y.1, r, s)) := rfl
  rw [e, num_eq c1 h, Option.bind_some]
  unfold okN
  cases decide ((specNum c1).2 = 0) <;> rfl
theorem rd2 (a x c0 c1 c2 c3 : Str) (h : c2.length ≤ 281474976710656) (p q r s : Int) : rdStep [a, x, c0, c1, c2, c3] (2, [], 0, 0, 0, 0, p, q, r, s) = some (bif okN c2 then .inl (3, [], 0, 0, 0, 0, p, q, (specNum c2).1, s) else .inr badR) := by
  have e : rdStep [a, x, c0, c1, c2, c3] (2, [], 0, 0, 0, 0, p, q, r, s) = (lines_Number c2).bind fun y => bif !decide (y.2 = 0) then some (.inr badR) else some (.inl (3, [], 0, 0, 0, 0, p, q, y.1, s)) := rfl
  rw [e, num_eq c2 h, Option.bind_some]
  unfold okN
  cases decide ((specNum c2).2 = 0) <;> rfl
theorem rd3 (a x c0 c1 c2 c3 : Str) (h : c3.length ≤ 281474976710656) (p q r s : Int) : rdStep [a, x, c0, c1, c2, c3] (3, [], 0, 0, 0, 0, p, q, r, s) = some (bif okN c3 then .inl (4, [], 0, 0, 0, 0, p, q, r, (specNum c3).1) else .inr badR) := by
  have e : rdStep [a, x, c0, c1, c2, c3] (3, [], 0, 0, 0, 0, p, q, r, s) = (lines_Number c3).bind fun y => bif !decide (y.2 = 0) then some (.inr badR) else some (.inl (4, [], 0, 0, 0, 0, p, q, r, y.1)) := rfl
  rw [e, num_eq c3 h, Option.bind_some]
  unfold okN
  cases decide ((specNum c3).2 = 0) <;> rfl
theorem rd4 (w : List Str) (p q r s : Int) : rdStep w (4, [], 0, 0, 0, 0, p, q, r, s) = some (.inr (.inl ([], 0, 0, 0, 0, p, q, r, s))) := rfl
theorem rdLoop (a x c0 c1 c2 c3 : Str) (h0 : c0.length ≤ 281474976710656) (h1 : c1.length ≤ 281474976710656) (h2 : c2.length ≤ 281474976710656) (h3 : c3.length ≤ 281474976710656) :
    iter (rdStep [a, x, c0, c1, c2, c3]) (0, [], 0, 0, 0, 0, 0, 0, 0, 0) = some (bif okN c0 && (okN c1 && (okN c2 && okN c3)) then .inl ([], 0, 0, 0, 0, (specNum c0).1, (specNum c1).1, (specNum c2).1, (specNum c3).1) else badR) := by
  have k0 := rd0 a x c0 c1 c2 c3 h0 0 0 0 0
  cases e0 : okN c0 with
  | false => rw [e0] at k0; exact iter_inr k0
  | true =>
    rw [e0] at k0
    rw [iter_inl k0]
    have k1 := rd1 a x c0 c1 c2 c3 h1 (specNum c0).1 0 0 0
    cases e1 : okN c1 with
    | false => rw [e1] at k1; exact iter_inr k1
    | true =>
      rw [e1] at k1
      rw [iter_inl k1]
      have k2 := rd2 a x c0 c1 c2 c3 h2 (specNum c0).1 (specNum c1).1 0 0
      cases e2 : okN c2 with
      | false => rw [e2] at k2; exact iter_inr k2
      | true =>
        rw [e2] at k2
        rw [iter_inl k2]
        have k3 := rd3 a x c0 c1 c2 c3 h3 (specNum c0).1 (specNum c1).1 (specNum c2).1 0
        cases e3 : okN c3 with
        | false => rw [e3] at k3; exact iter_inr k3
        | true =>
          rw [e3] at k3
          rw [iter_inl k3]
          exact iter_inr (rd4 _ _ _ _ _)
theorem readS_n6 {w : List Str} (h : w.length ≠ 6) : readS w = (P0, 3) := by
  unfold readS
  split
  · simp at h
  · rfl
theorem read_eq (w : List Str) (hw : ∀ x ∈ w, x.length ≤ 1000000) : product_read w = some (readS w) := by
  by_cases h6 : w.length = 6
  · obtain ⟨a, x, c0, c1, c2, c3, rfl⟩ : ∃ a x c0 c1 c2 c3, w = [a, x, c0, c1, c2, c3] := by
      match w, h6 with
      | [a, x, c0, c1, c2, c3], _ => exact ⟨a, x, c0, c1, c2, c3, rfl⟩
    have b : ∀ y ∈ [a, x, c0, c1, c2, c3], y.length ≤ 281474976710656 := fun y hy => by have := hw y hy; omega
    have hL := rdLoop a x c0 c1 c2 c3 (b c0 (by simp)) (b c1 (by simp)) (b c2 (by simp)) (b c3 (by simp))
    have e : product_read [a, x, c0, c1, c2, c3] = bif !decide (a = cmdP) then some (P0, 3) else (iter (rdStep [a, x, c0, c1, c2, c3]) (0, [], 0, 0, 0, 0, 0, 0, 0, 0)).bind fun s2 =>
        s2.elim (fun s3 => (product_Valid (x, (s3.2.2.2.2.2.1, (s3.2.2.2.2.2.2.1, (s3.2.2.2.2.2.2.2.1, s3.2.2.2.2.2.2.2.2))))).bind fun r2 =>
          bif !r2 then some (P0, 9) else some ((x, (s3.2.2.2.2.2.1, (s3.2.2.2.2.2.2.1, (s3.2.2.2.2.2.2.2.1, s3.2.2.2.2.2.2.2.2)))), 0))
        (fun s4 => some ((s4.2.1, (s4.2.2.1, (s4.2.2.2.1, (s4.2.2.2.2.1, s4.2.2.2.2.2)))), s4.1)) := rfl
    have es : readS [a, x, c0, c1, c2, c3] = bif decide (a = cmdP) then read6 x c0 c1 c2 c3 else (P0, 3) := rfl
    rw [e, hL, Option.bind_some, es]
    cases decide (a = cmdP) with
    | false => rfl
    | true =>
      unfold read6
      cases okN c0 && (okN c1 && (okN c2 && okN c3)) with
      | false => rfl
      | true =>
        simp only [Bool.not_true, cond_false, cond_true, Sum.elim_inl]
        rw [valid_eq _ (hw x (by simp)), Option.bind_some]
        cases validB (x, ((specNum c0).1, ((specNum c1).1, ((specNum c2).1, (specNum c3).1)))) <;> rfl
  · rw [readS_n6 h6]
    unfold product_read
    rw [dec_f (show ¬ (w.length : Int) = 6 by omega)]; rfl

/-! ### A text -/
def stepP (out : List Pro) (w : List Str) : List Pro ⊕ Int :=
  bif w.isEmpty then .inl out
  else bif !decide ((readS w).2 = 0) then .inr (readS w).2
  else bif Nat.blt (fnd out (readS w).1.1) out.length then .inr 7
  else bif Nat.beq out.length 16 then .inr 4
  else .inl (out ++ [(readS w).1])
def parseE : Nat → List Pro → List (List Str) → List Pro ⊕ (List Pro × Int × Int)
  | _, out, [] => .inl out
  | i, out, w :: r => match stepP out w with
    | .inl o => parseE (i + 1) o r
    | .inr e => .inr ([], ((i + 1 : Nat) : Int), e)
theorem stepP_len {out o : List Pro} {w : List Str} (h : stepP out w = .inl o) (hl : out.length ≤ 16) : o.length ≤ 16 := by
  unfold stepP at h
  cases h1 : w.isEmpty with
  | true => rw [h1] at h; injection h with h; rw [← h]; exact hl
  | false =>
    rw [h1, cond_false] at h
    cases h2 : !decide ((readS w).2 = 0) with
    | true => rw [h2] at h; cases h
    | false =>
      rw [h2, cond_false] at h
      cases h3 : Nat.blt (fnd out (readS w).1.1) out.length with
      | true => rw [h3] at h; cases h
      | false =>
        rw [h3, cond_false] at h
        cases h4 : Nat.beq out.length 16 with
        | true => rw [h4] at h; cases h
        | false =>
          rw [h4, cond_false] at h
          injection h with h
          have : out.length ≠ 16 := fun e => by rw [e] at h4; cases h4
          rw [← h]; simp; omega
theorem parse_step (r : List (List Str) × Int) (i : Nat) (hi : i < r.1.length) (hr : r.1.length ≤ 1000000) (hb : ∀ x ∈ r.1.getD i [], x.length ≤ 1000000) (out : List Pro) (ho : out.length ≤ 16) :
    product_Parse_L0 r (i : Int) out = some (match stepP out (r.1.getD i []) with | .inl o => .inl (((i + 1 : Nat) : Int), o) | .inr e => .inr (.inr ([], ((i + 1 : Nat) : Int), e))) := by
  unfold product_Parse_L0
  rw [dec_t (show (i : Int) < (r.1.length : Int) by omega), cond_true, gd_t (inB_t hi), Int.toNat_natCast, w1 hi (by omega)]
  generalize r.1.getD i [] = w at hb
  unfold stepP
  cases hw : w.isEmpty with
  | true =>
    have : w = [] := by cases w with | nil => rfl | cons => cases hw
    subst this; rfl
  | false =>
    have hne : w.length ≠ 0 := by cases w with | nil => cases hw | cons => simp
    rw [dec_f (show ¬ (w.length : Int) = 0 by omega), cond_false, cond_false, read_eq w hb, Option.bind_some]
    generalize readS w = q
    obtain ⟨p, e⟩ := q
    simp only
    by_cases he : e = 0
    · subst he
      simp only [decide_true, Bool.not_true, cond_false]
      rw [find_eq _ _ (by omega), Option.bind_some]
      unfold fndI
      by_cases hf : fnd out p.1 < out.length
      · rw [if_pos hf, dec_t (show (0 : Int) ≤ (fnd out p.1 : Int) by omega), show Nat.blt (fnd out p.1) out.length = true by rw [Nat.blt_eq]; exact hf]; rfl
      · rw [if_neg hf, show Nat.blt (fnd out p.1) out.length = false by rw [Bool.eq_false_iff, ne_eq, Nat.blt_eq]; exact hf]
        by_cases h16 : out.length = 16
        · rw [dec_t (show (out.length : Int) = 16 by omega), show Nat.beq out.length 16 = true by rw [Nat.beq_eq]; exact h16]; rfl
        · rw [dec_f (show ¬ (out.length : Int) = 16 by omega), show Nat.beq out.length 16 = false by rw [Bool.eq_false_iff, ne_eq, Nat.beq_eq]; exact h16]
          show (Option.bind (α := (List Pro) ⊕ (List Pro × Int × Int)) (gd (fits (out.length + 1) 48) <| some (.inl (out ++ [p]))) _) = _
          rw [gd_t (fits_t (by omega))]; rfl
    · rw [dec_f he]
      show (Option.bind (α := (List Pro) ⊕ (List Pro × Int × Int)) (bif !decide (e = 0) then some (.inr ([], ((i + 1 : Nat) : Int), e)) else _) _) = _
      rw [dec_f he]; rfl
theorem parse_loop (r : List (List Str) × Int) (hr : r.1.length ≤ 1000000) (hb : ∀ w ∈ r.1, ∀ x ∈ w, x.length ≤ 1000000) : ∀ (rest pre : List (List Str)) (out : List Pro), r.1 = pre ++ rest → out.length ≤ 16 →
    iter (fun x : Int × List Pro => product_Parse_L0 r x.1 x.2) ((pre.length : Int), out) = some (parseE pre.length out rest)
  | [], pre, out, he, ho => by
    refine iter_inr ?_
    rw [List.append_nil] at he
    unfold product_Parse_L0
    simp only
    rw [dec_f (show ¬ (pre.length : Int) < (r.1.length : Int) by rw [he]; omega)]; rfl
  | w :: rest, pre, out, he, ho => by
    have hi : pre.length < r.1.length := by rw [he]; simp
    have hw : r.1.getD pre.length [] = w := by rw [he, gD_app, if_neg (by omega), Nat.sub_self]; rfl
    have hs := parse_step r pre.length hi hr (hb _ (gD_mem hi)) out ho
    rw [hw] at hs
    unfold parseE
    cases hp : stepP out w with
    | inr e =>
      rw [hp] at hs
      exact iter_inr (step := fun x : Int × List Pro => product_Parse_L0 r x.1 x.2) hs
    | inl o =>
      rw [hp] at hs
      rw [iter_inl (step := fun x : Int × List Pro => product_Parse_L0 r x.1 x.2) hs]
      have := parse_loop r hr hb rest (pre ++ [w]) o (by rw [he]; simp) (stepP_len hp ho)
      rw [List.length_append] at this
      exact this
def endP (e : List Pro ⊕ (List Pro × Int × Int)) : List Pro × Int × Int := e.elim (fun o => (o, 0, 0)) (fun t => t)
theorem parse_eq {t : Str} (ht : t.length ≤ 1000000) {ls : List (List Str)} (hs : specSplit t = (ls, 0)) (hl : ls.length ≤ 1000000) (hb : ∀ w ∈ ls, ∀ x ∈ w, x.length ≤ 1000000) : product_Parse t = some (endP (parseE 0 [] ls)) := by
  unfold product_Parse
  rw [lsplit_eq t ht, hs, Option.bind_some]
  have h := parse_loop (ls, 0) hl hb ls [] [] rfl (by simp)
  have h' : iter (fun x : Int × List Pro => product_Parse_L0 (ls, 0) x.1 x.2) (0, []) = some (parseE 0 [] ls) := h
  simp only [decide_true, Bool.not_true, cond_false]
  rw [h', Option.bind_some]
  unfold endP
  cases parseE 0 [] ls <;> rfl
theorem parse_bad {t : Str} (ht : t.length ≤ 1000000) {e : Int} (hs : (specSplit t).2 = e) (he : e ≠ 0) : product_Parse t = some ([], 0, e) := by
  unfold product_Parse
  rw [lsplit_eq t ht, Option.bind_some, hs, dec_f he]; rfl
end Go.Proofs.YtihbfecdccamoaaGreatDoor
