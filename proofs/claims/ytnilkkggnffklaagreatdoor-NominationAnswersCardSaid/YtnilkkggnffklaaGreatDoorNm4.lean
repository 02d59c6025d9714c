/- Nominations: valid, check, read, parse, format; what is made. No condition. -/
import Derived.Test.YtnilkkggnffklaaGreatDoorPr4
import Derived.Test.YtnilkkggnffklaaGreatDoorNm3
namespace Go.Proofs.YtnilkkggnffklaaGreatDoor
open Go Go.Sq
set_option linter.unusedVariables false
theorem digs_dec : ∀ u : Nat, Digs u (Lib.decDigits u) := by
  intro u
  induction u using Nat.strongRecOn with
  | ind u ih =>
    by_cases h : u < 10
    · rw [Lib.decDigits_one h, show UInt8.ofNat (48 + u) = chr u by unfold chr; rw [Nat.mod_eq_of_lt h]]
      have hn := chr_nat u
      rw [Nat.mod_eq_of_lt h] at hn
      refine ⟨by simp, by simp [chr_dig], ?_, fun h0 e => ?_, fun h0 => by subst h0; rfl⟩
      · show 0 * 10 + ((chr u).toNat - 48) = u
        omega
      · have e' : chr u = 48 := e
        rw [e'] at hn
        have : (48 : UInt8).toNat = 48 := rfl
        omega
    · have h10 := ih (u / 10) (by omega)
      rw [Lib.decDigits, dif_neg h]
      refine ⟨by simp, ?_, ?_, fun h0 => ?_, fun h0 => by omega⟩
      · rw [List.all_append, h10.all]
        have := chr_dig u
        unfold chr at this
        rw [List.all_cons, this]; rfl
      · rw [valD_app, h10.val]
        have := chr_nat u
        unfold chr at this
        rw [this]; omega
      · have := h10.hd (by omega)
        obtain ⟨a, r, e, _⟩ := h10.head
        rw [e] at this ⊢
        exact this
theorem dec_len : ∀ (m u : Nat), u < 10 ^ (m + 1) → (Lib.decDigits u).length ≤ m + 1
  | 0, u, h => by rw [Lib.decDigits_one (by omega)]; simp
  | m + 1, u, h => by
    by_cases h10 : u < 10
    · rw [Lib.decDigits_one h10]; simp
    · rw [Lib.decDigits, dif_neg h10, List.length_append]
      have := dec_len m (u / 10) (by rw [Nat.pow_succ] at h; omega)
      simp; omega
theorem itoa_nat {n : Int} (h : 0 ≤ n) : Lib.itoa n = Lib.decDigits n.toNat := by unfold Lib.itoa; rw [if_neg (by omega)]
theorem dig_wch {b : UInt8} (h : dig b = true) : wch b = true := by
  unfold dig at h
  unfold wch
  simp only [Bool.and_eq_true, Nat.ble_eq] at h ⊢
  omega
theorem nch_wch {b : UInt8} (h : nch b = true) : wch b = true := by
  unfold nch fch at h
  unfold wch
  simp only [Bool.and_eq_true, Bool.or_eq_true, Nat.ble_eq, beq_iff_eq] at h ⊢
  rcases h with (h | h) | h
  · omega
  · omega
  · subst h; decide
theorem itoa_word {n : Int} (h0 : 0 ≤ n) : wordB (Lib.itoa n) = true := by
  rw [itoa_nat h0]
  have h := digs_dec n.toNat
  unfold wordB
  rw [Bool.and_eq_true, List.all_eq_true]
  refine ⟨fun b hb => dig_wch (List.all_eq_true.1 h.all b hb), ?_⟩
  obtain ⟨a, r, e, _⟩ := h.head
  rw [e]; rfl
theorem name_word {s : Str} (h : nameB s = true) : wordB s = true ∧ s.length ≤ 12 := by
  unfold nameB at h
  simp only [Bool.and_eq_true, Nat.ble_eq] at h
  refine ⟨?_, h.1.1.2⟩
  unfold wordB
  rw [Bool.and_eq_true, List.all_eq_true]
  refine ⟨fun b hb => nch_wch (List.all_eq_true.1 h.2 b hb), ?_⟩
  cases s with
  | nil => have := h.1.1.1; simp at this
  | cons => rfl
/-- A walk that ends where something is found. -/
theorem iter_find {A ε : Type} (l : List A) (d : A) {step : Int → Option (Int ⊕ ε)} (q : A → Bool) {fin : ε} (hit : Nat → ε)
    (h1 : ∀ i, i < l.length → q (l.getD i d) = false → step (i : Int) = some (.inl ((i + 1 : Nat) : Int)))
    (h2 : ∀ i, i < l.length → q (l.getD i d) = true → step (i : Int) = some (.inr (hit i))) (h3 : step (l.length : Int) = some (.inr fin)) :
    iter step 0 = some (if l.findIdx q < l.length then hit (l.findIdx q) else fin) := by
  have hlt : ∀ i, i < l.findIdx q → i < l.length ∧ q (l.getD i d) = false := by
    intro i hi
    have hl : i < l.length := Nat.lt_of_lt_of_le hi List.findIdx_le_length
    refine ⟨hl, ?_⟩
    rw [gD_eq hl]
    exact List.not_of_lt_findIdx hi
  refine iter_for (l.findIdx q) (fun i => (i : Int)) (fun i hi => h1 i (hlt i hi).1 (hlt i hi).2) ?_
  by_cases hf : l.findIdx q < l.length
  · rw [if_pos hf]
    exact h2 _ hf (by rw [gD_eq hf]; exact List.findIdx_getElem (w := hf))
  · rw [if_neg hf]
    have : l.findIdx q = l.length := Nat.le_antisymm List.findIdx_le_length (Nat.le_of_not_lt hf)
    show step ((l.findIdx q : Nat) : Int) = _
    rw [this]; exact h3
theorem text_ok {l : List Str} {s : List Int} {p : Int} (h : SrcOk s p) (h1 : 1 ≤ l.length) (h2 : l.length ≤ 100) : Ok (keep_Src_Text l s p) (fun r => r.1 ∈ l ∧ r.2.1 = s ∧ SrcOk s r.2.2) := by
  obtain ⟨r, p', e, r1, r2, hp⟩ := n_eq (n := (l.length : Int)) h (by omega) (by omega)
  unfold keep_Src_Text
  refine Ok.eq e ?_
  obtain ⟨k, rfl⟩ : ∃ k : Nat, r = (k : Int) := ⟨r.toNat, by omega⟩
  have hk : k < l.length := by omega
  refine Ok.gd (inB_t hk) (.ret ⟨?_, rfl, hp⟩)
  rw [Int.toNat_natCast]; exact gD_mem hk
theorem spec_bnd {t : Str} (h : (specSplit t).2 = 0) : (specSplit t).1.length ≤ 1000000 ∧ ∀ w ∈ (specSplit t).1, ∀ x ∈ w, x.length ≤ 1000000 := by
  unfold specSplit at h ⊢
  generalize hc : (Nat.blt 16384 t.length || Nat.blt 400 (lns t).length) = c at h ⊢
  cases c with
  | true => cases h
  | false =>
    rw [Bool.or_eq_false_iff] at hc
    have h1 : ¬ 16384 < t.length := by have := hc.1; rw [Bool.eq_false_iff, ne_eq, Nat.blt_eq] at this; exact this
    have h2 : ¬ 400 < (lns t).length := by have := hc.2; rw [Bool.eq_false_iff, ne_eq, Nat.blt_eq] at this; exact this
    simp only [cond_false] at h ⊢
    cases hm : linesM (lns t) with
    | none => rw [hm] at h; cases h
    | some c =>
      obtain ⟨g1, g2, g3⟩ := linesM_ok hm
      have ht := lns_tot t
      exact ⟨by show c.length ≤ _; omega, fun w hw x hx => by have := (g3 w hw).2 x hx; omega⟩
theorem scanT {A ε : Type} (l : List A) (d : A) {step : Int → Option (Int ⊕ ε)} {fin : ε} (h1 : ∀ i, i < l.length → step (i : Int) = some (.inl ((i + 1 : Nat) : Int))) (h3 : step (l.length : Int) = some (.inr fin)) : iter step 0 = some fin := by
  have := scan l d (step := step) (fun _ => true) (fin := fin) (bad := fin) (fun i hi _ => h1 i hi) (fun i hi hq => by cases hq) h3
  rw [this]
  cases l.all (fun _ => true) <;> rfl
/-! ### Numerals -/
theorem itoa_len {n : Int} (h0 : 0 ≤ n) (h1 : n ≤ 1099511627776) : (Lib.itoa n).length ≤ 13 := by rw [itoa_nat h0]; exact dec_len 12 _ (by omega)
theorem itoaT_t {n : Int} (h0 : 0 ≤ n) (h1 : n ≤ 1099511627776) : itoaT n = some (Lib.itoa n) := by
  unfold itoaT
  rw [dec_t (by omega), dec_t (by omega)]; rfl

/-! ### Valid -/
def nmB (x : Nom) : Bool := [x.1, x.2.1, x.2.2.1, x.2.2.2.1].all nameB
def numB (x : Nom) : Bool := !decide (x.2.2.1 = x.2.2.2.1) && (decide (0 ≤ x.2.2.2.2.1) && (decide (x.2.2.2.2.1 ≤ 1000000) && (decide (1 ≤ x.2.2.2.2.2) && decide (x.2.2.2.2.2 ≤ 1099511627776))))
def validN (x : Nom) : Bool := nmB x && numB x
/-- All names are of moderate length. -/
def NmS (n : Nat) (x : Nom) : Prop := ∀ y ∈ [x.1, x.2.1, x.2.2.1, x.2.2.2.1], y.length ≤ n
theorem lname_any (s : Str) : lines_Name s = some (nameB s) := by
  by_cases hl : s.length ≤ 1000000
  · exact lname_eq s hl
  · unfold lines_Name nameB
    rw [dec_f (show ¬ (s.length : Int) < 1 by omega), cond_false, dec_t (show 12 < (s.length : Int) by omega), show Nat.ble s.length 12 = false by rw [Bool.eq_false_iff, ne_eq, Nat.ble_eq]; omega]
    cases Nat.ble 1 s.length <;> rfl
theorem nvalid_eq (x : Nom) : nomination_valid x = some (validN x) := by
  have hl : iter (fun y => nomination_valid_L0 x y) 0 = some (bif [x.1, x.2.1, x.2.2.1, x.2.2.2.1].all nameB then .inl () else .inr false) := by
    refine scan [x.1, x.2.1, x.2.2.1, x.2.2.2.1] [] nameB (fun i hi hq => ?_) (fun i hi hq => ?_) ?_
    · unfold nomination_valid_L0
      rw [dec_t (show (i : Int) < ([x.1, x.2.1, x.2.2.1, x.2.2.2.1].length : Int) by omega), cond_true, gd_t (inB_t hi), Int.toNat_natCast, lname_any _, Option.bind_some, hq, w1 hi (by simp)]; rfl
    · unfold nomination_valid_L0
      rw [dec_t (show (i : Int) < ([x.1, x.2.1, x.2.2.1, x.2.2.2.1].length : Int) by omega), cond_true, gd_t (inB_t hi), Int.toNat_natCast, lname_any _, Option.bind_some, hq]; rfl
    · unfold nomination_valid_L0
      rw [dec_f (by omega)]; rfl
  unfold nomination_valid validN nmB numB
  rw [hl, Option.bind_some]
  cases [x.1, x.2.1, x.2.2.1, x.2.2.2.1].all nameB with
  | false => rfl
  | true =>
    simp only [cond_true, Sum.elim_inl, Bool.true_and]
    cases decide (x.2.2.1 = x.2.2.2.1) with
    | true => rfl
    | false =>
      cases decide (0 ≤ x.2.2.2.2.1) with
      | false => rfl
      | true =>
        cases decide (x.2.2.2.2.1 ≤ 1000000) with
        | false => rfl
        | true =>
          cases decide (1 ≤ x.2.2.2.2.2) <;> rfl
def chkN (l : List Nom) : Int := bif Nat.blt 400 l.length then 4 else bif l.all validN then 0 else 9
theorem ncheck_eq (l : List Nom) (hl : l.length ≤ 1000000) : nomination_Check l = some (chkN l) := by
  unfold nomination_Check chkN
  by_cases h4 : 400 < l.length
  · rw [dec_t (show (400 : Int) < (l.length : Int) by omega), show Nat.blt 400 l.length = true by rw [Nat.blt_eq]; exact h4]; rfl
  · rw [dec_f (show ¬ (400 : Int) < (l.length : Int) by omega), show Nat.blt 400 l.length = false by rw [Bool.eq_false_iff, ne_eq, Nat.blt_eq]; exact h4, cond_false, cond_false]
    have hf : ∀ i, i < l.length → ((nomination_Check_1 (l.getD i n0)).bind fun y => some y) = some (!validN (l.getD i n0)) := fun i hi => by
      unfold nomination_Check_1
      show (((nomination_valid (l.getD i n0)).bind fun r => some (!r)).bind fun y => some y) = _
      rw [nvalid_eq _]; rfl
    have hi : iter (fun y => slices_IndexFunc_api_Nomination_api_Nomination_L0 l (fun h => (nomination_Check_1 h.1).bind fun y => some y) y) 0 = some (if l.findIdx (fun p => !validN p) < l.length then .inr ((l.findIdx (fun p => !validN p) : Nat) : Int) else .inl ()) := by
      refine iter_find (step := fun y => slices_IndexFunc_api_Nomination_api_Nomination_L0 l (fun h => (nomination_Check_1 h.1).bind fun y => some y) y) (ε := Unit ⊕ Int) l n0 (fun p => !validN p) (fin := .inl ()) (fun i => .inr (i : Int)) (fun i hi hq => ?_) (fun i hi hq => ?_) ?_
      · unfold slices_IndexFunc_api_Nomination_api_Nomination_L0
        simp only
        rw [dec_t (show (i : Int) < (l.length : Int) by omega), cond_true, gd_t (inB_t hi), Int.toNat_natCast]
        show (((nomination_Check_1 (l.getD i n0)).bind fun y => some y).bind _) = _
        rw [hf i hi, Option.bind_some, hq, w1 hi (by omega)]; rfl
      · unfold slices_IndexFunc_api_Nomination_api_Nomination_L0
        simp only
        rw [dec_t (show (i : Int) < (l.length : Int) by omega), cond_true, gd_t (inB_t hi), Int.toNat_natCast]
        show (((nomination_Check_1 (l.getD i n0)).bind fun y => some y).bind _) = _
        rw [hf i hi, Option.bind_some, hq]; rfl
      · unfold slices_IndexFunc_api_Nomination_api_Nomination_L0
        simp only
        rw [dec_f (by omega)]; rfl
    unfold slices_ContainsFunc_api_Nomination_api_Nomination slices_IndexFunc_api_Nomination_api_Nomination
    rw [hi, Option.bind_some]
    cases hall : l.all validN with
    | true =>
      have : ¬ l.findIdx (fun p => !validN p) < l.length := by
        intro hlt
        have h1 := List.findIdx_getElem (p := fun p => !validN p) (xs := l) (w := hlt)
        have h2 := List.all_eq_true.1 hall _ (List.getElem_mem hlt)
        simp only [h2] at h1
        cases h1
      rw [if_neg this]; rfl
    | false =>
      have : l.findIdx (fun p => !validN p) < l.length := by
        refine List.findIdx_lt_length.2 ?_
        have := Bool.eq_false_iff.1 hall
        rw [ne_eq, List.all_eq_true] at this
        simp only [Classical.not_forall] at this
        obtain ⟨x, hx, hv⟩ := this
        exact ⟨x, hx, by simpa using hv⟩
      rw [if_pos this]
      simp only [Sum.elim_inr, Option.bind_some]
      rw [dec_t (by omega)]; rfl
structure ValN (x : Nom) : Prop where
  nm : ∀ y ∈ [x.1, x.2.1, x.2.2.1, x.2.2.2.1], nameB y = true
  c : 0 ≤ x.2.2.2.2.1 ∧ x.2.2.2.2.1 ≤ 1000000
  v : 1 ≤ x.2.2.2.2.2 ∧ x.2.2.2.2.2 ≤ 1099511627776
theorem valN {x : Nom} (h : validN x = true) : ValN x := by
  unfold validN nmB numB at h
  simp only [Bool.and_eq_true, decide_eq_true_eq] at h
  exact ⟨List.all_eq_true.1 h.1, ⟨h.2.2.1, h.2.2.2.1⟩, h.2.2.2.2⟩
theorem valN_s {x : Nom} (h : validN x = true) : NmS 12 x := fun y hy => (name_word ((valN h).nm y hy)).2
theorem chkN_zero {l : List Nom} (h : chkN l = 0) : (∀ x ∈ l, validN x = true) ∧ l.length ≤ 400 := by
  unfold chkN at h
  cases h1 : Nat.blt 400 l.length with
  | true => rw [h1] at h; cases h
  | false =>
    have h16 : ¬ 400 < l.length := by rw [Bool.eq_false_iff, ne_eq, Nat.blt_eq] at h1; exact h1
    cases h2 : l.all validN with
    | false => rw [h1, h2] at h; cases h
    | true => exact ⟨List.all_eq_true.1 h2, by omega⟩
theorem chkN_ok {l : List Nom} (h : ∀ x ∈ l, validN x = true) (hl : l.length ≤ 400) : chkN l = 0 := by
  unfold chkN
  rw [show Nat.blt 400 l.length = false by rw [Bool.eq_false_iff, ne_eq, Nat.blt_eq]; omega, List.all_eq_true.2 h]; rfl

/-! ### A nomination as a line -/
abbrev cmdN : Str := [110, 111, 109, 105, 110, 97, 116, 101]
def wOf (x : Nom) : List Str := [cmdN, Lib.itoa x.2.2.2.2.1, x.1, x.2.1, x.2.2.1, x.2.2.2.1, Lib.itoa x.2.2.2.2.2]
theorem wOf_proper {x : Nom} (h : validN x = true) : properB (wOf x) = true := by
  have v := valN h
  have hn := fun y hy => (name_word (v.nm y hy)).1
  unfold properB
  have ha : (wOf x).all wordB = true := by
    unfold wOf
    simp only [List.all_cons, List.all_nil, Bool.and_true]
    rw [itoa_word v.c.1, hn x.1 (by simp), hn x.2.1 (by simp), hn x.2.2.1 (by simp), hn x.2.2.2.1 (by simp), itoa_word (by have := v.v.1; omega)]; rfl
  rw [ha]; rfl
theorem wOf_len {x : Nom} (h : validN x = true) : ∀ y ∈ wOf x, y.length ≤ 13 := by
  have v := valN h
  have hs := valN_s h
  intro y hy
  unfold wOf at hy
  simp only [List.mem_cons, List.not_mem_nil, or_false] at hy
  rcases hy with rfl | rfl | rfl | rfl | rfl | rfl | rfl
  · simp
  · exact itoa_len v.c.1 (by have := v.c.2; omega)
  · have := hs x.1 (by simp); omega
  · have := hs x.2.1 (by simp); omega
  · have := hs x.2.2.1 (by simp); omega
  · have := hs x.2.2.2.1 (by simp); omega
  · exact itoa_len (by have := v.v.1; omega) v.v.2
def okN (s : Str) : Bool := decide ((specNum s).2 = 0)
def readN : List Str → Nom × Int
  | [w0, w1, w2, w3, w4, w5, w6] => bif decide (w0 = cmdN) then (bif okN w1 && okN w6 then (bif validN (w2, (w3, (w4, (w5, ((specNum w1).1, (specNum w6).1))))) then ((w2, (w3, (w4, (w5, ((specNum w1).1, (specNum w6).1))))), 0) else (n0, 9)) else (n0, 3)) else (n0, 3)
  | _ => (n0, 3)
theorem readN_n7 {w : List Str} (h : w.length ≠ 7) : readN w = (n0, 3) := by
  unfold readN
  split
  · simp at h
  · rfl
theorem read_eq (w : List Str) (hw : ∀ x ∈ w, x.length ≤ 1000000) : nomination_read w = some (readN w) := by
  by_cases h7 : w.length = 7
  · obtain ⟨w0, w1, w2, w3, w4, w5, w6, rfl⟩ : ∃ w0 w1 w2 w3 w4 w5 w6, w = [w0, w1, w2, w3, w4, w5, w6] := by
      match w, h7 with
      | [w0, w1, w2, w3, w4, w5, w6], _ => exact ⟨w0, w1, w2, w3, w4, w5, w6, rfl⟩
    have e : nomination_read [w0, w1, w2, w3, w4, w5, w6] = bif !decide (w0 = cmdN) then some (n0, 3) else (lines_Number w1).bind fun r => (lines_Number w6).bind fun r2 =>
        Option.bind (α := Bool) (bif !decide (r.2 = 0) then some true else some (!decide (r2.2 = 0))) fun s2 => bif s2 then some (n0, 3) else
          (nomination_valid (w2, (w3, (w4, (w5, (r.1, r2.1)))))).bind fun r3 => bif !r3 then some (n0, 9) else some ((w2, (w3, (w4, (w5, (r.1, r2.1))))), 0) := rfl
    have es : readN [w0, w1, w2, w3, w4, w5, w6] = bif decide (w0 = cmdN) then (bif okN w1 && okN w6 then (bif validN (w2, (w3, (w4, (w5, ((specNum w1).1, (specNum w6).1))))) then ((w2, (w3, (w4, (w5, ((specNum w1).1, (specNum w6).1))))), 0) else (n0, 9)) else (n0, 3)) else (n0, 3) := rfl
    rw [e, es, num_eq w1 (by have := hw w1 (by simp); omega), Option.bind_some, num_eq w6 (by have := hw w6 (by simp); omega), Option.bind_some]
    have hv : nomination_valid (w2, (w3, (w4, (w5, ((specNum w1).1, (specNum w6).1))))) = some (validN (w2, (w3, (w4, (w5, ((specNum w1).1, (specNum w6).1)))))) := nvalid_eq _
    rw [hv]
    unfold okN
    cases decide (w0 = cmdN) with
    | false => rfl
    | true =>
      cases decide ((specNum w1).2 = 0) with
      | false => rfl
      | true =>
        cases decide ((specNum w6).2 = 0) with
        | false => rfl
        | true =>
          cases validN (w2, (w3, (w4, (w5, ((specNum w1).1, (specNum w6).1))))) <;> rfl
  · rw [readN_n7 h7]
    unfold nomination_read
    rw [dec_f (show ¬ (w.length : Int) = 7 by omega)]; rfl
/-! ### A text -/
def stepN (out : List Nom) (w : List Str) : List Nom ⊕ Int :=
  bif w.isEmpty then .inl out else bif !decide ((readN w).2 = 0) then .inr (readN w).2 else .inl (out ++ [(readN w).1])
def parseE : Nat → List Nom → List (List Str) → List Nom ⊕ (List Nom × Int × Int)
  | _, out, [] => .inl out
  | i, out, w :: r => match stepN out w with
    | .inl o => parseE (i + 1) o r
    | .inr e => .inr ([], ((i + 1 : Nat) : Int), e)
theorem stepN_len {out o : List Nom} {w : List Str} (h : stepN out w = .inl o) : o.length ≤ out.length + 1 := by
  unfold stepN at h
  cases h1 : w.isEmpty with
  | true => rw [h1] at h; injection h with h; rw [← h]; omega
  | false =>
    rw [h1, cond_false] at h
    cases h2 : !decide ((readN w).2 = 0) with
    | true => rw [h2] at h; cases h
    | false => rw [h2] at h; injection h with h; rw [← h]; simp
def stepR (out : List Nom) (i : Nat) (w : List Str) : (Int × List Nom) ⊕ (List Nom ⊕ (List Nom × Int × Int)) := match stepN out w with | .inl o => .inl (((i + 1 : Nat) : Int), o) | .inr e => .inr (.inr ([], ((i + 1 : Nat) : Int), e))
theorem parse_loopG {ls : List (List Str)} {step : Int × List Nom → Option ((Int × List Nom) ⊕ (List Nom ⊕ (List Nom × Int × Int)))} (hs : ∀ i, i < ls.length → ∀ out : List Nom, out.length ≤ i → step ((i : Int), out) = some (stepR out i (ls.getD i [])))
    (he : ∀ out, step ((ls.length : Int), out) = some (.inr (.inl out))) : ∀ (rest pre : List (List Str)) (out : List Nom), ls = pre ++ rest → out.length ≤ pre.length → iter step ((pre.length : Int), out) = some (parseE pre.length out rest)
  | [], pre, out, h, ho => by
    rw [List.append_nil] at h
    subst h
    exact iter_inr (he out)
  | w :: rest, pre, out, h, ho => by
    have hi : pre.length < ls.length := by rw [h]; simp
    have hw : ls.getD pre.length [] = w := by rw [h, gD_app, if_neg (by omega), Nat.sub_self]; rfl
    have k := hs pre.length hi out ho
    rw [hw] at k
    unfold stepR at k
    unfold parseE
    cases hp : stepN out w with
    | inr e =>
      rw [hp] at k
      exact iter_inr k
    | inl o =>
      rw [hp] at k
      rw [iter_inl k]
      have := parse_loopG hs he rest (pre ++ [w]) o (by rw [h]; simp) (by have := stepN_len hp; simp; omega)
      rw [List.length_append] at this
      exact this
theorem parse_step (r : List (List Str) × Int) (i : Nat) (hi : i < r.1.length) (hr : r.1.length ≤ 1000000) (hb : ∀ x ∈ r.1.getD i [], x.length ≤ 1000000) (out : List Nom) (ho : out.length ≤ i) :
    nomination_Parse_L0 r (i : Int) out = some (stepR out i (r.1.getD i [])) := by
  unfold nomination_Parse_L0
  rw [dec_t (show (i : Int) < (r.1.length : Int) by omega), cond_true, gd_t (inB_t hi), Int.toNat_natCast, w1 hi (by omega)]
  generalize r.1.getD i [] = w at hb
  unfold stepR stepN
  cases hw : w.isEmpty with
  | true =>
    have : w = [] := by cases w with | nil => rfl | cons => cases hw
    subst this; rfl
  | false =>
    have hne : w.length ≠ 0 := by cases w with | nil => cases hw | cons => simp
    rw [dec_f (show ¬ (w.length : Int) = 0 by omega), cond_false, cond_false, read_eq w hb, Option.bind_some]
    generalize readN w = q
    obtain ⟨p, e⟩ := q
    simp only
    by_cases he : e = 0
    · subst he
      simp only [decide_true, Bool.not_true, cond_false]
      rw [gd_t (fits_t (by omega))]; rfl
    · rw [dec_f he]; rfl
def parseT (t : Str) : List Nom × Int × Int := bif !decide ((specSplit t).2 = 0) then ([], 0, (specSplit t).2) else (parseE 0 [] (specSplit t).1).elim (fun o => (o, 0, 0)) (fun e => e)
theorem parseT_eq (t : Str) (ht : t.length ≤ 1000000) : nomination_Parse t = some (parseT t) := by
  unfold nomination_Parse parseT
  rw [lsplit_eq t ht, Option.bind_some]
  by_cases h : (specSplit t).2 = 0
  · obtain ⟨b1, b2⟩ := spec_bnd h
    rw [dec_t h]
    simp only [Bool.not_true, cond_false]
    have hl := parse_loopG (ls := (specSplit t).1) (step := fun x2 : Int × List Nom => nomination_Parse_L0 (specSplit t) x2.1 x2.2) (fun i hi out ho => parse_step (specSplit t) i hi b1 (b2 _ (gD_mem hi)) out ho)
      (fun out => by simp only; unfold nomination_Parse_L0; rw [dec_f (by omega)]; rfl) (specSplit t).1 [] [] rfl (by simp)
    have hl' : iter (fun x2 : Int × List Nom => nomination_Parse_L0 (specSplit t) x2.1 x2.2) (0, []) = some (parseE 0 [] (specSplit t).1) := hl
    rw [hl', Option.bind_some]
    cases parseE 0 [] (specSplit t).1 <;> rfl
  · rw [dec_f h]; rfl

/-! ### Format -/
theorem wOfs_proper {l : List Nom} (hv : ∀ p ∈ l, validN p = true) : ∀ w ∈ l.map wOf, properB w = true := by
  intro w hw
  obtain ⟨p, hp, rfl⟩ := List.mem_map.1 hw
  exact wOf_proper (hv p hp)
theorem wOfs_txt {l : List Nom} (hv : ∀ p ∈ l, validN p = true) : (txt (l.map wOf)).length ≤ l.length * 99 := by
  have h1 := szL_le (a := l.map wOf) (n := 98) fun w hw => by
    obtain ⟨p, hp, rfl⟩ := List.mem_map.1 hw
    have := sumL_le (wOf_len (hv p hp))
    have h6 : (wOf p).length = 7 := rfl
    rw [h6] at this
    unfold szW; omega
  have h2 := (txt_len (l.map wOf)).2
  rw [List.length_map] at h1 h2
  omega
theorem wOfs_bj {l : List Nom} (hv : ∀ p ∈ l, validN p = true) : BJ (l.map wOf) := fun w hw => by
  obtain ⟨p, hp, rfl⟩ := List.mem_map.1 hw
  exact ⟨by show 7 ≤ 1000000; omega, fun s hs => by have := wOf_len (hv p hp) s hs; omega⟩
theorem fm_loop (l : List Nom) (hv : ∀ p ∈ l, validN p = true) (hl : l.length ≤ 1000) : iter (fun x : Int × List (List Str) => nomination_Format_L0 l x.1 x.2) (0, []) = some (l.map wOf) := by
  have h0 : ((0 : Int), ([] : List (List Str))) = (fun k : Nat => ((k : Int), (l.take k).map wOf)) 0 := rfl
  rw [h0]
  refine iter_for (step := fun x : Int × List (List Str) => nomination_Format_L0 l x.1 x.2) l.length (fun k : Nat => ((k : Int), (l.take k).map wOf)) (fun k hk => ?_) ?_
  · simp only
    have v := valN (hv _ (gD_mem (d := n0) hk))
    unfold nomination_Format_L0
    rw [dec_t (show (k : Int) < (l.length : Int) by omega), cond_true, gd_t (inB_t hk), Int.toNat_natCast]
    show ((itoaT (l.getD k n0).2.2.2.2.1).bind fun r2 => (itoaT (l.getD k n0).2.2.2.2.2).bind fun r3 => gd (fits (((l.take k).map wOf).length + 1) 24) (some (.inl (wi64 ((k : Int) + 1), (l.take k).map wOf ++ [[cmdN, r2, (l.getD k n0).1, (l.getD k n0).2.1, (l.getD k n0).2.2.1, (l.getD k n0).2.2.2.1, r3]])) : Option ((Int × List (List Str)) ⊕ List (List Str)))) = _
    rw [itoaT_t v.c.1 (by have := v.c.2; omega), Option.bind_some, itoaT_t (by have := v.v.1; omega) v.v.2, Option.bind_some, gd_t (fits_t (by simp only [List.length_map, List.length_take]; omega)), w1 hk (by omega), take_next n0 hk, List.map_append]; rfl
  · simp only
    unfold nomination_Format_L0
    rw [dec_f (by omega), List.take_length]; rfl
def fmtN (l : List Nom) : Str × Int := bif !decide (chkN l = 0) then ([], chkN l) else specJoin (l.map wOf)
theorem fmt_eq (l : List Nom) (hl : l.length ≤ 1000000) : nomination_Format l = some (fmtN l) := by
  unfold nomination_Format fmtN
  rw [ncheck_eq l hl, Option.bind_some]
  by_cases hc : chkN l = 0
  · obtain ⟨hv, h16⟩ := chkN_zero hc
    rw [dec_t hc]
    simp only [Bool.not_true, cond_false]
    rw [fm_loop l hv (by omega), Option.bind_some, ljoin_eq _ (wOfs_bj hv)]; rfl
  · rw [dec_f hc]; rfl
theorem fmtN_ok {l : List Nom} (hv : ∀ p ∈ l, validN p = true) (hl : l.length ≤ 100) : fmtN l = (txt (l.map wOf), 0) := by
  have ht := wOfs_txt hv
  unfold fmtN
  rw [dec_t (chkN_ok hv (by omega)), join_txt (wOfs_proper hv) (by rw [List.length_map]; omega) (by omega)]; rfl

/-! ### What was formatted is parsed -/
theorem same_refl (a : List Nom) (h : a.length ≤ 1000000) : ref11_Same a a = some true := by
  unfold ref11_Same
  rw [dec_t rfl]
  have hs : iter (fun x => ref11_Same_L0 a a x) 0 = some (bif a.all (fun _ => true) then .inl () else .inr false) := by
    refine scan a n0 (fun _ => true) (fun i hi _ => ?_) (fun i hi hq => by cases hq) ?_
    · unfold ref11_Same_L0
      rw [dec_t (show (i : Int) < (a.length : Int) by omega), cond_true, gd_t (inB_t hi), gd_t (inB_t hi), w1 hi (by omega)]
      simp
    · unfold ref11_Same_L0
      rw [dec_f (by omega)]; rfl
  simp only [Bool.not_true, cond_false]
  rw [hs, Option.bind_some, allT]; rfl

/-! ### What is made -/
structure GoodN (x : Nom) : Prop where
  s : x.1 ∈ ([[97, 99, 109, 101], [98, 111, 108, 116]] : List Str)
  p : x.2.1 ∈ ([[100, 105, 101, 115, 101, 108], [106, 101, 116]] : List Str)
  f : x.2.2.1 ∈ ([[112, 111, 114, 116, 97], [112, 111, 114, 116, 98]] : List Str)
  t : x.2.2.2.1 ∈ ([[112, 111, 114, 116, 99], [112, 111, 114, 116, 100]] : List Str)
  c : 0 ≤ x.2.2.2.2.1 ∧ x.2.2.2.2.1 ≤ 2
  v : 1 ≤ x.2.2.2.2.2 ∧ x.2.2.2.2.2 ≤ 1073741824
structure MadeN (l : List Nom) : Prop where
  n : l.length ≤ 11
  g : ∀ x ∈ l, GoodN x
theorem good_valid {x : Nom} (h : GoodN x) : validN x = true := by
  obtain ⟨s, p, f, t, c, v⟩ := x
  obtain ⟨h1, h2, h3, h4, h5, h6⟩ := h
  simp only at h1 h2 h3 h4 h5 h6
  have hn : nmB (s, (p, (f, (t, (c, v))))) = true := by
    unfold nmB
    simp only [List.all_cons, List.all_nil, Bool.and_true, Bool.and_eq_true]
    simp only [List.mem_cons, List.not_mem_nil, or_false] at h1 h2 h3 h4
    refine ⟨?_, ?_, ?_, ?_⟩
    · rcases h1 with rfl | rfl <;> rfl
    · rcases h2 with rfl | rfl <;> rfl
    · rcases h3 with rfl | rfl <;> rfl
    · rcases h4 with rfl | rfl <;> rfl
  have hne : f ≠ t := by
    simp only [List.mem_cons, List.not_mem_nil, or_false] at h3 h4
    rcases h3 with rfl | rfl <;> rcases h4 with rfl | rfl <;> decide
  unfold validN numB
  rw [hn]
  simp only
  rw [dec_f hne, dec_t (by omega), dec_t (by omega), dec_t (by omega), dec_t (by omega)]; rfl
theorem MadeN.valid {l : List Nom} (h : MadeN l) : ∀ x ∈ l, validN x = true := fun x hx => good_valid (h.g x hx)
theorem made_ok {s : List Int} {p : Int} (h : SrcOk s p) : Ok (law11_made s p) (fun r => r.1 = s ∧ SrcOk s r.2.1 ∧ MadeN r.2.2) := by
  unfold law11_made
  obtain ⟨r, p', e, a, b, h'⟩ := n_eq (n := 12) h (by omega) (by omega)
  refine Ok.eq e ?_
  obtain ⟨n, rfl⟩ : ∃ n : Nat, r = (n : Int) := ⟨r.toNat, by omega⟩
  refine Ok.bind (Q := fun r => r.1 = s ∧ SrcOk s r.2.1 ∧ MadeN r.2.2) ?_ fun r hr => .ret hr
  refine Ok.loop (fun x : Int × List Int × Int × List Nom => ∃ k : Nat, x.1 = (k : Int) ∧ x.2.1 = s ∧ SrcOk s x.2.2.1 ∧ x.2.2.2.length + k ≤ 11 ∧ ∀ y ∈ x.2.2.2, GoodN y) (fun x => x.1.toNat)
    ⟨n, rfl, rfl, h', by simp; omega, fun y hy => by cases hy⟩ ?_
  rintro ⟨i, d3, d4, out⟩ ⟨k, g1, g2, g3, g5, g6⟩
  simp only at g1 g2 g3 g5 g6
  subst g1 g2
  unfold law11_made_L0
  refine Ok.bif (fun hc => ?_) fun hc => ?_
  · have hc := of_decide_eq_true hc
    refine Ok.bind (text_ok g3 (by simp) (by simp)) ?_
    rintro ⟨x1, d5, d6⟩ ⟨a1, a2, a3⟩
    simp only at a1 a2 a3
    subst a2
    refine Ok.bind (text_ok a3 (by simp) (by simp)) ?_
    rintro ⟨x2, d7, d8⟩ ⟨b1, b2, b3⟩
    simp only at b1 b2 b3
    subst b2
    refine Ok.bind (text_ok b3 (by simp) (by simp)) ?_
    rintro ⟨x3, d9, d10⟩ ⟨c1, c2, c3⟩
    simp only at c1 c2 c3
    subst c2
    refine Ok.bind (text_ok c3 (by simp) (by simp)) ?_
    rintro ⟨x4, d11, d12⟩ ⟨e1, e2, e3⟩
    simp only at e1 e2 e3
    subst e2
    obtain ⟨r6, p6, f6, u6, v6, h6⟩ := n_eq (n := 3) e3 (by omega) (by omega)
    refine Ok.eq f6 ?_
    obtain ⟨r7, p7, f7, u7, h7⟩ := pick_eq (l := [1, 1000, 1073741824]) h6 (by simp) (by simp)
    refine Ok.eq f7 ?_
    have hr7 : 1 ≤ r7 ∧ r7 ≤ 1073741824 := by
      simp only [List.mem_cons, List.not_mem_nil, or_false] at u7
      omega
    obtain ⟨r8, p8, f8, u8, v8, h8⟩ := n_eq (n := r7) h7 (by omega) (by omega)
    refine Ok.eq f8 ?_
    refine Ok.gd (fits_t (by (try dsimp only); omega)) (.ret ?_)
    have hw : wi64 (1 + r8) = 1 + r8 := wi (by omega)
    refine ⟨⟨k - 1, by show wi64 ((k : Int) - 1) = _; rw [wi (by omega)]; omega, rfl, h8, by simp only [List.length_append, List.length_cons, List.length_nil]; omega, fun y hy => ?_⟩, by show (wi64 ((k : Int) - 1)).toNat < _; rw [wi (by omega)]; simp only; omega⟩
    rcases List.mem_append.1 hy with hy | hy
    · exact g6 y hy
    · rw [List.mem_singleton.1 hy]
      exact ⟨a1, b1, c1, e1, ⟨u6, by show r6 ≤ 2; omega⟩, by show 1 ≤ wi64 (1 + r8) ∧ wi64 (1 + r8) ≤ 1073741824; rw [hw]; omega⟩
  · exact .ret ⟨rfl, g3, by simp only; omega, g6⟩
theorem made0 {l : List Int} (hl : ∀ x ∈ l, i64P x) : ∃ s p a, keep_New l = some (s, 0) ∧ law11_made s 0 = some (s, p, a) ∧ MadeN a ∧ SrcOk s p := by
  obtain ⟨s, e, hs⟩ := new_eq hl
  obtain ⟨⟨s', p, a⟩, e2, g1, g2, g3⟩ := made_ok hs
  simp only at g1 g2 g3
  subst g1
  exact ⟨s', p, a, e, e2, g3, g2⟩
end Go.Proofs.YtnilkkggnffklaaGreatDoor
