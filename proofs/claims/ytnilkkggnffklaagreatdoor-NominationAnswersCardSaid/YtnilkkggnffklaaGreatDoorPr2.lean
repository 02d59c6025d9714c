/- Splitting a text. No condition. -/
import Derived.Test.YtnilkkggnffklaaGreatDoorPr1
namespace Go.Proofs.YtnilkkggnffklaaGreatDoor
open Go Go.Sq
set_option linter.unusedVariables false
abbrev Str := List UInt8
def splB (c : UInt8) : Str → List Str
  | [] => [[]]
  | x :: l => bif x == c then [] :: splB c l else match splB c l with
    | [] => [[x]]
    | h :: t => (x :: h) :: t
theorem splB_ne (c : UInt8) (s : Str) : splB c s ≠ [] := by
  cases s with
  | nil => simp [splB]
  | cons x l =>
    unfold splB
    cases x == c with
    | true => simp
    | false => simp only [cond_false]; split <;> simp
theorem splB_no {c : UInt8} : ∀ {X : Str}, c ∉ X → splB c X = [X]
  | [], _ => rfl
  | x :: l, h => by
    simp only [List.mem_cons, not_or] at h
    unfold splB
    rw [show (x == c) = false by rw [beq_eq_false_iff_ne]; exact fun e => h.1 e.symm, cond_false, splB_no h.2]
theorem splB_app {c : UInt8} (r : Str) : ∀ {X : Str}, c ∉ X → splB c (X ++ c :: r) = X :: splB c r
  | [], _ => by simp [splB]
  | x :: l, h => by
    simp only [List.mem_cons, not_or] at h
    rw [List.cons_append]
    conv => lhs; unfold splB
    rw [show (x == c) = false by rw [beq_eq_false_iff_ne]; exact fun e => h.1 e.symm, cond_false, splB_app r h.2]
theorem splB_len (c : UInt8) : ∀ s : Str, (splB c s).length = s.count c + 1
  | [] => rfl
  | x :: l => by
    unfold splB
    rw [List.count_cons]
    have ih := splB_len c l
    cases hx : x == c with
    | true => simp [ih]
    | false =>
      simp only [cond_false, Bool.false_eq_true, if_false, Nat.add_zero]
      split
      · rename_i h; exact absurd h (splB_ne c l)
      · rename_i h t hs
        rw [hs] at ih
        exact ih
def lns : Str → List Str
  | [] => []
  | x :: l => bif x == 10 then [] :: lns l else match lns l with
    | [] => [[x]]
    | h :: t => (x :: h) :: t
theorem lns_no : ∀ {X : Str}, (10 : UInt8) ∉ X → lns X = if X = [] then [] else [X]
  | [], _ => rfl
  | x :: l, h => by
    simp only [List.mem_cons, not_or] at h
    unfold lns
    rw [show (x == (10 : UInt8)) = false by rw [beq_eq_false_iff_ne]; exact fun e => h.1 e.symm, cond_false, lns_no h.2]
    by_cases hl : l = []
    · subst hl; rfl
    · rw [if_neg hl, if_neg (by simp)]
theorem lns_app (r : Str) : ∀ {X : Str}, (10 : UInt8) ∉ X → lns (X ++ 10 :: r) = X :: lns r
  | [], _ => by simp [lns]
  | x :: l, h => by
    simp only [List.mem_cons, not_or] at h
    rw [List.cons_append]
    conv => lhs; unfold lns
    rw [show (x == (10 : UInt8)) = false by rw [beq_eq_false_iff_ne]; exact fun e => h.1 e.symm, cond_false, lns_app r h.2]
theorem lns_len : ∀ s : Str, (lns s).length = s.count 10 + (if s = [] ∨ s.getLast? = some 10 then 0 else 1)
  | [] => rfl
  | x :: l => by
    unfold lns
    rw [List.count_cons]
    have ih := lns_len l
    have e0 : (x :: l = [] ∨ (x :: l).getLast? = some 10) ↔ (if l = [] then x = 10 else l.getLast? = some 10) := by
      cases l with
      | nil => simp
      | cons y r => simp [List.getLast?_cons_cons]
    cases hx : x == (10 : UInt8) with
    | true =>
      rw [beq_iff_eq] at hx; subst hx
      simp only [cond_true, List.length_cons, ih, if_true]
      by_cases hl : l = []
      · subst hl; simp
      · have e1 : (l = [] ∨ l.getLast? = some 10) ↔ ((10 : UInt8) :: l = [] ∨ ((10 : UInt8) :: l).getLast? = some 10) := by rw [e0, if_neg hl]; simp [hl]
        simp only [e1]; omega
    | false =>
      rw [beq_eq_false_iff_ne] at hx
      simp only [cond_false, Bool.false_eq_true, if_false, Nat.add_zero]
      split
      · rename_i h
        rw [h] at ih
        have hl : l = [] := by
          by_cases hl : l = []
          · exact hl
          · exfalso
            cases l with
            | nil => exact hl rfl
            | cons y r =>
              have : lns (y :: r) ≠ [] := by
                unfold lns
                cases y == (10 : UInt8) with
                | true => simp
                | false => simp only [cond_false]; split <;> simp
              exact this h
        subst hl
        simp [hx]
      · rename_i h t hs
        rw [hs] at ih
        have hl : l ≠ [] := fun e => by rw [e] at hs; cases hs
        have e1 : (l = [] ∨ l.getLast? = some 10) ↔ (x :: l = [] ∨ (x :: l).getLast? = some 10) := by rw [e0, if_neg hl]; simp [hl]
        simp only [e1] at ih
        exact ih
theorem idx_spec (c : UInt8) : ∀ s : Str, (c ∉ s ∧ Lib.indexByte s c = -1) ∨ ∃ X r, s = X ++ c :: r ∧ c ∉ X ∧ Lib.indexByte s c = (X.length : Int)
  | [] => .inl ⟨by simp, rfl⟩
  | b :: l => by
    unfold Lib.indexByte
    cases hb : b == c with
    | true =>
      rw [beq_iff_eq] at hb; subst hb
      exact .inr ⟨[], l, rfl, by simp, by simp⟩
    | false =>
      rw [beq_eq_false_iff_ne] at hb
      simp only [Bool.false_eq_true, if_false]
      rcases idx_spec c l with ⟨h1, h2⟩ | ⟨X, r, rfl, h2, h3⟩
      · refine .inl ⟨by simp only [List.mem_cons, not_or]; exact ⟨fun e => hb e.symm, h1⟩, by rw [h2]; rfl⟩
      · refine .inr ⟨b :: X, r, rfl, by simp only [List.mem_cons, not_or]; exact ⟨fun e => hb e.symm, h2⟩, ?_⟩
        rw [h3]
        have : ((X.length : Int) == -1) = false := by rw [beq_eq_false_iff_ne]; omega
        rw [this]
        simp
theorem c_eq (c : UInt8) : (Int.ofNat (([c] : Str).getD 0 0).toNat).toNat.toUInt8 = c := by
  show c.toNat.toUInt8 = c
  simp
theorem index_eq (s : Str) (c : UInt8) : internal_stringslite_Index s [c] = some (Lib.indexByte s c) := by
  unfold internal_stringslite_Index internal_stringslite_IndexByte idxB
  rw [dec_f (show ¬ ((([c] : Str).length : Int) = 0) by simp), cond_false, Option.bind_some]
  by_cases h : [c] = s
  · rw [dec_t h, cond_true, ← h]
    unfold Lib.indexByte
    simp
  · rw [dec_f h, cond_false, dec_t (show (([c] : Str).length : Int) = 1 by simp), cond_true, gd_t (inB0 (by simp)), c_eq]; rfl
theorem count_eq (s : Str) (c : UInt8) : strings_Count s [c] = some ((s.count c : Nat) : Int) := by
  unfold strings_Count cntB
  rw [dec_f (show ¬ ((([c] : Str).length : Int) = 0) by simp), cond_false, dec_t (show (([c] : Str).length : Int) = 1 by simp), cond_true, gd_t (inB0 (by simp)), c_eq]
  rfl
theorem cut_no {s : Str} (h : (10 : UInt8) ∉ s) : strings_Cut s [10] = some (s, [], false) := by
  unfold strings_Cut internal_stringslite_Cut
  rcases idx_spec 10 s with ⟨_, h2⟩ | ⟨X, r, rfl, _, _⟩
  · rw [index_eq, h2]; rfl
  · simp at h
theorem cut_app {X r : Str} (h : (10 : UInt8) ∉ X) (hl : (X ++ 10 :: r).length ≤ 4611686018427387904) : strings_Cut (X ++ 10 :: r) [10] = some (X, r, true) := by
  unfold strings_Cut internal_stringslite_Cut
  have hi : Lib.indexByte (X ++ 10 :: r) 10 = (X.length : Int) := by
    rcases idx_spec 10 (X ++ 10 :: r) with ⟨h1, _⟩ | ⟨Y, q, e, h2, h3⟩
    · simp at h1
    · have : splB 10 (X ++ 10 :: r) = splB 10 (Y ++ 10 :: q) := by rw [e]
      rw [splB_app _ h, splB_app _ h2] at this
      injection this with e1 _
      rw [h3, e1]
  simp only [List.length_append, List.length_cons] at hl
  rw [index_eq, hi, Option.bind_some, dec_t (show (0 : Int) ≤ (X.length : Int) by omega), cond_true]
  have e1 : wi64 ((X.length : Int) + (([10] : Str).length : Int)) = ((X.length + 1 : Nat) : Int) := by
    rw [show (([10] : Str).length : Int) = 1 from rfl, wi (by omega)]; omega
  have e2 : (X ++ 10 :: r).take X.length = X := List.take_left
  have e3 : (X ++ 10 :: r).drop (X.length + 1) = r := by simp [List.drop_append]
  rw [e1, gd_t (by simp [cutG]; omega), gd_t (by simp [cutG]; omega), Int.toNat_natCast, Int.toNat_natCast, e2, e3]; rfl
theorem ok_eq {A : Type} {x : Option A} {v : A} (h : Ok x (fun y => y = v)) : x = some v := by obtain ⟨a, h1, rfl⟩ := h; exact h1
theorem set_last {A : Type} (a : List A) (k : Nat) (x : A) (h : k + 1 = a.length) : a.set k x = a.take k ++ [x] := by
  rw [List.set_eq_take_append_cons_drop, if_pos (by omega), List.drop_of_length_le (by omega)]
theorem set_take {A : Type} (a : List A) (k : Nat) (x : A) (h : k < a.length) : (a.set k x).take (k + 1) = a.take k ++ [x] := by
  rw [List.take_set, set_last _ _ _ (by simp; omega), List.take_take, Nat.min_eq_left (by omega)]
theorem splB_one {c : UInt8} {s : Str} (h : (splB c s).length = 1) : splB c s = [s] := by
  rw [splB_len] at h
  exact splB_no (List.count_eq_zero.1 (by omega))
theorem split_eq (s : Str) (hl : s.length ≤ 1000000) : strings_Split s [32] = some (splB 32 s) := by
  have hP := splB_len 32 s
  have hcnt : s.count 32 ≤ s.length := List.count_le_length
  unfold strings_Split strings_genSplit
  rw [dec_f (by decide), cond_false, dec_f (by simp), cond_false, dec_t (by decide), cond_true, count_eq, Option.bind_some, Option.bind_some]
  have e1 : wi64 (((s.count 32 : Nat) : Int) + 1) = ((s.count 32 + 1 : Nat) : Int) := w1 (n := 1000001) (by omega) (by omega)
  have e2 : wi64 ((s.length : Int) + 1) = ((s.length + 1 : Nat) : Int) := w1 (n := 1000001) (by omega) (by omega)
  have e3 : min ((s.count 32 + 1 : Nat) : Int) ((s.length + 1 : Nat) : Int) = ((s.count 32 + 1 : Nat) : Int) := by omega
  rw [e1, e2, e3, gd_t (makeG_t (by omega))]
  suffices h : Ok (iter (fun x => strings_genSplit_L0 s [32] 0 ((s.count 32 + 1 : Nat) : Int) x.1 x.2.1 x.2.2) (s, 0, List.replicate ((s.count 32 + 1 : Nat) : Int).toNat [])) (fun e => e.2.1 = ((s.count 32 : Nat) : Int) ∧ splB 32 e.1 = (splB 32 s).drop (s.count 32) ∧ e.2.2.length = s.count 32 + 1 ∧ e.2.2.take (s.count 32) = (splB 32 s).take (s.count 32)) by
    obtain ⟨e, h1, h2, h3, h4, h5⟩ := h
    obtain ⟨s3, i, a⟩ := e
    simp only at h2 h3 h4 h5
    subst h2
    rw [h1, Option.bind_some]
    simp only
    rw [gd_t (inB_t (by omega)), w1 (n := 1000001) (by omega) (by omega), gd_t (by simp [cutG]; omega), Int.toNat_natCast, Int.toNat_natCast, set_last a _ s3 (by omega), h5]
    have h6 : splB 32 s3 = [s3] := splB_one (by rw [h3, List.length_drop]; omega)
    rw [← h6, h3, List.take_append_drop, List.take_of_length_le (by omega)]; rfl
  refine Ok.loop (fun x : Str × Int × List Str => ∃ k : Nat, x.2.1 = (k : Int) ∧ k ≤ s.count 32 ∧ splB 32 x.1 = (splB 32 s).drop k ∧ x.2.2.length = s.count 32 + 1 ∧ x.2.2.take k = (splB 32 s).take k ∧ x.1.length ≤ s.length) (fun x => s.count 32 - x.2.1.toNat)
    ⟨0, rfl, by omega, by simp, by simp, by simp, Nat.le_refl _⟩ ?_
  rintro ⟨s3, i, a⟩ ⟨k, hk, hk1, h1, h2, h3, h4⟩
  simp only at hk h1 h2 h3 h4
  subst hk
  unfold strings_genSplit_L0
  simp only
  have e4 : wi64 ((min ((s.count 32 + 1 : Nat) : Int) (wi64 ((s.length : Int) + 1))) - 1) = ((s.count 32 : Nat) : Int) := by rw [e2, e3, wi (by omega)]; omega
  rw [e4]
  refine Ok.bif (fun hc => ?_) fun hc => ?_
  · have hc := of_decide_eq_true hc
    have hk2 : k < s.count 32 := by omega
    rcases idx_spec 32 s3 with ⟨hn, _⟩ | ⟨X, r, rfl, hX, hidx⟩
    · exfalso
      have := congrArg List.length h1
      rw [splB_no hn, List.length_drop] at this
      simp at this; omega
    · rw [show strings_Index (X ++ 32 :: r) [32] = some (X.length : Int) by unfold strings_Index; rw [index_eq, hidx]; rfl, Option.bind_some]
      simp only [List.length_append, List.length_cons] at h4
      rw [dec_f (show ¬ (X.length : Int) < 0 by omega), cond_false]
      have e5 : wi64 ((X.length : Int) + 0) = (X.length : Int) := by rw [wi (by omega)]; omega
      have e6 : wi64 ((X.length : Int) + (([32] : Str).length : Int)) = ((X.length + 1 : Nat) : Int) := w1 (n := 1000001) (by omega) (by omega)
      rw [e5, e6, gd_t (by simp [cutG]; omega), gd_t (inB_t (by omega)), gd_t (by simp [cutG]; omega), w1 (n := 1000001) (by omega) (by omega), Int.toNat_natCast, Int.toNat_natCast, Int.toNat_natCast]
      have e7 : (X ++ 32 :: r).take X.length = X := List.take_left
      have e8 : (X ++ 32 :: r).drop (X.length + 1) = r := by simp [List.drop_append]
      rw [e7, e8]
      rw [splB_app _ hX] at h1
      have hkl : k < (splB 32 s).length := by omega
      rw [List.drop_eq_getElem_cons hkl] at h1
      injection h1 with h5 h6
      refine .ret ⟨⟨k + 1, rfl, by omega, h6, by simp [h2], ?_, by simp; omega⟩, ?_⟩
      · rw [set_take _ _ _ (by omega), h3, take_next [] hkl, gD_eq hkl, h5]
      · simp only [Int.toNat_natCast]; omega
  · have hc := of_decide_eq_false hc
    have : k = s.count 32 := by omega
    subst this
    exact .ret ⟨rfl, h1, h2, h3⟩
def wch (b : UInt8) : Bool := Nat.ble 33 b.toNat && Nat.ble b.toNat 126
def wordB (s : Str) : Bool := s.all wch && !s.isEmpty
def properB (w : List Str) : Bool := Nat.ble w.length 16 && w.all wordB && !((w.headD []).headD 0 == 35)
def wordsB (w : List Str) : Bool := !w.isEmpty && properB w
theorem lt33 (b : UInt8) : decide ((Int.ofNat b.toNat) < 33) = decide (b.toNat < 33) := by
  rw [Bool.eq_iff_iff, decide_eq_true_iff, decide_eq_true_iff]; simp only [Int.ofNat_eq_natCast]; omega
theorem gt126 (b : UInt8) : decide (126 < (Int.ofNat b.toNat)) = decide (126 < b.toNat) := by
  rw [Bool.eq_iff_iff, decide_eq_true_iff, decide_eq_true_iff]; simp only [Int.ofNat_eq_natCast]; omega
theorem eq35 (b : UInt8) : decide ((Int.ofNat b.toNat) = 35) = (b == 35) := by
  rw [Bool.eq_iff_iff, decide_eq_true_iff, beq_iff_eq]
  simp only [Int.ofNat_eq_natCast]
  constructor
  · intro h; exact UInt8.toNat_inj.1 (by show b.toNat = 35; omega)
  · rintro rfl; rfl
theorem wch_t {b : UInt8} (h : wch b = true) : decide (b.toNat < 33) = false ∧ decide (126 < b.toNat) = false := by
  simp only [wch, Bool.and_eq_true, Nat.ble_eq] at h
  exact ⟨decide_eq_false (by omega), decide_eq_false (by omega)⟩
theorem wch_f {b : UInt8} (h : wch b = false) : decide (b.toNat < 33) = true ∨ (decide (b.toNat < 33) = false ∧ decide (126 < b.toNat) = true) := by
  by_cases h1 : b.toNat < 33
  · exact .inl (decide_eq_true h1)
  · refine .inr ⟨decide_eq_false h1, decide_eq_true ?_⟩
    by_cases h2 : b.toNat ≤ 126
    · exfalso
      rw [show wch b = true by simp only [wch, Bool.and_eq_true, Nat.ble_eq]; omega] at h; cases h
    · omega
theorem word_eq (s : Str) (hl : s.length ≤ 1000000) : lines_word s = some (wordB s) := by
  unfold lines_word
  have h : iter (fun x => lines_word_L0 s x) 0 = some (bif s.all wch then .inl () else .inr false) := by
    refine scan s 0 wch (fun i hi hq => ?_) (fun i hi hq => ?_) ?_
    · obtain ⟨h1, h2⟩ := wch_t hq
      unfold lines_word_L0
      rw [dec_t (by omega), cond_true, gd_t (inB_t hi), gd_t (inB_t hi), Int.toNat_natCast, lt33, h1, cond_false, gt126, h2, Option.bind_some, cond_false, w1 hi (by omega)]
    · unfold lines_word_L0
      rw [dec_t (by omega), cond_true, gd_t (inB_t hi), gd_t (inB_t hi), Int.toNat_natCast, lt33]
      rcases wch_f hq with h1 | ⟨h1, h2⟩
      · rw [h1]; rfl
      · rw [h1, cond_false, gt126, h2]; rfl
    · unfold lines_word_L0
      rw [dec_f (by omega)]; rfl
  rw [h, Option.bind_some]
  unfold wordB
  cases s.all wch with
  | false => rfl
  | true => cases s <;> rfl
theorem words_eq (l : List Str) (hl : ∀ s ∈ l, s.length ≤ 1000000) : lines_words l = some (wordsB l) := by
  unfold lines_words wordsB properB
  by_cases h0 : l.length < 1
  · have : l = [] := List.eq_nil_of_length_eq_zero (by omega)
    subst this; rfl
  · rw [dec_f (show ¬ (l.length : Int) < 1 by omega), cond_false, Option.bind_some]
    have hne : l.isEmpty = false := by cases l with | nil => simp at h0 | cons => rfl
    by_cases h16 : 16 < l.length
    · rw [dec_t (show 16 < (l.length : Int) by omega), hne, show Nat.ble l.length 16 = false by rw [Bool.eq_false_iff, ne_eq, Nat.ble_eq]; omega]; rfl
    · rw [dec_f (show ¬ 16 < (l.length : Int) by omega), cond_false, hne, show Nat.ble l.length 16 = true by rw [Nat.ble_eq]; omega]
      have h : iter (fun x => lines_words_L0 l x) 0 = some (bif l.all wordB then .inl () else .inr false) := by
        refine scan l [] wordB (fun i hi hq => ?_) (fun i hi hq => ?_) ?_
        · unfold lines_words_L0
          rw [dec_t (by omega), cond_true, gd_t (inB_t hi), Int.toNat_natCast, word_eq _ (hl _ (gD_mem hi)), Option.bind_some, hq, Bool.not_true, cond_false, w1 hi (by omega)]
        · unfold lines_words_L0
          rw [dec_t (by omega), cond_true, gd_t (inB_t hi), Int.toNat_natCast, word_eq _ (hl _ (gD_mem hi)), Option.bind_some, hq]; rfl
        · unfold lines_words_L0
          rw [dec_f (by omega)]; rfl
      rw [h, Option.bind_some]
      cases ha : l.all wordB with
      | false => rfl
      | true =>
        cases l with
        | nil => simp at h0
        | cons w r =>
          simp only [List.all_cons, Bool.and_eq_true] at ha
          have hw : w ≠ [] := by
            rintro rfl
            have := ha.1
            simp [wordB] at this
          simp only [cond_true, Sum.elim_inl]
          rw [gd_t (inB0 (by simp)), gd_t (inB0 (by cases w with | nil => exact absurd rfl hw | cons => simp)), eq35]
          cases w with
          | nil => exact absurd rfl hw
          | cons => rfl
def lineOf (x : Str) : Option (List Str) := bif x.isEmpty || x.headD 0 == 35 then some [] else bif wordsB (splB 32 x) then some (splB 32 x) else none
def linesM : List Str → Option (List (List Str))
  | [] => some []
  | x :: r => match lineOf x with
    | none => none
    | some w => (linesM r).map (w :: ·)
theorem linesM_cons (x : Str) (r : List Str) : linesM (x :: r) = match lineOf x with | none => none | some w => (linesM r).map (w :: ·) := rfl
def specSplit (t : Str) : List (List Str) × Int := bif Nat.blt 16384 t.length || Nat.blt 400 (lns t).length then ([], 4) else match linesM (lns t) with
  | some l => (l, 0)
  | none => ([], 3)
theorem splB_mem {c : UInt8} : ∀ {s x : Str}, x ∈ splB c s → x.length ≤ s.length
  | [], x, h => by simp [splB] at h; subst h; simp
  | b :: l, x, h => by
    unfold splB at h
    cases hb : b == c with
    | true =>
      rw [hb] at h
      rcases List.mem_cons.1 h with rfl | h
      · simp
      · have := splB_mem h; simp; omega
    | false =>
      rw [hb] at h
      simp only [cond_false] at h
      split at h
      · simp at h; subst h; simp
      · rename_i q t hs
        rcases List.mem_cons.1 h with rfl | h
        · have := splB_mem (s := l) (x := q) (by rw [hs]; simp)
          simp; omega
        · have := splB_mem (s := l) (x := x) (by rw [hs]; simp [h])
          simp; omega
/-- The first line and the rest. -/
theorem cut_lns {s : Str} (h : s ≠ []) (hl : s.length ≤ 1000000) : ∃ X r b, strings_Cut s [10] = some (X, r, b) ∧ lns s = X :: lns r ∧ r.length < s.length ∧ X.length ≤ s.length := by
  rcases idx_spec 10 s with ⟨hn, _⟩ | ⟨X, r, rfl, hX, _⟩
  · refine ⟨s, [], false, cut_no hn, ?_, ?_, Nat.le_refl _⟩
    · rw [lns_no hn, if_neg h]; rfl
    · cases s with
      | nil => exact absurd rfl h
      | cons => simp
  · exact ⟨X, r, true, cut_app hX (by omega), lns_app r hX, by simp; omega, by simp⟩
theorem suffix_eq (t : Str) (h : t ≠ []) (hl : t.length ≤ 1000000) : strings_HasSuffix t [10] = some (decide (t.getLast? = some 10)) := by
  unfold strings_HasSuffix internal_stringslite_HasSuffix
  have hp : 0 < t.length := by cases t with | nil => exact absurd rfl h | cons => simp
  rw [dec_t (show (([10] : Str).length : Int) ≤ (t.length : Int) by simp; omega), cond_true]
  have e : wi64 ((t.length : Int) - (([10] : Str).length : Int)) = ((t.length - 1 : Nat) : Int) := by
    rw [show (([10] : Str).length : Int) = 1 from rfl, wi (by omega)]; omega
  rw [e, gd_t (by simp [cutG]), Option.bind_some, Int.toNat_natCast]
  congr 1
  rw [Bool.eq_iff_iff, decide_eq_true_iff, decide_eq_true_iff]
  have e2 : t.drop (t.length - 1) = [t.getLast h] := by
    conv => lhs; rw [← List.dropLast_concat_getLast h]
    rw [List.drop_append_of_le_length (by simp)]
    simp
  rw [e2, List.getLast?_eq_some_getLast h]
  simp
theorem nlines_eq (t : Str) (hl : t.length ≤ 1000000) : ((Option.bind (α := Bool) (bif !decide (t = []) then ((strings_HasSuffix t [10]).bind fun r2 => some (!r2)) else some false)) fun s => Option.bind (α := Int) (bif s then some (wi64 (((t.count 10 : Nat) : Int) + 1)) else some ((t.count 10 : Nat) : Int)) fun s2 => some s2) = some (((lns t).length : Nat) : Int) := by
  have hc : t.count 10 ≤ t.length := List.count_le_length
  rw [lns_len]
  by_cases h : t = []
  · subst h; rfl
  · rw [dec_f h, Bool.not_false, cond_true, suffix_eq t h hl, Option.bind_some, Option.bind_some]
    by_cases h2 : t.getLast? = some 10
    · rw [dec_t h2, if_pos (.inr h2)]; rfl
    · rw [dec_f h2, if_neg (fun hh => hh.elim h h2), Bool.not_false, cond_true, w1 (n := 1000001) (by omega) (by omega)]; rfl
theorem lines_le : ∀ t : Str, (lns t).length ≤ t.length := by
  intro t
  rw [lns_len]
  have h1 : t.count 10 ≤ t.length := List.count_le_length
  by_cases h : t = [] ∨ t.getLast? = some 10
  · rw [if_pos h]; omega
  · rw [if_neg h]
    rw [not_or] at h
    have h2 : t.count 10 < t.length := by
      rw [← List.dropLast_concat_getLast h.1, List.count_append, List.length_append]
      have h3 : t.dropLast.count 10 ≤ t.dropLast.length := List.count_le_length
      have h4 : List.count 10 [t.getLast h.1] = 0 := by
        rw [List.count_eq_zero]
        simp only [List.mem_singleton]
        intro e
        exact h.2 (by rw [List.getLast?_eq_some_getLast h.1, ← e])
      simp only [h4, List.length_singleton]; omega
    omega
theorem lsplit_eq (t : Str) (hl : t.length ≤ 1000000) : lines_Split t = some (specSplit t) := by
  unfold lines_Split specSplit
  rw [count_eq, Option.bind_some]
  have hn := nlines_eq t hl
  have hle := lines_le t
  -- the number of lines
  obtain ⟨s, hs⟩ : ∃ s, (bif !decide (t = []) then ((strings_HasSuffix t [10]).bind fun r2 => some (!r2)) else some false) = some s := by
    cases h : (bif !decide (t = []) then ((strings_HasSuffix t [10]).bind fun r2 => some (!r2)) else some false) with
    | none => rw [h] at hn; cases hn
    | some s => exact ⟨s, rfl⟩
  rw [hs] at hn ⊢
  rw [Option.bind_some] at hn ⊢
  obtain ⟨m, hm⟩ : ∃ m, (bif s then some (wi64 (((t.count 10 : Nat) : Int) + 1)) else some ((t.count 10 : Nat) : Int)) = some m := by cases s <;> exact ⟨_, rfl⟩
  rw [hm] at hn ⊢
  rw [Option.bind_some] at hn ⊢
  have hn : m = ((lns t).length : Int) := by injection hn
  subst hn
  by_cases h1 : 16384 < t.length
  · rw [dec_t (show 16384 < (t.length : Int) by omega), show Nat.blt 16384 t.length = true by rw [Nat.blt_eq]; exact h1]; rfl
  · rw [dec_f (show ¬ 16384 < (t.length : Int) by omega), cond_false, Option.bind_some, show Nat.blt 16384 t.length = false by rw [Bool.eq_false_iff, ne_eq, Nat.blt_eq]; exact h1, Bool.false_or]
    by_cases h2 : 400 < (lns t).length
    · rw [dec_t (show 400 < ((lns t).length : Int) by omega), show Nat.blt 400 (lns t).length = true by rw [Nat.blt_eq]; exact h2]; rfl
    · rw [dec_f (show ¬ 400 < ((lns t).length : Int) by omega), cond_false, show Nat.blt 400 (lns t).length = false by rw [Bool.eq_false_iff, ne_eq, Nat.blt_eq]; exact h2, cond_false]
      rw [gd_t (by rw [Bool.and_eq_true, Bool.and_eq_true]; exact ⟨⟨rfl, decide_eq_true (by omega)⟩, makeG_t (by omega)⟩)]
      suffices h : Ok (iter (fun x => lines_Split_L0 x.1 x.2) (t, List.replicate 0 [])) (fun e => match linesM (lns t) with
          | some l => e = .inl l
          | none => e = .inr ([], 3)) by
        obtain ⟨e, h3, h4⟩ := h
        rw [h3, Option.bind_some]
        cases hm : linesM (lns t) with
        | none => rw [hm] at h4; rw [h4]; rfl
        | some l => rw [hm] at h4; rw [h4]; rfl
      refine Ok.loop (fun x : Str × List (List Str) => linesM (lns t) = (linesM (lns x.1)).map (x.2 ++ ·) ∧ x.1.length ≤ t.length ∧ x.2.length + (lns x.1).length ≤ 400) (fun x => x.1.length) ⟨?_, Nat.le_refl _, by simp; omega⟩ ?_
      · show _ = (linesM (lns t)).map (List.replicate 0 [] ++ ·)
        cases linesM (lns t) <;> simp
      rintro ⟨t2, out⟩ ⟨g1, g2, g3⟩
      simp only at g1 g2 g3
      unfold lines_Split_L0
      simp only
      refine Ok.bif (fun hc => ?_) fun hc => ?_
      · have h0 : t2 ≠ [] := by intro e; rw [dec_t e] at hc; cases hc
        obtain ⟨X, r, b, c1, c2, c3, c4⟩ := cut_lns h0 (by omega)
        rw [c2] at g1 g3
        simp only [List.length_cons] at g3
        refine Ok.eq c1 ?_
        simp only
        have e1 : (bif decide (X = []) then some (true, out) else gd (inB 0 X.length) <| some (decide ((Int.ofNat (X.getD 0 0).toNat) = 35), out)) = some (X.isEmpty || X.headD 0 == 35, out) := by
          cases X with
          | nil => rfl
          | cons a q => rw [dec_f (by simp), cond_false, gd_t (inB0 (by simp)), eq35]; rfl
        refine Ok.eq e1 ?_
        simp only
        rw [linesM_cons] at g1
        unfold lineOf at g1
        refine Ok.bif (fun hc => ?_) fun hc => ?_
        · rw [hc] at g1
          refine Ok.gd (fits_t (by omega)) (.ret ⟨⟨?_, (by show List.length r ≤ _; omega), (by simp; omega)⟩, c3⟩)
          rw [g1]
          simp only [cond_true]
          cases linesM (lns r) <;> simp
        · rw [hc] at g1
          refine Ok.eq (split_eq X (by omega)) ?_
          refine Ok.eq (words_eq _ (fun s hs => Nat.le_trans (splB_mem hs) (by omega))) ?_
          refine Ok.bif (fun hw => ?_) fun hw => ?_
          · have hw : wordsB (splB 32 X) = false := by simpa using hw
            rw [hw] at g1
            refine .ret ?_
            rw [g1]; rfl
          · have hw : wordsB (splB 32 X) = true := by simpa using hw
            rw [hw] at g1
            refine Ok.gd (fits_t (by omega)) (.ret ⟨⟨?_, (by show List.length r ≤ _; omega), (by simp; omega)⟩, c3⟩)
            rw [g1]
            simp only [cond_true, cond_false]
            cases linesM (lns r) <;> simp
      · have h0 : t2 = [] := by
          by_cases e : t2 = []
          · exact e
          · rw [dec_f e] at hc; cases hc
        subst h0
        refine .ret ?_
        rw [g1]
        simp [lns, linesM]
end Go.Proofs.YtnilkkggnffklaaGreatDoor
