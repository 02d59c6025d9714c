/- Texts in lines of words: what Split and its reference compute. No condition. -/
import Derived.Test.YtmhoomlmmecmdaaDoorLi2
namespace Go.Proofs.YtmhoomlmmecmdaaDoor
open Go Go.Sq

theorem ok_eq {A : Type} {x : Option A} {v : A} (h : Ok x (fun y => y = v)) : x = some v := by obtain ⟨a, h1, rfl⟩ := h; exact h1
theorem set_last {A : Type} (a : List A) (k : Nat) (x : A) (h : k + 1 = a.length) : a.set k x = a.take k ++ [x] := by
  rw [List.set_eq_take_append_cons_drop, if_pos (by omega), List.drop_of_length_le (by omega)]
theorem set_take {A : Type} (a : List A) (k : Nat) (x : A) (h : k < a.length) : (a.set k x).take (k + 1) = a.take k ++ [x] := by
  rw [List.take_set, set_last _ _ _ (by simp; omega), List.take_take, Nat.min_eq_left (by omega)]
theorem splB_one {c : UInt8} {s : Str} (h : (splB c s).length = 1) : splB c s = [s] := by
  rw [splB_len] at h
  exact splB_no (List.count_eq_zero.1 (by omega))
theorem split_eq (s : Str) (hl : s.length ≤ 1000000) : strings_Split s [32] = some (splB 32 s) := by
  have hP := splB_len 32 s
  have hcnt : s.count 32 ≤ s.length := List.count_le_length
  unfold strings_Split strings_genSplit
  rw [dec_f (by decide), cond_false, dec_f (by simp), cond_false, dec_t (by decide), cond_true, count_eq, Option.bind_some, Option.bind_some]
  have e1 : wi64 (((s.count 32 : Nat) : Int) + 1) = ((s.count 32 + 1 : Nat) : Int) := w1 (n := 1000001) (by omega) (by omega)
  have e2 : wi64 ((s.length : Int) + 1) = ((s.length + 1 : Nat) : Int) := w1 (n := 1000001) (by omega) (by omega)
  have e3 : min ((s.count 32 + 1 : Nat) : Int) ((s.length + 1 : Nat) : Int) = ((s.count 32 + 1 : Nat) : Int) := by omega
  rw [e1, e2, e3, gd_t (makeG_t (by omega))]
  suffices h : Ok (iter (fun x => strings_genSplit_L0 s [32] 0 ((s.count 32 + 1 : Nat) : Int) x.1 x.2.1 x.2.2) (s, 0, List.replicate ((s.count 32 + 1 : Nat) : Int).toNat [])) (fun e => e.2.1 = ((s.count 32 : Nat) : Int) ∧ splB 32 e.1 = (splB 32 s).drop (s.count 32) ∧ e.2.2.length = s.count 32 + 1 ∧ e.2.2.take (s.count 32) = (splB 32 s).take (s.count 32)) by
    obtain ⟨e, h1, h2, h3, h4, h5⟩ := h
    obtain ⟨s3, i, a⟩ := e
    simp only at h2 h3 h4 h5
    subst h2
    rw [h1, Option.bind_some]
    simp only
    rw [gd_t (inB_t (by omega)), w1 (n := 1000001) (by omega) (by omega), gd_t (by simp [cutG]; omega), Int.toNat_natCast, Int.toNat_natCast, set_last a _ s3 (by omega), h5]
    have h6 : splB 32 s3 = [s3] := splB_one (by rw [h3, List.length_drop]; omega)
    rw [← h6, h3, List.take_append_drop, List.take_of_length_le (by omega)]; rfl
  refine Ok.loop (fun x : Str × Int × List Str => ∃ k : Nat, x.2.1 = (k : Int) ∧ k ≤ s.count 32 ∧ splB 32 x.1 = (splB 32 s).drop k ∧ x.2.2.length = s.count 32 + 1 ∧ x.2.2.take k = (splB 32 s).take k ∧ x.1.length ≤ s.length) (fun x => s.count 32 - x.2.1.toNat)
    ⟨0, rfl, by omega, by simp, by simp, by simp, Nat.le_refl _⟩ ?_
  rintro ⟨s3, i, a⟩ ⟨k, hk, hk1, h1, h2, h3, h4⟩
  simp only at hk h1 h2 h3 h4
  subst hk
  unfold strings_genSplit_L0
  simp only
  have e4 : wi64 ((min ((s.count 32 + 1 : Nat) : Int) (wi64 ((s.length : Int) + 1))) - 1) = ((s.count 32 : Nat) : Int) := by rw [e2, e3, wi (by omega)]; omega
  rw [e4]
  refine Ok.bif (fun hc => ?_) fun hc => ?_
  · have hc := of_decide_eq_true hc
    have hk2 : k < s.count 32 := by omega
    rcases idx_spec 32 s3 with ⟨hn, _⟩ | ⟨X, r, rfl, hX, hidx⟩
    · exfalso
      have := congrArg List.length h1
      rw [splB_no hn, List.length_drop] at this
      simp at this; omega
    · rw [show strings_Index (X ++ 32 :: r) [32] = some (X.length : Int) by unfold strings_Index; rw [index_eq, hidx]; rfl, Option.bind_some]
      simp only [List.length_append, List.length_cons] at h4
      rw [dec_f (show ¬ (X.length : Int) < 0 by omega), cond_false]
      have e5 : wi64 ((X.length : Int) + 0) = (X.length : Int) := by rw [wi (by omega)]; omega
      have e6 : wi64 ((X.length : Int) + (([32] : Str).length : Int)) = ((X.length + 1 : Nat) : Int) := w1 (n := 1000001) (by omega) (by omega)
      rw [e5, e6, gd_t (by simp [cutG]; omega), gd_t (inB_t (by omega)), gd_t (by simp [cutG]; omega), w1 (n := 1000001) (by omega) (by omega), Int.toNat_natCast, Int.toNat_natCast, Int.toNat_natCast]
      have e7 : (X ++ 32 :: r).take X.length = X := List.take_left
      have e8 : (X ++ 32 :: r).drop (X.length + 1) = r := by simp [List.drop_append]
      rw [e7, e8]
      rw [splB_app _ hX] at h1
      have hkl : k < (splB 32 s).length := by omega
      rw [List.drop_eq_getElem_cons hkl] at h1
      injection h1 with h5 h6
      refine .ret ⟨⟨k + 1, rfl, by omega, h6, by simp [h2], ?_, by simp; omega⟩, ?_⟩
      · rw [set_take _ _ _ (by omega), h3, take_next [] hkl, gD_eq hkl, h5]
      · simp only [Int.toNat_natCast]; omega
  · have hc := of_decide_eq_false hc
    have : k = s.count 32 := by omega
    subst this
    exact .ret ⟨rfl, h1, h2, h3⟩

/-! ### Words -/
def wch (b : UInt8) : Bool := Nat.ble 33 b.toNat && Nat.ble b.toNat 126
def wordB (s : Str) : Bool := s.all wch && !s.isEmpty
def properB (w : List Str) : Bool := Nat.ble w.length 16 && w.all wordB && !((w.headD []).headD 0 == 35)
def wordsB (w : List Str) : Bool := !w.isEmpty && properB w
theorem lt33 (b : UInt8) : decide ((Int.ofNat b.toNat) < 33) = decide (b.toNat < 33) := by
  rw [Bool.eq_iff_iff, decide_eq_true_iff, decide_eq_true_iff]; simp only [Int.ofNat_eq_natCast]; omega
theorem gt126 (b : UInt8) : decide (126 < (Int.ofNat b.toNat)) = decide (126 < b.toNat) := by
  rw [Bool.eq_iff_iff, decide_eq_true_iff, decide_eq_true_iff]; simp only [Int.ofNat_eq_natCast]; omega
theorem eq35 (b : UInt8) : decide ((Int.ofNat b.toNat) = 35) = (b == 35) := by
  rw [Bool.eq_iff_iff, decide_eq_true_iff, beq_iff_eq]
  simp only [Int.ofNat_eq_natCast]
  constructor
  · intro h; exact UInt8.toNat_inj.1 (by show b.toNat = 35; omega)
  · rintro rfl; rfl
theorem wch_t {b : UInt8} (h : wch b = true) : decide (b.toNat < 33) = false ∧ decide (126 < b.toNat) = false := by
  simp only [wch, Bool.and_eq_true, Nat.ble_eq] at h
  exact ⟨decide_eq_false (by omega), decide_eq_false (by omega)⟩
theorem wch_f {b : UInt8} (h : wch b = false) : decide (b.toNat < 33) = true ∨ (decide (b.toNat < 33) = false ∧ decide (126 < b.toNat) = true) := by
  by_cases h1 : b.toNat < 33
  · exact .inl (decide_eq_true h1)
  · refine .inr ⟨decide_eq_false h1, decide_eq_true ?_⟩
    by_cases h2 : b.toNat ≤ 126
    · exfalso
      rw [show wch b = true by simp only [wch, Bool.and_eq_true, Nat.ble_eq]; omega] at h; cases h
    · omega
theorem word_eq (s : Str) (hl : s.length ≤ 1000000) : lines_word s = some (wordB s) := by
  unfold lines_word
  have h : iter (fun x => lines_word_L0 s x) 0 = some (bif s.all wch then .inl () else .inr false) := by
    refine scan s 0 wch (fun i hi hq => ?_) (fun i hi hq => ?_) ?_
    · obtain ⟨h1, h2⟩ := wch_t hq
      unfold lines_word_L0
      rw [dec_t (by omega), cond_true, gd_t (inB_t hi), gd_t (inB_t hi), Int.toNat_natCast, lt33, h1, cond_false, gt126, h2, Option.bind_some, cond_false, w1 hi (by omega)]
    · unfold lines_word_L0
      rw [dec_t (by omega), cond_true, gd_t (inB_t hi), gd_t (inB_t hi), Int.toNat_natCast, lt33]
      rcases wch_f hq with h1 | ⟨h1, h2⟩
      · rw [h1]; rfl
      · rw [h1, cond_false, gt126, h2]; rfl
    · unfold lines_word_L0
      rw [dec_f (by omega)]; rfl
  rw [h, Option.bind_some]
  unfold wordB
  cases s.all wch with
  | false => rfl
  | true => cases s <;> rfl
theorem words_eq (l : List Str) (hl : ∀ s ∈ l, s.length ≤ 1000000) : lines_words l = some (wordsB l) := by
  unfold lines_words wordsB properB
  by_cases h0 : l.length < 1
  · have : l = [] := List.eq_nil_of_length_eq_zero (by omega)
    subst this; rfl
  · rw [dec_f (show ¬ (l.length : Int) < 1 by omega), cond_false, Option.bind_some]
    have hne : l.isEmpty = false := by cases l with | nil => simp at h0 | cons => rfl
    by_cases h16 : 16 < l.length
    · rw [dec_t (show 16 < (l.length : Int) by omega), hne, show Nat.ble l.length 16 = false by rw [Bool.eq_false_iff, ne_eq, Nat.ble_eq]; omega]; rfl
    · rw [dec_f (show ¬ 16 < (l.length : Int) by omega), cond_false, hne, show Nat.ble l.length 16 = true by rw [Nat.ble_eq]; omega]
      have h : iter (fun x => lines_words_L0 l x) 0 = some (bif l.all wordB then .inl () else .inr false) := by
        refine scan l [] wordB (fun i hi hq => ?_) (fun i hi hq => ?_) ?_
        · unfold lines_words_L0
          rw [dec_t (by omega), cond_true, gd_t (inB_t hi), Int.toNat_natCast, word_eq _ (hl _ (gD_mem hi)), Option.bind_some, hq, Bool.not_true, cond_false, w1 hi (by omega)]
        · unfold lines_words_L0
          rw [dec_t (by omega), cond_true, gd_t (inB_t hi), Int.toNat_natCast, word_eq _ (hl _ (gD_mem hi)), Option.bind_some, hq]; rfl
        · unfold lines_words_L0
          rw [dec_f (by omega)]; rfl
      rw [h, Option.bind_some]
      cases ha : l.all wordB with
      | false => rfl
      | true =>
        cases l with
        | nil => simp at h0
        | cons w r =>
          simp only [List.all_cons, Bool.and_eq_true] at ha
          have hw : w ≠ [] := by
            rintro rfl
            have := ha.1
            simp [wordB] at this
          simp only [cond_true, Sum.elim_inl]
          rw [gd_t (inB0 (by simp)), gd_t (inB0 (by cases w with | nil => exact absurd rfl hw | cons => simp)), eq35]
          cases w with
          | nil => exact absurd rfl hw
          | cons => rfl
end Go.Proofs.YtmhoomlmmecmdaaDoor
