/- Texts in lines of words: Split and its reference are one function. No condition. -/
import Derived.Test.YtmhoomlmmecmdaaDoorLi3
namespace Go.Proofs.YtmhoomlmmecmdaaDoor
open Go Go.Sq

def lineOf (x : Str) : Option (List Str) := bif x.isEmpty || x.headD 0 == 35 then some [] else bif wordsB (splB 32 x) then some (splB 32 x) else none
def linesM : List Str → Option (List (List Str))
  | [] => some []
  | x :: r => match lineOf x with
    | none => none
    | some w => (linesM r).map (w :: ·)
theorem linesM_cons (x : Str) (r : List Str) : linesM (x :: r) = match lineOf x with | none => none | some w => (linesM r).map (w :: ·) := rfl
def specSplit (t : Str) : List (List Str) × Int := bif Nat.blt 16384 t.length || Nat.blt 400 (lns t).length then ([], 4) else match linesM (lns t) with
  | some l => (l, 0)
  | none => ([], 3)
theorem splB_mem {c : UInt8} : ∀ {s x : Str}, x ∈ splB c s → x.length ≤ s.length
  | [], x, h => by simp [splB] at h; subst h; simp
  | b :: l, x, h => by
    unfold splB at h
    cases hb : b == c with
    | true =>
      rw [hb] at h
      rcases List.mem_cons.1 h with rfl | h
      · simp
      · have := splB_mem h; simp; omega
    | false =>
      rw [hb] at h
      simp only [cond_false] at h
      split at h
      · simp at h; subst h; simp
      · rename_i q t hs
        rcases List.mem_cons.1 h with rfl | h
        · have := splB_mem (s := l) (x := q) (by rw [hs]; simp)
          simp; omega
        · have := splB_mem (s := l) (x := x) (by rw [hs]; simp [h])
          simp; omega
/-- The first line and the rest. -/
theorem cut_lns {s : Str} (h : s ≠ []) (hl : s.length ≤ 1000000) : ∃ X r b, strings_Cut s [10] = some (X, r, b) ∧ lns s = X :: lns r ∧ r.length < s.length ∧ X.length ≤ s.length := by
  rcases idx_spec 10 s with ⟨hn, _⟩ | ⟨X, r, rfl, hX, _⟩
  · refine ⟨s, [], false, cut_no hn, ?_, ?_, Nat.le_refl _⟩
    · rw [lns_no hn, if_neg h]; rfl
    · cases s with
      | nil => exact absurd rfl h
      | cons => simp
  · exact ⟨X, r, true, cut_app hX (by omega), lns_app r hX, by simp; omega, by simp⟩
theorem suffix_eq (t : Str) (h : t ≠ []) (hl : t.length ≤ 1000000) : strings_HasSuffix t [10] = some (decide (t.getLast? = some 10)) := by
  unfold strings_HasSuffix internal_stringslite_HasSuffix
  have hp : 0 < t.length := by cases t with | nil => exact absurd rfl h | cons => simp
  rw [dec_t (show (([10] : Str).length : Int) ≤ (t.length : Int) by simp; omega), cond_true]
  have e : wi64 ((t.length : Int) - (([10] : Str).length : Int)) = ((t.length - 1 : Nat) : Int) := by
    rw [show (([10] : Str).length : Int) = 1 from rfl, wi (by omega)]; omega
  rw [e, gd_t (by simp [cutG]), Option.bind_some, Int.toNat_natCast]
  congr 1
  rw [Bool.eq_iff_iff, decide_eq_true_iff, decide_eq_true_iff]
  have e2 : t.drop (t.length - 1) = [t.getLast h] := by
    conv => lhs; rw [← List.dropLast_concat_getLast h]
    rw [List.drop_append_of_le_length (by simp)]
    simp
  rw [e2, List.getLast?_eq_some_getLast h]
  simp
theorem nlines_eq (t : Str) (hl : t.length ≤ 1000000) : ((Option.bind (α := Bool) (bif !decide (t = []) then ((strings_HasSuffix t [10]).bind fun r2 => some (!r2)) else some false)) fun s => Option.bind (α := Int) (bif s then some (wi64 (((t.count 10 : Nat) : Int) + 1)) else some ((t.count 10 : Nat) : Int)) fun s2 => some s2) = some (((lns t).length : Nat) : Int) := by
  have hc : t.count 10 ≤ t.length := List.count_le_length
  rw [lns_len]
  by_cases h : t = []
  · subst h; rfl
  · rw [dec_f h, Bool.not_false, cond_true, suffix_eq t h hl, Option.bind_some, Option.bind_some]
    by_cases h2 : t.getLast? = some 10
    · rw [dec_t h2, if_pos (.inr h2)]; rfl
    · rw [dec_f h2, if_neg (fun hh => hh.elim h h2), Bool.not_false, cond_true, w1 (n := 1000001) (by omega) (by omega)]; rfl
theorem lines_le : ∀ t : Str, (lns t).length ≤ t.length := by
  intro t
  rw [lns_len]
  have h1 : t.count 10 ≤ t.length := List.count_le_length
  by_cases h : t = [] ∨ t.getLast? = some 10
  · rw [if_pos h]; omega
  · rw [if_neg h]
    rw [not_or] at h
    have h2 : t.count 10 < t.length := by
      rw [← List.dropLast_concat_getLast h.1, List.count_append, List.length_append]
      have h3 : t.dropLast.count 10 ≤ t.dropLast.length := List.count_le_length
      have h4 : List.count 10 [t.getLast h.1] = 0 := by
        rw [List.count_eq_zero]
        simp only [List.mem_singleton]
        intro e
        exact h.2 (by rw [List.getLast?_eq_some_getLast h.1, ← e])
      simp only [h4, List.length_singleton]; omega
    omega
theorem lsplit_eq (t : Str) (hl : t.length ≤ 1000000) : lines_Split t = some (specSplit t) := by
  unfold lines_Split specSplit
  rw [count_eq, Option.bind_some]
  have hn := nlines_eq t hl
  have hle := lines_le t
  -- the number of lines
  obtain ⟨s, hs⟩ : ∃ s, (bif !decide (t = []) then ((strings_HasSuffix t [10]).bind fun r2 => some (!r2)) else some false) = some s := by
    cases h : (bif !decide (t = []) then ((strings_HasSuffix t [10]).bind fun r2 => some (!r2)) else some false) with
    | none => rw [h] at hn; cases hn
    | some s => exact ⟨s, rfl⟩
  rw [hs] at hn ⊢
  rw [Option.bind_some] at hn ⊢
  obtain ⟨m, hm⟩ : ∃ m, (bif s then some (wi64 (((t.count 10 : Nat) : Int) + 1)) else some ((t.count 10 : Nat) : Int)) = some m := by cases s <;> exact ⟨_, rfl⟩
  rw [hm] at hn ⊢
  rw [Option.bind_some] at hn ⊢
  have hn : m = ((lns t).length : Int) := by injection hn
  subst hn
  by_cases h1 : 16384 < t.length
  · rw [dec_t (show 16384 < (t.length : Int) by omega), show Nat.blt 16384 t.length = true by rw [Nat.blt_eq]; exact h1]; rfl
  · rw [dec_f (show ¬ 16384 < (t.length : Int) by omega), cond_false, Option.bind_some, show Nat.blt 16384 t.length = false by rw [Bool.eq_false_iff, ne_eq, Nat.blt_eq]; exact h1, Bool.false_or]
    by_cases h2 : 400 < (lns t).length
    · rw [dec_t (show 400 < ((lns t).length : Int) by omega), show Nat.blt 400 (lns t).length = true by rw [Nat.blt_eq]; exact h2]; rfl
    · rw [dec_f (show ¬ 400 < ((lns t).length : Int) by omega), cond_false, show Nat.blt 400 (lns t).length = false by rw [Bool.eq_false_iff, ne_eq, Nat.blt_eq]; exact h2, cond_false]
      rw [gd_t (by rw [Bool.and_eq_true, Bool.and_eq_true]; exact ⟨⟨rfl, decide_eq_true (by omega)⟩, makeG_t (by omega)⟩)]
      suffices h : Ok (iter (fun x => lines_Split_L0 x.1 x.2) (t, List.replicate 0 [])) (fun e => match linesM (lns t) with
          | some l => e = .inl l
          | none => e = .inr ([], 3)) by
        obtain ⟨e, h3, h4⟩ := h
        rw [h3, Option.bind_some]
        cases hm : linesM (lns t) with
        | none => rw [hm] at h4; rw [h4]; rfl
        | some l => rw [hm] at h4; rw [h4]; rfl
      refine Ok.loop (fun x : Str × List (List Str) => linesM (lns t) = (linesM (lns x.1)).map (x.2 ++ ·) ∧ x.1.length ≤ t.length ∧ x.2.length + (lns x.1).length ≤ 400) (fun x => x.1.length) ⟨?_, Nat.le_refl _, by simp; omega⟩ ?_
      · show _ = (linesM (lns t)).map (List.replicate 0 [] ++ ·)
        cases linesM (lns t) <;> simp
      rintro ⟨t2, out⟩ ⟨g1, g2, g3⟩
      simp only at g1 g2 g3
      unfold lines_Split_L0
      simp only
      refine Ok.bif (fun hc => ?_) fun hc => ?_
      · have h0 : t2 ≠ [] := by intro e; rw [dec_t e] at hc; cases hc
        obtain ⟨X, r, b, c1, c2, c3, c4⟩ := cut_lns h0 (by omega)
        rw [c2] at g1 g3
        simp only [List.length_cons] at g3
        refine Ok.eq c1 ?_
        simp only
        have e1 : (bif decide (X = []) then some (true, out) else gd (inB 0 X.length) <| some (decide ((Int.ofNat (X.getD 0 0).toNat) = 35), out)) = some (X.isEmpty || X.headD 0 == 35, out) := by
          cases X with
          | nil => rfl
          | cons a q => rw [dec_f (by simp), cond_false, gd_t (inB0 (by simp)), eq35]; rfl
        refine Ok.eq e1 ?_
        simp only
        rw [linesM_cons] at g1
        unfold lineOf at g1
        refine Ok.bif (fun hc => ?_) fun hc => ?_
        · rw [hc] at g1
          refine Ok.gd (fits_t (by omega)) (.ret ⟨⟨?_, (by show List.length r ≤ _; omega), (by simp; omega)⟩, c3⟩)
          rw [g1]
          simp only [cond_true]
          cases linesM (lns r) <;> simp
        · rw [hc] at g1
          refine Ok.eq (split_eq X (by omega)) ?_
          refine Ok.eq (words_eq _ (fun s hs => Nat.le_trans (splB_mem hs) (by omega))) ?_
          refine Ok.bif (fun hw => ?_) fun hw => ?_
          · have hw : wordsB (splB 32 X) = false := by simpa using hw
            rw [hw] at g1
            refine .ret ?_
            rw [g1]; rfl
          · have hw : wordsB (splB 32 X) = true := by simpa using hw
            rw [hw] at g1
            refine Ok.gd (fits_t (by omega)) (.ret ⟨⟨?_, (by show List.length r ≤ _; omega), (by simp; omega)⟩, c3⟩)
            rw [g1]
            simp only [cond_true, cond_false]
            cases linesM (lns r) <;> simp
      · have h0 : t2 = [] := by
          by_cases e : t2 = []
          · exact e
          · rw [dec_f e] at hc; cases hc
        subst h0
        refine .ret ?_
        rw [g1]
        simp [lns, linesM]
end Go.Proofs.YtmhoomlmmecmdaaDoor
