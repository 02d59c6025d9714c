/- Joining lines. No condition. -/
import Derived.Test.YtnilkkggnffklaaDoorPr2
namespace Go.Proofs.YtnilkkggnffklaaDoor
open Go Go.Sq
set_option linter.unusedVariables false
abbrev joinS (w : List Str) : Str := Lib.join w [32]
theorem joinS_cons2 (a b : Str) (r : List Str) : joinS (a :: b :: r) = a ++ 32 :: joinS (b :: r) := by
  simp [joinS, Lib.join, List.intercalate]
theorem joinS_snoc (x : Str) : ∀ {l : List Str}, l ≠ [] → joinS (l ++ [x]) = joinS l ++ 32 :: x
  | [], h => absurd rfl h
  | [a], _ => by
    show joinS (a :: x :: []) = _
    rw [joinS_cons2]
    simp [joinS, Lib.join, List.intercalate]
  | a :: b :: r, _ => by
    show joinS (a :: b :: (r ++ [x])) = _
    rw [joinS_cons2, joinS_cons2, show b :: (r ++ [x]) = (b :: r) ++ [x] from rfl, joinS_snoc x (by simp), List.append_assoc]; rfl
def sumL (w : List Str) : Nat := (w.map List.length).sum
theorem sumL_app (a b : List Str) : sumL (a ++ b) = sumL a + sumL b := by simp [sumL]
theorem sumL_take (w : List Str) (k : Nat) : sumL (w.take k) ≤ sumL w := by
  have := sumL_app (w.take k) (w.drop k)
  rw [List.take_append_drop] at this; omega
theorem sumL_le {w : List Str} {n : Nat} (h : ∀ s ∈ w, s.length ≤ n) : sumL w ≤ w.length * n := by
  induction w with
  | nil => simp [sumL]
  | cons a r ih =>
    have h1 := h a (by simp)
    have h2 := ih (fun s hs => h s (by simp [hs]))
    have : sumL (a :: r) = a.length + sumL r := by simp [sumL]
    rw [this, List.length_cons, Nat.add_mul]; omega
theorem joinS_len : ∀ {w : List Str}, w ≠ [] → (joinS w).length + 1 = sumL w + w.length
  | [], h => absurd rfl h
  | [a], _ => by simp [joinS, Lib.join, List.intercalate, sumL]
  | a :: b :: r, _ => by
    rw [joinS_cons2]
    have ih := joinS_len (w := b :: r) (by simp)
    have : sumL (a :: b :: r) = a.length + sumL (b :: r) := by simp [sumL]
    rw [this]
    simp only [List.length_append, List.length_cons] at ih ⊢
    omega
theorem joinS_le (w : List Str) : (joinS w).length ≤ sumL w + w.length := by
  cases w with
  | nil => simp [joinS, Lib.join, List.intercalate]
  | cons a r => have := joinS_len (w := a :: r) (by simp); omega
def txt (l : List (List Str)) : Str := l.flatMap fun w => joinS w ++ [10]
theorem txt_app (a b : List (List Str)) : txt (a ++ b) = txt a ++ txt b := by simp [txt]
theorem txt_one (w : List Str) : txt [w] = joinS w ++ [10] := by simp [txt]
def szW (w : List Str) : Nat := w.length + sumL w
def szL (l : List (List Str)) : Nat := (l.map szW).sum
theorem szL_app (a b : List (List Str)) : szL (a ++ b) = szL a + szL b := by simp [szL]
theorem txt_len : ∀ l : List (List Str), szL l ≤ (txt l).length ∧ (txt l).length ≤ szL l + l.length
  | [] => by simp [szL, txt]
  | w :: r => by
    obtain ⟨h1, h2⟩ := txt_len r
    have e1 : szL (w :: r) = szW w + szL r := by simp [szL]
    have e2 : (txt (w :: r)).length = (joinS w).length + 1 + (txt r).length := by simp [txt]; omega
    rw [e1, e2, List.length_cons]
    cases w with
    | nil => simp [szW, sumL, joinS, Lib.join, List.intercalate]; omega
    | cons a q =>
      have := joinS_len (w := a :: q) (by simp)
      unfold szW; omega
theorem txt_take (l : List (List Str)) (k : Nat) : (txt (l.take k)).length ≤ (txt l).length := by
  have := txt_app (l.take k) (l.drop k)
  rw [List.take_append_drop] at this
  rw [this, List.length_append]; omega
def specJoin (l : List (List Str)) : Str × Int := bif Nat.blt 400 l.length then ([], 4) else bif !l.all properB then ([], 3) else bif Nat.blt 16384 (txt l).length then ([], 4) else (txt l, 0)
/-- Lists of words of moderate size. -/
def BJ (l : List (List Str)) : Prop := ∀ w ∈ l, w.length ≤ 1000000 ∧ ∀ s ∈ w, s.length ≤ 1000000
theorem proper_sz {w : List Str} (h : properB w = true) (hb : ∀ s ∈ w, s.length ≤ 1000000) : szW w ≤ 17000000 := by
  unfold properB at h
  rw [Bool.and_eq_true, Bool.and_eq_true, Nat.ble_eq] at h
  have := sumL_le hb
  have h2 : w.length * 1000000 ≤ 16 * 1000000 := Nat.mul_le_mul_right _ h.1.1
  unfold szW; omega
theorem toBytes_ofBytes (x : Str) : toBytes (ofBytes x) = x := by
  unfold toBytes ofBytes
  rw [List.map_map]
  conv => rhs; rw [← List.map_id x]
  refine List.map_congr_left fun b _ => ?_
  show UInt8.ofNat (Int.toNat (b.toNat : Int)) = b
  rw [Int.toNat_natCast]
  exact UInt8.ofNat_toNat
theorem ofBytes_app (a b : Str) : ofBytes (a ++ b) = ofBytes a ++ ofBytes b := by simp [ofBytes]
theorem proper_words {w : List Str} (h : w ≠ []) : wordsB w = properB w := by
  unfold wordsB
  cases w with
  | nil => exact absurd rfl h
  | cons => rfl
/-- The sizes, up to 32768. -/
theorem joinL1 (l : List (List Str)) (k : Nat) (hne : l.getD k [] ≠ []) (hb : ∀ s ∈ l.getD k [], s.length ≤ 1000000) (h16 : (l.getD k []).length ≤ 16) (m : Nat) (hm : m ≤ 32800) :
    iter (fun x => lines_JoinB_L1 l (k : Int) x.1 x.2) ((m : Int), 0) = some (((min (m + sumL (l.getD k [])) 32768 : Nat) : Int)) := by
  refine ok_eq ?_
  have hpos : 0 < (l.getD k []).length := by cases h : l.getD k [] with | nil => exact absurd h hne | cons => simp
  refine Ok.loop (fun x : Int × Int => ∃ j : Nat, x.2 = (j : Int) ∧ j ≤ (l.getD k []).length ∧ x.1 = (((if j = 0 then m else min (m + sumL ((l.getD k []).take j)) 32768 : Nat)) : Int)) (fun x => (l.getD k []).length - x.2.toNat) ⟨0, rfl, by omega, rfl⟩ ?_
  rintro ⟨n, v⟩ ⟨j, g1, g2, g3⟩
  simp only at g1 g3
  subst g1 g3
  unfold lines_JoinB_L1
  simp only
  rw [Int.toNat_natCast]
  generalize l.getD k [] = w at *
  have hcap : (if j = 0 then m else min (m + sumL (w.take j)) 32768 : Nat) ≤ 32800 := by split <;> omega
  refine Ok.bif (fun hc => ?_) fun hc => ?_
  · have hc := of_decide_eq_true hc
    have hj : j < w.length := by omega
    have hX := hb _ (gD_mem (d := []) hj)
    refine Ok.gd (inB_t hj) ?_
    rw [Int.toNat_natCast]
    have e1 : wi64 (((if j = 0 then m else min (m + sumL (w.take j)) 32768 : Nat) : Int) + ((w.getD j []).length : Int)) = (((if j = 0 then m else min (m + sumL (w.take j)) 32768) + (w.getD j []).length : Nat) : Int) := by rw [wi (by omega)]; omega
    rw [e1]
    have hs : sumL (w.take (j + 1)) = sumL (w.take j) + (w.getD j []).length := by rw [take_next [] hj, sumL_app]; simp [sumL]
    have h00 : sumL (w.take 0) = 0 := by simp [sumL]
    have e2 : (Option.bind (α := Int) (bif decide (32768 < (((if j = 0 then m else min (m + sumL (w.take j)) 32768) + (w.getD j []).length : Nat) : Int)) then some 32768 else some (((if j = 0 then m else min (m + sumL (w.take j)) 32768) + (w.getD j []).length : Nat) : Int)) fun s2 => some s2) = some ((min (m + sumL (w.take (j + 1))) 32768 : Nat) : Int) := by
      rw [hs]
      by_cases hj0 : j = 0
      · subst hj0
        rw [if_pos rfl, h00]
        by_cases hlt : 32768 < m + (w.getD 0 []).length
        · rw [dec_t (by omega), cond_true, Option.bind_some]; congr 1; omega
        · rw [dec_f (by omega), cond_false, Option.bind_some]; congr 1; omega
      · rw [if_neg hj0]
        by_cases hlt : 32768 < min (m + sumL (w.take j)) 32768 + (w.getD j []).length
        · rw [dec_t (by omega), cond_true, Option.bind_some]; congr 1; omega
        · rw [dec_f (by omega), cond_false, Option.bind_some]; congr 1; omega
    have e3 : (bif decide (32768 < (((if j = 0 then m else min (m + sumL (w.take j)) 32768) + (w.getD j []).length : Nat) : Int)) then some 32768 else some (((if j = 0 then m else min (m + sumL (w.take j)) 32768) + (w.getD j []).length : Nat) : Int)) = some ((min (m + sumL (w.take (j + 1))) 32768 : Nat) : Int) := by
      rw [← e2]; cases (bif decide (32768 < (((if j = 0 then m else min (m + sumL (w.take j)) 32768) + (w.getD j []).length : Nat) : Int)) then some (32768 : Int) else some (((if j = 0 then m else min (m + sumL (w.take j)) 32768) + (w.getD j []).length : Nat) : Int)) <;> rfl
    rw [e3, Option.bind_some, w1 hj (by omega)]
    exact .ret ⟨⟨j + 1, rfl, by omega, by rw [if_neg (by omega)]⟩, by simp only [Int.toNat_natCast]; omega⟩
  · have hc := of_decide_eq_false hc
    have : j = w.length := by omega
    subst this
    refine .ret ?_
    dsimp only
    rw [if_neg (by omega), List.take_length]
theorem joinL0 (l : List (List Str)) (hb : BJ l) (hl : l.length ≤ 400) : iter (fun x2 => lines_JoinB_L0 l x2.1 x2.2) (0, 0) = some (bif l.all properB then .inl (((min (szL l) 32768 : Nat)) : Int) else .inr ([], 3)) := by
  have h := iter_all (step := fun x2 : Int × Int => lines_JoinB_L0 l x2.1 x2.2) l.length (fun i => (((min (szL (l.take i)) 32768 : Nat) : Int), (i : Int))) (fun i => properB (l.getD i [])) (fin := Sum.inl (((min (szL l) 32768 : Nat)) : Int)) (bad := Sum.inr (([] : Str), (3 : Int))) (fun i hi _ hq => ?_) (fun i hi _ hq => ?_) (fun _ => ?_)
  · rw [all_gD l [] properB] at h
    rw [← h]
    rfl
  · show lines_JoinB_L0 l ((min (szL (l.take i)) 32768 : Nat) : Int) (i : Int) = _
    unfold lines_JoinB_L0
    rw [dec_t (by omega), cond_true, gd_t (inB_t hi), Int.toNat_natCast]
    have hs : szL (l.take (i + 1)) = szL (l.take i) + szW (l.getD i []) := by rw [take_next [] hi, szL_app]; simp [szL]
    by_cases h0 : l.getD i [] = []
    · rw [h0] at hs ⊢
      have hz : szW ([] : List Str) = 0 := rfl
      have e1 : wi64 (((min (szL (l.take i)) 32768 : Nat) : Int) + (([] : List Str).length : Int)) = ((min (szL (l.take (i + 1))) 32768 : Nat) : Int) := by
        rw [hs, hz, show (([] : List Str).length : Int) = 0 from rfl, wi (by omega)]; omega
      rw [dec_f (show ¬ (0 : Int) < (([] : List Str).length : Int) by simp), cond_false, Option.bind_some, cond_false, e1]
      have e2 : iter (fun x => lines_JoinB_L1 l (i : Int) x.1 x.2) (((min (szL (l.take (i + 1))) 32768 : Nat) : Int), 0) = some ((min (szL (l.take (i + 1))) 32768 : Nat) : Int) := by
        refine iter_inr ?_
        show lines_JoinB_L1 l (i : Int) _ 0 = _
        unfold lines_JoinB_L1
        rw [Int.toNat_natCast, h0]; rfl
      rw [e2, Option.bind_some, w1 hi (by omega)]
    · have hw := hb _ (gD_mem (d := []) hi)
      have hpos : 0 < (l.getD i []).length := by cases h : l.getD i [] with | nil => exact absurd h h0 | cons => simp
      have h16 : (l.getD i []).length ≤ 16 := by
        have := hq; unfold properB at this
        rw [Bool.and_eq_true, Bool.and_eq_true, Nat.ble_eq] at this; exact this.1.1
      rw [dec_t (show (0 : Int) < ((l.getD i []).length : Int) by omega), cond_true, words_eq _ hw.2, proper_words h0, hq, Option.bind_some, Option.bind_some]
      have e1 : wi64 (((min (szL (l.take i)) 32768 : Nat) : Int) + ((l.getD i []).length : Int)) = ((min (szL (l.take i)) 32768 + (l.getD i []).length : Nat) : Int) := by rw [wi (by omega)]; omega
      rw [e1, Bool.not_true, cond_false, joinL1 l i h0 hw.2 h16 _ (by omega), Option.bind_some, w1 hi (by omega)]
      congr 3
      rw [hs]; unfold szW; omega
  · show lines_JoinB_L0 l ((min (szL (l.take i)) 32768 : Nat) : Int) (i : Int) = _
    have h0 : l.getD i [] ≠ [] := by
      intro e; rw [e] at hq; cases hq
    have hw := hb _ (gD_mem (d := []) hi)
    have hpos : 0 < (l.getD i []).length := by cases h : l.getD i [] with | nil => exact absurd h h0 | cons => simp
    unfold lines_JoinB_L0
    rw [dec_t (by omega), cond_true, gd_t (inB_t hi), Int.toNat_natCast, dec_t (show (0 : Int) < ((l.getD i []).length : Int) by omega), cond_true, words_eq _ hw.2, proper_words h0, hq]; rfl
  · show lines_JoinB_L0 l ((min (szL (l.take l.length)) 32768 : Nat) : Int) (l.length : Int) = _
    unfold lines_JoinB_L0
    rw [dec_f (by omega), cond_false, List.take_length]
theorem joinL2 (l : List (List Str)) (hpr : l.all properB = true) (hb : BJ l) (hl : l.length ≤ 400) (hsz : szL l < 32768) (n : Int) (hn : n < 32768) : iter (fun x3 => lines_JoinB_L2 l n x3.1 x3.2) (0, []) = some (ofBytes (txt l)) := by
  have h := iter_for (step := fun x3 : Int × List Int => lines_JoinB_L2 l n x3.1 x3.2) l.length (fun i => ((i : Int), ofBytes (txt (l.take i)))) (e := ofBytes (txt l)) (fun i hi => ?_) ?_
  · exact h
  · show lines_JoinB_L2 l n (i : Int) (ofBytes (txt (l.take i))) = _
    have hpi : properB (l.getD i []) = true := List.all_eq_true.1 hpr _ (gD_mem hi)
    have hjl := joinS_le (l.getD i [])
    have hw := proper_sz hpi (hb _ (gD_mem (d := []) hi)).2
    unfold szW at hw
    have htl := txt_len l
    have htt := txt_take l i
    have hj2 : (Lib.join (l.getD i []) [32]).length ≤ 140737488355328 := (by omega : (joinS (l.getD i [])).length ≤ 140737488355328)
    unfold lines_JoinB_L2
    rw [dec_t (by omega), cond_true, gd_t (inB_t hi), Int.toNat_natCast, dec_t hn, cond_true]
    have e1 : joinT (l.getD i []) [32] = some (joinS (l.getD i [])) := by
      unfold joinT
      rw [Nat.ble_eq_true_of_le (show (l.getD i []).length ≤ 140737488355328 by omega), Nat.ble_eq_true_of_le hj2]; rfl
    rw [e1, Option.bind_some, gd_t (Nat.ble_eq_true_of_le (by show (joinS (l.getD i [])).length + 1 ≤ _; omega))]
    unfold strings_Builder_WriteString ccT
    rw [Option.bind_some, gd_t (by
      rw [Bool.and_eq_true, Nat.blt_eq]
      exact ⟨by simp, fits_t (by rw [ofBytes_len, List.length_append, show ([10] : Str).length = 1 from rfl]; omega)⟩), Option.bind_some, Option.bind_some, w1 hi (by omega)]
    simp only
    rw [take_next [] hi, txt_app, txt_one, ofBytes_app, ofBytes_app, ofBytes_app]
  · show lines_JoinB_L2 l n (l.length : Int) (ofBytes (txt (l.take l.length))) = _
    unfold lines_JoinB_L2
    rw [dec_f (by omega), cond_false, List.take_length]
theorem joinL2n (l : List (List Str)) (hl : l.length ≤ 400) : iter (fun x3 => lines_JoinB_L2 l 32768 x3.1 x3.2) (0, []) = some [] := by
  have h := iter_for (step := fun x3 : Int × List Int => lines_JoinB_L2 l 32768 x3.1 x3.2) l.length (fun i => ((i : Int), ([] : List Int))) (e := []) (fun i hi => ?_) ?_
  · exact h
  · show lines_JoinB_L2 l 32768 (i : Int) [] = _
    unfold lines_JoinB_L2
    rw [dec_t (by omega), cond_true, gd_t (inB_t hi), dec_f (by decide), cond_false, Option.bind_some, w1 hi (by omega)]
  · show lines_JoinB_L2 l 32768 (l.length : Int) [] = _
    unfold lines_JoinB_L2
    rw [dec_f (by omega)]; rfl
theorem ljoinE : lines_JoinE [] = some ([], 0) := by
  have h1 : iter (fun x2 : Int × Int => lines_JoinE_L0 [] x2.1 x2.2) (0, 0) = some (.inl 0) := iter_inr rfl
  have h2 : iter (fun x3 : Int => lines_JoinE_L2 [] 0 x3) 0 = some () := iter_inr rfl
  unfold lines_JoinE
  rw [dec_f (by simp), cond_false, h1, Option.bind_some]
  simp only [Sum.elim_inl]
  rw [h2]; rfl
theorem ljoin_eq (l : List (List Str)) (hb : BJ l) : lines_Join l = some (specJoin l) := by
  unfold lines_Join
  cases hl : l with
  | nil => exact ljoinE
  | cons w0 r0 =>
    rw [← hl]
    have hne : l ≠ [] := by rw [hl]; simp
    rw [show isNilL l = false by rw [hl]; rfl, cond_false]
    unfold lines_JoinB specJoin
    by_cases h1 : 400 < l.length
    · rw [dec_t (show 400 < (l.length : Int) by omega), show Nat.blt 400 l.length = true by rw [Nat.blt_eq]; exact h1]; rfl
    · rw [dec_f (show ¬ 400 < (l.length : Int) by omega), cond_false, show Nat.blt 400 l.length = false by rw [Bool.eq_false_iff, ne_eq, Nat.blt_eq]; exact h1, cond_false, joinL0 l hb (by omega), Option.bind_some]
      cases ha : l.all properB with
      | false => rfl
      | true =>
        simp only [cond_true, Sum.elim_inl, Bool.not_true, cond_false]
        have htl := txt_len l
        by_cases hs : szL l < 32768
        · have e : min (szL l) 32768 = szL l := by omega
          rw [e, joinL2 l ha hb (by omega) hs _ (by omega), Option.bind_some, dec_f (show ¬ ((szL l : Int) = 32768) by omega), cond_false]
          unfold strings_Builder_Len strings_Builder_String
          rw [Option.bind_some, Option.bind_some]
          simp only
          rw [ofBytes_len]
          by_cases h5 : 16384 < (txt l).length
          · rw [dec_t (show 16384 < ((txt l).length : Int) by omega), show Nat.blt 16384 (txt l).length = true by rw [Nat.blt_eq]; exact h5]; rfl
          · rw [dec_f (show ¬ 16384 < ((txt l).length : Int) by omega), show Nat.blt 16384 (txt l).length = false by rw [Bool.eq_false_iff, ne_eq, Nat.blt_eq]; exact h5]
            have hpos : 0 < (txt l).length := by
              rw [hl]
              simp [txt]; omega
            rw [cond_false, gd_t (by rw [Nat.blt_eq]; exact hpos), gd_t (by
              rw [Bool.and_eq_true, Bool.and_eq_true, Nat.blt_eq]
              exact ⟨hpos, by simp, decide_eq_true (by rw [toBytes_ofBytes])⟩), toBytes_ofBytes]; rfl
        · have e : min (szL l) 32768 = 32768 := by omega
          rw [e]
          rw [show (((32768 : Nat) : Int)) = 32768 from rfl, joinL2n l (by omega), Option.bind_some, show Nat.blt 16384 (txt l).length = true by rw [Nat.blt_eq]; omega]; rfl
end Go.Proofs.YtnilkkggnffklaaDoor
