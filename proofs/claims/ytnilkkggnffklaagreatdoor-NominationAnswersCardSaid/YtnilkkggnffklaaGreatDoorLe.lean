/- Twins that compute. No condition. -/
import Derived.Test.YtnilkkggnffklaaGreatDoorQu
namespace Go.Proofs.YtnilkkggnffklaaGreatDoor
open Go Go.Sq
set_option linter.unusedVariables false
set_option maxHeartbeats 4000000
set_option synthInstance.maxHeartbeats 400000
set_option synthInstance.maxSize 1000
set_option maxRecDepth 100000
abbrev qB := @LeO.bif
abbrev qD := @LeO.bind
abbrev qG := @LeO.gd
abbrev qE := @LeO.elim
abbrev qI := @LeO.iter
abbrev qO := @LeO.both
abbrev qL := @LeL.bif
abbrev qM := @LeL.map
abbrev qN := @LeL.one
abbrev qK := @LeO.iterK

instance decSum {α β : Type} [DecidableEq α] [DecidableEq β] : DecidableEq (α ⊕ β)
  | .inl a, .inl b => decidable_of_iff (a = b) ⟨fun h => by rw [h], fun h => by injection h⟩
  | .inr a, .inr b => decidable_of_iff (a = b) ⟨fun h => by rw [h], fun h => by injection h⟩
  | .inl _, .inr _ => isFalse (fun h => by cases h)
  | .inr _, .inl _ => isFalse (fun h => by cases h)

noncomputable def strings_Count_c (s : List UInt8) (substr : List UInt8) : Option (Int) :=
  bif decide ((substr.length : Int) = 0) then (
   none)
  else (
   bif decide ((substr.length : Int) = 1) then (
    gd (inB 0 substr.length) <|
    (cntB s (Int.ofNat (substr.getD 0 0).toNat)).bind fun r =>
    some r)
   else (
    (iterN (fun x => strings_Count_L0 substr x.1 x.2) 100000 (s, 0)).bind fun s3 =>
    some s3))

theorem le_strings_Count (s : List UInt8) (substr : List UInt8) : LeO (strings_Count_c s substr) (strings_Count s substr) := by
  unfold strings_Count_c strings_Count
  with_reducible repeat' (first | exact LeO.refl _ | exact LeL.refl _ | refine qB ?_ ?_ | refine qD ?_ (fun _ => ?_) | refine qG ?_ | refine qE (fun _ => ?_) (fun _ => ?_) | refine qI (fun _ => ?_) | refine qO ?_ ?_ | refine qL ?_ ?_ | refine qM (fun _ => ?_) | refine qN ?_ | refine qK (fun _ => ?_) (fun _ => ?_))

noncomputable def strings_genSplit_c (s : List UInt8) (sep : List UInt8) (sepSave : Int) (n : Int) : Option (List (List UInt8)) :=
  bif decide (n = 0) then (
   some [])
  else (
   bif decide (sep = []) then (
    none)
   else (
    Option.bind (α := Int) (
      bif decide (n < 0) then (
       (strings_Count_c s sep).bind fun r =>
       some (wi64 (r + 1)))
      else (
       some n)) fun s2 =>
    gd (makeG 16 (min s2 (wi64 ((s.length : Int) + 1)))) <|
    (iterN (fun x => strings_genSplit_L0 s sep sepSave s2 x.1 x.2.1 x.2.2) 100000 (s, 0, List.replicate (min s2 (wi64 ((s.length : Int) + 1))).toNat [])).bind fun s4 =>
    gd (inB s4.2.1 s4.2.2.length) <|
    gd (cutG none (some (.i64, wi64 (s4.2.1 + 1))) (s4.2.2.set s4.2.1.toNat s4.1).length) <|
    some ((s4.2.2.set s4.2.1.toNat s4.1).take (wi64 (s4.2.1 + 1)).toNat)))

theorem le_strings_genSplit (s : List UInt8) (sep : List UInt8) (sepSave : Int) (n : Int) : LeO (strings_genSplit_c s sep sepSave n) (strings_genSplit s sep sepSave n) := by
  unfold strings_genSplit_c strings_genSplit
  with_reducible repeat' (first | exact LeO.refl _ | exact LeL.refl _ | refine le_strings_Count _ _ | refine qB ?_ ?_ | refine qD ?_ (fun _ => ?_) | refine qG ?_ | refine qE (fun _ => ?_) (fun _ => ?_) | refine qI (fun _ => ?_) | refine qO ?_ ?_ | refine qL ?_ ?_ | refine qM (fun _ => ?_) | refine qN ?_ | refine qK (fun _ => ?_) (fun _ => ?_))

noncomputable def strings_Split_c (s : List UInt8) (sep : List UInt8) : Option (List (List UInt8)) :=
  (strings_genSplit_c s sep 0 (-1)).bind fun r =>
  some r

theorem le_strings_Split (s : List UInt8) (sep : List UInt8) : LeO (strings_Split_c s sep) (strings_Split s sep) := by
  unfold strings_Split_c strings_Split
  with_reducible repeat' (first | exact LeO.refl _ | exact LeL.refl _ | refine le_strings_genSplit _ _ _ _ | refine qB ?_ ?_ | refine qD ?_ (fun _ => ?_) | refine qG ?_ | refine qE (fun _ => ?_) (fun _ => ?_) | refine qI (fun _ => ?_) | refine qO ?_ ?_ | refine qL ?_ ?_ | refine qM (fun _ => ?_) | refine qN ?_ | refine qK (fun _ => ?_) (fun _ => ?_))

noncomputable def lines_word_c (s : List UInt8) : Option (Bool) :=
  (iterN (fun x => lines_word_L0 s x) 100000 0).bind fun s3 =>
  s3.elim (fun s4 =>
   some (!decide (s = [])))
  (fun s5 =>
   some s5)

theorem le_lines_word (s : List UInt8) : LeO (lines_word_c s) (lines_word s) := by
  unfold lines_word_c lines_word
  with_reducible repeat' (first | exact LeO.refl _ | exact LeL.refl _ | refine qB ?_ ?_ | refine qD ?_ (fun _ => ?_) | refine qG ?_ | refine qE (fun _ => ?_) (fun _ => ?_) | refine qI (fun _ => ?_) | refine qO ?_ ?_ | refine qL ?_ ?_ | refine qM (fun _ => ?_) | refine qN ?_ | refine qK (fun _ => ?_) (fun _ => ?_))

noncomputable def lines_words_L0_c (l : List (List UInt8)) (v : Int) : Option (Int ⊕ (Unit ⊕ Bool)) :=
  bif decide (v < (l.length : Int)) then (
   gd (inB v l.length) <|
   (lines_word_c (l.getD v.toNat [])).bind fun r =>
   bif !r then (
    some (.inr (.inr false)))
   else (
    some (.inl (wi64 (v + 1)))))
  else (
   some (.inr (.inl ())))

theorem le_lines_words_L0 (l : List (List UInt8)) (v : Int) : LeO (lines_words_L0_c l v) (lines_words_L0 l v) := by
  unfold lines_words_L0_c lines_words_L0
  with_reducible repeat' (first | exact LeO.refl _ | exact LeL.refl _ | refine le_lines_word _ | refine qB ?_ ?_ | refine qD ?_ (fun _ => ?_) | refine qG ?_ | refine qE (fun _ => ?_) (fun _ => ?_) | refine qI (fun _ => ?_) | refine qO ?_ ?_ | refine qL ?_ ?_ | refine qM (fun _ => ?_) | refine qN ?_ | refine qK (fun _ => ?_) (fun _ => ?_))

noncomputable def lines_words_c (l : List (List UInt8)) : Option (Bool) :=
  Option.bind (α := Bool) (
    bif decide ((l.length : Int) < 1) then (
     some true)
    else (
     some (decide (16 < (l.length : Int))))) fun s =>
  bif s then (
   some false)
  else (
   (iterN (fun x => lines_words_L0_c l x) 100000 0).bind fun s2 =>
   s2.elim (fun s3 =>
    gd (inB 0 l.length) <|
    gd (inB 0 (l.getD 0 []).length) <|
    some (!decide ((Int.ofNat ((l.getD 0 []).getD 0 0).toNat) = 35)))
   (fun s4 =>
    some s4))

theorem le_lines_words (l : List (List UInt8)) : LeO (lines_words_c l) (lines_words l) := by
  unfold lines_words_c lines_words
  with_reducible repeat' (first | exact LeO.refl _ | exact LeL.refl _ | refine le_lines_words_L0 _ _ | refine qB ?_ ?_ | refine qD ?_ (fun _ => ?_) | refine qG ?_ | refine qE (fun _ => ?_) (fun _ => ?_) | refine qI (fun _ => ?_) | refine qO ?_ ?_ | refine qL ?_ ?_ | refine qM (fun _ => ?_) | refine qN ?_ | refine qK (fun _ => ?_) (fun _ => ?_))

noncomputable def lines_Split_L0_c (text2 : List UInt8) (out : List (List (List UInt8))) : Option ((List UInt8 × List (List (List UInt8))) ⊕ ((List (List (List UInt8))) ⊕ (List (List (List UInt8)) × Int))) :=
  bif !decide (text2 = []) then (
   (strings_Cut text2 [10]).bind fun r3 =>
   Option.bind (α := Bool × List (List (List UInt8))) (
     bif decide (r3.1 = []) then (
      some (true, out))
     else (
      gd (inB 0 r3.1.length) <|
      some (decide ((Int.ofNat (r3.1.getD 0 0).toNat) = 35), out))) fun s4 =>
   bif s4.1 then (
    gd (fits (s4.2.length + 1) 24) <|
    some (.inl (r3.2.1, s4.2 ++ [[]])))
   else (
    (strings_Split_c r3.1 [32]).bind fun r4 =>
    (lines_words_c r4).bind fun r5 =>
    bif !r5 then (
     some (.inr (.inr ([], 3))))
    else (
     gd (fits (s4.2.length + 1) 24) <|
     some (.inl (r3.2.1, s4.2 ++ [r4])))))
  else (
   some (.inr (.inl out)))

theorem le_lines_Split_L0 (text2 : List UInt8) (out : List (List (List UInt8))) : LeO (lines_Split_L0_c text2 out) (lines_Split_L0 text2 out) := by
  unfold lines_Split_L0_c lines_Split_L0
  with_reducible repeat' (first | exact LeO.refl _ | exact LeL.refl _ | refine le_strings_Split _ _ | refine le_lines_words _ | refine qB ?_ ?_ | refine qD ?_ (fun _ => ?_) | refine qG ?_ | refine qE (fun _ => ?_) (fun _ => ?_) | refine qI (fun _ => ?_) | refine qO ?_ ?_ | refine qL ?_ ?_ | refine qM (fun _ => ?_) | refine qN ?_ | refine qK (fun _ => ?_) (fun _ => ?_))

noncomputable def lines_Split_c (text : List UInt8) : Option (List (List (List UInt8)) × Int) :=
  (strings_Count_c text [10]).bind fun r =>
  Option.bind (α := Bool) (
    bif !decide (text = []) then (
     (strings_HasSuffix text [10]).bind fun r2 =>
     some (!r2))
    else (
     some false)) fun s =>
  Option.bind (α := Int) (
    bif s then (
     some (wi64 (r + 1)))
    else (
     some r)) fun s2 =>
  Option.bind (α := Bool) (
    bif decide (16384 < (text.length : Int)) then (
     some true)
    else (
     some (decide (400 < s2)))) fun s3 =>
  bif s3 then (
   some ([], 4))
  else (
   gd ((decide (0 ≤ 0) && decide (0 ≤ s2)) && makeG 24 s2) <|
   (iterN (fun x => lines_Split_L0_c x.1 x.2) 100000 (text, List.replicate 0 [])).bind fun s5 =>
   s5.elim (fun s6 =>
    some (s6, 0))
   (fun s7 =>
    some (s7.1, s7.2)))

theorem le_lines_Split (text : List UInt8) : LeO (lines_Split_c text) (lines_Split text) := by
  unfold lines_Split_c lines_Split
  with_reducible repeat' (first | exact LeO.refl _ | exact LeL.refl _ | refine le_lines_Split_L0 _ _ | refine le_strings_Count _ _ | refine qB ?_ ?_ | refine qD ?_ (fun _ => ?_) | refine qG ?_ | refine qE (fun _ => ?_) (fun _ => ?_) | refine qI (fun _ => ?_) | refine qO ?_ ?_ | refine qL ?_ ?_ | refine qM (fun _ => ?_) | refine qN ?_ | refine qK (fun _ => ?_) (fun _ => ?_))

noncomputable def lines_Number_c (s : List UInt8) : Option (Int × Int) :=
  (strings_TrimPrefix s [45]).bind fun r =>
  Option.bind (α := Bool) (
    bif decide (r = []) then (
     some true)
    else (
     gd (inB 0 r.length) <|
     bif decide ((Int.ofNat (r.getD 0 0).toNat) = 48) then (
      some (!decide (s = [48])))
     else (
      some false))) fun s2 =>
  bif s2 then (
   some (0, 3))
  else (
   (iterN (fun x => lines_Number_L0 r x) 100000 0).bind fun s4 =>
   s4.elim (fun s5 =>
    (atoiT s).bind fun r2 =>
    Option.bind (α := Bool) (
      bif r2.2 then (
       some true)
      else (
       bif decide (r2.1 < (-9007199254740992)) then (
        some true)
       else (
        some (decide (9007199254740992 < r2.1))))) fun s7 =>
    bif s7 then (
     some (0, 1))
    else (
     some (r2.1, 0)))
   (fun s6 =>
    some (s6.1, s6.2)))

theorem le_lines_Number (s : List UInt8) : LeO (lines_Number_c s) (lines_Number s) := by
  unfold lines_Number_c lines_Number
  with_reducible repeat' (first | exact LeO.refl _ | exact LeL.refl _ | refine qB ?_ ?_ | refine qD ?_ (fun _ => ?_) | refine qG ?_ | refine qE (fun _ => ?_) (fun _ => ?_) | refine qI (fun _ => ?_) | refine qO ?_ ?_ | refine qL ?_ ?_ | refine qM (fun _ => ?_) | refine qN ?_ | refine qK (fun _ => ?_) (fun _ => ?_))

noncomputable def lines_Name_c (s : List UInt8) : Option (Bool) :=
  Option.bind (α := Bool) (
    bif decide ((s.length : Int) < 1) then (
     some true)
    else (
     bif decide (12 < (s.length : Int)) then (
      some true)
     else (
      gd (inB 0 s.length) <|
      (lines_place (Int.ofNat (s.getD 0 0).toNat)).bind fun r =>
      some (!decide (r = 1))))) fun s2 =>
  bif s2 then (
   some false)
  else (
   (iterN (fun x => lines_Name_L0 s x) 100000 0).bind fun s3 =>
   s3.elim (fun s4 =>
    some true)
   (fun s5 =>
    some s5))

theorem le_lines_Name (s : List UInt8) : LeO (lines_Name_c s) (lines_Name s) := by
  unfold lines_Name_c lines_Name
  with_reducible repeat' (first | exact LeO.refl _ | exact LeL.refl _ | refine qB ?_ ?_ | refine qD ?_ (fun _ => ?_) | refine qG ?_ | refine qE (fun _ => ?_) (fun _ => ?_) | refine qI (fun _ => ?_) | refine qO ?_ ?_ | refine qL ?_ ?_ | refine qM (fun _ => ?_) | refine qN ?_ | refine qK (fun _ => ?_) (fun _ => ?_))

noncomputable def nomination_valid_L0_c (n : List UInt8 × List UInt8 × List UInt8 × List UInt8 × Int × Int) (v : Int) : Option (Int ⊕ (Unit ⊕ Bool)) :=
  bif decide (v < ([n.1, n.2.1, n.2.2.1, n.2.2.2.1].length : Int)) then (
   gd (inB v [n.1, n.2.1, n.2.2.1, n.2.2.2.1].length) <|
   (lines_Name_c ([n.1, n.2.1, n.2.2.1, n.2.2.2.1].getD v.toNat [])).bind fun r =>
   bif !r then (
    some (.inr (.inr false)))
   else (
    some (.inl (wi64 (v + 1)))))
  else (
   some (.inr (.inl ())))

theorem le_nomination_valid_L0 (n : List UInt8 × List UInt8 × List UInt8 × List UInt8 × Int × Int) (v : Int) : LeO (nomination_valid_L0_c n v) (nomination_valid_L0 n v) := by
  unfold nomination_valid_L0_c nomination_valid_L0
  with_reducible repeat' (first | exact LeO.refl _ | exact LeL.refl _ | refine le_lines_Name _ | refine qB ?_ ?_ | refine qD ?_ (fun _ => ?_) | refine qG ?_ | refine qE (fun _ => ?_) (fun _ => ?_) | refine qI (fun _ => ?_) | refine qO ?_ ?_ | refine qL ?_ ?_ | refine qM (fun _ => ?_) | refine qN ?_ | refine qK (fun _ => ?_) (fun _ => ?_))

noncomputable def nomination_valid_c (n : List UInt8 × List UInt8 × List UInt8 × List UInt8 × Int × Int) : Option (Bool) :=
  (iterN (fun x => nomination_valid_L0_c n x) 100000 0).bind fun s =>
  s.elim (fun s2 =>
   bif !decide (n.2.2.1 = n.2.2.2.1) then (
    bif decide (0 ≤ n.2.2.2.2.1) then (
     bif decide (n.2.2.2.2.1 ≤ 1000000) then (
      bif decide (1 ≤ n.2.2.2.2.2) then (
       some (decide (n.2.2.2.2.2 ≤ 1099511627776)))
      else (
       some false))
     else (
      some false))
    else (
     some false))
   else (
    some false))
  (fun s3 =>
   some s3)

theorem le_nomination_valid (n : List UInt8 × List UInt8 × List UInt8 × List UInt8 × Int × Int) : LeO (nomination_valid_c n) (nomination_valid n) := by
  unfold nomination_valid_c nomination_valid
  with_reducible repeat' (first | exact LeO.refl _ | exact LeL.refl _ | refine le_nomination_valid_L0 _ _ | refine qB ?_ ?_ | refine qD ?_ (fun _ => ?_) | refine qG ?_ | refine qE (fun _ => ?_) (fun _ => ?_) | refine qI (fun _ => ?_) | refine qO ?_ ?_ | refine qL ?_ ?_ | refine qM (fun _ => ?_) | refine qN ?_ | refine qK (fun _ => ?_) (fun _ => ?_))

noncomputable def nomination_read_c (w : List (List UInt8)) : Option ((List UInt8 × List UInt8 × List UInt8 × List UInt8 × Int × Int) × Int) :=
  Option.bind (α := Bool) (
    bif !decide ((w.length : Int) = 7) then (
     some true)
    else (
     gd (inB 0 w.length) <|
     some (!decide (w.getD 0 [] = [110, 111, 109, 105, 110, 97, 116, 101])))) fun s =>
  bif s then (
   some (([], ([], ([], ([], (0, 0))))), 3))
  else (
   gd (inB 1 w.length) <|
   (lines_Number_c (w.getD 1 [])).bind fun r =>
   gd (inB 6 w.length) <|
   (lines_Number_c (w.getD 6 [])).bind fun r2 =>
   Option.bind (α := Bool) (
     bif !decide (r.2 = 0) then (
      some true)
     else (
      some (!decide (r2.2 = 0)))) fun s2 =>
   bif s2 then (
    some (([], ([], ([], ([], (0, 0))))), 3))
   else (
    gd (inB 2 w.length) <|
    gd (inB 3 w.length) <|
    gd (inB 4 w.length) <|
    gd (inB 5 w.length) <|
    (nomination_valid_c (w.getD 2 [], (w.getD 3 [], (w.getD 4 [], (w.getD 5 [], (r.1, r2.1)))))).bind fun r3 =>
    bif !r3 then (
     some (([], ([], ([], ([], (0, 0))))), 9))
    else (
     some ((w.getD 2 [], (w.getD 3 [], (w.getD 4 [], (w.getD 5 [], (r.1, r2.1))))), 0))))

theorem le_nomination_read (w : List (List UInt8)) : LeO (nomination_read_c w) (nomination_read w) := by
  unfold nomination_read_c nomination_read
  with_reducible repeat' (first | exact LeO.refl _ | exact LeL.refl _ | refine le_nomination_valid _ | refine le_lines_Number _ | refine qB ?_ ?_ | refine qD ?_ (fun _ => ?_) | refine qG ?_ | refine qE (fun _ => ?_) (fun _ => ?_) | refine qI (fun _ => ?_) | refine qO ?_ ?_ | refine qL ?_ ?_ | refine qM (fun _ => ?_) | refine qN ?_ | refine qK (fun _ => ?_) (fun _ => ?_))

noncomputable def nomination_Parse_L0_c (r : List (List (List UInt8)) × Int) (v : Int) (out : List (List UInt8 × List UInt8 × List UInt8 × List UInt8 × Int × Int)) : Option ((Int × List (List UInt8 × List UInt8 × List UInt8 × List UInt8 × Int × Int)) ⊕ ((List (List UInt8 × List UInt8 × List UInt8 × List UInt8 × Int × Int)) ⊕ ((List (List UInt8 × List UInt8 × List UInt8 × List UInt8 × Int × Int)) × Int × Int))) :=
  bif decide (v < (r.1.length : Int)) then (
   Option.bind (α := (List (List UInt8 × List UInt8 × List UInt8 × List UInt8 × Int × Int)) ⊕ ((List (List UInt8 × List UInt8 × List UInt8 × List UInt8 × Int × Int)) × Int × Int)) (
     gd (inB v r.1.length) <|
     bif decide (((r.1.getD v.toNat []).length : Int) = 0) then (
      some (.inl out))
     else (
      (nomination_read_c (r.1.getD v.toNat [])).bind fun r2 =>
      bif !decide (r2.2 = 0) then (
       some (.inr ([], wi64 (v + 1), r2.2)))
      else (
       gd (fits (out.length + 1) 80) <|
       some (.inl (out ++ [(r2.1.1, (r2.1.2.1, (r2.1.2.2.1, (r2.1.2.2.2.1, (r2.1.2.2.2.2.1, r2.1.2.2.2.2.2)))))]))))) fun s =>
   s.elim (fun s2 =>
    some (.inl (wi64 (v + 1), s2)))
   (fun s3 =>
    some (.inr (.inr (s3.1, s3.2.1, s3.2.2)))))
  else (
   some (.inr (.inl out)))

theorem le_nomination_Parse_L0 (r : List (List (List UInt8)) × Int) (v : Int) (out : List (List UInt8 × List UInt8 × List UInt8 × List UInt8 × Int × Int)) : LeO (nomination_Parse_L0_c r v out) (nomination_Parse_L0 r v out) := by
  unfold nomination_Parse_L0_c nomination_Parse_L0
  with_reducible repeat' (first | exact LeO.refl _ | exact LeL.refl _ | refine le_nomination_read _ | refine qB ?_ ?_ | refine qD ?_ (fun _ => ?_) | refine qG ?_ | refine qE (fun _ => ?_) (fun _ => ?_) | refine qI (fun _ => ?_) | refine qO ?_ ?_ | refine qL ?_ ?_ | refine qM (fun _ => ?_) | refine qN ?_ | refine qK (fun _ => ?_) (fun _ => ?_))

noncomputable def nomination_Parse_c (text : List UInt8) : Option ((List (List UInt8 × List UInt8 × List UInt8 × List UInt8 × Int × Int)) × Int × Int) :=
  (lines_Split_c text).bind fun r =>
  bif !decide (r.2 = 0) then (
   some ([], 0, r.2))
  else (
   (iterN (fun x => nomination_Parse_L0_c r x.1 x.2) 100000 (0, [])).bind fun s4 =>
   s4.elim (fun s5 =>
    some (s5, 0, 0))
   (fun s6 =>
    some (s6.1, s6.2.1, s6.2.2)))

theorem le_nomination_Parse (text : List UInt8) : LeO (nomination_Parse_c text) (nomination_Parse text) := by
  unfold nomination_Parse_c nomination_Parse
  with_reducible repeat' (first | exact LeO.refl _ | exact LeL.refl _ | refine le_nomination_Parse_L0 _ _ _ | refine le_lines_Split _ | refine qB ?_ ?_ | refine qD ?_ (fun _ => ?_) | refine qG ?_ | refine qE (fun _ => ?_) (fun _ => ?_) | refine qI (fun _ => ?_) | refine qO ?_ ?_ | refine qL ?_ ?_ | refine qM (fun _ => ?_) | refine qN ?_ | refine qK (fun _ => ?_) (fun _ => ?_))

noncomputable def ref11_Same_c (a : List (List UInt8 × List UInt8 × List UInt8 × List UInt8 × Int × Int)) (b : List (List UInt8 × List UInt8 × List UInt8 × List UInt8 × Int × Int)) : Option (Bool) :=
  bif !decide ((a.length : Int) = (b.length : Int)) then (
   some false)
  else (
   (iterN (fun x => ref11_Same_L0 a b x) 100000 0).bind fun s =>
   s.elim (fun s2 =>
    some true)
   (fun s3 =>
    some s3))

theorem le_ref11_Same (a : List (List UInt8 × List UInt8 × List UInt8 × List UInt8 × Int × Int)) (b : List (List UInt8 × List UInt8 × List UInt8 × List UInt8 × Int × Int)) : LeO (ref11_Same_c a b) (ref11_Same a b) := by
  unfold ref11_Same_c ref11_Same
  with_reducible repeat' (first | exact LeO.refl _ | exact LeL.refl _ | refine qB ?_ ?_ | refine qD ?_ (fun _ => ?_) | refine qG ?_ | refine qE (fun _ => ?_) (fun _ => ?_) | refine qI (fun _ => ?_) | refine qO ?_ ?_ | refine qL ?_ ?_ | refine qM (fun _ => ?_) | refine qN ?_ | refine qK (fun _ => ?_) (fun _ => ?_))

noncomputable def law11_awake_c : Option (Bool) :=
  (nomination_Parse_c [110, 111, 109, 105, 110, 97, 116, 101, 32, 51, 32, 97, 99, 109, 101, 32, 100, 105, 101, 115, 101, 108, 32, 112, 111, 114, 116, 97, 32, 112, 111, 114, 116, 98, 32, 53, 48, 48, 48, 48, 10]).bind fun r =>
  (nomination_Parse_c [110, 111, 109, 105, 110, 97, 116, 101, 32, 51, 32, 97, 99, 109, 101, 32, 100, 105, 101, 115, 101, 108, 32, 112, 111, 114, 116, 97, 32, 112, 111, 114, 116, 98, 32, 48]).bind fun r2 =>
  bif decide (r.2.2 = 0) then (
   bif decide (r.2.1 = 0) then (
    (ref11_Same_c r.1 [([97, 99, 109, 101], ([100, 105, 101, 115, 101, 108], ([112, 111, 114, 116, 97], ([112, 111, 114, 116, 98], (3, 50000)))))]).bind fun r3 =>
    bif r3 then (
     bif decide (r2.2.1 = 1) then (
      some (decide (r2.2.2 = 9)))
     else (
      some false))
    else (
     some false))
   else (
    some false))
  else (
   some false)

theorem le_law11_awake  : LeO (law11_awake_c) (law11_awake) := by
  unfold law11_awake_c law11_awake
  with_reducible repeat' (first | exact LeO.refl _ | exact LeL.refl _ | refine le_ref11_Same _ _ | refine le_nomination_Parse _ | refine qB ?_ ?_ | refine qD ?_ (fun _ => ?_) | refine qG ?_ | refine qE (fun _ => ?_) (fun _ => ?_) | refine qI (fun _ => ?_) | refine qO ?_ ?_ | refine qL ?_ ?_ | refine qM (fun _ => ?_) | refine qN ?_ | refine qK (fun _ => ?_) (fun _ => ?_))

set_option maxRecDepth 100000 in
theorem awake_true : law11_awake = some true := le_law11_awake _ (by kernel_rfl)
end Go.Proofs.YtnilkkggnffklaaGreatDoor
