/- What was joined is split again; numbers and names. No condition. -/
import Derived.Test.YtnilkkggnffklaaGreatDoorPr3
import Derived.Test.YtnilkkggnffklaaGreatDoorSr
namespace Go.Proofs.YtnilkkggnffklaaGreatDoor
open Go Go.Sq
set_option linter.unusedVariables false
theorem join_txt {a : List (List Str)} (h : ∀ w ∈ a, properB w = true) (h1 : a.length ≤ 400) (h2 : (txt a).length ≤ 16384) : specJoin a = (txt a, 0) := by
  unfold specJoin
  rw [show Nat.blt 16384 (txt a).length = false by rw [Bool.eq_false_iff, ne_eq, Nat.blt_eq]; omega, show Nat.blt 400 a.length = false by rw [Bool.eq_false_iff, ne_eq, Nat.blt_eq]; omega, show a.all properB = true from List.all_eq_true.2 h]; rfl
theorem allT {A : Type} (l : List A) : l.all (fun _ => true) = true := by simp
theorem szL_le {a : List (List Str)} {n : Nat} (h : ∀ w ∈ a, szW w ≤ n) : szL a ≤ a.length * n := by
  induction a with
  | nil => simp [szL]
  | cons w r ih =>
    have h1 := h w (by simp)
    have h2 := ih (fun w hw => h w (by simp [hw]))
    have : szL (w :: r) = szW w + szL r := by simp [szL]
    rw [this, List.length_cons, Nat.add_mul]; omega
theorem splB_tot (c : UInt8) : ∀ x : Str, sumL (splB c x) + (splB c x).length = x.length + 1
  | [] => rfl
  | b :: l => by
    have ih := splB_tot c l
    unfold splB
    cases hb : b == c with
    | true =>
      simp only [cond_true, List.length_cons]
      have : sumL ([] :: splB c l) = sumL (splB c l) := by simp [sumL]
      omega
    | false =>
      simp only [cond_false]
      split
      · rename_i h; exact absurd h (splB_ne c l)
      · rename_i h t hs
        rw [hs] at ih
        have e1 : sumL ((b :: h) :: t) = h.length + 1 + sumL t := by simp [sumL]
        have e2 : sumL (h :: t) = h.length + sumL t := by simp [sumL]
        simp only [List.length_cons] at ih ⊢
        omega
def tot (ls : List Str) : Nat := (ls.map fun x => x.length + 1).sum
theorem tot_cons (x : Str) (r : List Str) : tot (x :: r) = x.length + 1 + tot r := by simp [tot]
theorem lns_tot : ∀ s : Str, tot (lns s) ≤ s.length + 1
  | [] => by simp [lns, tot]
  | b :: l => by
    have ih := lns_tot l
    unfold lns
    cases hb : b == (10 : UInt8) with
    | true => simp only [cond_true, tot_cons, List.length_cons, List.length_nil]; omega
    | false =>
      simp only [cond_false]
      split
      · simp only [tot_cons, List.length_cons, List.length_nil]; simp [tot]
      · rename_i h t hs
        rw [hs] at ih
        simp only [tot_cons, List.length_cons] at ih ⊢
        omega
theorem lineOf_ok {x : Str} {w : List Str} (h : lineOf x = some w) : properB w = true ∧ (joinS w).length ≤ x.length ∧ (∀ s ∈ w, s.length ≤ x.length) := by
  unfold lineOf at h
  cases hc : x.isEmpty || x.headD 0 == 35 with
  | true => rw [hc] at h; injection h with h; subst h; exact ⟨rfl, by simp [joinS, Lib.join, List.intercalate], fun s hs => by cases hs⟩
  | false =>
    rw [hc] at h
    cases hw : wordsB (splB 32 x) with
    | false => rw [hw] at h; cases h
    | true =>
      rw [hw] at h; injection h with h; subst h
      refine ⟨by rw [← proper_words (splB_ne 32 x)]; exact hw, ?_, fun s hs => splB_mem hs⟩
      have h1 := joinS_len (splB_ne 32 x)
      have h2 := splB_tot 32 x
      omega
theorem linesM_ok : ∀ {ls : List Str} {c : List (List Str)}, linesM ls = some c → c.length = ls.length ∧ (txt c).length ≤ tot ls ∧ ∀ w ∈ c, properB w = true ∧ ∀ s ∈ w, s.length ≤ tot ls
  | [], c, h => by injection h with h; subst h; exact ⟨rfl, by simp [txt, tot], fun w hw => by cases hw⟩
  | x :: r, c, h => by
    rw [linesM_cons] at h
    split at h
    · cases h
    · rename_i w hw
      obtain ⟨q, hq, rfl⟩ := Option.map_eq_some_iff.1 h
      obtain ⟨i1, i2, i3⟩ := linesM_ok hq
      obtain ⟨j1, j2, j3⟩ := lineOf_ok hw
      rw [tot_cons]
      have e : (txt (w :: q)).length = (joinS w).length + 1 + (txt q).length := by simp [txt]; omega
      refine ⟨by simp [i1], by omega, fun w' hw' => ?_⟩
      rcases List.mem_cons.1 hw' with rfl | hw'
      · exact ⟨j1, fun s hs => by have := j3 s hs; omega⟩
      · exact ⟨(i3 w' hw').1, fun s hs => by have := (i3 w' hw').2 s hs; omega⟩
theorem valD_app2 : ∀ (a b : Str) (acc : Nat), valD acc (a ++ b) = valD (valD acc a) b
  | [], _, _ => rfl
  | _ :: a, b, _ => valD_app2 a b _
theorem valD_take (s : Str) (k : Nat) : valD 0 (s.take k) ≤ valD 0 s := by
  have := valD_app2 (s.take k) (s.drop k) 0
  rw [List.take_append_drop] at this
  rw [this]; exact valD_ge _ _
theorem rnumL0 (r : Str) (h : r.length ≤ 1000000) : iter (fun x => ref03_Number_L0 r x) 0 = some (bif r.all dig then .inl () else .inr (0, 3)) := by
  refine scan r 0 dig (fun i hi hq => ?_) (fun i hi hq => ?_) ?_
  · simp only [dig, Bool.and_eq_true, Nat.ble_eq] at hq
    unfold ref03_Number_L0
    rw [dec_t (by omega), cond_true, gd_t (inB_t hi), gd_t (inB_t hi), Int.toNat_natCast, dec_f (by simp only [Int.ofNat_eq_natCast]; omega), cond_false, dec_f (by simp only [Int.ofNat_eq_natCast]; omega), Option.bind_some, cond_false, w1 hi (by omega)]
  · have hq : ¬ (48 ≤ (r.getD i 0).toNat ∧ (r.getD i 0).toNat ≤ 57) := by
      intro h; rw [show dig (r.getD i 0) = true by simp only [dig, Bool.and_eq_true, Nat.ble_eq]; exact h] at hq; cases hq
    unfold ref03_Number_L0
    rw [dec_t (by omega), cond_true, gd_t (inB_t hi), gd_t (inB_t hi), Int.toNat_natCast]
    by_cases h48 : (r.getD i 0).toNat < 48
    · rw [dec_t (by simp only [Int.ofNat_eq_natCast]; omega)]; rfl
    · rw [dec_f (by simp only [Int.ofNat_eq_natCast]; omega), cond_false, dec_t (by simp only [Int.ofNat_eq_natCast]; omega)]; rfl
  · unfold ref03_Number_L0
    rw [dec_f (by omega)]; rfl
theorem rnumL1 (r : Str) (h : r.length ≤ 1000000) (hd : r.all dig = true) : iter (fun x2 => ref03_Number_L1 r x2.1 x2.2) (0, 0) = some (bif decide (9007199254740992 < valD 0 r) then .inr (0, 1) else .inl (valD 0 r : Int)) := by
  refine ok_eq ?_
  refine Ok.loop (fun x : Int × Int => ∃ k : Nat, x.2 = (k : Int) ∧ k ≤ r.length ∧ x.1 = (valD 0 (r.take k) : Int) ∧ valD 0 (r.take k) ≤ 9007199254740992) (fun x => r.length - x.2.toNat) ?_ ?_
  · refine ⟨0, ?_, ?_, ?_, ?_⟩
    · rfl
    · exact Nat.zero_le _
    · rfl
    · show valD 0 [] ≤ _
      unfold valD
      exact Nat.zero_le _
  rintro ⟨n, v⟩ ⟨k, g1, g2, g3, g4⟩
  simp only at g1 g3
  subst g1 g3
  unfold ref03_Number_L1
  simp only
  refine Ok.bif (fun hc => ?_) fun hc => ?_
  · have hc := of_decide_eq_true hc
    have hk : k < r.length := by omega
    have hdk : dig (r.getD k 0) = true := List.all_eq_true.1 hd _ (gD_mem hk)
    simp only [dig, Bool.and_eq_true, Nat.ble_eq] at hdk
    have hv : valD 0 (r.take (k + 1)) = valD 0 (r.take k) * 10 + ((r.getD k 0).toNat - 48) := by rw [take_next 0 hk, valD_app]
    have e1 : wi64 ((wi64 ((valD 0 (r.take k) : Int) * 10)) + (wi64 (wu8 ((Int.ofNat (r.getD k 0).toNat) - 48)))) = (valD 0 (r.take (k + 1)) : Int) := by
      rw [show wu8 ((Int.ofNat (r.getD k 0).toNat) - 48) = (((r.getD k 0).toNat - 48 : Nat) : Int) by rw [show wu8 ((Int.ofNat (r.getD k 0).toNat) - 48) = (Int.ofNat (r.getD k 0).toNat) - 48 from IntWalk.u8_in _ (by simp only [Int.ofNat_eq_natCast]; omega)]; simp only [Int.ofNat_eq_natCast]; omega]
      rw [wi (n := (valD 0 (r.take k) : Int) * 10) (by omega), wi (n := (((r.getD k 0).toNat - 48 : Nat) : Int)) (by omega), wi (by omega), hv]; omega
    refine Ok.gd (inB_t hk) ?_
    rw [Int.toNat_natCast, e1]
    have hmono := valD_take r (k + 1)
    refine Ok.bif (fun hb => ?_) fun hb => ?_
    · have hb := of_decide_eq_true hb
      refine .ret ?_
      dsimp only
      rw [dec_t (show 9007199254740992 < valD 0 r by omega)]; rfl
    · have hb := of_decide_eq_false hb
      rw [w1 hk (by omega)]
      exact .ret ⟨⟨k + 1, rfl, by omega, rfl, by omega⟩, by simp only [Int.toNat_natCast]; omega⟩
  · have hc := of_decide_eq_false hc
    have : k = r.length := by omega
    subst this
    refine .ret ?_
    dsimp only
    rw [List.take_length] at g4 ⊢
    rw [dec_f (show ¬ 9007199254740992 < valD 0 r by omega)]; rfl
theorem rnum_eq (s : Str) (h : s.length ≤ 1000000) : ref03_Number s = some (specNum s) := by
  have hl : (dgs s).length ≤ s.length := by
    cases s with
    | nil => exact Nat.le_refl _
    | cons c r => rw [dgs_cons]; cases c == 45 <;> simp
  unfold ref03_Number
  have e1 : (bif decide (0 < (s.length : Int)) then (gd (inB 0 s.length) <| some (decide ((Int.ofNat (s.getD 0 0).toNat) = 45))) else some false) = some (mns s) := by
    cases s with
    | nil => rfl
    | cons c r => rw [dec_t (by simp), cond_true, gd_t (inB0 (by simp)), eqU _ 45 45 rfl]; rfl
  rw [e1, Option.bind_some]
  have e2 : (bif mns s then (gd (cutG (some (.i64, 1)) none s.length) <| some (s.drop 1)) else some s) = some (dgs s) := by
    cases s with
    | nil => rfl
    | cons c r =>
      rw [dgs_cons]
      show (bif c == 45 then _ else _) = _
      cases c == 45 with
      | true => rw [cond_true, gd_t (by simp [cutG]; omega)]; rfl
      | false => rfl
  rw [e2, Option.bind_some]
  have hx : (decide (1 < ((dgs s).length : Int)) || mns s) = !decide (s = [48]) ∨ (dgs s).headD 0 ≠ 48 := by
    by_cases h48 : (dgs s).headD 0 = 48
    · left
      cases s with
      | nil => cases h48
      | cons c r =>
        rw [dgs_cons] at h48 ⊢
        show (decide _ || (c == 45)) = _
        cases hc : c == 45 with
        | true =>
          rw [beq_iff_eq] at hc; subst hc
          rw [Bool.or_true, dec_f (by simp)]; rfl
        | false =>
          rw [hc, cond_false] at h48
          have h48' : c = 48 := h48
          subst h48'
          rw [cond_false, Bool.or_false]
          cases r with
          | nil => rfl
          | cons d q => rw [dec_t (by simp; omega), dec_f (by simp)]; rfl
    · exact .inr h48
  have e3 : (bif decide (dgs s = []) then some true else (gd (inB 0 (dgs s).length) <| bif decide ((Int.ofNat ((dgs s).getD 0 0).toNat) = 48) then (bif decide (1 < ((dgs s).length : Int)) then some true else some (mns s)) else some false)) = some ((dgs s).isEmpty || ((dgs s).headD 0 == 48 && !decide (s = [48]))) := by
    cases hd : dgs s with
    | nil => rfl
    | cons c r =>
      rw [hd] at hx
      rw [dec_f (by simp), cond_false, gd_t (inB0 (by simp)), eqU _ 48 48 rfl]
      simp only [List.isEmpty_cons, Bool.false_or, List.headD_cons, List.getD_cons_zero] at hx ⊢
      cases hc : c == 48 with
      | false => rfl
      | true =>
        rw [beq_iff_eq] at hc
        rcases hx with hx | hx
        · rw [← hx, cond_true, Bool.true_and]
          cases decide (1 < ((c :: r).length : Int)) <;> rfl
        · exact absurd hc hx
  rw [e3, Option.bind_some]
  unfold specNum
  cases hc : (dgs s).isEmpty || ((dgs s).headD 0 == 48 && !decide (s = [48])) with
  | true => rfl
  | false =>
    rw [cond_false, rnumL0 _ (by omega), Option.bind_some]
    cases hd : (dgs s).all dig with
    | false => rfl
    | true =>
      simp only [cond_true, Sum.elim_inl, Bool.false_or, Bool.not_true, cond_false]
      rw [rnumL1 _ (by omega) hd, Option.bind_some]
      by_cases hv : 9007199254740992 < valD 0 (dgs s)
      · rw [dec_t hv]; rfl
      · rw [dec_f hv]
        simp only [cond_false, Sum.elim_inl]
        cases mns s with
        | true => rw [cond_true, wi (by omega), Option.bind_some, cond_true, show (0 : Int) - (valD 0 (dgs s) : Int) = -(valD 0 (dgs s) : Int) by omega]
        | false => rfl
def fch (b : UInt8) : Bool := Nat.ble 97 b.toNat && Nat.ble b.toNat 122
def nch (b : UInt8) : Bool := fch b || (Nat.ble 48 b.toNat && Nat.ble b.toNat 57) || b == 45
def nameB (s : Str) : Bool := Nat.ble 1 s.length && Nat.ble s.length 12 && fch (s.headD 0) && s.all nch
theorem place_eq (b : UInt8) : lines_place (Int.ofNat b.toNat) = some (bif fch b then 1 else bif nch b then 2 else 0) := by
  have h1 : decide (97 ≤ (Int.ofNat b.toNat)) = Nat.ble 97 b.toNat := by rw [Bool.eq_iff_iff, decide_eq_true_iff, Nat.ble_eq]; simp only [Int.ofNat_eq_natCast]; omega
  have h2 : decide ((Int.ofNat b.toNat) ≤ 122) = Nat.ble b.toNat 122 := by rw [Bool.eq_iff_iff, decide_eq_true_iff, Nat.ble_eq]; simp only [Int.ofNat_eq_natCast]; omega
  have h3 : decide (48 ≤ (Int.ofNat b.toNat)) = Nat.ble 48 b.toNat := by rw [Bool.eq_iff_iff, decide_eq_true_iff, Nat.ble_eq]; simp only [Int.ofNat_eq_natCast]; omega
  have h4 : decide ((Int.ofNat b.toNat) ≤ 57) = Nat.ble b.toNat 57 := by rw [Bool.eq_iff_iff, decide_eq_true_iff, Nat.ble_eq]; simp only [Int.ofNat_eq_natCast]; omega
  unfold lines_place nch fch
  rw [h1, h2, h3, h4, eqU _ 45 45 rfl]
  cases Nat.ble 97 b.toNat <;> cases Nat.ble b.toNat 122 <;> cases Nat.ble 48 b.toNat <;> cases Nat.ble b.toNat 57 <;> cases b == 45 <;> rfl
theorem nch_f {b : UInt8} (h : fch b = true) : nch b = true := by unfold nch; rw [h]; rfl
theorem lname_eq (s : Str) (hl : s.length ≤ 1000000) : lines_Name s = some (nameB s) := by
  have h : iter (fun x => lines_Name_L0 s x) 0 = some (bif s.all nch then .inl () else .inr false) := by
    refine scan s 0 nch (fun i hi hq => ?_) (fun i hi hq => ?_) ?_
    · unfold lines_Name_L0
      rw [dec_t (by omega), cond_true, gd_t (inB_t hi), Int.toNat_natCast, place_eq, Option.bind_some, hq, w1 hi (by omega)]
      cases fch (s.getD i 0) <;> rfl
    · unfold lines_Name_L0
      rw [dec_t (by omega), cond_true, gd_t (inB_t hi), Int.toNat_natCast, place_eq, Option.bind_some, hq]
      cases hf : fch (s.getD i 0) with
      | true => rw [nch_f hf] at hq; cases hq
      | false => rfl
    · unfold lines_Name_L0
      rw [dec_f (by omega)]; rfl
  unfold lines_Name nameB
  by_cases h1 : s.length < 1
  · rw [dec_t (show (s.length : Int) < 1 by omega), show Nat.ble 1 s.length = false by rw [Bool.eq_false_iff, ne_eq, Nat.ble_eq]; omega]; rfl
  · rw [dec_f (show ¬ (s.length : Int) < 1 by omega), cond_false, show Nat.ble 1 s.length = true by rw [Nat.ble_eq]; omega]
    by_cases h2 : 12 < s.length
    · rw [dec_t (show 12 < (s.length : Int) by omega), show Nat.ble s.length 12 = false by rw [Bool.eq_false_iff, ne_eq, Nat.ble_eq]; omega]; rfl
    · rw [dec_f (show ¬ 12 < (s.length : Int) by omega), cond_false, show Nat.ble s.length 12 = true by rw [Nat.ble_eq]; omega, gd_t (inB0 (by omega)), place_eq, Option.bind_some, h]
      have hh : s.getD 0 0 = s.headD 0 := by cases s <;> rfl
      rw [hh]
      cases fch (s.headD 0) with
      | false => cases nch (s.headD 0) <;> rfl
      | true => cases s.all nch <;> rfl
theorem rname_eq (s : Str) (hl : s.length ≤ 1000000) : ref03_Name s = some (nameB s) := by
  have k1 : ∀ b : UInt8, decide ((Int.ofNat b.toNat) < 97) = !Nat.ble 97 b.toNat := by
    intro b; rw [Bool.eq_iff_iff, decide_eq_true_iff, Bool.not_eq_true', Bool.eq_false_iff, ne_eq, Nat.ble_eq]; simp only [Int.ofNat_eq_natCast]; omega
  have k2 : ∀ b : UInt8, decide (122 < (Int.ofNat b.toNat)) = !Nat.ble b.toNat 122 := by
    intro b; rw [Bool.eq_iff_iff, decide_eq_true_iff, Bool.not_eq_true', Bool.eq_false_iff, ne_eq, Nat.ble_eq]; simp only [Int.ofNat_eq_natCast]; omega
  have k3 : ∀ b : UInt8, decide ((Int.ofNat b.toNat) < 48) = !Nat.ble 48 b.toNat := by
    intro b; rw [Bool.eq_iff_iff, decide_eq_true_iff, Bool.not_eq_true', Bool.eq_false_iff, ne_eq, Nat.ble_eq]; simp only [Int.ofNat_eq_natCast]; omega
  have k4 : ∀ b : UInt8, decide (57 < (Int.ofNat b.toNat)) = !Nat.ble b.toNat 57 := by
    intro b; rw [Bool.eq_iff_iff, decide_eq_true_iff, Bool.not_eq_true', Bool.eq_false_iff, ne_eq, Nat.ble_eq]; simp only [Int.ofNat_eq_natCast]; omega
  have step : ∀ i, i < s.length → ref03_Name_L0 s (i : Int) = some (bif nch (s.getD i 0) then .inl ((i + 1 : Nat) : Int) else .inr (.inr false)) := by
    intro i hi
    unfold ref03_Name_L0
    simp only [gd_t (inB_t hi), Int.toNat_natCast]
    rw [dec_t (show (i : Int) < (s.length : Int) by omega), cond_true, k1, k2, k3, k4, eqU _ 45 45 rfl, w1 hi (by omega)]
    unfold nch fch
    cases Nat.ble 97 (s.getD i 0).toNat <;> cases Nat.ble (s.getD i 0).toNat 122 <;> cases Nat.ble 48 (s.getD i 0).toNat <;> cases Nat.ble (s.getD i 0).toNat 57 <;> cases s.getD i 0 == 45 <;> rfl
  have h : iter (fun x => ref03_Name_L0 s x) 0 = some (bif s.all nch then .inl () else .inr false) := by
    refine scan s 0 nch (fun i hi hq => ?_) (fun i hi hq => ?_) ?_
    · rw [step i hi, hq]; rfl
    · rw [step i hi, hq]; rfl
    · unfold ref03_Name_L0
      rw [dec_f (by omega)]; rfl
  unfold ref03_Name nameB
  by_cases h1 : s.length < 1
  · rw [dec_t (show (s.length : Int) < 1 by omega), show Nat.ble 1 s.length = false by rw [Bool.eq_false_iff, ne_eq, Nat.ble_eq]; omega]; rfl
  · rw [dec_f (show ¬ (s.length : Int) < 1 by omega), cond_false, show Nat.ble 1 s.length = true by rw [Nat.ble_eq]; omega]
    by_cases h2 : 12 < s.length
    · rw [dec_t (show 12 < (s.length : Int) by omega), show Nat.ble s.length 12 = false by rw [Bool.eq_false_iff, ne_eq, Nat.ble_eq]; omega]; rfl
    · rw [dec_f (show ¬ 12 < (s.length : Int) by omega), cond_false, show Nat.ble s.length 12 = true by rw [Nat.ble_eq]; omega, gd_t (inB0 (by omega)), gd_t (inB0 (by omega)), k1, k2, h]
      have hh : s.getD 0 0 = s.headD 0 := by cases s <;> rfl
      rw [hh]
      unfold fch
      cases Nat.ble 97 (s.headD 0).toNat <;> cases Nat.ble (s.headD 0).toNat 122 <;> cases s.all nch <;> rfl
end Go.Proofs.YtnilkkggnffklaaGreatDoor
