/- Lines, words and numbers. No condition. -/
import Derived.Test.YtpgigbdefbeagaaGreatDoorNw0
namespace Go.Proofs.YtpgigbdefbeagaaGreatDoor
open Go Go.Sq
def dig (b : UInt8) : Bool := Nat.ble 48 b.toNat && Nat.ble b.toNat 57
def valD : Nat → List UInt8 → Nat
 | acc, [] => acc
 | acc, c :: r => valD (acc * 10 + (c.toNat - 48)) r
theorem ql5 (c : UInt8) : ∀ (l : List UInt8) (acc : Nat), valD acc (l ++ [c]) = valD acc l * 10 + (c.toNat - 48)
 | [], _ => rfl
 | _ :: r, _ => ql5 c r _
structure Digs (n : Nat) (D : List UInt8) : Prop where
 ne : D ≠ []
 all : D.all dig = true
 val : valD 0 D = n
 hd : 0 < n → D.headD 0 ≠ 48
 z : n = 0 → D = [48]
def chr (n : Nat) : UInt8 := UInt8.ofNat (48 + n % 10)
theorem qlm (n : Nat) : (chr n).toNat = 48 + n % 10 := by unfold chr; rw [UInt8.toNat_ofNat']; omega
theorem qom (n : Nat) : dig (chr n) = true := by
 simp only [dig, Bool.and_eq_true, Nat.ble_eq, qlm]; omega
theorem Digs.head {n : Nat} {D : List UInt8} (h : Digs n D) : ∃ a r, D = a :: r ∧ dig a = true := by
 have h1 := h.ne
 have h2 := h.all
 cases D with
 | nil => exact absurd rfl h1
 | cons a r => exact ⟨a, r, rfl, by simp only [List.all_cons, Bool.and_eq_true] at h2; exact h2.1⟩
end Go.Proofs.YtpgigbdefbeagaaGreatDoor
namespace Go.Proofs.YtpgigbdefbeagaaGreatDoor
open Go Go.Sq
theorem ok_eq {A : Type} {x : Option A} {v : A} (h : Ok x (fun y => y = v)) : x = some v := by obtain ⟨a, h1, rfl⟩ := h; exact h1
def wch (b : UInt8) : Bool := Nat.ble 33 b.toNat && Nat.ble b.toNat 126
def wordB (s : Str) : Bool := s.all wch && !s.isEmpty
def qbC (w : List Str) : Bool := Nat.ble w.length 16 && w.all wordB && !((w.headD []).headD 0 == 35)
def ql6 (w : List Str) : Bool := !w.isEmpty && qbC w
theorem lt33 (b : UInt8) : decide ((Int.ofNat b.toNat) < 33) = decide (b.toNat < 33) := by
 rw [Bool.eq_iff_iff, decide_eq_true_iff, decide_eq_true_iff]; simp only [Int.ofNat_eq_natCast]; omega
theorem gt126 (b : UInt8) : decide (126 < (Int.ofNat b.toNat)) = decide (126 < b.toNat) := by
 rw [Bool.eq_iff_iff, decide_eq_true_iff, decide_eq_true_iff]; simp only [Int.ofNat_eq_natCast]; omega
theorem eq35 (b : UInt8) : decide ((Int.ofNat b.toNat) = 35) = (b == 35) := by
 rw [Bool.eq_iff_iff, decide_eq_true_iff, beq_iff_eq]
 simp only [Int.ofNat_eq_natCast]
 constructor
 ·intro h; exact UInt8.toNat_inj.1 (by show b.toNat = 35; omega)
 ·rintro rfl; rfl
theorem wch_t {b : UInt8} (h : wch b = true) : decide (b.toNat < 33) = false ∧ decide (126 < b.toNat) = false := by
 simp only [wch, Bool.and_eq_true, Nat.ble_eq] at h
 exact ⟨decide_eq_false (by omega), decide_eq_false (by omega)⟩
theorem wch_f {b : UInt8} (h : wch b = false) : decide (b.toNat < 33) = true ∨ (decide (b.toNat < 33) = false ∧ decide (126 < b.toNat) = true) := by
 by_cases h1 : b.toNat < 33
 ·exact .inl (decide_eq_true h1)
 ·refine .inr ⟨decide_eq_false h1, decide_eq_true ?_⟩
  by_cases h2 : b.toNat ≤ 126
  ·exfalso
   rw [show wch b = true by simp only [wch, Bool.and_eq_true, Nat.ble_eq]; omega] at h; cases h
  ·omega
theorem qon (s : Str) (hl : s.length ≤ 1000000) : qfM s = some (wordB s) := by
 unfold qfM
 have h : iter (fun x => qcy s x) 0 = some (bif s.all wch then .inl () else .inr false) := by
  refine scan s 0 wch (fun i hi hq => ?_) (fun i hi hq => ?_) ?_
  ·obtain ⟨h1, h2⟩ := wch_t hq
   unfold qcy
   rw [dec_t (by omega), cond_true, gd_t (inB_t hi), gd_t (inB_t hi), Int.toNat_natCast, lt33, h1, cond_false, gt126, h2, Option.bind_some, cond_false, w1 hi (by omega)]
  ·unfold qcy
   rw [dec_t (by omega), cond_true, gd_t (inB_t hi), gd_t (inB_t hi), Int.toNat_natCast, lt33]
   rcases wch_f hq with h1 | ⟨h1, h2⟩
   ·rw [h1]; rfl
   ·rw [h1, cond_false, gt126, h2]; rfl
  ·unfold qcy
   rw [dec_f (by omega)]; rfl
 rw [h, Option.bind_some]
 unfold wordB
 cases s.all wch with
 | false => rfl
 | true => cases s <;> rfl
theorem ql7 (l : List Str) (hl : ∀ s ∈ l, s.length ≤ 1000000) : qcV l = some (ql6 l) := by
 unfold qcV ql6 qbC
 by_cases h0 : l.length < 1
 ·have : l = [] := List.eq_nil_of_length_eq_zero (by omega)
  subst this; rfl
 ·rw [dec_f (show ¬ (l.length : Int) < 1 by omega), cond_false, Option.bind_some]
  have hne : l.isEmpty = false := by cases l with | nil => simp at h0 | cons => rfl
  by_cases h16 : 16 < l.length
  ·rw [dec_t (show 16 < (l.length : Int) by omega), hne, show Nat.ble l.length 16 = false by rw [Bool.eq_false_iff, ne_eq, Nat.ble_eq]; omega]; rfl
  ·rw [dec_f (show ¬ 16 < (l.length : Int) by omega), cond_false, hne, show Nat.ble l.length 16 = true by rw [Nat.ble_eq]; omega]
   have h : iter (fun x => qbY l x) 0 = some (bif l.all wordB then .inl () else .inr false) := by
    refine scan l [] wordB (fun i hi hq => ?_) (fun i hi hq => ?_) ?_
    ·unfold qbY
     rw [dec_t (by omega), cond_true, gd_t (inB_t hi), Int.toNat_natCast, qon _ (hl _ (qaV hi)), Option.bind_some, hq, Bool.not_true, cond_false, w1 hi (by omega)]
    ·unfold qbY
     rw [dec_t (by omega), cond_true, gd_t (inB_t hi), Int.toNat_natCast, qon _ (hl _ (qaV hi)), Option.bind_some, hq]; rfl
    ·unfold qbY
     rw [dec_f (by omega)]; rfl
   rw [h, Option.bind_some]
   cases ha : l.all wordB with
   | false => rfl
   | true =>
    cases l with
    | nil => simp at h0
    | cons w r =>
     simp only [List.all_cons, Bool.and_eq_true] at ha
     have hw : w ≠ [] := by
      rintro rfl
      have := ha.1
      simp [wordB] at this
     simp only [cond_true, Sum.elim_inl]
     rw [gd_t (inB0 (by simp)), gd_t (inB0 (by cases w with | nil => exact absurd rfl hw | cons => simp)), eq35]
     cases w with
     | nil => exact absurd rfl hw
     | cons => rfl
end Go.Proofs.YtpgigbdefbeagaaGreatDoor
namespace Go.Proofs.YtpgigbdefbeagaaGreatDoor
open Go Go.Sq
abbrev joinS (w : List Str) : Str := Lib.join w [32]
theorem qln (a b : Str) (r : List Str) : joinS (a :: b :: r) = a ++ 32 :: joinS (b :: r) := by
 simp [joinS, Lib.join, List.intercalate]
def sumL (w : List Str) : Nat := (w.map List.length).sum
theorem qo3 (a b : List Str) : sumL (a ++ b) = sumL a + sumL b := by simp [sumL]
theorem qoo {w : List Str} {n : Nat} (h : ∀ s ∈ w, s.length ≤ n) : sumL w ≤ w.length * n := by
 induction w with
 | nil => simp [sumL]
 | cons a r ih =>
  have h1 := h a (by simp)
  have h2 := ih (fun s hs => h s (by simp [hs]))
  have : sumL (a :: r) = a.length + sumL r := by simp [sumL]
  rw [this, List.length_cons, Nat.add_mul]; omega
theorem qgL : ∀ {w : List Str}, w ≠ [] → (joinS w).length + 1 = sumL w + w.length
 | [], h => absurd rfl h
 | [a], _ => by simp [joinS, Lib.join, List.intercalate, sumL]
 | a :: b :: r, _ => by
  rw [qln]
  have ih := qgL (w := b :: r) (by simp)
  have : sumL (a :: b :: r) = a.length + sumL (b :: r) := by simp [sumL]
  rw [this]
  simp only [List.length_append, List.length_cons] at ih ⊢
  omega
theorem qo4 (w : List Str) : (joinS w).length ≤ sumL w + w.length := by
 cases w with
 | nil => simp [joinS, Lib.join, List.intercalate]
 | cons a r => have := qgL (w := a :: r) (by simp); omega
def txt (l : List (List Str)) : Str := l.flatMap fun w => joinS w ++ [10]
theorem qlo (a b : List (List Str)) : txt (a ++ b) = txt a ++ txt b := by simp [txt]
theorem qop (w : List Str) : txt [w] = joinS w ++ [10] := by simp [txt]
def szW (w : List Str) : Nat := w.length + sumL w
def szL (l : List (List Str)) : Nat := (l.map szW).sum
theorem qpT (a b : List (List Str)) : szL (a ++ b) = szL a + szL b := by simp [szL]
theorem qjz : ∀ l : List (List Str), szL l ≤ (txt l).length ∧ (txt l).length ≤ szL l + l.length
 | [] => by simp [szL, txt]
 | w :: r => by
  obtain ⟨h1, h2⟩ := qjz r
  have e1 : szL (w :: r) = szW w + szL r := by simp [szL]
  have e2 : (txt (w :: r)).length = (joinS w).length + 1 + (txt r).length := by simp [txt]; omega
  rw [e1, e2, List.length_cons]
  cases w with
  | nil => simp [szW, sumL, joinS, Lib.join, List.intercalate]; omega
  | cons a q =>
   have := qgL (w := a :: q) (by simp)
   unfold szW; omega
theorem qo5 (l : List (List Str)) (k : Nat) : (txt (l.take k)).length ≤ (txt l).length := by
 have := qlo (l.take k) (l.drop k)
 rw [List.take_append_drop] at this
 rw [this, List.length_append]; omega
def qfN (l : List (List Str)) : Str × Int := bif Nat.blt 400 l.length then ([], 4) else bif !l.all qbC then ([], 3) else bif Nat.blt 16384 (txt l).length then ([], 4) else (txt l, 0)
def BJ (l : List (List Str)) : Prop := ∀ w ∈ l, w.length ≤ 1000000 ∧ ∀ s ∈ w, s.length ≤ 1000000
theorem qoq {w : List Str} (h : qbC w = true) (hb : ∀ s ∈ w, s.length ≤ 1000000) : szW w ≤ 17000000 := by
 unfold qbC at h
 rw [Bool.and_eq_true, Bool.and_eq_true, Nat.ble_eq] at h
 have := qoo hb
 have h2 : w.length * 1000000 ≤ 16 * 1000000 := Nat.mul_le_mul_right _ h.1.1
 unfold szW; omega
theorem qfD (x : Str) : qaU (qbp x) = x := by
 unfold qaU qbp
 rw [List.map_map]
 conv => rhs; rw [← List.map_id x]
 refine List.map_congr_left fun b _ => ?_
 show UInt8.ofNat (Int.toNat (b.toNat : Int)) = b
 rw [Int.toNat_natCast]
 exact UInt8.ofNat_toNat
theorem qgk (a b : Str) : qbp (a ++ b) = qbp a ++ qbp b := by simp [qbp]
theorem qha {w : List Str} (h : w ≠ []) : ql6 w = qbC w := by
 unfold ql6
 cases w with
 | nil => exact absurd rfl h
 | cons => rfl
theorem qqo (l : List (List Str)) (k : Nat) (hne : l.getD k [] ≠ []) (hb : ∀ s ∈ l.getD k [], s.length ≤ 1000000) (h16 : (l.getD k []).length ≤ 16) (m : Nat) (hm : m ≤ 32800) :
  iter (fun x => qbA l (k : Int) x.1 x.2) ((m : Int), 0) = some (((min (m + sumL (l.getD k [])) 32768 : Nat) : Int)) := by
 refine ok_eq ?_
 have hpos : 0 < (l.getD k []).length := by cases h : l.getD k [] with | nil => exact absurd h hne | cons => simp
 refine Ok.loop (fun x : Int × Int => ∃ j : Nat, x.2 = (j : Int) ∧ j ≤ (l.getD k []).length ∧ x.1 = (((if j = 0 then m else min (m + sumL ((l.getD k []).take j)) 32768 : Nat)) : Int)) (fun x => (l.getD k []).length - x.2.toNat) ⟨0, rfl, by omega, rfl⟩ ?_
 rintro ⟨n, v⟩ ⟨j, g1, g2, g3⟩
 simp only at g1 g3
 subst g1 g3
 unfold qbA
 simp only
 rw [Int.toNat_natCast]
 generalize l.getD k [] = w at *
 have hcap : (if j = 0 then m else min (m + sumL (w.take j)) 32768 : Nat) ≤ 32800 := by split <;> omega
 refine Ok.bif (fun hc => ?_) fun hc => ?_
 ·have hc := of_decide_eq_true hc
  have hj : j < w.length := by omega
  have hX := hb _ (qaV (d := []) hj)
  refine Ok.gd (inB_t hj) ?_
  rw [Int.toNat_natCast]
  have e1 : wi64 (((if j = 0 then m else min (m + sumL (w.take j)) 32768 : Nat) : Int) + ((w.getD j []).length : Int)) = (((if j = 0 then m else min (m + sumL (w.take j)) 32768) + (w.getD j []).length : Nat) : Int) := by rw [wi (by omega)]; omega
  rw [e1]
  have hs : sumL (w.take (j + 1)) = sumL (w.take j) + (w.getD j []).length := by rw [qbu [] hj, qo3]; simp [sumL]
  have h00 : sumL (w.take 0) = 0 := by simp [sumL]
  have e2 : (Option.bind (α := Int) (bif decide (32768 < (((if j = 0 then m else min (m + sumL (w.take j)) 32768) + (w.getD j []).length : Nat) : Int)) then some 32768 else some (((if j = 0 then m else min (m + sumL (w.take j)) 32768) + (w.getD j []).length : Nat) : Int)) fun s2 => some s2) = some ((min (m + sumL (w.take (j + 1))) 32768 : Nat) : Int) := by
   rw [hs]
   by_cases hj0 : j = 0
   ·subst hj0
    rw [if_pos rfl, h00]
    by_cases hlt : 32768 < m + (w.getD 0 []).length
    ·rw [dec_t (by omega), cond_true, Option.bind_some]; congr 1; omega
    ·rw [dec_f (by omega), cond_false, Option.bind_some]; congr 1; omega
   ·rw [if_neg hj0]
    by_cases hlt : 32768 < min (m + sumL (w.take j)) 32768 + (w.getD j []).length
    ·rw [dec_t (by omega), cond_true, Option.bind_some]; congr 1; omega
    ·rw [dec_f (by omega), cond_false, Option.bind_some]; congr 1; omega
  have e3 : (bif decide (32768 < (((if j = 0 then m else min (m + sumL (w.take j)) 32768) + (w.getD j []).length : Nat) : Int)) then some 32768 else some (((if j = 0 then m else min (m + sumL (w.take j)) 32768) + (w.getD j []).length : Nat) : Int)) = some ((min (m + sumL (w.take (j + 1))) 32768 : Nat) : Int) := by
   rw [← e2]; cases (bif decide (32768 < (((if j = 0 then m else min (m + sumL (w.take j)) 32768) + (w.getD j []).length : Nat) : Int)) then some (32768 : Int) else some (((if j = 0 then m else min (m + sumL (w.take j)) 32768) + (w.getD j []).length : Nat) : Int)) <;> rfl
  rw [e3, Option.bind_some, w1 hj (by omega)]
  exact .ret ⟨⟨j + 1, rfl, by omega, by rw [if_neg (by omega)]⟩, by simp only [Int.toNat_natCast]; omega⟩
 ·have hc := of_decide_eq_false hc
  have : j = w.length := by omega
  subst this
  refine .ret ?_
  dsimp only
  rw [if_neg (by omega), List.take_length]
theorem qqp (l : List (List Str)) (hb : BJ l) (hl : l.length ≤ 400) : iter (fun x2 => qaM l x2.1 x2.2) (0, 0) = some (bif l.all qbC then .inl (((min (szL l) 32768 : Nat)) : Int) else .inr ([], 3)) := by
 have h := qfL (step := fun x2 : Int × Int => qaM l x2.1 x2.2) l.length (fun i => (((min (szL (l.take i)) 32768 : Nat) : Int), (i : Int))) (fun i => qbC (l.getD i [])) (fin := Sum.inl (((min (szL l) 32768 : Nat)) : Int)) (bad := Sum.inr (([] : Str), (3 : Int))) (fun i hi _ hq => ?_) (fun i hi _ hq => ?_) (fun _ => ?_)
 ·rw [qoh l [] qbC] at h
  rw [← h]
  rfl
 ·show qaM l ((min (szL (l.take i)) 32768 : Nat) : Int) (i : Int) = _
  unfold qaM
  rw [dec_t (by omega), cond_true, gd_t (inB_t hi), Int.toNat_natCast]
  have hs : szL (l.take (i + 1)) = szL (l.take i) + szW (l.getD i []) := by rw [qbu [] hi, qpT]; simp [szL]
  by_cases h0 : l.getD i [] = []
  ·rw [h0] at hs ⊢
   have hz : szW ([] : List Str) = 0 := rfl
   have e1 : wi64 (((min (szL (l.take i)) 32768 : Nat) : Int) + (([] : List Str).length : Int)) = ((min (szL (l.take (i + 1))) 32768 : Nat) : Int) := by
    rw [hs, hz, show (([] : List Str).length : Int) = 0 from rfl, wi (by omega)]; omega
   rw [dec_f (show ¬ (0 : Int) < (([] : List Str).length : Int) by simp), cond_false, Option.bind_some, cond_false, e1]
   have e2 : iter (fun x => qbA l (i : Int) x.1 x.2) (((min (szL (l.take (i + 1))) 32768 : Nat) : Int), 0) = some ((min (szL (l.take (i + 1))) 32768 : Nat) : Int) := by
    refine qec ?_
    show qbA l (i : Int) _ 0 = _
    unfold qbA
    rw [Int.toNat_natCast, h0]; rfl
   rw [e2, Option.bind_some, w1 hi (by omega)]
  ·have hw := hb _ (qaV (d := []) hi)
   have hpos : 0 < (l.getD i []).length := by cases h : l.getD i [] with | nil => exact absurd h h0 | cons => simp
   have h16 : (l.getD i []).length ≤ 16 := by
    have := hq; unfold qbC at this
    rw [Bool.and_eq_true, Bool.and_eq_true, Nat.ble_eq] at this; exact this.1.1
   rw [dec_t (show (0 : Int) < ((l.getD i []).length : Int) by omega), cond_true, ql7 _ hw.2, qha h0, hq, Option.bind_some, Option.bind_some]
   have e1 : wi64 (((min (szL (l.take i)) 32768 : Nat) : Int) + ((l.getD i []).length : Int)) = ((min (szL (l.take i)) 32768 + (l.getD i []).length : Nat) : Int) := by rw [wi (by omega)]; omega
   rw [e1, Bool.not_true, cond_false, qqo l i h0 hw.2 h16 _ (by omega), Option.bind_some, w1 hi (by omega)]
   congr 3
   rw [hs]; unfold szW; omega
 ·show qaM l ((min (szL (l.take i)) 32768 : Nat) : Int) (i : Int) = _
  have h0 : l.getD i [] ≠ [] := by
   intro e; rw [e] at hq; cases hq
  have hw := hb _ (qaV (d := []) hi)
  have hpos : 0 < (l.getD i []).length := by cases h : l.getD i [] with | nil => exact absurd h h0 | cons => simp
  unfold qaM
  rw [dec_t (by omega), cond_true, gd_t (inB_t hi), Int.toNat_natCast, dec_t (show (0 : Int) < ((l.getD i []).length : Int) by omega), cond_true, ql7 _ hw.2, qha h0, hq]; rfl
 ·show qaM l ((min (szL (l.take l.length)) 32768 : Nat) : Int) (l.length : Int) = _
  unfold qaM
  rw [dec_f (by omega), cond_false, List.take_length]
theorem qqq (l : List (List Str)) (hpr : l.all qbC = true) (hb : BJ l) (hl : l.length ≤ 400) (hsz : szL l < 32768) (n : Int) (hn : n < 32768) : iter (fun x3 => qaw l n x3.1 x3.2) (0, []) = some (qbp (txt l)) := by
 have h := qc0 (step := fun x3 : Int × List Int => qaw l n x3.1 x3.2) l.length (fun i => ((i : Int), qbp (txt (l.take i)))) (e := qbp (txt l)) (fun i hi => ?_) ?_
 ·exact h
 ·show qaw l n (i : Int) (qbp (txt (l.take i))) = _
  have hpi : qbC (l.getD i []) = true := List.all_eq_true.1 hpr _ (qaV hi)
  have hjl := qo4 (l.getD i [])
  have hw := qoq hpi (hb _ (qaV (d := []) hi)).2
  unfold szW at hw
  have htl := qjz l
  have htt := qo5 l i
  have hj2 : (Lib.join (l.getD i []) [32]).length ≤ 140737488355328 := (by omega : (joinS (l.getD i [])).length ≤ 140737488355328)
  unfold qaw
  rw [dec_t (by omega), cond_true, gd_t (inB_t hi), Int.toNat_natCast, dec_t hn, cond_true]
  have e1 : joinT (l.getD i []) [32] = some (joinS (l.getD i [])) := by
   unfold joinT
   rw [Nat.ble_eq_true_of_le (show (l.getD i []).length ≤ 140737488355328 by omega), Nat.ble_eq_true_of_le hj2]; rfl
  rw [e1, Option.bind_some, gd_t (Nat.ble_eq_true_of_le (by show (joinS (l.getD i [])).length + 1 ≤ _; omega))]
  unfold qa4 ccT
  rw [Option.bind_some, gd_t (by
   rw [Bool.and_eq_true, Nat.blt_eq]
   exact ⟨by rw [List.length_append]; simp; omega, qbG (by rw [qhR, List.length_append, show ([10] : Str).length = 1 from rfl]; omega)⟩), Option.bind_some, Option.bind_some, w1 hi (by omega)]
  simp only
  rw [qbu [] hi, qlo, qop, qgk, qgk, qgk]
 ·show qaw l n (l.length : Int) (qbp (txt (l.take l.length))) = _
  unfold qaw
  rw [dec_f (by omega), cond_false, List.take_length]
theorem qpU (l : List (List Str)) (hl : l.length ≤ 400) : iter (fun x3 => qaw l 32768 x3.1 x3.2) (0, []) = some [] := by
 have h := qc0 (step := fun x3 : Int × List Int => qaw l 32768 x3.1 x3.2) l.length (fun i => ((i : Int), ([] : List Int))) (e := []) (fun i hi => ?_) ?_
 ·exact h
 ·show qaw l 32768 (i : Int) [] = _
  unfold qaw
  rw [dec_t (by omega), cond_true, gd_t (inB_t hi), dec_f (by decide), cond_false, Option.bind_some, w1 hi (by omega)]
 ·show qaw l 32768 (l.length : Int) [] = _
  unfold qaw
  rw [dec_f (by omega)]; rfl
theorem qqr : qeJ [] = some ([], 0) := by
 have h1 : iter (fun x2 : Int × Int => qfY [] x2.1 x2.2) (0, 0) = some (.inl 0) := qec rfl
 have h2 : iter (fun x3 : Int => qfZ [] 0 x3) 0 = some () := qec rfl
 unfold qeJ
 rw [dec_f (by simp), cond_false, h1, Option.bind_some]
 simp only [Sum.elim_inl]
 rw [h2]; rfl
theorem qo6 (l : List (List Str)) (hb : BJ l) : qex l = some (qfN l) := by
 unfold qex
 cases hl : l with
 | nil => exact qqr
 | cons w0 r0 =>
  rw [← hl]
  have hne : l ≠ [] := by rw [hl]; simp
  rw [show qnW l = false by rw [hl]; rfl, cond_false]
  unfold qeK qfN
  by_cases h1 : 400 < l.length
  ·rw [dec_t (show 400 < (l.length : Int) by omega), show Nat.blt 400 l.length = true by rw [Nat.blt_eq]; exact h1]; rfl
  ·rw [dec_f (show ¬ 400 < (l.length : Int) by omega), cond_false, show Nat.blt 400 l.length = false by rw [Bool.eq_false_iff, ne_eq, Nat.blt_eq]; exact h1, cond_false, qqp l hb (by omega), Option.bind_some]
   cases ha : l.all qbC with
   | false => rfl
   | true =>
    simp only [cond_true, Sum.elim_inl, Bool.not_true, cond_false]
    have htl := qjz l
    by_cases hs : szL l < 32768
    ·have e : min (szL l) 32768 = szL l := by omega
     rw [e, qqq l ha hb (by omega) hs _ (by omega), Option.bind_some, dec_f (show ¬ ((szL l : Int) = 32768) by omega), cond_false]
     unfold qcl qbB
     rw [Option.bind_some, Option.bind_some]
     simp only
     rw [qhR]
     by_cases h5 : 16384 < (txt l).length
     ·rw [dec_t (show 16384 < ((txt l).length : Int) by omega), show Nat.blt 16384 (txt l).length = true by rw [Nat.blt_eq]; exact h5]; rfl
     ·rw [dec_f (show ¬ 16384 < ((txt l).length : Int) by omega), show Nat.blt 16384 (txt l).length = false by rw [Bool.eq_false_iff, ne_eq, Nat.blt_eq]; exact h5]
      have hpos : 0 < (txt l).length := by
       rw [hl]
       simp [txt]; omega
      rw [cond_false, gd_t (by rw [Nat.blt_eq]; exact hpos), gd_t (by
       rw [Bool.and_eq_true, Bool.and_eq_true, Nat.blt_eq]
       exact ⟨hpos, by simp, decide_eq_true (by rw [qfD])⟩), qfD]; rfl
    ·have e : min (szL l) 32768 = 32768 := by omega
     rw [e]
     rw [show (((32768 : Nat) : Int)) = 32768 from rfl, qpU l (by omega), Option.bind_some, show Nat.blt 16384 (txt l).length = true by rw [Nat.blt_eq]; omega]; rfl
end Go.Proofs.YtpgigbdefbeagaaGreatDoor
namespace Go.Proofs.YtpgigbdefbeagaaGreatDoor
open Go Go.Sq
theorem qo7 {a : List (List Str)} (h : ∀ w ∈ a, qbC w = true) (h1 : a.length ≤ 400) (h2 : (txt a).length ≤ 16384) : qfN a = (txt a, 0) := by
 unfold qfN
 rw [show Nat.blt 16384 (txt a).length = false by rw [Bool.eq_false_iff, ne_eq, Nat.blt_eq]; omega, show Nat.blt 400 a.length = false by rw [Bool.eq_false_iff, ne_eq, Nat.blt_eq]; omega, show a.all qbC = true from List.all_eq_true.2 h]; rfl
theorem qqs {a : List (List Str)} {n : Nat} (h : ∀ w ∈ a, szW w ≤ n) : szL a ≤ a.length * n := by
 induction a with
 | nil => simp [szL]
 | cons w r ih =>
  have h1 := h w (by simp)
  have h2 := ih (fun w hw => h w (by simp [hw]))
  have : szL (w :: r) = szW w + szL r := by simp [szL]
  rw [this, List.length_cons, Nat.add_mul]; omega
end Go.Proofs.YtpgigbdefbeagaaGreatDoor
