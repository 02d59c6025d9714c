/- Lines, words and numbers. No condition. -/
import Derived.Test.YtpgigbdefbeagaaGreatDoorPr4
namespace Go.Proofs.YtpgigbdefbeagaaGreatDoor
open Go Go.Sq
theorem qnZ (c : UInt8) : ∀ x : Str, sumL (splB c x) + (splB c x).length = x.length + 1
 | [] => rfl
 | b :: l => by
  have ih := qnZ c l
  unfold splB
  cases hb : b == c with
  | true =>
   simp only [cond_true, List.length_cons]
   have : sumL ([] :: splB c l) = sumL (splB c l) := by simp [sumL]
   omega
  | false =>
   simp only [cond_false]
   split
   ·rename_i h; exact absurd h (qjC c l)
   ·rename_i h t hs
    rw [hs] at ih
    have e1 : sumL ((b :: h) :: t) = h.length + 1 + sumL t := by simp [sumL]
    have e2 : sumL (h :: t) = h.length + sumL t := by simp [sumL]
    simp only [List.length_cons] at ih ⊢
    omega
def tot (ls : List Str) : Nat := (ls.map fun x => x.length + 1).sum
theorem qiG (x : Str) (r : List Str) : tot (x :: r) = x.length + 1 + tot r := by simp [tot]
theorem qqp : ∀ s : Str, tot (lns s) ≤ s.length + 1
 | [] => by simp [lns, tot]
 | b :: l => by
  have ih := qqp l
  unfold lns
  cases hb : b == (10 : UInt8) with
  | true => simp only [cond_true, qiG, List.length_cons, List.length_nil]; omega
  | false =>
   simp only [cond_false]
   split
   ·simp only [qiG, List.length_cons, List.length_nil]; simp [tot]
   ·rename_i h t hs
    rw [hs] at ih
    simp only [qiG, List.length_cons] at ih ⊢
    omega
theorem qqq {x : Str} {w : List Str} (h : qkd x = some w) : qa7 w = true ∧ (joinS w).length ≤ x.length ∧ (∀ s ∈ w, s.length ≤ x.length) := by
 unfold qkd at h
 cases hc : x.isEmpty || x.headD 0 == 35 with
 | true => rw [hc] at h; injection h with h; subst h; exact ⟨rfl, by simp [joinS, Lib.join, List.intercalate], fun s hs => by cases hs⟩
 | false =>
  rw [hc] at h
  cases hw : qgr (splB 32 x) with
  | false => rw [hw] at h; cases h
  | true =>
   rw [hw] at h; injection h with h; subst h
   refine ⟨by rw [← ql1 (qjC 32 x)]; exact hw, ?_, fun s hs => qgE hs⟩
   have h1 := qhY (qjC 32 x)
   have h2 := qnZ 32 x
   omega
theorem ql2 : ∀ {ls : List Str} {c : List (List Str)}, qb2 ls = some c → c.length = ls.length ∧ (txt c).length ≤ tot ls ∧ ∀ w ∈ c, qa7 w = true ∧ ∀ s ∈ w, s.length ≤ tot ls
 | [], c, h => by injection h with h; subst h; exact ⟨rfl, by simp [txt, tot], fun w hw => by cases hw⟩
 | x :: r, c, h => by
  rw [qhl] at h
  split at h
  ·cases h
  ·rename_i w hw
   obtain ⟨q, hq, rfl⟩ := Option.map_eq_some_iff.1 h
   obtain ⟨i1, i2, i3⟩ := ql2 hq
   obtain ⟨j1, j2, j3⟩ := qqq hw
   rw [qiG]
   have e : (txt (w :: q)).length = (joinS w).length + 1 + (txt q).length := by simp [txt]; omega
   refine ⟨by simp [i1], by omega, fun w' hw' => ?_⟩
   rcases List.mem_cons.1 hw' with rfl | hw'
   ·exact ⟨j1, fun s hs => by have := j3 s hs; omega⟩
   ·exact ⟨(i3 w' hw').1, fun s hs => by have := (i3 w' hw').2 s hs; omega⟩
theorem qrp : ∀ u : Nat, Digs u (Lib.decDigits u) := by
 intro u
 induction u using Nat.strongRecOn with
 | ind u ih =>
  by_cases h : u < 10
  ·rw [Lib.decDigits_one h, show UInt8.ofNat (48 + u) = chr u by unfold chr; rw [Nat.mod_eq_of_lt h]]
   have hn := qid u
   rw [Nat.mod_eq_of_lt h] at hn
   refine ⟨by simp, by simp [qk4], ?_, fun h0 e => ?_, fun h0 => by subst h0; rfl⟩
   ·show 0 * 10 + ((chr u).toNat - 48) = u
    omega
   ·have e' : chr u = 48 := e
    rw [e'] at hn
    have : (48 : UInt8).toNat = 48 := rfl
    omega
  ·have h10 := ih (u / 10) (by omega)
   rw [Lib.decDigits, dif_neg h]
   refine ⟨by simp, ?_, ?_, fun h0 => ?_, fun h0 => by omega⟩
   ·rw [List.all_append, h10.all]
    have := qk4 u
    unfold chr at this
    rw [List.all_cons, this]; rfl
   ·rw [qhV, h10.val]
    have := qid u
    unfold chr at this
    rw [this]; omega
   ·have := h10.hd (by omega)
    obtain ⟨a, r, e, _⟩ := h10.head
    rw [e] at this ⊢
    exact this
theorem qqr : ∀ (m u : Nat), u < 10 ^ (m + 1) → (Lib.decDigits u).length ≤ m + 1
 | 0, u, h => by rw [Lib.decDigits_one (by omega)]; simp
 | m + 1, u, h => by
  by_cases h10 : u < 10
  ·rw [Lib.decDigits_one h10]; simp
  ·rw [Lib.decDigits, dif_neg h10, List.length_append]
   have := qqr m (u / 10) (by rw [Nat.pow_succ] at h; omega)
   simp; omega
theorem qn0 {n : Int} (h : 0 ≤ n) : Lib.itoa n = Lib.decDigits n.toNat := by unfold Lib.itoa; rw [if_neg (by omega)]
theorem qsz {b : UInt8} (h : dig b = true) : wch b = true := by
 unfold dig at h
 unfold wch
 simp only [Bool.and_eq_true, Nat.ble_eq] at h ⊢
 omega
theorem qsA {b : UInt8} (h : nch b = true) : wch b = true := by
 unfold nch fch at h
 unfold wch
 simp only [Bool.and_eq_true, Bool.or_eq_true, Nat.ble_eq, beq_iff_eq] at h ⊢
 rcases h with (h | h) | h
 ·omega
 ·omega
 ·subst h; decide
theorem ql3 {n : Int} (h0 : 0 ≤ n) : wordB (Lib.itoa n) = true := by
 rw [qn0 h0]
 have h := qrp n.toNat
 unfold wordB
 rw [Bool.and_eq_true, List.all_eq_true]
 refine ⟨fun b hb => qsz (List.all_eq_true.1 h.all b hb), ?_⟩
 obtain ⟨a, r, e, _⟩ := h.head
 rw [e]; rfl
/-! ### A product as a line -/
theorem ql4 {s : Str} (h : nameB s = true) : wordB s = true ∧ s.length ≤ 12 := by
 unfold nameB at h
 simp only [Bool.and_eq_true, Nat.ble_eq] at h
 refine ⟨?_, h.1.1.2⟩
 unfold wordB
 rw [Bool.and_eq_true, List.all_eq_true]
 refine ⟨fun b hb => qsA (List.all_eq_true.1 h.2 b hb), ?_⟩
 cases s with
 | nil => have := h.1.1.1; simp at this
 | cons => rfl
end Go.Proofs.YtpgigbdefbeagaaGreatDoor
