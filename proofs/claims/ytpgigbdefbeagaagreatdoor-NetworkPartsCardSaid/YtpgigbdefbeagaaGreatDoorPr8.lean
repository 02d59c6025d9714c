/- Lines, words and numbers. No condition. -/
import Derived.Test.YtpgigbdefbeagaaGreatDoorPr4
namespace Go.Proofs.YtpgigbdefbeagaaGreatDoor
open Go Go.Sq
theorem qo8 : ∀ u : Nat, Digs u (Lib.decDigits u) := by
 intro u
 induction u using Nat.strongRecOn with
 | ind u ih =>
  by_cases h : u < 10
  ·rw [Lib.decDigits_one h, show UInt8.ofNat (48 + u) = chr u by unfold chr; rw [Nat.mod_eq_of_lt h]]
   have hn := qlm u
   rw [Nat.mod_eq_of_lt h] at hn
   refine ⟨by simp, by simp [qom], ?_, fun h0 e => ?_, fun h0 => by subst h0; rfl⟩
   ·show 0 * 10 + ((chr u).toNat - 48) = u
    omega
   ·have e' : chr u = 48 := e
    rw [e'] at hn
    have : (48 : UInt8).toNat = 48 := rfl
    omega
  ·have h10 := ih (u / 10) (by omega)
   rw [Lib.decDigits, dif_neg h]
   refine ⟨by simp, ?_, ?_, fun h0 => ?_, fun h0 => by omega⟩
   ·rw [List.all_append, h10.all]
    have := qom u
    unfold chr at this
    rw [List.all_cons, this]; rfl
   ·rw [ql5, h10.val]
    have := qlm u
    unfold chr at this
    rw [this]; omega
   ·have := h10.hd (by omega)
    obtain ⟨a, r, e, _⟩ := h10.head
    rw [e] at this ⊢
    exact this
theorem qor : ∀ (m u : Nat), u < 10 ^ (m + 1) → (Lib.decDigits u).length ≤ m + 1
 | 0, u, h => by rw [Lib.decDigits_one (by omega)]; simp
 | m + 1, u, h => by
  by_cases h10 : u < 10
  ·rw [Lib.decDigits_one h10]; simp
  ·rw [Lib.decDigits, dif_neg h10, List.length_append]
   have := qor m (u / 10) (by rw [Nat.pow_succ] at h; omega)
   simp; omega
theorem qjA {n : Int} (h : 0 ≤ n) : Lib.itoa n = Lib.decDigits n.toNat := by unfold Lib.itoa; rw [if_neg (by omega)]
theorem qpV {b : UInt8} (h : dig b = true) : wch b = true := by
 unfold dig at h
 unfold wch
 simp only [Bool.and_eq_true, Nat.ble_eq] at h ⊢
 omega
theorem qpW {b : UInt8} (h : nch b = true) : wch b = true := by
 unfold nch fch at h
 unfold wch
 simp only [Bool.and_eq_true, Bool.or_eq_true, Nat.ble_eq, beq_iff_eq] at h ⊢
 rcases h with (h | h) | h
 ·omega
 ·omega
 ·subst h; decide
theorem qkm {n : Int} (h0 : 0 ≤ n) : wordB (Lib.itoa n) = true := by
 rw [qjA h0]
 have h := qo8 n.toNat
 unfold wordB
 rw [Bool.and_eq_true, List.all_eq_true]
 refine ⟨fun b hb => qpV (List.all_eq_true.1 h.all b hb), ?_⟩
 obtain ⟨a, r, e, _⟩ := h.head
 rw [e]; rfl
/-! ### A product as a line -/
theorem qgM {s : Str} (h : nameB s = true) : wordB s = true ∧ s.length ≤ 12 := by
 unfold nameB at h
 simp only [Bool.and_eq_true, Nat.ble_eq] at h
 refine ⟨?_, h.1.1.2⟩
 unfold wordB
 rw [Bool.and_eq_true, List.all_eq_true]
 refine ⟨fun b hb => qpW (List.all_eq_true.1 h.2 b hb), ?_⟩
 cases s with
 | nil => have := h.1.1.1; simp at this
 | cons => rfl
end Go.Proofs.YtpgigbdefbeagaaGreatDoor
