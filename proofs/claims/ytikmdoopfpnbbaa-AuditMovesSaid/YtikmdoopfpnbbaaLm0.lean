/- Walks along lists; names. No condition. -/
import Derived.Test.YtikmdoopfpnbbaaQu
import Derived.Test.YtikmdoopfpnbbaaSqZ
namespace Go.Proofs.Ytikmdoopfpnbbaa
open Go Go.Sq
set_option linter.unusedVariables false
abbrev Str := List UInt8
theorem qoN {A : Type} (l : List A) (d : A) (q : A → Bool) : (List.range l.length).all (fun i => q (l.getD i d)) = l.all q := by
 rw [Bool.eq_iff_iff, qfI, List.all_eq_true]
 constructor
 ·intro h x hx
  obtain ⟨k, hk, rfl⟩ := qj8 d hx
  exact h k hk
 ·intro h i hi
  exact h _ (qaL hi)
theorem scan {A ε : Type} (l : List A) (d : A) {step : Int → Option (Int ⊕ ε)} (q : A → Bool) {fin bad : ε}
  (h1 : ∀ i, i < l.length → q (l.getD i d) = true → step (i : Int) = some (.inl ((i + 1 : Nat) : Int)))
  (h2 : ∀ i, i < l.length → q (l.getD i d) = false → step (i : Int) = some (.inr bad)) (h3 : step (l.length : Int) = some (.inr fin)) : iter step 0 = some (bif l.all q then fin else bad) := by
 have := qbb (step := step) l.length (fun i => (i : Int)) (fun i => q (l.getD i d)) (fin := fin) (bad := bad) (fun i hi _ hq => h1 i hi hq) (fun i hi _ hq => h2 i hi hq) (fun _ => h3)
 rw [qoN] at this
 exact this
theorem w1 {i n : Nat} (h : i < n) (hn : n ≤ 4611686018427387904) : wi64 ((i : Int) + 1) = ((i + 1 : Nat) : Int) := by rw [wi (by omega)]; omega
theorem inB0 {n : Nat} (h : 0 < n) : inB 0 n = true := qa0.2 ⟨by omega, by omega⟩
theorem eqU (b c : UInt8) (n : Int) (h : (c.toNat : Int) = n) : decide ((Int.ofNat b.toNat) = n) = (b == c) := by
 rw [Bool.eq_iff_iff, decide_eq_true_iff, beq_iff_eq]
 simp only [Int.ofNat_eq_natCast]
 constructor
 ·intro e; exact UInt8.toNat_inj.1 (by omega)
 ·rintro rfl; exact h
def fch (b : UInt8) : Bool := Nat.ble 97 b.toNat && Nat.ble b.toNat 122
def nch (b : UInt8) : Bool := fch b || (Nat.ble 48 b.toNat && Nat.ble b.toNat 57) || b == 45
def nameB (s : Str) : Bool := Nat.ble 1 s.length && Nat.ble s.length 12 && fch (s.headD 0) && s.all nch
theorem qpJ (s : Str) (hl : s.length ≤ 1000000) : qbD s = some (nameB s) := by
 have k1 : ∀ b : UInt8, decide ((Int.ofNat b.toNat) < 97) = !Nat.ble 97 b.toNat := by
  intro b; rw [Bool.eq_iff_iff, decide_eq_true_iff, Bool.not_eq_true', Bool.eq_false_iff, ne_eq, Nat.ble_eq]; simp only [Int.ofNat_eq_natCast]; omega
 have k2 : ∀ b : UInt8, decide (122 < (Int.ofNat b.toNat)) = !Nat.ble b.toNat 122 := by
  intro b; rw [Bool.eq_iff_iff, decide_eq_true_iff, Bool.not_eq_true', Bool.eq_false_iff, ne_eq, Nat.ble_eq]; simp only [Int.ofNat_eq_natCast]; omega
 have k3 : ∀ b : UInt8, decide ((Int.ofNat b.toNat) < 48) = !Nat.ble 48 b.toNat := by
  intro b; rw [Bool.eq_iff_iff, decide_eq_true_iff, Bool.not_eq_true', Bool.eq_false_iff, ne_eq, Nat.ble_eq]; simp only [Int.ofNat_eq_natCast]; omega
 have k4 : ∀ b : UInt8, decide (57 < (Int.ofNat b.toNat)) = !Nat.ble b.toNat 57 := by
  intro b; rw [Bool.eq_iff_iff, decide_eq_true_iff, Bool.not_eq_true', Bool.eq_false_iff, ne_eq, Nat.ble_eq]; simp only [Int.ofNat_eq_natCast]; omega
 have step : ∀ i, i < s.length → qbK s (i : Int) = some (bif nch (s.getD i 0) then .inl ((i + 1 : Nat) : Int) else .inr (.inr false)) := by
  intro i hi
  unfold qbK
  simp only [gd_t (inB_t hi), Int.toNat_natCast]
  rw [dec_t (show (i : Int) < (s.length : Int) by omega), cond_true, k1, k2, k3, k4, eqU _ 45 45 rfl, w1 hi (by omega)]
  unfold nch fch
  cases Nat.ble 97 (s.getD i 0).toNat <;> cases Nat.ble (s.getD i 0).toNat 122 <;> cases Nat.ble 48 (s.getD i 0).toNat <;> cases Nat.ble (s.getD i 0).toNat 57 <;> cases s.getD i 0 == 45 <;> rfl
 have h : iter (fun x => qbK s x) 0 = some (bif s.all nch then .inl () else .inr false) := by
  refine scan s 0 nch (fun i hi hq => ?_) (fun i hi hq => ?_) ?_
  ·rw [step i hi, hq]; rfl
  ·rw [step i hi, hq]; rfl
  ·unfold qbK
   rw [dec_f (by omega)]; rfl
 unfold qbD nameB
 by_cases h1 : s.length < 1
 ·rw [dec_t (show (s.length : Int) < 1 by omega), show Nat.ble 1 s.length = false by rw [Bool.eq_false_iff, ne_eq, Nat.ble_eq]; omega]; rfl
 ·rw [dec_f (show ¬ (s.length : Int) < 1 by omega), cond_false, show Nat.ble 1 s.length = true by rw [Nat.ble_eq]; omega]
  by_cases h2 : 12 < s.length
  ·rw [dec_t (show 12 < (s.length : Int) by omega), show Nat.ble s.length 12 = false by rw [Bool.eq_false_iff, ne_eq, Nat.ble_eq]; omega]; rfl
  ·rw [dec_f (show ¬ 12 < (s.length : Int) by omega), cond_false, show Nat.ble s.length 12 = true by rw [Nat.ble_eq]; omega, gd_t (inB0 (by omega)), gd_t (inB0 (by omega)), k1, k2, h]
   have hh : s.getD 0 0 = s.headD 0 := by cases s <;> rfl
   rw [hh]
   unfold fch
   cases Nat.ble 97 (s.headD 0).toNat <;> cases Nat.ble (s.headD 0).toNat 122 <;> cases s.all nch <;> rfl
theorem qke (s : Str) : qbD s = some (nameB s) := by
 by_cases hl : s.length ≤ 1000000
 ·exact qpJ s hl
 ·unfold qbD nameB
  rw [dec_f (show ¬ (s.length : Int) < 1 by omega), cond_false, dec_t (show 12 < (s.length : Int) by omega), show Nat.ble s.length 12 = false by rw [Bool.eq_false_iff, ne_eq, Nat.ble_eq]; omega]
  cases Nat.ble 1 s.length <;> rfl
end Go.Proofs.Ytikmdoopfpnbbaa
