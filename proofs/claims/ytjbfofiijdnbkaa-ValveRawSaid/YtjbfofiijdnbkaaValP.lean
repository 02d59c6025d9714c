/- Valves and readers of numbers, in plain Lean. No condition. -/
import Derived.Test.YtjbfofiijdnbkaaSpK
namespace Go.Proofs.Ytjbfofiijdnbkaa
open Go Go.RowKit Go.Sp

structure Valve where
  travel : Int
  opn : Int
  want : Bool
  stuck : Bool
def Valve.sv (v : Valve) : SV := .agg [.i v.travel, .i v.opn, .b v.want, .b v.stuck]
def validB (v : Valve) : Bool := decide (1 ≤ v.travel) && (decide (v.travel ≤ 60) && (decide (0 ≤ v.opn) && decide (v.opn ≤ v.travel)))
def goalI (v : Valve) : Int := if v.want then v.travel else 0
def movedV (v : Valve) (n : Int) : Valve := if v.stuck then v else if v.opn < goalI v then { v with opn := min (goalI v) (v.opn + n) } else { v with opn := max (goalI v) (v.opn - n) }
theorem valid_bd {v : Valve} (h : validB v = true) : 1 ≤ v.travel ∧ v.travel ≤ 60 ∧ 0 ≤ v.opn ∧ v.opn ≤ v.travel := by simpa [validB] using h
theorem goal_bd {v : Valve} (h : validB v = true) : 0 ≤ goalI v ∧ goalI v ≤ 60 := by have := valid_bd h; unfold goalI; split <;> omega
def passV (v : Valve) (n : Int) : Valve × Int := if validB v = false then (v, 20) else if n < 0 ∨ 400 < n then (v, 1) else (movedV v n, 0)
def commandV (v : Valve) (b : Bool) : Valve × Int := if validB v = true then ({ v with want := b }, 0) else (v, 20)
def openB (v : Valve) : Bool := validB v && decide (v.opn = v.travel)
def closedB (v : Valve) : Bool := validB v && decide (v.opn = 0)
def leftI (v : Valve) : Int := if validB v = false then -1 else if v.stuck = true ∧ 0 < max (goalI v - v.opn) (v.opn - goalI v) then -1 else max (goalI v - v.opn) (v.opn - goalI v)

/-- A reader of numbers. -/
structure Src where
  l : List Int
  p : Int
def small (x : Int) : Prop := -9223372036854775808 ≤ x ∧ x ≤ 9223372036854775807
def Src.ok (s : Src) : Prop := s.l.length ≤ 2000 ∧ (0 ≤ s.p ∧ s.p ≤ 2000) ∧ ∀ x ∈ s.l, small x
def modI (x n : Int) : Int := if n < 1 then 0 else x % n
def raw (s : Src) : Int × Src := if s.l.length ≤ s.p then (0, s) else (s.l.getD s.p.toNat 0, { s with p := s.p + 1 })
def nn (s : Src) (n : Int) : Int × Src := (modI (raw s).1 n, (raw s).2)
def pick (s : Src) (l : List Int) : Int × Src := (l.getD (nn s l.length).1.toNat 0, (nn s l.length).2)
theorem modI_bd (x n : Int) (h : 0 < n) : 0 ≤ modI x n ∧ modI x n < n := by
  unfold modI
  simp only [if_neg (show ¬ n < 1 by omega)]
  exact ⟨Int.emod_nonneg _ (by omega), Int.emod_lt_of_pos _ h⟩
theorem raw_ok' {s : Src} (h : s.ok) : (raw s).2.ok := by
  obtain ⟨h1, h2, h3⟩ := h
  unfold raw; split
  · exact ⟨h1, h2, h3⟩
  · exact ⟨h1, by simp; omega, h3⟩
theorem raw_bd {s : Src} (h : s.ok) : small (raw s).1 := by
  obtain ⟨h1, h2, h3⟩ := h
  unfold raw; split
  · simp [small]
  · have hlt : s.p.toNat < s.l.length := by omega
    have : s.l.getD s.p.toNat 0 = s.l[s.p.toNat] := by simp [List.getD_eq_getElem?_getD, List.getElem?_eq_getElem hlt]
    simp only [this]
    exact h3 _ (List.getElem_mem hlt)
theorem nn_ok' {s : Src} (n : Int) (h : s.ok) : (nn s n).2.ok := raw_ok' h
theorem pick_ok' {s : Src} (l : List Int) (h : s.ok) : (pick s l).2.ok := raw_ok' h
theorem nn_bd (s : Src) (n : Int) (h : 0 < n) : 0 ≤ (nn s n).1 ∧ (nn s n).1 < n := by
  unfold nn modI
  simp only [if_neg (show ¬ n < 1 by omega)]
  exact ⟨Int.emod_nonneg _ (by omega), Int.emod_lt_of_pos _ h⟩
def Valve.fits (v : Valve) : Prop := -9223372036854775808 ≤ v.travel ∧ v.travel ≤ 9223372036854775807 ∧ -9223372036854775808 ≤ v.opn ∧ v.opn ≤ 9223372036854775807
theorem moved_zero {v : Valve} (h : validB v = true) : movedV v 0 = v := by
  obtain ⟨h1, h2, h3, h4⟩ := valid_bd h
  obtain ⟨g1, g2⟩ := goal_bd h
  obtain ⟨t, o, a, b⟩ := v
  simp only [movedV, Int.add_zero, Int.sub_zero]
  split
  · rfl
  · split
    · rw [show min (goalI ⟨t, o, a, b⟩) o = o by omega]
    · rw [show max (goalI ⟨t, o, a, b⟩) o = o by omega]
theorem moved_valid {v : Valve} {n : Int} (h : validB v = true) (hn : 0 ≤ n) : validB (movedV v n) = true := by
  obtain ⟨h1, h2, h3, h4⟩ := valid_bd h
  obtain ⟨g1, g2⟩ := goal_bd h
  have g3 : goalI v ≤ v.travel := by unfold goalI; split <;> omega
  unfold movedV
  split
  · exact h
  · split <;> simp only [validB, Bool.and_eq_true, decide_eq_true_eq] <;> omega
theorem moved_step {v : Valve} (i : Int) (h : validB v = true) (hi : 0 ≤ i) : passV (movedV v i) 1 = (movedV v (i + 1), 0) := by
  have hv := moved_valid (n := i) h hi
  simp only [passV, hv, Bool.true_eq_false, if_false, if_neg (show ¬ ((1 : Int) < 0 ∨ 400 < 1) by omega)]
  obtain ⟨h1, h2, h3, h4⟩ := valid_bd h
  obtain ⟨g1, g2⟩ := goal_bd h
  congr 1
  obtain ⟨t, o, a, b⟩ := v
  cases b
  · cases a <;> simp [movedV, goalI] at * <;> grind
  · simp [movedV]
/-- A command that is taken back. -/
theorem back_law (t n : Int) (st : Bool) (ht : 0 ≤ t ∧ t < 256) (hn : 0 ≤ n ∧ n < 256) : ∃ q, commandV ⟨1 + t % 60, 0, false, st⟩ true = (⟨1 + t % 60, 0, true, st⟩, 0) ∧ passV ⟨1 + t % 60, 0, true, st⟩ (n % (1 + t % 60 + 1)) = (⟨1 + t % 60, q, true, st⟩, 0) ∧
    commandV ⟨1 + t % 60, q, true, st⟩ false = (⟨1 + t % 60, q, false, st⟩, 0) ∧ passV ⟨1 + t % 60, q, false, st⟩ (n % (1 + t % 60 + 1)) = (⟨1 + t % 60, 0, false, st⟩, 0) ∧
    ((st && decide (q = 0) && decide (leftI ⟨1 + t % 60, 0, true, st⟩ = -1)) = true ∨ ((!st) && decide (q = n % (1 + t % 60 + 1)) && decide (leftI ⟨1 + t % 60, q, false, st⟩ = n % (1 + t % 60 + 1))) = true) ∧ True := by
  have h1 : 0 ≤ t % 60 ∧ t % 60 < 60 := by omega
  generalize hT : 1 + t % 60 = T at *
  have hT' : 1 ≤ T ∧ T ≤ 60 := by omega
  have h2 := Int.emod_nonneg n (show T + 1 ≠ 0 by omega)
  have h3 := Int.emod_lt_of_pos n (show 0 < T + 1 by omega)
  generalize n % (T + 1) = k at *
  refine ⟨if st then 0 else k, ?_, ?_, ?_, ?_, ?_, trivial⟩ <;> cases st <;> simp [commandV, passV, movedV, goalI, validB, leftI] <;> grind
end Go.Proofs.Ytjbfofiijdnbkaa
