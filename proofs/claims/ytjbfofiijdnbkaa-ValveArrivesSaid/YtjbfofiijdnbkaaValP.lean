/- Valves and readers of numbers, in plain Lean. No condition. -/
import Derived.Test.YtjbfofiijdnbkaaSpK
namespace Go.Proofs.Ytjbfofiijdnbkaa
open Go Go.RowKit Go.Sp

structure Valve where
  travel : Int
  opn : Int
  want : Bool
  stuck : Bool
def Valve.sv (v : Valve) : SV := .agg [.i v.travel, .i v.opn, .b v.want, .b v.stuck]
def validB (v : Valve) : Bool := decide (1 ≤ v.travel) && (decide (v.travel ≤ 60) && (decide (0 ≤ v.opn) && decide (v.opn ≤ v.travel)))
def goalI (v : Valve) : Int := if v.want then v.travel else 0
def movedV (v : Valve) (n : Int) : Valve := if v.stuck then v else if v.opn < goalI v then { v with opn := min (goalI v) (v.opn + n) } else { v with opn := max (goalI v) (v.opn - n) }
theorem valid_bd {v : Valve} (h : validB v = true) : 1 ≤ v.travel ∧ v.travel ≤ 60 ∧ 0 ≤ v.opn ∧ v.opn ≤ v.travel := by simpa [validB] using h
theorem goal_bd {v : Valve} (h : validB v = true) : 0 ≤ goalI v ∧ goalI v ≤ 60 := by have := valid_bd h; unfold goalI; split <;> omega
def passV (v : Valve) (n : Int) : Valve × Int := if validB v = false then (v, 20) else if n < 0 ∨ 400 < n then (v, 1) else (movedV v n, 0)
def commandV (v : Valve) (b : Bool) : Valve × Int := if validB v = true then ({ v with want := b }, 0) else (v, 20)
def openB (v : Valve) : Bool := validB v && decide (v.opn = v.travel)
def closedB (v : Valve) : Bool := validB v && decide (v.opn = 0)
def leftI (v : Valve) : Int := if validB v = false then -1 else if v.stuck = true ∧ 0 < max (goalI v - v.opn) (v.opn - goalI v) then -1 else max (goalI v - v.opn) (v.opn - goalI v)

/-- A reader of numbers. -/
structure Src where
  l : List Int
  p : Int
def small (x : Int) : Prop := -9223372036854775808 ≤ x ∧ x ≤ 9223372036854775807
def Src.ok (s : Src) : Prop := s.l.length ≤ 2000 ∧ (0 ≤ s.p ∧ s.p ≤ 2000) ∧ ∀ x ∈ s.l, small x
def modI (x n : Int) : Int := if n < 1 then 0 else x % n
def raw (s : Src) : Int × Src := if s.l.length ≤ s.p then (0, s) else (s.l.getD s.p.toNat 0, { s with p := s.p + 1 })
def nn (s : Src) (n : Int) : Int × Src := (modI (raw s).1 n, (raw s).2)
def pick (s : Src) (l : List Int) : Int × Src := (l.getD (nn s l.length).1.toNat 0, (nn s l.length).2)
theorem modI_bd (x n : Int) (h : 0 < n) : 0 ≤ modI x n ∧ modI x n < n := by
  unfold modI
  simp only [if_neg (show ¬ n < 1 by omega)]
  exact ⟨Int.emod_nonneg _ (by omega), Int.emod_lt_of_pos _ h⟩
theorem raw_ok' {s : Src} (h : s.ok) : (raw s).2.ok := by
  obtain ⟨h1, h2, h3⟩ := h
  unfold raw; split
  · exact ⟨h1, h2, h3⟩
  · exact ⟨h1, by simp; omega, h3⟩
theorem raw_bd {s : Src} (h : s.ok) : small (raw s).1 := by
  obtain ⟨h1, h2, h3⟩ := h
  unfold raw; split
  · simp [small]
  · have hlt : s.p.toNat < s.l.length := by omega
    have : s.l.getD s.p.toNat 0 = s.l[s.p.toNat] := by simp [List.getD_eq_getElem?_getD, List.getElem?_eq_getElem hlt]
    simp only [this]
    exact h3 _ (List.getElem_mem hlt)
theorem nn_ok' {s : Src} (n : Int) (h : s.ok) : (nn s n).2.ok := raw_ok' h
theorem pick_ok' {s : Src} (l : List Int) (h : s.ok) : (pick s l).2.ok := raw_ok' h
theorem nn_bd (s : Src) (n : Int) (h : 0 < n) : 0 ≤ (nn s n).1 ∧ (nn s n).1 < n := by
  unfold nn modI
  simp only [if_neg (show ¬ n < 1 by omega)]
  exact ⟨Int.emod_nonneg _ (by omega), Int.emod_lt_of_pos _ h⟩
def Valve.fits (v : Valve) : Prop := -9223372036854775808 ≤ v.travel ∧ v.travel ≤ 9223372036854775807 ∧ -9223372036854775808 ≤ v.opn ∧ v.opn ≤ 9223372036854775807
theorem moved_zero {v : Valve} (h : validB v = true) : movedV v 0 = v := by
  obtain ⟨h1, h2, h3, h4⟩ := valid_bd h
  obtain ⟨g1, g2⟩ := goal_bd h
  obtain ⟨t, o, a, b⟩ := v
  simp only [movedV, Int.add_zero, Int.sub_zero]
  split
  · rfl
  · split
    · rw [show min (goalI ⟨t, o, a, b⟩) o = o by omega]
    · rw [show max (goalI ⟨t, o, a, b⟩) o = o by omega]
theorem moved_valid {v : Valve} {n : Int} (h : validB v = true) (hn : 0 ≤ n) : validB (movedV v n) = true := by
  obtain ⟨h1, h2, h3, h4⟩ := valid_bd h
  obtain ⟨g1, g2⟩ := goal_bd h
  have g3 : goalI v ≤ v.travel := by unfold goalI; split <;> omega
  unfold movedV
  split
  · exact h
  · split <;> simp only [validB, Bool.and_eq_true, decide_eq_true_eq] <;> omega
theorem moved_step {v : Valve} (i : Int) (h : validB v = true) (hi : 0 ≤ i) : passV (movedV v i) 1 = (movedV v (i + 1), 0) := by
  have hv := moved_valid (n := i) h hi
  simp only [passV, hv, Bool.true_eq_false, if_false, if_neg (show ¬ ((1 : Int) < 0 ∨ 400 < 1) by omega)]
  obtain ⟨h1, h2, h3, h4⟩ := valid_bd h
  obtain ⟨g1, g2⟩ := goal_bd h
  congr 1
  obtain ⟨t, o, a, b⟩ := v
  cases b
  · cases a <;> simp [movedV, goalI] at * <;> grind
  · simp [movedV]
/-- A command that is taken back. -/
theorem back_law (t n : Int) (st : Bool) (ht : 0 ≤ t ∧ t < 256) (hn : 0 ≤ n ∧ n < 256) : ∃ q, commandV ⟨1 + t % 60, 0, false, st⟩ true = (⟨1 + t % 60, 0, true, st⟩, 0) ∧ passV ⟨1 + t % 60, 0, true, st⟩ (n % (1 + t % 60 + 1)) = (⟨1 + t % 60, q, true, st⟩, 0) ∧
    commandV ⟨1 + t % 60, q, true, st⟩ false = (⟨1 + t % 60, q, false, st⟩, 0) ∧ passV ⟨1 + t % 60, q, false, st⟩ (n % (1 + t % 60 + 1)) = (⟨1 + t % 60, 0, false, st⟩, 0) ∧
    ((st && decide (q = 0) && decide (leftI ⟨1 + t % 60, 0, true, st⟩ = -1)) = true ∨ ((!st) && decide (q = n % (1 + t % 60 + 1)) && decide (leftI ⟨1 + t % 60, q, false, st⟩ = n % (1 + t % 60 + 1))) = true) ∧ True := by
  have h1 : 0 ≤ t % 60 ∧ t % 60 < 60 := by omega
  generalize hT : 1 + t % 60 = T at *
  have hT' : 1 ≤ T ∧ T ≤ 60 := by omega
  have h2 := Int.emod_nonneg n (show T + 1 ≠ 0 by omega)
  have h3 := Int.emod_lt_of_pos n (show 0 < T + 1 by omega)
  generalize n % (T + 1) = k at *
  refine ⟨if st then 0 else k, ?_, ?_, ?_, ?_, ?_, trivial⟩ <;> cases st <;> simp [commandV, passV, movedV, goalI, validB, leftI] <;> grind
theorem pick_mem (s : Src) (l : List Int) (h : 0 < l.length) : (pick s l).1 ∈ l := by
  have hb := nn_bd s (l.length : Int) (by omega)
  have hlt : (nn s l.length).1.toNat < l.length := by omega
  have : (pick s l).1 = l[(nn s l.length).1.toNat] := by simp [pick, List.getD_eq_getElem?_getD, List.getElem?_eq_getElem hlt]
  rw [this]
  exact List.getElem_mem hlt
theorem pick5_bd (s : Src) : 1 ≤ (pick s [1, 2, 3, 6, 60]).1 ∧ (pick s [1, 2, 3, 6, 60]).1 ≤ 60 := by
  have := pick_mem s [1, 2, 3, 6, 60] (by decide)
  simp only [List.mem_cons, List.not_mem_nil, or_false] at this
  omega
/-- A valve that is made of numbers. -/
def valveOf (s : Src) : Valve × Src :=
  let a := pick s [1, 2, 3, 6, 60]
  let b := nn a.2 2
  let c := nn b.2 8
  let d := nn c.2 (a.1 + 1)
  let e := pick d.2 [0, a.1, d.1]
  (⟨a.1, e.1, decide (b.1 = 0), decide (c.1 = 7)⟩, e.2)
theorem valveOf_valid (s : Src) (b : Bool) : validB ⟨(valveOf s).1.travel, (valveOf s).1.opn, (valveOf s).1.want, b⟩ = true := by
  have h1 := pick5_bd s
  simp only [valveOf]
  generalize pick s [1, 2, 3, 6, 60] = a at *
  have h2 := nn_bd (nn (nn a.2 2).2 8).2 (a.1 + 1) (by omega)
  generalize nn (nn (nn a.2 2).2 8).2 (a.1 + 1) = d at *
  have h3 := pick_mem d.2 [0, a.1, d.1] (by simp)
  generalize pick d.2 [0, a.1, d.1] = e at *
  simp only [List.mem_cons, List.not_mem_nil, or_false] at h3
  simp only [validB, Bool.and_eq_true, decide_eq_true_eq]
  omega
theorem arrive_law (v : Valve) (hv : validB ⟨v.travel, v.opn, v.want, false⟩ = true) : ∃ n q y : Int, leftI ⟨v.travel, v.opn, v.want, false⟩ = n ∧ (0 ≤ n ∧ n ≤ v.travel ∧ v.travel ≤ 60) ∧
    passV ⟨v.travel, v.opn, v.want, false⟩ n = (⟨v.travel, q, v.want, false⟩, 0) ∧ openB ⟨v.travel, q, v.want, false⟩ = v.want ∧ closedB ⟨v.travel, q, v.want, false⟩ = !v.want ∧
    passV ⟨v.travel, v.opn, v.want, false⟩ (max 0 (n - 1)) = (⟨v.travel, y, v.want, false⟩, 0) ∧ (n = 0 ∨ y ≠ q) ∧ passV ⟨v.travel, q, v.want, false⟩ 5 = (⟨v.travel, q, v.want, false⟩, 0) := by
  obtain ⟨t, o, w, u⟩ := v
  obtain ⟨h1, h2, h3, h4⟩ := valid_bd hv
  simp only at *
  cases w
  · refine ⟨o, 0, if o = 0 then 0 else 1, ?_, ⟨h3, h4, h2⟩, ?_, ?_, ?_, ?_, ?_, ?_⟩ <;> simp [leftI, passV, movedV, goalI, openB, closedB, validB] <;> grind
  · refine ⟨t - o, t, if o = t then t else t - 1, ?_, ⟨by omega, by omega, h2⟩, ?_, ?_, ?_, ?_, ?_, ?_⟩ <;> simp [leftI, passV, movedV, goalI, openB, closedB, validB] <;> grind
end Go.Proofs.Ytjbfofiijdnbkaa
