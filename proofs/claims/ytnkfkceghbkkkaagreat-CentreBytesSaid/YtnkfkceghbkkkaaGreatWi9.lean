/- Records as bytes: a record is read of its own bytes; the law's comparisons. No condition. -/
import Derived.Test.YtnkfkceghbkkkaaGreatWi8
namespace Go.Proofs.YtnkfkceghbkkkaaGreat
open Go Go.Sq
set_option linter.unusedVariables false
def At (b : List Int) (p : Nat) (l rest : List Int) : Prop := p ≤ b.length ∧ b.drop p = encs l ++ rest
theorem num_at {b : List Int} {p : Nat} {x : Int} {l rest : List Int} (h : At b p (x :: l) rest) (hx : -9223372036854775808 ≤ x ∧ x ≤ 9223372036854775807) : ∃ q, num b p true = (x, q, true) ∧ At b q l rest := by
  obtain ⟨h1, h2⟩ := h
  rw [encs_cons] at h2
  have e : b = b.take p ++ encZ x ++ (encs l ++ rest) := by
    rw [List.append_assoc, ← List.append_assoc (encZ x), ← h2, List.take_append_drop]
  have hl : (b.take p).length = p := by rw [List.length_take]; omega
  have h3 := rdI_enc 10 0 (zg x) 0 p b (b.take p) (encs l ++ rest) rfl hl.symm e (by have := zg_lt hx; simpa using this) (.inl rfl)
  rw [Nat.zero_add, Nat.mul_zero, Nat.pow_zero, Nat.mul_one, unz_zg] at h3
  refine ⟨p + (encZ x).length, ?_, ?_, ?_⟩
  · unfold num
    rw [cond_true, h3, if_pos rfl, Int.toNat_natCast]; rfl
  · have := congrArg List.length h2
    rw [List.length_drop, List.length_append, List.length_append] at this; omega
  · rw [← List.drop_drop, h2, List.append_assoc, List.drop_left]
theorem cnt_at {b : List Int} {p : Nat} {x m : Int} {l rest : List Int} (h : At b p (x :: l) rest) (hx : -9223372036854775808 ≤ x ∧ x ≤ 9223372036854775807) (h0 : 0 ≤ x) (hm : x ≤ m) : ∃ q, cnt b m p true = (x, q, true) ∧ At b q l rest := by
  obtain ⟨q, h1, h2⟩ := num_at h hx
  refine ⟨q, ?_, h2⟩
  unfold cnt
  rw [h1, if_neg (by simp only; omega)]
theorem nums_at {b : List Int} {m rest : List Int} : ∀ (l : List Int) (p : Nat) (acc : List Int), i64A l → At b p (l ++ m) rest → ∃ q, nums b l.length p true acc = (q, true, acc ++ l) ∧ At b q m rest
  | [], p, acc, _, h => ⟨p, by rw [List.append_nil]; rfl, h⟩
  | x :: l, p, acc, hi, h => by
    obtain ⟨q, h1, h2⟩ := num_at (l := l ++ m) h (hi x (by simp))
    obtain ⟨q2, h3, h4⟩ := nums_at l q (acc ++ [x]) (fun y hy => hi y (by simp [hy])) h2
    refine ⟨q2, ?_, h4⟩
    rw [List.length_cons]
    unfold nums
    rw [h1, h3]; simp
theorem hops_at {b : List Int} {m rest : List Int} : ∀ (l : List (Int × Bool)) (p : Nat) (acc : List (Int × Bool)), (∀ x ∈ l, -9223372036854775808 ≤ x.1 ∧ x.1 ≤ 9223372036854775807) → At b p (hopL l ++ m) rest → ∃ q, hops b l.length p true acc = (q, true, acc ++ l) ∧ At b q m rest
  | [], p, acc, _, h => ⟨p, by rw [List.append_nil]; rfl, h⟩
  | x :: l, p, acc, hi, h => by
    obtain ⟨a, c⟩ := x
    obtain ⟨q, h1, h2⟩ := num_at (l := (bif c then 1 else 0) :: (hopL l ++ m)) h (hi _ (by simp))
    obtain ⟨q1, g1, g2⟩ := cnt_at (m := 1) h2 (by cases c <;> decide) (by cases c <;> decide) (by cases c <;> decide)
    obtain ⟨q2, h3, h4⟩ := hops_at l q1 (acc ++ [(a, c)]) (fun y hy => hi y (by simp [hy])) g2
    refine ⟨q2, ?_, h4⟩
    rw [List.length_cons]
    unfold hops
    rw [h1]; simp only
    rw [g1]; simp only
    rw [show decide ((bif c then (1 : Int) else 0) = 1) = c by cases c <;> rfl, h3]; simp
theorem toB (l : List UInt8) : toBytes (ofBytes l) = l := by
  unfold toBytes ofBytes
  rw [List.map_map]
  conv => rhs; rw [← List.map_id l]
  apply List.map_congr_left
  intro x _
  simp
theorem dec_enc {r : Rcd} (hr : i64A (recL r)) (hh : ∀ x ∈ hps r, -9223372036854775808 ≤ x.1 ∧ x.1 ≤ 9223372036854775807) (hb : ¬ big r) : decR (encs (recL r) ++ ofBytes (shp r)) = (r, 0) := by
  simp only [big, not_or] at hb
  obtain ⟨g1, g2, g3⟩ := hb
  obtain ⟨b, hbe⟩ : ∃ b, b = encs (recL r) ++ ofBytes (shp r) := ⟨_, rfl⟩
  rw [← hbe]
  have A0 : At b 0 (recL r) (ofBytes (shp r)) := ⟨Nat.zero_le _, by rw [List.drop_zero]; exact hbe⟩
  have hr' := hr
  obtain ⟨iA, hr⟩ := i64A_app.1 hr
  obtain ⟨iV, hr⟩ := i64A_app.1 hr
  obtain ⟨iB, hr⟩ := i64A_app.1 hr
  obtain ⟨iH, iC⟩ := i64A_app.1 hr
  obtain ⟨kind, vs, ⟨s1, s2, s3, s4, s5, hs, s6⟩, sh, ek, ev⟩ := r
  obtain ⟨p1, e1, A1⟩ := num_at (x := kind) A0 (iA _ (by simp [recA]))
  have E1 : d1 b = (kind, p1, true) := e1
  obtain ⟨p2, e2, A2⟩ := cnt_at (x := (vs.length : Int)) (m := 21) A1 (iA _ (by simp [recA])) (by omega) (by simp only at g1; omega)
  have E2 : d2 b = ((vs.length : Int), p2, true) := by unfold d2; rw [E1]; exact e2
  obtain ⟨p3, e3, A3⟩ := nums_at vs p2 [] iV A2
  have E3 : dv b = (p3, true, vs) := by unfold dv; rw [E2]; simp only [Int.toNat_natCast]; rw [e3]; rfl
  obtain ⟨p4, e4, A4⟩ := num_at (x := s1) A3 (iB _ (by simp [recB]))
  have E4 : d3 b = (s1, p4, true) := by unfold d3; rw [E3]; exact e4
  obtain ⟨p5, e5, A5⟩ := num_at (x := s2) A4 (iB _ (by simp [recB]))
  have E5 : d4 b = (s2, p5, true) := by unfold d4; rw [E4]; exact e5
  obtain ⟨p6, e6, A6⟩ := num_at (x := s3) A5 (iB _ (by simp [recB]))
  have E6 : d5 b = (s3, p6, true) := by unfold d5; rw [E5]; exact e6
  obtain ⟨p7, e7, A7⟩ := num_at (x := s4) A6 (iB _ (by simp [recB]))
  have E7 : d6 b = (s4, p7, true) := by unfold d6; rw [E6]; exact e7
  obtain ⟨p8, e8, A8⟩ := num_at (x := s5) A7 (iB _ (by simp [recB]))
  have E8 : d7 b = (s5, p8, true) := by unfold d7; rw [E7]; exact e8
  have g2' : (hs.length : Int) ≤ 32 := by have : ¬ (32 : Int) < (hs.length : Int) := g2; omega
  obtain ⟨p9, e9, A9⟩ := cnt_at (x := (hs.length : Int)) (m := 32) A8 (by omega) (by omega) g2'
  have E9 : d8 b = ((hs.length : Int), p9, true) := by unfold d8; rw [E8]; exact e9
  obtain ⟨p10, e10, A10⟩ := hops_at hs p9 [] hh A9
  have E10 : dh b = (p10, true, hs) := by unfold dh; rw [E9]; simp only [Int.toNat_natCast]; rw [e10]; rfl
  obtain ⟨p11, e11, A11⟩ := num_at (x := s6) A10 (iC _ (by simp [recC]))
  have E11 : d9 b = (s6, p11, true) := by unfold d9; rw [E10]; exact e11
  obtain ⟨p12, e12, A12⟩ := num_at (x := ek) A11 (iC _ (by simp [recC]))
  have E12 : d10 b = (ek, p12, true) := by unfold d10; rw [E11]; exact e12
  obtain ⟨p13, e13, A13⟩ := num_at (x := ev) A12 (iC _ (by simp [recC]))
  have E13 : d11 b = (ev, p13, true) := by unfold d11; rw [E12]; exact e13
  have g3' : (sh.length : Int) ≤ 12 := by have : ¬ (12 : Int) < (sh.length : Int) := g3; omega
  obtain ⟨p14, e14, A14⟩ := cnt_at (x := (sh.length : Int)) (m := 12) A13 (by omega) (by omega) g3'
  have E14 : d12 b = ((sh.length : Int), p14, true) := by unfold d12; rw [E13]; exact e14
  obtain ⟨l14, D14⟩ := A14
  rw [encs_nil, List.nil_append] at D14
  have hlen := congrArg List.length D14
  rw [List.length_drop] at hlen
  have hof : (ofBytes sh).length = sh.length := by unfold ofBytes; rw [List.length_map]
  have hlen2 : b.length - p14 = sh.length := hlen.trans hof
  unfold decR
  rw [if_neg (by rw [E14]; simp only [not_or]; exact ⟨by decide, by omega⟩), E14, E13, E12, E11, E10, E8, E7, E6, E5, E4, E3, E1]
  simp only
  rw [D14]
  show _ = _
  rw [show toBytes (ofBytes (shp (kind, vs, (s1, s2, s3, s4, s5, hs, s6), sh, ek, ev))) = sh from toB sh]
end Go.Proofs.YtnkfkceghbkkkaaGreat
