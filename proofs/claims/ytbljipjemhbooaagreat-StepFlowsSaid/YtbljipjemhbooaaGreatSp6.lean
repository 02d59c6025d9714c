/- Steps: the program does what the reference does. No condition. -/
import Derived.Test.YtbljipjemhbooaaGreatSp5
namespace Go.Proofs.YtbljipjemhbooaaGreat
open Go Go.Sq
set_option linter.unusedVariables false
section
variable {n : Net}
theorem pcopy_eq (x : Pth) (h : x.2.2.1.length ≤ 100000) : ref25_Copy x = some (x.1, x.2.1, x.2.2.2, x.2.2.1) := by
 unfold ref25_Copy
 rw [gd_t (fits_t (by omega))]; rfl
theorem inner_bind {r : Dk × Int} {o : Option (Int × List Vl × List Int × List Int × List Bool)} (h : inner r o) : inner r (o.bind fun y => some (y.1, y.2.1, y.2.2.1, y.2.2.2.1, y.2.2.2.2)) := by
 obtain ⟨y, e, h1, h2⟩ := h
 exact ⟨y, by rw [e]; rfl, h1, h2⟩
theorem apply_eq {d : Dk} (hd : VDk n d) (s : Stp) : inner (stepS n d s) (step_apply n s d.1 d.2.1 d.2.2.1 d.2.2.2) := by
 unfold stepS step_apply
 rw [show ((s.1, (s.2.1, (s.2.2.1, (s.2.2.2.1, (s.2.2.2.2.1, (s.2.2.2.2.2.1, s.2.2.2.2.2.2)))))) : Stp) = s from rfl, blank_eq, Option.bind_some, net_eta]
 cases hb : blankB s with
 | false => exact ⟨_, rfl, rfl, fun e => by cases e⟩
 | true =>
  simp only [Bool.not_true, cond_false]
  by_cases k1 : s.1 = 1
  ·rw [k1]; exact inner_bind (turn_eq hd s)
  by_cases k2 : s.1 = 2
  ·rw [k2]; exact inner_bind (turn_eq hd s)
  by_cases k3 : s.1 = 3
  ·rw [k3]; exact inner_bind (run_eq hd s)
  by_cases k4 : s.1 = 4
  ·rw [k4]; exact inner_bind (run_eq hd s)
  by_cases k5 : s.1 = 5
  ·rw [k5]; exact inner_bind (change_eq hd s)
  by_cases k6 : s.1 = 6
  ·rw [k6]; exact inner_bind (wait_eq hd s n)
  ·unfold blankB at hb
   rw [dec_f k1, dec_f k2, dec_f k3, dec_f k4, dec_f k5, dec_f k6] at hb
   cases hb
def Er (d : Dk) (r : Dk × Int) : Prop := r.2 = 0 ∨ r.1 = d
theorem Er.bif {d : Dk} {c : Bool} {x y : Dk × Int} (h : Er d x) (h' : Er d y) : Er d (bif c then x else y) := by cases c; exact h'; exact h
theorem Er.ite {d : Dk} {c : Prop} [Decidable c] {x y : Dk × Int} (h : Er d x) (h' : Er d y) : Er d (if c then x else y) := by split; exact h; exact h'
theorem step_er (d : Dk) (s : Stp) : Er d (stepS n d s) := by
 unfold stepS turnS runS chgS waitS
 have r : ∀ k, Er d (d, k) := fun k => .inr rfl
 have z : ∀ x, Er d (x, 0) := fun x => .inl rfl
 exact .bif (r _) (.bif (.bif (r _) (.bif (r _) (z _))) (.bif (.bif (r _) (.bif (r _) (z _))) (.bif (.bif (r _) (.bif (r _) (.bif (r _) (.ite (r _) (.bif (r _) (z _)))))) (.bif (r _) (z _)))))
theorem step_err (d : Dk) (s : Stp) (h : (stepS n d s).2 ≠ 0) : (stepS n d s).1 = d := (step_er d s).resolve_left h
theorem Apply_eq {d : Dk} (hz : DkS d) (s : Stp) : step_Apply n d s = some (appS n d s) := by
 unfold step_Apply appS
 rw [net_eta, show ((d.1, (d.2.1, (d.2.2.1, d.2.2.2))) : Dk) = d from rfl, deskcheck_eq, Option.bind_some, copy_eq hz, Option.bind_some, Option.bind_some]
 by_cases hc : chkDesk n d = 0
 ·have hd := VDk.of hc
  rw [dec_t hc, if_neg (fun e => e hc), Bool.not_true, cond_false, show ((s.1, (s.2.1, (s.2.2.1, (s.2.2.2.1, (s.2.2.2.2.1, (s.2.2.2.2.2.1, s.2.2.2.2.2.2)))))) : Stp) = s from rfl]
  obtain ⟨y, e, h1, h2⟩ := apply_eq hd s
  rw [e, Option.bind_some, h1]
  by_cases h0 : (stepS n d s).2 = 0
  ·rw [dec_t h0, Bool.not_true, cond_false]
   have := h2 h0
   rw [show stepS n d s = (y.2, 0) by rw [← h0, this]]
  ·rw [dec_f h0, Bool.not_false, cond_true, Option.bind_some]
   exact congrArg some (Prod.ext (step_err d s h0).symm rfl)
 ·rw [dec_f hc, if_pos hc]; rfl
end
end Go.Proofs.YtbljipjemhbooaaGreat
