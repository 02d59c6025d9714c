/- A valid network's rows are read as that network. No condition. -/
import Derived.Test.YtpgigbdefbeagaaGreatDoorNq2
namespace Go.Proofs.YtpgigbdefbeagaaGreatDoor
open Go Go.Sq
section
variable {v se : Int} {nodes : List Str} {X : List (List Str)}
end
end Go.Proofs.YtpgigbdefbeagaaGreatDoor
namespace Go.Proofs.YtpgigbdefbeagaaGreatDoor
open Go Go.Sq
structure Sml (a : Net) : Prop where
 no : a.1.length ≤ 1000
 sg : a.2.1.length ≤ 1000
 po : a.2.2.1.length ≤ 1000
 st : a.2.2.2.1.length ≤ 1000
 pt : ∀ g ∈ a.2.1, g.2.2.2.2.2.2.length ≤ 1000
theorem qqD {a : Net} (h : Sml a) : qel a a = some true := by
 have a1 := h.no; have a2 := h.sg; have a3 := h.po; have a4 := h.st
 have k0 : iter (fun x => qbN a a x) 0 = some (.inl ()) := qb0 (step := fun x => qbN a a x) a.1.length (fun i => ((i : Nat) : Int)) (fun i hi => by
  show qbN a a ((i : Nat) : Int) = _
  unfold qbN
  rw [dec_t (by omega), cond_true, gd_t (inB_t hi), gd_t (inB_t hi), dec_t rfl, Bool.not_true, cond_false, w1 hi (by omega)]) (by
  show qbN a a ((a.1.length : Nat) : Int) = _
  unfold qbN
  rw [dec_f (by omega)]; rfl)
 have k2 : ∀ i, i < a.2.1.length → iter (fun x => qbO a a (i : Nat) x) 0 = some (.inl ()) := fun i hi => by
  have hp := h.pt _ (qaC (d := sg0) hi)
  refine qb0 (step := fun x => qbO a a (i : Nat) x) (a.2.1.getD i sg0).2.2.2.2.2.2.length (fun i => ((i : Nat) : Int)) (fun j hj => ?_) ?_
  ·show qbO a a ((i : Nat) : Int) ((j : Nat) : Int) = _
   unfold qbO
   simp only [Int.toNat_natCast]
   rw [dec_t (show (j : Int) < (((a.2.1.getD i sg0).2.2.2.2.2.2.length : Nat) : Int) by omega), cond_true, gd_t (inB_t hj), gd_t (inB_t hj)]
   simp only [decide_true, Bool.and_self, Bool.not_true, cond_false]
   rw [w1 hj (by omega)]
  ·show qbO a a ((i : Nat) : Int) (((a.2.1.getD i sg0).2.2.2.2.2.2.length : Nat) : Int) = _
   unfold qbO
   simp only [Int.toNat_natCast]
   rw [dec_f (show ¬ (((a.2.1.getD i sg0).2.2.2.2.2.2.length : Nat) : Int) < (((a.2.1.getD i sg0).2.2.2.2.2.2.length : Nat) : Int) by omega)]; rfl
 have k1 : iter (fun x => qbP a a x) 0 = some (.inl ()) := qb0 (step := fun x => qbP a a x) a.2.1.length (fun i => ((i : Nat) : Int)) (fun i hi => by
  show qbP a a ((i : Nat) : Int) = _
  unfold qbP
  rw [dec_t (by omega), cond_true, gd_t (inB_t hi), gd_t (inB_t hi)]
  simp only [decide_true, Bool.not_true, cond_false, Option.bind_some]
  rw [k2 i hi, Option.bind_some]
  show some (Sum.inl (wi64 ((i : Int) + 1))) = _
  rw [w1 hi (by omega)]) (by
  show qbP a a ((a.2.1.length : Nat) : Int) = _
  unfold qbP
  rw [dec_f (by omega)]; rfl)
 have k3 : iter (fun x => qbQ a a x) 0 = some (.inl ()) := qb0 (step := fun x => qbQ a a x) a.2.2.1.length (fun i => ((i : Nat) : Int)) (fun i hi => by
  show qbQ a a ((i : Nat) : Int) = _
  unfold qbQ
  rw [dec_t (by omega), cond_true, gd_t (inB_t hi), gd_t (inB_t hi)]
  simp only [decide_true, Bool.and_self, Bool.not_true, cond_false]
  rw [w1 hi (by omega)]) (by
  show qbQ a a ((a.2.2.1.length : Nat) : Int) = _
  unfold qbQ
  rw [dec_f (by omega)]; rfl)
 have k4 : iter (fun x => qbR a a x) 0 = some (.inl ()) := qb0 (step := fun x => qbR a a x) a.2.2.2.1.length (fun i => ((i : Nat) : Int)) (fun i hi => by
  show qbR a a ((i : Nat) : Int) = _
  unfold qbR
  rw [dec_t (by omega), cond_true, gd_t (inB_t hi), gd_t (inB_t hi)]
  simp only [decide_true, Bool.and_self, Bool.not_true, cond_false]
  rw [w1 hi (by omega)]) (by
  show qbR a a ((a.2.2.2.1.length : Nat) : Int) = _
  unfold qbR
  rw [dec_f (by omega)]; rfl)
 unfold qel
 simp only [decide_true, Bool.not_true, cond_false, Option.bind_some]
 rw [k0, Option.bind_some, Sum.elim_inl, k1, Option.bind_some, Sum.elim_inl, k3, Option.bind_some, Sum.elim_inl, k4, Option.bind_some, Sum.elim_inl]
theorem Val.sml {n : Net} (h : Val n) : Sml n := by
 have := h.small
 exact ⟨by have := this.no; omega, by have := this.sg; omega, by have := this.po; omega, by have := this.st; omega, fun g hg => by have := (this.pt g hg).2; omega⟩
end Go.Proofs.YtpgigbdefbeagaaGreatDoor
