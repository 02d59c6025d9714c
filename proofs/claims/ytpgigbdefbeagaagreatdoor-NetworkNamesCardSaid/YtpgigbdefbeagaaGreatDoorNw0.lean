/- Networks of other nodes, or of other ports. No condition. -/
import Derived.Test.YtpgigbdefbeagaaGreatDoorNk5
namespace Go.Proofs.YtpgigbdefbeagaaGreatDoor
open Go Go.Sq
theorem chkN {k : Nat} {n : Net} (h : NetP k n) {m : List Str} (hl0 : m.length = k) (hf0 : m.all nameB = true) : qhD (m, n.2) = bif twL m then 7 else 0 := by
 have a1 := h.k2; have a2 := h.k6; have a3 := h.segs.len; have a4 := h.ports.len; have a5 := h.stats.len; have a6 := h.some'
 have hl : limB (m, n.2) = true := (qkB _).2 ⟨by show 1 ≤ m.length; omega, by show m.length ≤ 24; omega, by show n.2.1.length ≤ 32; omega, by show n.2.2.1.length ≤ 24; omega, by show n.2.2.2.1.length ≤ 12; omega, fun s hs => ⟨(h.segs.rng s hs).pts.l2, (h.segs.rng s hs).pts.l8⟩⟩
 have hf : formB (m, n.2) = true := by
  unfold formB nmsOf
  simp only [List.all_cons, List.all_nil]
  rw [hf0, h.segs.nam, h.ports.nam, h.stats.nam, qgi 103 (by decide) (by omega), qgi 113 (by decide) (by omega), qgi 115 (by decide) (by omega)]; rfl
 have htS : twS n.2.2.2.1 = false := by
  unfold twS
  rw [List.any_eq_false]
  intro i hi
  rw [Bool.not_eq_true, List.any_eq_false]
  intro q hq
  have hi := List.mem_range.1 hi
  have hq := List.mem_range.1 hq
  rw [decide_eq_true_eq]
  intro he
  have hd := h.stats.dif
  have e1 : ∀ j (hj : j < n.2.2.2.1.length), (n.2.2.2.1.getD j sta0).2.1 = (n.2.2.2.1.map (·.2.1))[j]'(by simpa using hj) := fun j hj => by
   rw [List.getElem_map, List.getD_eq_getElem?_getD, List.getElem?_eq_getElem hj]; rfl
  rw [e1 q (by omega), e1 i hi] at he
  have := (List.getElem_inj hd).1 he
  omega
 have ht : twB (m, n.2) = twL m := by
  unfold twB nmsOf
  simp only [List.any_cons, List.any_nil]
  rw [h.segs.nam, h.ports.nam, h.stats.nam, qeD (qfE 103 (by omega)), qeD (qfE 113 (by omega)), qeD (qfE 115 (by omega)), htS]
  simp
 have hk : knB (m, n.2) = true := by
  unfold knB kn
  rw [Bool.and_eq_true, Bool.and_eq_true, List.all_eq_true, List.all_eq_true, List.all_eq_true]
  simp only [hl0]
  refine ⟨fun s hs => ?_, fun s hs => ?_, fun s hs => ?_⟩
  ·have := h.segs.rng s hs
   have b1 := this.f0; have b2 := this.f1; have b3 := this.t0; have b4 := this.t1
   rw [decide_eq_true b1, decide_eq_true b3, decide_eq_true (by omega), decide_eq_true (by omega)]; rfl
  ·have := h.ports.rng s hs
   rw [decide_eq_true this.1, decide_eq_true (by omega)]; rfl
  ·have := h.stats.rng s hs
   rw [decide_eq_true this.1, decide_eq_true (by omega)]; rfl
 have hp : prB (m, n.2) = true := by
  unfold prB
  rw [rg_t h.vap, rg_t h.set, List.all_eq_true.2 fun s hs => qoh (h.segs.rng s hs), List.all_eq_true.2 fun s hs => rg_t (h.ports.rng s hs).2.2, List.all_eq_true.2 fun s hs => ?_]
  ·rfl
  ·have := h.stats.rng s hs
   unfold stB
   rw [rg_t this.2.2.1, rg_t this.2.2.2.1, rg_t this.2.2.2.2]; rfl
 unfold qhD
 rw [hl, hf, ht, hk, hp]
 cases twL m <;> rfl
set_option maxRecDepth 100000 in
theorem qld : qfc = some true := by kernel_rfl
theorem cut8 {i : Int} {n : Nat} (hi : 0 ≤ i ∧ i < 256) (hn : 0 < n) : ∃ a : Nat, Int.tmod (wi64 i) (n : Int) = (a : Int) ∧ a < n := by
 rw [wi (by omega), Int.tmod_eq_emod_of_nonneg hi.1]
 have h1 := Int.emod_nonneg i (show (n : Int) ≠ 0 by omega)
 have h2 := Int.emod_lt_of_pos i (show (0 : Int) < n by omega)
 exact ⟨(i % (n : Int)).toNat, by omega, by omega⟩
end Go.Proofs.YtpgigbdefbeagaaGreatDoor
