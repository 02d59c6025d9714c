/- Networks that are made of numbers are valid. No condition. -/
import Derived.Test.YtnkfkceghbkkkaaGreatLa2
import Derived.Test.YtnkfkceghbkkkaaGreatNk4
namespace Go.Proofs.YtnkfkceghbkkkaaGreat
open Go Go.Sq
theorem nms_form (c : UInt8) (hc : c ∈ [(110 : UInt8), 103, 113, 115, 112]) {m : Nat} (hm : m ≤ 26) : (nms c m).all nameB = true := by
 have key : ∀ c ∈ [(110 : UInt8), 103, 113, 115, 112], ∀ i ∈ List.range 26, nameB (nm c i) = true := by decide +kernel
 rw [List.all_eq_true]
 intro x hx
 obtain ⟨j, hj, rfl⟩ := nms_mem hx
 exact key c hc j (List.mem_range.2 (by omega))
theorem twL_nodup {l : List Str} (h : l.Nodup) : twL l = false := by
 unfold twL
 rw [List.any_eq_false]
 intro i hi
 rw [Bool.not_eq_true, List.any_eq_false]
 intro k hk
 have hi := List.mem_range.1 hi
 have hk := List.mem_range.1 hk
 rw [decide_eq_true_eq]
 intro he
 rw [List.getD_eq_getElem?_getD, List.getD_eq_getElem?_getD, List.getElem?_eq_getElem (by omega), List.getElem?_eq_getElem (by omega)] at he
 have := (List.getElem_inj h (h₀ := hi) (h₁ := (by omega : k < l.length))).1 he
 omega
theorem rg_t {lo hi x : Int} (h : lo ≤ x ∧ x ≤ hi) : rg lo hi x = true := by
 unfold rg
 rw [decide_eq_true h.1, decide_eq_true h.2]; rfl
theorem pipe_t {k : Nat} {s : Seg} (h : SegP k s) : pipeB s = true := by
 have a1 := h.pts.l2
 unfold pipeB
 rw [decide_eq_false h.ne, rg_t h.cap, rg_t h.res, rg_t h.wav]
 have e1 : (s.2.2.2.2.2.2.getD 0 pt0).1 = 0 := h.pts.fst
 have e2 : (s.2.2.2.2.2.2.getD (s.2.2.2.2.2.2.length - 1) pt0).1 = s.2.2.2.1 := h.pts.lst
 rw [decide_eq_true e1, decide_eq_true e2]
 simp only [Bool.not_false, Bool.and_self, Bool.true_and, Bool.and_true]
 rw [List.all_eq_true]
 intro i hi
 have hi := List.mem_range.1 hi
 have hr := h.pts.rng _ (gD_mem (d := pt0) hi)
 unfold ptB
 rw [rg_t ⟨hr.1, hr.2.1⟩, rg_t ⟨hr.2.2.1, hr.2.2.2⟩]
 simp only [Bool.true_and]
 cases i with
 | zero => rfl
 | succ j =>
  have := h.pts.inc j hi
  have e3 : (s.2.2.2.2.2.2.getD (j + 1 - 1) pt0).1 < (s.2.2.2.2.2.2.getD (j + 1) pt0).1 := this
  rw [decide_eq_true e3, Bool.or_true]
theorem chk0 {k : Nat} {n : Net} (h : NetP k n) : chkNet n = 0 := by
 have a1 := h.k2; have a2 := h.k6; have a3 := h.segs.len; have a4 := h.ports.len; have a5 := h.stats.len; have a6 := h.some'
 have e : n.1.length = k := by rw [h.nodes, nms_len]
 have hl : limB n = true := (limB_iff n).2 ⟨by omega, by omega, by omega, by omega, by omega, fun s hs => ⟨(h.segs.rng s hs).pts.l2, (h.segs.rng s hs).pts.l8⟩⟩
 have hf : formB n = true := by
  unfold formB nmsOf
  rw [h.nodes, h.segs.nam, h.ports.nam, h.stats.nam]
  simp only [List.all_cons, List.all_nil]
  rw [nms_form 110 (by decide) (by omega), nms_form 103 (by decide) (by omega), nms_form 113 (by decide) (by omega), nms_form 115 (by decide) (by omega)]; rfl
 have ht : twB n = false := by
  unfold twB nmsOf
  rw [h.nodes, h.segs.nam, h.ports.nam, h.stats.nam]
  simp only [List.any_cons, List.any_nil]
  rw [twL_nodup (nms_nodup 110 (by omega)), twL_nodup (nms_nodup 103 (by omega)), twL_nodup (nms_nodup 113 (by omega)), twL_nodup (nms_nodup 115 (by omega))]
  simp only [Bool.or_self, Bool.false_or]
  unfold twS
  rw [List.any_eq_false]
  intro i hi
  rw [Bool.not_eq_true, List.any_eq_false]
  intro q hq
  have hi := List.mem_range.1 hi
  have hq := List.mem_range.1 hq
  rw [decide_eq_true_eq]
  intro he
  have hd := h.stats.dif
  have e1 : ∀ j (hj : j < n.2.2.2.1.length), (n.2.2.2.1.getD j sta0).2.1 = (n.2.2.2.1.map (·.2.1))[j]'(by simpa using hj) := fun j hj => by
   rw [List.getElem_map, List.getD_eq_getElem?_getD, List.getElem?_eq_getElem hj]; rfl
  rw [e1 q (by omega), e1 i hi] at he
  have := (List.getElem_inj hd).1 he
  omega
 have hk : knB n = true := by
  unfold knB kn
  rw [Bool.and_eq_true, Bool.and_eq_true, List.all_eq_true, List.all_eq_true, List.all_eq_true]
  refine ⟨fun s hs => ?_, fun s hs => ?_, fun s hs => ?_⟩
  ·have := h.segs.rng s hs
   have b1 := this.f0; have b2 := this.f1; have b3 := this.t0; have b4 := this.t1
   rw [decide_eq_true b1, decide_eq_true b3, decide_eq_true (by omega), decide_eq_true (by omega)]; rfl
  ·have := h.ports.rng s hs
   rw [decide_eq_true this.1, decide_eq_true (by omega)]; rfl
  ·have := h.stats.rng s hs
   rw [decide_eq_true this.1, decide_eq_true (by omega)]; rfl
 have hp : prB n = true := by
  unfold prB
  rw [rg_t h.vap, rg_t h.set, List.all_eq_true.2 fun s hs => pipe_t (h.segs.rng s hs), List.all_eq_true.2 fun s hs => rg_t (h.ports.rng s hs).2.2, List.all_eq_true.2 fun s hs => ?_]
  ·rfl
  ·have := h.stats.rng s hs
   unfold stB
   rw [rg_t this.2.2.1, rg_t this.2.2.2.1, rg_t this.2.2.2.2]; rfl
 unfold chkNet
 rw [hl, hf, ht, hk, hp]; rfl
end Go.Proofs.YtnkfkceghbkkkaaGreat
