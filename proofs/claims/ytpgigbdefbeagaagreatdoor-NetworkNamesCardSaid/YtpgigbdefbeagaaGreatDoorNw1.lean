/- A name is replaced. No condition. -/
import Derived.Test.YtpgigbdefbeagaaGreatDoorNw0
namespace Go.Proofs.YtpgigbdefbeagaaGreatDoor
open Go Go.Sq
theorem qle {l : List Int} (hl : ∀ x ∈ l, i64P x) (i : Int) (hi : 0 ≤ i ∧ i < 256) (j : Int) (hj : 0 ≤ j ∧ j < 256) : qb9 l i j = some true := by
 refine Ok.true ?_
 unfold qb9
 obtain ⟨s, h0, hs⟩ := qob hl
 refine Ok.eq h0 ?_
 refine Ok.bind (qoe hs) ?_
 rintro ⟨n, s', p'⟩ ⟨e, _, k, hn⟩
 have b1 := hn.k2; have b2 := hn.k6
 have e1 : n.1.length = k := by rw [hn.nodes, qhe]
 obtain ⟨a, ha, hak⟩ := cut8 (n := n.1.length) hi (by omega)
 obtain ⟨b, hb, hbk⟩ := cut8 (n := n.1.length) hj (by omega)
 simp only [ha, hb, Int.toNat_natCast, List.nil_append]
 refine Ok.gd (by rw [dec_f (by omega)]; rfl) ?_
 refine Ok.gd (by rw [dec_f (by omega)]; rfl) ?_
 refine Ok.gd (qcW (by omega)) ?_
 refine Ok.gd (qcW (by omega)) ?_
 refine Ok.gd (inB_t hbk) ?_
 refine Ok.gd (inB_t hak) ?_
 refine Ok.gd (inB_t hak) ?_
 have hnd : n.1.Nodup := by rw [hn.nodes]; exact qfE 110 (by omega)
 have hnm : ∀ x ∈ n.1, nameB x = true := List.all_eq_true.1 (by rw [hn.nodes]; exact qgi 110 (by decide) (by omega))
 have hfree : qhD (n.1.set a [102, 114, 101, 101, 45, 110, 97, 109, 101], n.2) = 0 := by
  rw [chkN hn (by rw [List.length_set]; exact e1) (List.all_eq_true.2 fun x hx => ?_), qeD ?_]
  ·rfl
  ·rw [List.nodup_iff_pairwise_ne, List.pairwise_iff_getElem]
   intro x y hx hy hxy
   rw [List.length_set] at hx hy
   have hm : ∀ z (hz : z < n.1.length), n.1[z] ≠ [102, 114, 101, 101, 45, 110, 97, 109, 101] := fun z hz e => by
    have h2 : n.1[z] ∈ nms 110 k := by rw [← hn.nodes]; exact List.getElem_mem hz
    obtain ⟨q, _, hq⟩ := qmG h2
    rw [e] at hq
    have := congrArg List.length hq
    simp [nm] at this
   rw [List.getElem_set, List.getElem_set]
   by_cases ex : a = x
   ·rw [if_pos ex, if_neg (by omega)]; exact (hm y hy).symm
   ·rw [if_neg ex]
    by_cases ey : a = y
    ·rw [if_pos ey]; exact hm x hx
    ·rw [if_neg ey]
     intro he
     have := (List.getElem_inj hnd).1 he
     omega
  ·rcases List.mem_or_eq_of_mem_set hx with h | rfl
   ·exact hnm x h
   ·decide +kernel
 have htak : qhD (n.1.set a (n.1.getD b []), n.2) = if a = b then 0 else 7 := by
  rw [chkN hn (by rw [List.length_set]; exact e1) (List.all_eq_true.2 fun x hx => ?_)]
  ·by_cases e : a = b
   ·subst e
    have : n.1.set a (n.1.getD a []) = n.1 := by
     rw [gD_eq hak]; exact List.set_getElem_self hak
    rw [this, qeD hnd, if_pos rfl]; rfl
   ·have : twL (n.1.set a (n.1.getD b [])) = true := by
     unfold twL
     rw [List.any_eq_true]
     refine ⟨max a b, List.mem_range.2 (by rw [List.length_set]; omega), ?_⟩
     rw [List.any_eq_true]
     refine ⟨min a b, List.mem_range.2 (by omega), ?_⟩
     have key : ∀ q, q = a ∨ q = b → (n.1.set a (n.1.getD b [])).getD q [] = n.1.getD b [] := by
      rintro q (rfl | rfl)
      ·rw [qnx, if_pos ⟨rfl, hak⟩]
      ·rw [qnx, if_neg (fun h => e h.1)]
     rw [key _ (by omega), key _ (by omega)]; exact decide_eq_true rfl
    rw [this, if_neg e]; rfl
  ·rcases List.mem_or_eq_of_mem_set hx with h | rfl
   ·exact hnm x h
   ·exact hnm _ (qcG hbk)
 have hmid : (bif decide ((a : Int) = (b : Int)) then (some ((0 : Int), n.1.set a [102, 114, 101, 101, 45, 110, 97, 109, 101], n.1.set a (n.1.getD b []))) else (some (7, n.1.set a [102, 114, 101, 101, 45, 110, 97, 109, 101], n.1.set a (n.1.getD b [])))) = some ((if a = b then 0 else 7 : Int), n.1.set a [102, 114, 101, 101, 45, 110, 97, 109, 101], n.1.set a (n.1.getD b [])) := by
  by_cases e : a = b
  ·subst e; rw [dec_t rfl, if_pos rfl]; rfl
  ·rw [dec_f (by omega), if_neg e]; rfl
 refine Ok.eq hmid ?_
 refine Ok.eq ((qhf _).trans (congrArg some hfree)) ?_
 refine Ok.bif (fun _ => ?_) (fun h => absurd h (by rw [dec_t rfl]; simp))
 refine Ok.eq ((qhf _).trans (congrArg some htak)) ?_
 refine Ok.bif (fun _ => ?_) (fun h => absurd h (by rw [dec_t rfl]; simp))
 refine Ok.eq qld ?_
 exact Ok.ret rfl
end Go.Proofs.YtpgigbdefbeagaaGreatDoor
