/- CentreBytes. No condition. -/
import Derived.Test.YtnkfkceghbkkkaaGreatWi10
namespace Go.Proofs.YtnkfkceghbkkkaaGreat
open Go Go.Sq
set_option linter.unusedVariables false
theorem sameI {l : List Int} (h : l.length ≤ 1000000) : ref23_SameInts l l = some true := by
  unfold ref23_SameInts
  rw [dec_t rfl]
  have hi : iter (fun x => ref23_SameInts_L0 l l x) 0 = some (.inl ()) := by
    refine iter_for l.length (fun i => (i : Int)) (fun i hi => ?_) ?_
    · unfold ref23_SameInts_L0
      rw [dec_t (by omega), cond_true, inB_t hi, gd_tt, gd_tt, dec_t rfl]
      simp only [Bool.not_true, cond_false]
      rw [show wi64 ((i : Int) + 1) = ((i + 1 : Nat) : Int) by rw [wi (by omega)]; omega]
    · unfold ref23_SameInts_L0
      rw [dec_f (by omega), cond_false]
  exact (congrArg (fun o => Option.bind o _) hi).trans rfl
theorem sameP {p : Int × Int × List (Int × Bool) × Int} (h : p.2.2.1.length ≤ 1000000) : ref25_Alike p p = some true := by
  unfold ref25_Alike
  rw [dec_t (p := p.1 = p.1) rfl, dec_t (p := p.2.1 = p.2.1) rfl, dec_t (p := (p.2.2.1.length : Int) = (p.2.2.1.length : Int)) rfl]
  simp only [Bool.not_true, cond_false, Option.bind_some]
  have hi : iter (fun x => ref25_Alike_L0 p p x) 0 = some (.inl ()) := by
    refine iter_for p.2.2.1.length (fun i => (i : Int)) (fun i hi => ?_) ?_
    · unfold ref25_Alike_L0
      rw [dec_t (by omega), cond_true, inB_t hi, gd_tt, gd_tt, dec_t rfl]
      simp only [beq_self_eq_true, Bool.and_true, Bool.not_true, cond_false]
      rw [show wi64 ((i : Int) + 1) = ((i + 1 : Nat) : Int) by rw [wi (by omega)]; omega]
    · unfold ref25_Alike_L0
      rw [dec_f (by omega), cond_false]
  exact (congrArg (fun o => Option.bind o _) hi).trans rfl
theorem sameR {r : Rcd} (h1 : r.2.1.length ≤ 1000000) (h2 : (hps r).length ≤ 1000000) : ref41_SameRecord r r = some true := by
  unfold ref41_SameRecord
  rw [dec_t rfl, cond_true, sameI h1, Option.bind_some, cond_true]
  have e : ref26_SameStep r.2.2.1 r.2.2.1 = some true := by
    unfold ref26_SameStep
    rw [dec_t rfl, cond_true, dec_t rfl, cond_true, dec_t rfl, cond_true, dec_t rfl, cond_true]
    exact (congrArg (fun o => Option.bind o _) (sameP (p := r.2.2.1.2.2.2) h2)).trans rfl
  refine (congrArg (fun o => Option.bind o _) e).trans ?_
  rw [Option.bind_some, cond_true, dec_t rfl, dec_t rfl, dec_t rfl]; rfl
theorem nums_len {b : List Int} : ∀ (n p : Nat) (ok : Bool) (l : List Int), (nums b n p ok l).2.2.length = n + l.length
  | 0, p, ok, l => by unfold nums; simp only; omega
  | n + 1, p, ok, l => by unfold nums; rw [nums_len n]; simp; omega
theorem hops_len {b : List Int} : ∀ (n p : Nat) (ok : Bool) (l : List (Int × Bool)), (hops b n p ok l).2.2.length = n + l.length
  | 0, p, ok, l => by unfold hops; simp only; omega
  | n + 1, p, ok, l => by unfold hops; rw [hops_len n]; simp; omega
theorem decR_len (b : List Int) : (decR b).1.2.1.length ≤ 21 ∧ (hps (decR b).1).length ≤ 32 := by
  unfold decR
  split
  · exact ⟨by simp [zR], by simp [zR, hps]⟩
  · have h1 := cnt_in (b := b) (m := 21) (by omega) (p := (d1 b).2.1) (ok := (d1 b).2.2)
    have h2 := cnt_in (b := b) (m := 32) (by omega) (p := (d7 b).2.1) (ok := (d7 b).2.2)
    refine ⟨?_, ?_⟩
    · show (dv b).2.2.length ≤ 21
      unfold dv; rw [nums_len]
      have : (d2 b).1 ≤ 21 := h1.2
      simp; omega
    · show (dh b).2.2.length ≤ 32
      unfold dh; rw [hops_len]
      have : (d8 b).1 ≤ 32 := h2.2
      simp; omega
theorem sameD (b : List Int) : ref41_SameRecord (decR b).1 (decR b).1 = some true := by
  obtain ⟨h1, h2⟩ := decR_len b
  exact sameR (by omega) (by omega)
theorem bytes_true (b : List Int) (hb : bytesP b) (r : Rcd) (hr : i64A (recL r)) (hh : ∀ x ∈ hps r, -9223372036854775808 ≤ x.1 ∧ x.1 ≤ 9223372036854775807) (at_ by_ : Int) (ha : -9223372036854775808 ≤ at_ ∧ at_ ≤ 9223372036854775807) (hy : 0 ≤ by_ ∧ by_ ≤ 255)
    (hmod : ∀ k : Nat, 1 ≤ k → k ≤ 1000000 → second_Mod at_ (k : Int) = some (at_ % (k : Int))) : law41_CentreBytes b r at_ by_ = some true := by
  have hw : Ok law41_awake (fun b => b = true) := ⟨true, awake_true, rfl⟩
  refine Ok.true ?_
  unfold law41_CentreBytes
  refine Ok.bind (Q := fun s => s = false → b.length ≤ 300 ∧ r.2.1.length ≤ 100 ∧ (hps r).length ≤ 100) ?_ fun s hs => ?_
  · refine Ok.bif (fun _ => .ret fun e => (by cases e)) fun h1 => Ok.bif (fun _ => .ret fun e => (by cases e)) fun h2 => Ok.bif (fun _ => .ret fun e => (by cases e)) fun h3 => .ret fun _ => ?_
    have h1 := of_decide_eq_false h1
    have h2 := of_decide_eq_false h2
    have h3 : ¬ (100 : Int) < ((hps r).length : Int) := of_decide_eq_false h3
    omega
  refine Ok.bif (fun _ => Ok.bind hw fun x hx => .ret hx) fun hsf => ?_
  obtain ⟨g1, g2, g3⟩ := hs hsf
  refine Ok.eq (wenc hr hh) (Ok.eq (renc hr) ?_)
  refine Ok.bind (Q := fun z : List Int × Bool => z = ((encR r).2, false)) (Ok.bif (fun h => by simp at h) fun _ => .ret (by simp)) ?_
  rintro _ rfl
  rw [cond_false]
  refine Ok.eq (wdec hb (by omega)) (Ok.eq (rdec hb (by omega)) ?_)
  refine Ok.bind (Q := fun z : Bool => z = false) (Ok.bif (fun h => by simp at h) fun _ => Ok.eq (sameD b) (.ret rfl)) ?_
  rintro _ rfl
  rw [cond_false]
  refine Ok.bif (fun _ => Ok.bind hw fun x hx => .ret hx) fun h0 => ?_
  have h0 : (encR r).1 = 0 := by simpa using h0
  have hbig : ¬ big r := fun h => by unfold encR at h0; rw [if_pos h] at h0; exact absurd h0 (by decide)
  have he : encR r = (0, encs (recL r) ++ ofBytes (shp r)) := if_neg hbig
  have hde := dec_enc hr hh hbig
  rw [he]
  simp only
  generalize hye : encs (recL r) ++ ofBytes (shp r) = y at hde ⊢
  have hyl : 0 < y.length ∧ y.length ≤ 20000 := by
    have l1 := encs_len hr
    have p1 : 0 < (encs (recL r)).length := by unfold recL recA; rw [List.cons_append, encs_cons, List.length_append]; have := enc_pos (zg r.1); unfold encZ; omega
    have sB : (recB r).length = 6 := rfl
    have sC : (recC r).length = 4 := rfl
    have sA : (recA r).length = 2 := rfl
    have sH := hopL_len (hps r)
    have sL : (recL r).length = 12 + r.2.1.length + 2 * (hps r).length := by unfold recL; simp only [List.length_append]; omega
    simp only [big, not_or] at hbig
    have : (ofBytes (shp r)).length = (shp r).length := by unfold ofBytes; rw [List.length_map]
    rw [← hye, List.length_append]; omega
  have hyb : bytesP y := by
    rw [← hye]; intro x hx
    rcases List.mem_append.1 hx with hx | hx
    · exact encs_bytes x hx
    · unfold ofBytes at hx
      obtain ⟨c, _, rfl⟩ := List.mem_map.1 hx
      have := c.toNat_lt
      omega
  refine Ok.eq (wdec hyb (by omega)) ?_
  rw [hde]
  refine Ok.bind (Q := fun z : Bool => z = false) (Ok.bif (fun h => by simp at h) fun _ => Ok.eq (sameR (r := r) (by omega) (by omega)) (Ok.bif (fun h => by simp at h) fun _ => .ret (dec_f (by (try simp only); omega)))) ?_
  rintro _ rfl
  rw [cond_false]
  refine Ok.gd (fits_t (by omega)) ?_
  rw [List.nil_append]
  refine Ok.eq (hmod y.length (by omega) (by omega)) ?_
  have hm1 := Int.emod_nonneg at_ (show (y.length : Int) ≠ 0 by omega)
  have hm2 := Int.emod_lt_of_pos at_ (show (0 : Int) < (y.length : Int) by omega)
  refine Ok.gd (inB_iff.2 ⟨hm1, hm2⟩) ?_
  have hzb : bytesP (y.set (at_ % (y.length : Int)).toNat by_) := by
    intro x hx
    rcases List.mem_or_eq_of_mem_set hx with hx | rfl
    · exact hyb x hx
    · exact hy
  refine Ok.eq (wdec hzb (by rw [List.length_set]; omega)) (Ok.eq (rdec hzb (by rw [List.length_set]; omega)) ?_)
  refine Ok.bif (fun _ => Ok.eq (sameD _) (Ok.bif (fun _ => Ok.bind hw fun x hx => .ret hx) fun h => by cases h)) fun h => by simp at h
end Go.Proofs.YtnkfkceghbkkkaaGreat
