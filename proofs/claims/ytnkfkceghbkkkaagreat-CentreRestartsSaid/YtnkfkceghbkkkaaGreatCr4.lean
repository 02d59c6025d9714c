/- The centre: whatever crash there is, a restart finds the state before the record, or the one behind it. No condition. -/
import Derived.Test.YtnkfkceghbkkkaaGreatCr3
namespace Go.Proofs.YtnkfkceghbkkkaaGreat
open Go Go.Sq Wi
set_option linter.unusedVariables false
structure ResI (n : Net) (c0 : Cn) (rs : List Rec) (c : Cn) (F : List Int) (k : Nat) : Prop where
 h : Hist n c0 rs c
 f : F = fileB (rs.map bts)
 l : rs.length ≤ k
 v : qc2 n c.1 = 0
theorem qw8 {n : Net} {c : Cn} {r : Rec} (hv : qc2 n c.1 = 0) (h : (capp n c r).2 = 0) : qc2 n (capp n c r).1.1 = 0 := by
 unfold capp at h ⊢
 by_cases k1 : r.1 = 1
 ·rw [if_pos k1]
  unfold capp1
  split
  ·exact hv
  ·split <;> exact hv
 rw [if_neg k1] at h ⊢
 by_cases k2 : r.1 = 2
 ·rw [if_pos k2] at h ⊢
  unfold capp2 at h ⊢
  by_cases h1 : c.2.2.2 = 1000
  ·rw [if_pos h1] at h; cases h
  rw [if_neg h1] at h ⊢
  by_cases h2 : (cmdS n c.1 r).2 = 0
  ·rw [if_pos h2]
   unfold cmdS at h2 ⊢
   by_cases h3 : 0 < r.2.1.length ∨ noE r.2.2.2 = false
   ·rw [if_pos h3] at h2; cases h2
   rw [if_neg h3] at h2 ⊢
   exact (qwN h2).to
  ·rw [if_neg h2] at h; exact absurd h h2
 rw [if_neg k2]
 by_cases k3 : r.1 = 3
 ·rw [if_pos k3]
  unfold capp3
  split
  ·exact hv
  ·split <;> exact hv
 ·rw [if_neg k3]; exact hv
theorem qrb (l : List Int) (hl : ∀ x ∈ l, i64P x) : qdE l = some true := by
 refine Ok.true ?_
 have hw : Ok qgy (fun b => b = true) := ⟨true, quP, rfl⟩
 unfold qdE
 refine Ok.eq (qAe l) (Ok.bif (fun _ => Ok.bind hw fun b hb => .ret hb) fun _ => ?_)
 obtain ⟨s, e, hs⟩ := qzV hl
 refine Ok.eq e ?_
 refine Ok.bind (qzY hs) ?_
 rintro ⟨n, s2, q2⟩ ⟨e, h, k, hn⟩
 replace e : s2 = s := e
 subst e
 simp only at h hn
 have hg := GN.of hn
 have h0 := chk0 hn
 have hp1 := hg.p1; have hg1 := hg.sg; have hg2 := hg.po; have hg3 := hg.st
 have hnew := qzu (n := n) (t := 2) h0 (by omega) (by omega)
 have hdesk := qw7 (n := n) (t := 2) h0 (by omega)
 rw [qa7]
 obtain ⟨c0, hc0⟩ : ∃ c0 : Cn, c0 = (((List.replicate (n.2.1.length + n.2.2.1.length) (2, (0, (false, false))), (List.replicate n.2.1.length 0, (List.replicate n.2.2.1.length 0, List.replicate n.2.2.2.1.length false))), ([], ([], 0))) : Cn) := ⟨_, rfl⟩
 rw [← hc0] at hnew
 have hd0 : qc2 n c0.1 = 0 := by rw [hc0]; exact hdesk
 have hI0 : CnI n c0 0 := by rw [hc0]; exact ⟨⟨by simp, ⟨by simp, by simp, by simp⟩⟩, by simp, by simp, by unfold SortT; simp, by simp, by simp, by simp⟩
 refine Ok.eq hnew ?_
 simp only [decide_true, Bool.not_true, cond_false]
 refine Ok.bind (Q := fun z => ∃ d1 d2 d3 d4 tl ac ct F, z = Sum.inl (d1, d2, d3, d4, tl, ac, ct, F, []) ∧ ∃ rs, ResI n c0 rs ((d1, d2, d3, d4), tl, ac, ct) F 12) ?_ ?_
 ·refine Ok.loop (fun x => ∃ k : Nat, x.1 = (k : Int) ∧ k ≤ 12 ∧ SrcOk x.2.1 x.2.2.1 ∧ x.2.2.2.2.2.2.2.2.2.2.2 = [] ∧ ∃ rs, ResI n c0 rs ((x.2.2.2.1, x.2.2.2.2.1, x.2.2.2.2.2.1, x.2.2.2.2.2.2.1), x.2.2.2.2.2.2.2.1, x.2.2.2.2.2.2.2.2.1, x.2.2.2.2.2.2.2.2.2.1) x.2.2.2.2.2.2.2.2.2.2.1 k) (fun x => (12 - x.1).toNat)
   ⟨0, rfl, by omega, h, rfl, [], ⟨⟨rfl, fun i hi => (by simp at hi), fun r hr => (by cases hr), fun i hi => (by
    obtain rfl : i = 0 := by simpa using hi
    exact hI0)⟩, rfl, by simp, hd0⟩⟩ ?_
  rintro ⟨i, s, q, d1, d2, d3, d4, tl, ac, ct, F, P⟩ ⟨k, rfl, hk, hq, hP, rs, hi⟩
  simp only at hq hi hP
  subst hP
  show Ok (qcJ (n, s2, q2) (k : Int) s q d1 d2 d3 d4 tl ac ct F []) _
  have hup : ∀ j, j ≤ 12 → ResI n c0 rs ((d1, d2, d3, d4), tl, ac, ct) F j → ResI n c0 rs ((d1, d2, d3, d4), tl, ac, ct) F 12 := fun j hj h => ⟨h.h, h.f, Nat.le_trans h.l hj, h.v⟩
  unfold qcJ
  refine Ok.bind (Q := fun z : Bool × List Int × Int => SrcOk z.2.1 z.2.2 ∧ (z.1 = true → (k : Int) < 12)) ?_ ?_
  ·refine Ok.bif (fun hc => ?_) fun hc => .ret ⟨hq, fun h => by cases h⟩
   unfold qit
   exact .ret ⟨hq, fun _ => of_decide_eq_true hc⟩
  rintro ⟨b, s4, q4⟩ ⟨h4, hb⟩
  simp only at h4 hb
  refine Ok.bif (fun hc => ?_) fun hc => .ret ⟨_, _, _, _, _, _, _, _, rfl, rs, hup k hk hi⟩
  have hk12 := hb hc
  obtain ⟨c, hcd⟩ : ∃ c : Cn, c = ((d1, d2, d3, d4), tl, ac, ct) := ⟨_, rfl⟩
  rw [← hcd] at hi
  have hrl := hi.l
  have hcI := hi.h.inv rs.length (Nat.le_refl _)
  rw [List.take_length, hi.h.fin] at hcI
  have hcs := hcI.cns hg (by omega)
  refine Ok.bind (Q := fun z : (List Int × Int × List Vl × List Int × List Int × List Bool × List Tel × List Acc4 × Int × List Int × List Int) ⊕ Bool => ∃ s q d1 d2 d3 d4 tl ac ct F, z = .inl (s, q, d1, d2, d3, d4, tl, ac, ct, F, []) ∧ SrcOk s q ∧ ∃ rs, ResI n c0 rs ((d1, d2, d3, d4), tl, ac, ct) F (k + 1)) ?_ ?_
  ·rw [qa7]
   rw [show (((d1, (d2, (d3, d4))), (tl, (ac, ct))) : Cn) = c from hcd.symm]
   refine Ok.bind (qAk hg (c := c) hcs.d.v h4) fun r7 hr7 => ?_
   obtain ⟨r, s5, q5⟩ := r7
   obtain ⟨h5, hr⟩ := hr7
   simp only at h5 hr
   have hwr := qye hg hi.h (by omega) hr
   rw [← hi.f] at hwr
   refine Ok.eq hwr ?_
   by_cases hz : (capp n c r).2 = 0
   ·rw [if_pos hz]
    simp only [decide_true, Bool.not_true, cond_false]
    have he := qw5 hg hcI (by omega) hz
    have hbl := qpr he
    have hfl := qhD (b := bts r) (by omega)
    obtain ⟨hfP, hfn⟩ := files hi.h.enc (by omega) qn7
    have happ := quY hfP (b := bts r) (by omega) (by omega)
    rw [← hi.f] at happ hfn
    refine Ok.eq (qyP he) ?_
    refine Ok.eq happ ?_
    have hf2 : fileB ((rs ++ [r]).map bts) = F ++ frmB (bts r) := by rw [List.map_append, qj5, List.map_singleton, qmI, hi.f]
    refine Ok.eq (a := false) ?_ ?_
    ·simp only [decide_true, Bool.not_true, cond_false]
     rw [qyb (by omega), Option.bind_some, hf2, fsame]; rfl
    simp only [cond_false]
    rw [wi (by omega)]
    refine Ok.bind (sN h5 (n := ((frmB (bts r)).length : Int) + 1) (by omega) (by omega)) fun r15 h15 => ?_
    rw [wi (by omega)]
    refine Ok.bind (sP h15.1 (by simp) (by simp)) fun r16 h16 => ?_
    have hkeep : 0 ≤ r16.1 ∧ r16.1 ≤ ((frmB (bts r)).length : Int) := by
     have := h16.2
     simp only [List.mem_cons, List.not_mem_nil, or_false] at this
     have h15b := h15.2
     omega
    obtain ⟨kp, hkp⟩ : ∃ kp : Nat, r16.1 = (kp : Int) := Int.eq_ofNat_of_zero_le hkeep.1
    rw [hkp] at hkeep ⊢
    have hkl : kp ≤ (frmB (bts r)).length := by omega
    refine Ok.eq (qsn (F := F) (p := frmB (bts r)) (by omega) hkl) ?_
    have hput := hi.h.put hg (by omega) hz
    have hnew' : CnS (capp n c r).1 := ((qtj hcI (by omega) hr hz).1).cns hg (by omega)
    -- what the restart finds
    by_cases hall : kp = (frmB (bts r)).length
    ·have hrs := qnd hg hnew hput (by simp; omega) qn7
     rw [List.append_nil, hf2] at hrs
     rw [hall, List.take_length]
     refine Ok.eq hrs ?_
     simp only [decide_true, Bool.not_true, cond_false]
     rw [show ((((capp n c r).1.1.1, ((capp n c r).1.1.2.1, ((capp n c r).1.1.2.2.1, (capp n c r).1.1.2.2.2))), ((capp n c r).1.2.1, ((capp n c r).1.2.2.1, (capp n c r).1.2.2.2))) : Cn) = (capp n c r).1 from rfl]
     refine Ok.bind (Q := fun b => b = false) ?_ fun b hb => ?_
     ·refine Ok.bind (totC (capp n c r).1 c hnew') fun b _ => ?_
      have hlt : ¬ ((frmB (bts r)).length : Int) < ((frmB (bts r)).length : Int) := by omega
      rw [dec_f hlt, sameC hnew', Option.bind_some]
      cases b <;> exact .ret rfl
     ·rw [hb]
      simp only [cond_false]
      exact .ret ⟨_, _, _, _, _, _, _, _, _, _, rfl, h16.1, rs ++ [r], ⟨hput, hf2.symm, by simp; omega, qw8 hi.v hz⟩⟩
    ·have htorn : Torn ((frmB (bts r)).take kp) := ⟨bts r, kp, by omega, hbl.2, by omega, rfl⟩
     have hrs := qnd hg hnew hi.h (by omega) htorn
     rw [← hi.f] at hrs
     refine Ok.eq hrs ?_
     simp only [decide_true, Bool.not_true, cond_false]
     rw [show (((c.1.1, (c.1.2.1, (c.1.2.2.1, c.1.2.2.2))), (c.2.1, (c.2.2.1, c.2.2.2))) : Cn) = c from rfl]
     refine Ok.eq (a := false) ?_ ?_
     ·rw [sameC hcs, Option.bind_some]
      simp only [Bool.not_true, cond_false]
      rw [dec_f (show ¬ (kp : Int) = ((frmB (bts r)).length : Int) by omega), dec_t (show (kp : Int) < ((frmB (bts r)).length : Int) by omega)]; rfl
     ·simp only [cond_false]
      exact .ret ⟨_, _, _, _, _, _, _, _, _, _, rfl, h16.1, rs, ⟨hi.h, hi.f, by omega, hi.v⟩⟩
   ·rw [if_neg hz]
    simp only
    rw [dec_f hz, Bool.not_false, cond_true]
    refine Ok.eq (a := false) ?_ ?_
    ·rw [show (((c.1.1, (c.1.2.1, (c.1.2.2.1, c.1.2.2.2))), (c.2.1, (c.2.2.1, c.2.2.2))) : Cn) = c from rfl, sameC hcs, Option.bind_some]
     simp only [Bool.not_true, cond_false]
     rw [fsame]; rfl
    ·simp only [cond_false]
     rw [hcd] at hi
     exact .ret ⟨_, _, _, _, _, _, _, _, _, _, rfl, h5, rs, ⟨hi.h, hi.f, by omega, hi.v⟩⟩
  ·rintro _ ⟨s, q, d1, d2, d3, d4, tl, ac, ct, F, rfl, h6, rs', h7⟩
   refine .ret ?_
   rw [wi (by omega)]
   exact ⟨⟨k + 1, rfl, by omega, h6, rfl, rs', h7⟩, by simp only; omega⟩
 ·rintro _ ⟨d1, d2, d3, d4, tl, ac, ct, F, rfl, rs, hf⟩
  have hrs := qnd hg hnew hf.h (by have := hf.l; omega) qn7
  rw [List.append_nil, ← hf.f] at hrs
  have hcI := hf.h.inv rs.length (Nat.le_refl _)
  rw [List.take_length, hf.h.fin] at hcI
  have hcs := hcI.cns hg (by have := hf.l; omega)
  simp only [Sum.elim_inl]
  refine Ok.eq hrs ?_
  simp only [decide_true, cond_true]
  refine Ok.eq (sameC hcs) ?_
  simp only [cond_true]
  refine Ok.eq (a := 0) ((quT (n := n) (d := (d1, d2, d3, d4))).trans (congrArg some hf.v)) ?_
  simp only [decide_true, cond_true]
  exact Ok.bind hw fun b hb => .ret hb
end Go.Proofs.YtnkfkceghbkkkaaGreat
