/- The centre: repeated and elder telegrams. No condition. -/
import Derived.Test.YtnkfkceghbkkkaaGreatCn2
import Derived.Test.YtnkfkceghbkkkaaGreatAw
namespace Go.Proofs.YtnkfkceghbkkkaaGreat
open Go Go.Sq
set_option linter.unusedVariables false
theorem befT_trans {a b c : Tel} (h : befT a b = true) (h' : befT b c = true) : befT a c = true := by
 rw [befT_iff] at h h' ⊢
 omega
structure Put (l : List Tel) (t : Tel) (l' : List Tel) : Prop where
 srt : SortT l'
 mem : t ∈ l'
 frm : ∀ x ∈ l', x = t ∨ x ∈ l ∧ x.1 ≠ t.1
 kep : ∀ x ∈ l, x.1 ≠ t.1 → x ∈ l'
 bef : ∀ x ∈ l, x.1 = t.1 → befT x t = true
 len : l'.length ≤ l.length + 1
theorem putT_some : ∀ {l : List Tel} {t : Tel} {l' : List Tel}, SortT l → putT l t = some l' → Put l t l'
 | [], t, l', _, h => by
  injection h with h; subst h
  exact ⟨by unfold SortT; simp, by simp, fun x hx => .inl (by simpa using hx), fun x hx => (by cases hx), fun x hx => (by cases hx), by simp⟩
 | x :: r, t, l', hs, h => by
  unfold putT at h
  have hs' := List.pairwise_cons.1 hs
  by_cases h1 : x.1 < t.1
  ·rw [if_pos h1] at h
   obtain ⟨r', hr, rfl⟩ := Option.map_eq_some_iff.1 h
   have ih := putT_some hs'.2 hr
   refine ⟨List.pairwise_cons.2 ⟨fun y hy => ?_, ih.srt⟩, List.mem_cons_of_mem _ ih.mem, fun y hy => ?_, fun y hy hn => ?_, fun y hy he => ?_, by have := ih.len; simp; omega⟩
   ·rcases ih.frm y hy with rfl | ⟨h2, _⟩
    ·exact h1
    ·exact hs'.1 y h2
   ·rcases List.mem_cons.1 hy with rfl | hy
    ·exact .inr ⟨List.mem_cons_self, by omega⟩
    ·exact (ih.frm y hy).imp id fun h => ⟨List.mem_cons_of_mem _ h.1, h.2⟩
   ·rcases List.mem_cons.1 hy with rfl | hy
    ·exact List.mem_cons_self
    ·exact List.mem_cons_of_mem _ (ih.kep y hy hn)
   ·rcases List.mem_cons.1 hy with rfl | hy
    ·omega
    ·exact ih.bef y hy he
  ·rw [if_neg h1] at h
   by_cases h2 : x.1 = t.1
   ·rw [if_pos h2] at h
    cases hb : befT x t with
    | false => rw [hb] at h; cases h
    | true =>
     rw [hb] at h
     injection h with h; subst h
     refine ⟨List.pairwise_cons.2 ⟨fun y hy => by have := hs'.1 y hy; omega, hs'.2⟩, List.mem_cons_self, fun y hy => ?_, fun y hy hn => ?_, fun y hy he => ?_, by simp⟩
     ·rcases List.mem_cons.1 hy with rfl | hy
      ·exact .inl rfl
      ·exact .inr ⟨List.mem_cons_of_mem _ hy, by have := hs'.1 y hy; omega⟩
     ·rcases List.mem_cons.1 hy with rfl | hy
      ·exact absurd h2 hn
      ·exact List.mem_cons_of_mem _ hy
     ·rcases List.mem_cons.1 hy with rfl | hy
      ·exact hb
      ·have := hs'.1 y hy; omega
   ·rw [if_neg h2] at h
    injection h with h; subst h
    refine ⟨List.pairwise_cons.2 ⟨fun y hy => ?_, hs⟩, List.mem_cons_self, fun y hy => ?_, fun y hy hn => List.mem_cons_of_mem _ hy, fun y hy he => ?_, by simp⟩
    ·rcases List.mem_cons.1 hy with rfl | hy
     ·omega
     ·have := hs'.1 y hy; omega
    ·rcases List.mem_cons.1 hy with rfl | hy
     ·exact .inl rfl
     ·refine .inr ⟨hy, ?_⟩
      rcases List.mem_cons.1 hy with rfl | hy
      ·exact h2
      ·have := hs'.1 y hy; omega
    ·rcases List.mem_cons.1 hy with rfl | hy
     ·exact absurd he h2
     ·have := hs'.1 y hy; omega
theorem putT_none : ∀ {l : List Tel} {t : Tel}, putT l t = none → ∃ x ∈ l, x.1 = t.1 ∧ befT x t = false
 | [], t, h => by cases h
 | x :: r, t, h => by
  unfold putT at h
  by_cases h1 : x.1 < t.1
  ·rw [if_pos h1] at h
   obtain ⟨y, hy, h2⟩ := putT_none (Option.map_eq_none_iff.1 h)
   exact ⟨y, List.mem_cons_of_mem _ hy, h2⟩
  ·rw [if_neg h1] at h
   by_cases h2 : x.1 = t.1
   ·rw [if_pos h2] at h
    cases hb : befT x t with
    | false => exact ⟨x, List.mem_cons_self, h2, hb⟩
    | true => rw [hb] at h; cases h
   ·rw [if_neg h2] at h; cases h
structure Lst (all l : List Tel) : Prop where
 srt : SortT l
 up : ∀ o ∈ all, ∃ x ∈ l, x.1 = o.1 ∧ (x = o ∨ befT o x = true)
 frm : ∀ x ∈ l, x ∈ all
def nwB (all : List Tel) (t : Tel) : Bool := all.all fun o => !decide (o.1 = t.1) || befT o t
theorem Lst.new {all l : List Tel} (h : Lst all l) {t : Tel} : nwB all t = (putT l t).isSome := by
 unfold nwB
 cases hp : putT l t with
 | none =>
  obtain ⟨x, hx, h1, h2⟩ := putT_none hp
  refine Bool.eq_false_iff.2 fun he => ?_
  have := List.all_eq_true.1 he x (h.frm x hx)
  rw [decide_eq_true h1, h2] at this
  cases this
 | some l' =>
  refine List.all_eq_true.2 fun o ho => ?_
  by_cases h1 : o.1 = t.1
  ·obtain ⟨x, hx, h2, h3⟩ := h.up o ho
   have h4 := (putT_some h.srt hp).bef x hx (by omega)
   rw [show befT o t = true from h3.elim (fun e => e ▸ h4) (fun h3 => befT_trans h3 h4), Bool.or_true]
  ·rw [decide_eq_false h1]; rfl
theorem Lst.put {all l l' : List Tel} (h : Lst all l) {t : Tel} (hp : putT l t = some l') : Lst (all ++ [t]) l' := by
 have hq := putT_some h.srt hp
 refine ⟨hq.srt, fun o ho => ?_, fun x hx => ?_⟩
 ·rcases List.mem_append.1 ho with ho | ho
  ·obtain ⟨x, hx, h2, h3⟩ := h.up o ho
   by_cases h1 : x.1 = t.1
   ·have h4 := hq.bef x hx h1
    exact ⟨t, hq.mem, by omega, .inr (h3.elim (fun e => e ▸ h4) fun h3 => befT_trans h3 h4)⟩
   ·exact ⟨x, hq.kep x hx h1, h2, h3⟩
  ·rw [List.mem_singleton.1 ho]; exact ⟨t, hq.mem, rfl, .inl rfl⟩
 ·rcases hq.frm x hx with rfl | ⟨h1, _⟩
  ·simp
  ·exact List.mem_append_left _ (h.frm x h1)
theorem new_in (r7 : Tel × List Int × Int) (all : List Tel) (hn : all.length ≤ 1000) : iter (fun x => law41_CentreRepeats_L1 r7 x.1 x.2.1 x.2.2) (true, 0, all) = some (nwB all r7.1, all) := by
 have k1 := iter_for (step := fun x : Bool × Int × List Tel => law41_CentreRepeats_L1 r7 x.1 x.2.1 x.2.2) all.length (fun i => (nwB (all.take i) r7.1, (i : Int), all)) (e := (nwB all r7.1, all)) (fun i hi => by
  unfold law41_CentreRepeats_L1
  simp only [dec_t (show (i : Int) < (all.length : Int) by omega), cond_true, gd_t (inB_t hi), Int.toNat_natCast]
  have e : nwB (all.take (i + 1)) r7.1 = (nwB (all.take i) r7.1 && (!decide ((all.getD i t0).1 = r7.1.1) || befT (all.getD i t0) r7.1)) := by
   unfold nwB
   rw [List.take_succ_eq_append_getElem hi, List.all_append, List.getD_eq_getElem?_getD, List.getElem?_eq_getElem hi]
   simp
  rw [e, w1 hi (by omega)]
  unfold befT
  cases nwB (all.take i) r7.1 with
  | false => rfl
  | true =>
   simp only [cond_true, Bool.true_and, show ((all.getD i (0, (0, (0, (0, (0, [])))))) : Tel) = all.getD i t0 from rfl]
   by_cases h1 : (all.getD i t0).1 = r7.1.1
   ·rw [dec_t h1]
    cases decide ((all.getD i t0).2.1 < r7.1.2.1) <;> cases decide ((all.getD i t0).2.1 = r7.1.2.1) <;> simp
   ·rw [dec_f h1]; rfl) (by
  unfold law41_CentreRepeats_L1
  simp only [dec_f (show ¬ (all.length : Int) < (all.length : Int) by omega), cond_false, List.take_length])
 rwa [show ((nwB (all.take 0) r7.1, ((0 : Nat) : Int), all) : Bool × Int × List Tel) = (true, 0, all) from rfl] at k1
theorem rv_pick : ∀ v ∈ [(0 : Int), (-1), 62, 63, (-63), (-62), 9007199254740992, (-9007199254740992), 126, 1000], rv v = true := by decide
theorem tel_ok {st : Int} (h0 : 0 ≤ st ∧ st ≤ 255) {s : List Int} {q : Int} (h : SrcOk s q) : Ok (keep_Src_Telegram st s q) fun z => SrcOk z.2.1 z.2.2 ∧ z.1.1 = st ∧ validT z.1 = true ∧ z.1.2.2.2.2.2.length ≤ 3 := by
 unfold keep_Src_Telegram
 refine Ok.bind (sN h (n := 3) (by omega) (by omega)) fun r hr => ?_
 refine Ok.bind (sN hr.1 (n := 6) (by omega) (by omega)) fun r2 hr2 => ?_
 refine Ok.bind (sP hr2.1 (by simp) (by simp)) fun r3 hr3 => ?_
 refine Ok.bind (sN hr3.1 (n := 64) (by omega) (by omega)) fun r4 hr4 => ?_
 refine Ok.bind (sN hr4.1 (n := 4) (by omega) (by omega)) fun r5 hr5 => ?_
 have h3 := hr3.2
 simp only [List.mem_cons, List.not_mem_nil, or_false] at h3
 refine Ok.bind (Q := fun z : List Int × Int × List Int => SrcOk z.1 z.2.1 ∧ z.2.2.length ≤ 3 ∧ z.2.2.all rv = true) ?_ fun z hz => ?_
 ·refine Ok.loop (fun x : Int × List Int × Int × List Int => 0 ≤ x.1 ∧ x.1 + x.2.2.2.length ≤ 3 ∧ SrcOk x.2.1 x.2.2.1 ∧ x.2.2.2.all rv = true) (fun x => x.1.toNat) ⟨hr5.2.1, by simp; omega, hr5.1, rfl⟩ ?_
  rintro ⟨i, s', q', t⟩ ⟨h1, h2, h4, h5⟩
  simp only at h1 h2 h4 h5
  show Ok (keep_Src_Telegram_L0 i s' q' t) _
  unfold keep_Src_Telegram_L0
  refine Ok.bif (fun hc => ?_) fun hc => .ret ⟨h4, by simp only; omega, h5⟩
  have hc := of_decide_eq_true hc
  refine Ok.bind (sP h4 (by simp) (by simp)) fun r6 hr6 => ?_
  refine Ok.gd (fits_t (by omega)) (.ret ?_)
  rw [wi (by omega)]
  refine ⟨⟨by simp only; omega, by simp only [List.length_append, List.length_singleton]; omega, hr6.1, ?_⟩, by simp only; omega⟩
  simp only [List.all_append, h5, List.all_cons, List.all_nil, rv_pick _ hr6.2, Bool.and_self]
 ·refine .ret ⟨hz.1, rfl, ?_, hz.2.1⟩
  unfold validT
  simp only
  rw [rg_t h0, rg_t ⟨hr.2.1, by omega⟩, rg_t ⟨hr2.2.1, by omega⟩, rg_t (lo := 0) (hi := 1099511627776) (by omega), rg_t ⟨hr4.2.1, by omega⟩, hz.2.2, dec_t (show z.2.2.length ≤ 16 by omega)]; rfl
abbrev recT (t : Tel) : Rec := (1, ([t.1, t.2.1, t.2.2.1, t.2.2.2.1, t.2.2.2.2.1] ++ t.2.2.2.2.2, ((0, (0, (0, (0, (0, ([], 0)))))), ([], (0, 0)))))
theorem accS_rec (l : List Tel) {t : Tel} (h : validT t = true) : accS l (recT t) = match putT l t with | some l' => (l', 0) | none => (l, 6) := by
 unfold accS
 have e : telOf (recT t).2.1 = t := rfl
 rw [e, if_neg (by
  rintro (h1 | h1 | h1 | h1)
  ·simp at h1; omega
  ·cases h1
  ·cases h1
  ·rw [h] at h1; cases h1)]
 cases putT l t <;> rfl

structure RepI (c : Cn) (all : List Tel) (k : Nat) : Prop where
 d : DkS c.1
 a : c.2.2.1 = []
 n : c.2.2.2 = (all.length : Int)
 l : all.length ≤ k
 m : c.2.1.length ≤ k
 tv : ∀ x ∈ c.2.1, x.2.2.2.2.2.length ≤ 100000
 lst : Lst all c.2.1
theorem RepI.cns {c : Cn} {all : List Tel} {k : Nat} (h : RepI c all k) (hk : k ≤ 100) : CnS c := ⟨h.d, by have := h.m; omega, h.tv, by rw [h.a]; simp⟩
theorem repeats_true (l : List Int) (hl : ∀ x ∈ l, i64P x) : law41_CentreRepeats l = some true := by
 refine Ok.true ?_
 have hw : Ok law41_awake (fun b => b = true) := ⟨true, awake_true, rfl⟩
 unfold law41_CentreRepeats
 refine Ok.eq (few_eq l) (Ok.bif (fun _ => Ok.bind hw fun b hb => .ret hb) fun _ => ?_)
 obtain ⟨s, e, hs⟩ := new_eq hl
 refine Ok.eq e ?_
 refine Ok.bind (net_ok hs) ?_
 rintro ⟨n, s2, q2⟩ ⟨e, h, k, hn⟩
 replace e : s2 = s := e
 subst e
 simp only at h hn
 have hg := GN.of hn
 have h0 := chk0 hn
 have hp1 := hg.p1; have hg1 := hg.sg; have hg2 := hg.po; have hg3 := hg.st
 rw [net_eta]
 refine Ok.eq (cnew_eq (n := n) (t := 1) h0 (by omega) (by omega)) ?_
 simp only [decide_true, Bool.not_true, cond_false]
 refine Ok.bind (Q := fun z => z = .inl ()) ?_ fun z hz => ?_
 ·refine Ok.loop (fun x => ∃ k : Nat, x.1 = (k : Int) ∧ k ≤ 15 ∧ SrcOk x.2.1 x.2.2.1 ∧ RepI ((x.2.2.2.1, x.2.2.2.2.1, x.2.2.2.2.2.1, x.2.2.2.2.2.2.1), x.2.2.2.2.2.2.2.1, x.2.2.2.2.2.2.2.2.1, x.2.2.2.2.2.2.2.2.2.1) x.2.2.2.2.2.2.2.2.2.2 k) (fun x => (15 - x.1).toNat)
   ⟨0, rfl, by omega, h, ⟨by simp; omega, by simp; omega, by simp; omega, by simp; omega⟩, rfl, rfl, by simp, by simp, by simp, ⟨by unfold SortT; simp, by simp, by simp⟩⟩ ?_
  rintro ⟨i, s, q, d1, d2, d3, d4, tl, ac, ct, all⟩ ⟨k, rfl, hk, hq, hi⟩
  simp only at hq hi
  show Ok (law41_CentreRepeats_L0 (n, s2, q2) (k : Int) s q d1 d2 d3 d4 tl ac ct all) _
  unfold law41_CentreRepeats_L0
  refine Ok.bif (fun hc => ?_) fun hc => .ret rfl
  have hc := of_decide_eq_true hc
  refine Ok.bind (sN hq (n := 3) (by omega) (by omega)) fun r6 hr6 => ?_
  refine Ok.bind (tel_ok ⟨hr6.2.1, by omega⟩ hr6.1) fun r7 hr7 => ?_
  obtain ⟨t, s3, q3⟩ := r7
  obtain ⟨g1, g2, g3, g4⟩ := hr7
  simp only at g1 g2 g3 g4
  refine Ok.gd (fits_t (by simp only; omega)) ?_
  have hcs := hi.cns (by omega)
  have hal := hi.l
  have hcn := hi.n
  simp only at hcn
  have happ := apply1_eq n (c := ((d1, d2, d3, d4), tl, ac, ct)) hcs hi.lst.srt (by simp only; omega) (r := recT t) rfl (by simp only [List.length_append, List.length_cons, List.length_nil]; omega)
  rw [net_eta]
  refine Ok.eq happ ?_
  refine Ok.eq (new_in (t, s3, q3) all (by omega)) ?_
  have hnew := hi.lst.new (t := t)
  simp only at hnew
  have hacc := accS_rec tl g3
  have h1000 : ¬ ct = 1000 := by omega
  cases hp : putT tl t with
  | none =>
   rw [hp] at hnew hacc
   simp only [Option.isSome_none] at hnew
   have e8 : capp1 ((d1, d2, d3, d4), tl, ac, ct) (recT t) = (((d1, d2, d3, d4), tl, ac, ct), 6) := by
    unfold capp1
    rw [if_neg h1000, hacc, if_neg (by simp)]
   rw [e8, hnew]
   simp only [Option.bind_some, show decide ((6 : Int) = 0) = false from rfl, beq_self_eq_true, Bool.not_true, Bool.not_false, cond_false, cond_true, show decide ((6 : Int) = 6) = true from rfl]
   refine Ok.eq (a := (false, all)) (by rw [sameC hcs]; rfl) ?_
   simp only [Option.bind_some, cond_false]
   refine .ret ?_
   rw [wi (by omega)]
   exact ⟨⟨k + 1, rfl, by omega, g1, hi.d, hi.a, hi.n, Nat.le_succ_of_le hi.l, Nat.le_succ_of_le hi.m, hi.tv, hi.lst⟩, by simp only; omega⟩
  | some tl' =>
   rw [hp] at hnew hacc
   simp only [Option.isSome_some] at hnew
   have e8 : capp1 ((d1, d2, d3, d4), tl, ac, ct) (recT t) = (((d1, d2, d3, d4), tl', ac, ct + 1), 0) := by
    unfold capp1
    rw [if_neg h1000, hacc, if_pos rfl]
   have hput := putT_some hi.lst.srt hp
   have hm := hi.m
   simp only at hm
   have hlen := hput.len
   simp only at hlen
   have hI : RepI ((d1, d2, d3, d4), tl', ac, ct + 1) (all ++ [t]) (k + 1) := ⟨hi.d, hi.a, by simp only [List.length_append, List.length_singleton]; omega, by simp; omega, by simp only; omega, fun x hx => by
    rcases hput.frm x hx with rfl | ⟨hx, _⟩
    ·omega
    ·exact hi.tv x hx, hi.lst.put hp⟩
   rw [e8, hnew]
   simp only [Option.bind_some, show decide ((0 : Int) = 0) = true from rfl, beq_self_eq_true, Bool.not_true, cond_false, cond_true]
   refine Ok.eq (a := Sum.inl (all ++ [t])) ?_ ?_
   ·refine (congrArg (fun o => Option.bind o _) (stored_eq (c := ((d1, d2, d3, d4), tl', ac, ct + 1)) (hI.cns (by omega)) hI.lst.srt hput.mem)).trans ?_
    simp only [Option.bind_some, Bool.not_true, cond_false]
    rw [show ((t.1, (t.2.1, (t.2.2.1, (t.2.2.2.1, (t.2.2.2.2.1, t.2.2.2.2.2))))) : Tel) = t from rfl, sameTel t (by omega)]
    simp only [Option.bind_some, Bool.not_true, cond_false]
    rw [wi (by omega), dec_t rfl]
    simp only [Bool.not_true, cond_false]
    rw [gd_t (fits_t (by omega))]
   ·refine .ret ?_
    rw [wi (by omega)]
    exact ⟨⟨k + 1, rfl, by omega, g1, hI⟩, by simp only; omega⟩
 ·subst hz
  exact Ok.bind hw fun b hb => .ret hb
end Go.Proofs.YtnkfkceghbkkkaaGreat
