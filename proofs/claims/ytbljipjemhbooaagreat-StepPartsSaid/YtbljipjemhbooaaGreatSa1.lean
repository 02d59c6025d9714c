/- Steps: steps in two parts. No condition. -/
import Derived.Test.YtbljipjemhbooaaGreatSa0
namespace Go.Proofs.YtbljipjemhbooaaGreat
open Go Go.Sq
set_option linter.unusedVariables false
section
variable {n : Net}
theorem runL_cons (s : Stp) (r : List Stp) (d : Dk) (i : Int) : runL n d i (s :: r) = if (appS n d s).2 ≠ 0 then (d, i, (appS n d s).2) else runL n (appS n d s).1 (i + 1) r := rfl
theorem runL_app : ∀ (a b : List Stp) (d : Dk) (i : Int), runL n d i (a ++ b) = if (runL n d i a).2.2 ≠ 0 then runL n d i a else runL n (runL n d i a).1 (i + a.length) b
 | [], b, d, i => by
  rw [List.nil_append]
  show _ = if (0 : Int) ≠ 0 then _ else runL n d (i + 0) b
  rw [if_neg (by simp), Int.add_zero]
 | s :: a, b, d, i => by
  rw [List.cons_append, runL_cons, runL_cons]
  by_cases h : (appS n d s).2 = 0
  ·rw [if_neg (show ¬ (appS n d s).2 ≠ 0 from fun hh => hh h), if_neg (show ¬ (appS n d s).2 ≠ 0 from fun hh => hh h), runL_app a b, List.length_cons, show i + 1 + (a.length : Int) = i + ((a.length + 1 : Nat) : Int) by omega]
  ·rw [if_pos (show (appS n d s).2 ≠ 0 from h), if_pos (show (appS n d s).2 ≠ 0 from h)]
   exact (if_pos (show (appS n d s).2 ≠ 0 from h)).symm
theorem runL_shift : ∀ (a : List Stp) (d : Dk) (i j : Int), runL n d (i + j) a = ((runL n d i a).1, (runL n d i a).2.1 + j, (runL n d i a).2.2)
 | [], d, i, j => rfl
 | s :: a, d, i, j => by
  rw [runL_cons, runL_cons]
  by_cases h : (appS n d s).2 = 0
  ·rw [if_neg (show ¬ (appS n d s).2 ≠ 0 from fun hh => hh h), if_neg (show ¬ (appS n d s).2 ≠ 0 from fun hh => hh h), show i + j + 1 = i + 1 + j by omega, runL_shift a]
  ·rw [if_pos (show (appS n d s).2 ≠ 0 from h), if_pos (show (appS n d s).2 ≠ 0 from h)]
theorem runL_bd : ∀ (a : List Stp) (d : Dk) (i : Int), i ≤ (runL n d i a).2.1 ∧ (runL n d i a).2.1 ≤ i + a.length
 | [], d, i => by simp [runL]
 | s :: a, d, i => by
  unfold runL
  rw [List.length_cons]
  split
  ·simp only; omega
  ·have := runL_bd a (appS n d s).1 (i + 1); omega
theorem tkL_app (a b : List Stp) : tkL (a ++ b) = tkL a + tkL b := by unfold tkL; rw [List.map_append, isum_app]
theorem cut_t {a n : Nat} (h : a ≤ n) : cutG none (some (.i64, (a : Int))) n = true := by
 unfold cutG; simp only [Bool.and_eq_true, decide_eq_true_eq]; omega
theorem cut_d {a n : Nat} (h : a ≤ n) : cutG (some (.i64, (a : Int))) none n = true := by
 unfold cutG; simp only [Bool.and_eq_true, decide_eq_true_eq]; omega
theorem parts_run (hg : GN n) {d : Dk} (hd : DkS d) {x : List Stp} (hx : x.length ≤ 14) {k : Nat} (hk : k ≤ x.length) {c : Int} (hc : c = (k : Int)) (hw : Ok law26_awake (fun b => b = true)) :
  Ok ((step_Run n d x).bind fun r9 =>
 gd (cutG none (some (.i64, c)) x.length) <|
 (step_Run n d (x.take c.toNat)).bind fun r10 =>
 bif !decide (r10.2.2 = 0) then (
 bif decide (r9.2.2 = r10.2.2) then (
 bif decide (r9.2.1 = r10.2.1) then (
 (ref26_Same (r9.1.1, (r9.1.2.1, (r9.1.2.2.1, r9.1.2.2.2))) (r10.1.1, (r10.1.2.1, (r10.1.2.2.1, r10.1.2.2.2)))).bind fun r11 =>
 bif r11 then (
 (law26_awake).bind fun r12 =>
 some r12)
 else (
 some false))
 else (
 some false))
 else (
 some false))
 else (
 gd (cutG (some (.i64, c)) none x.length) <|
 (step_Run n (r10.1.1, (r10.1.2.1, (r10.1.2.2.1, r10.1.2.2.2))) (x.drop c.toNat)).bind fun r13 =>
 bif decide (r10.2.1 = c) then (
 bif decide (r9.2.2 = r13.2.2) then (
 bif decide (r9.2.1 = wi64 (c + r13.2.1)) then (
 (ref26_Same (r9.1.1, (r9.1.2.1, (r9.1.2.2.1, r9.1.2.2.2))) (r13.1.1, (r13.1.2.1, (r13.1.2.2.1, r13.1.2.2.2)))).bind fun r14 =>
 bif r14 then (
 (step_Ticks x).bind fun r15 =>
 gd (cutG none (some (.i64, c)) x.length) <|
 (step_Ticks (x.take c.toNat)).bind fun r16 =>
 gd (cutG (some (.i64, c)) none x.length) <|
 (step_Ticks (x.drop c.toNat)).bind fun r17 =>
 bif decide (r15 = wi64 (r16 + r17)) then (
 (law26_awake).bind fun r18 =>
 some r18)
 else (
 some false))
 else (
 some false))
 else (
 some false))
 else (
 some false))
 else (
 some false))) fun b => b = true := by
 subst hc
 have hA : Ok ((law26_awake).bind fun r12 => some r12) (fun b => b = true) := Ok.bind hw fun b hb => .ret hb
 have l1 : (x.take k).length = k := by rw [List.length_take]; omega
 have l2 : (x.drop k).length = x.length - k := List.length_drop ..
 have ha : x.take k ++ x.drop k = x := List.take_append_drop ..
 refine Ok.eq (Run_eq hd x) ?_
 rw [if_neg (by omega)]
 refine Ok.gd (cut_t hk) ?_
 rw [Int.toNat_natCast]
 refine Ok.eq (Run_eq hd (x.take k)) ?_
 rw [if_neg (by omega)]
 have hr := runL_app (n := n) (x.take k) (x.drop k) d 0
 rw [ha] at hr
 refine Ok.bif (fun he => ?_) fun he => ?_
 ·have he : (runL n d 0 (x.take k)).2.2 ≠ 0 := by simpa using he
  rw [if_pos he] at hr
  rw [hr, dec_t rfl, dec_t rfl, cond_true, cond_true]
  refine Ok.eq (sameD (hd.ln (runL_ln (x.take k) d 0))) ?_
  exact hA
 ·have he : (runL n d 0 (x.take k)).2.2 = 0 := by simpa using he
  rw [if_neg (fun h => h he), l1] at hr
  have hend := runL_end (x.take k) d 0 he
  rw [l1] at hend
  refine Ok.gd (cut_d hk) ?_
  have hd2 := hd.ln (runL_ln (n := n) (x.take k) d 0)
  refine Ok.eq (Run_eq (n := n) (d := (runL n d 0 (x.take k)).1) hd2 (x.drop k)) ?_
  rw [if_neg (by omega)]
  generalize runL n d 0 (x.take k) = Q at he hr hend hd2
  have hs := runL_shift (n := n) (x.drop k) Q.1 0 (k : Int)
  rw [hs] at hr
  have hln := runL_ln (n := n) (x.drop k) Q.1 0
  have hbd : (runL n Q.1 0 (x.drop k)).2.1 = (runL n Q.1 0 (x.drop k)).2.1 := rfl
  rw [hend, show (0 : Int) + (k : Int) = (k : Int) by omega, dec_t rfl, cond_true, hr]
  have hb := runL_bd (n := n) (x.drop k) Q.1 0
  refine Ok.bif (fun _ => Ok.bif (fun _ => ?_) fun hf => absurd (of_decide_eq_false hf) (fun hn => hn (by simp only; rw [wi (by omega)]; omega))) fun hf => absurd (of_decide_eq_false hf) (fun hn => hn rfl)
  refine Ok.eq (sameD (hd2.ln hln)) ?_
  rw [cond_true]
  refine Ok.eq (Ticks_eq x (by omega)) (Ok.gd (cut_t hk) (Ok.eq (Ticks_eq (x.take k) (by omega)) (Ok.gd (cut_d hk) (Ok.eq (Ticks_eq (x.drop k) (by omega)) ?_))))
  have t1 := tkL_bd (x.take k)
  have t2 := tkL_bd (x.drop k)
  have ht : tkL x = tkL (x.take k) + tkL (x.drop k) := by rw [← tkL_app, ha]
  rw [wi (by omega), dec_t ht, cond_true]
  exact hA
theorem parts_true (l : List Int) (hl : ∀ x ∈ l, i64P x) (cut : Int) (hc : 0 ≤ cut ∧ cut ≤ 255) : law26_StepParts l cut = some true := by
 refine Ok.true ?_
 have hw : Ok law26_awake (fun b => b = true) := ⟨true, awake_true, rfl⟩
 unfold law26_StepParts
 refine Ok.eq (few_eq l) (Ok.bif (fun _ => Ok.bind hw fun b hb => .ret hb) fun _ => ?_)
 obtain ⟨s, e, hs⟩ := new_eq hl
 refine Ok.eq e ?_
 refine Ok.bind (net_ok hs) ?_
 rintro ⟨n, s2, q2⟩ ⟨e, h, k, hn⟩
 replace e : s2 = s := e
 subst e
 simp only at h hn
 have hg := GN.of hn
 rw [net_eta]
 refine Ok.bind (mplan_ok hg h) fun r5 h5 => ?_
 refine Ok.bind (mopen_ok hg h5.2 h5.1) fun r6 h6 => ?_
 refine Ok.bind (sN h6.1 (n := 14) (by omega) (by omega)) fun r7 h7 => ?_
 have hds := h6.2.small hg
 refine Ok.bind (Q := fun z : List Vl × List Int × List Int × List Bool × List Stp => (z.1, z.2.1, z.2.2.1, z.2.2.2.1) = r6.2.2 ∧ z.2.2.2.2.length ≤ 14) ?_ ?_
 ·refine Ok.loop (fun x : Int × List Int × Int × List Vl × List Int × List Int × List Bool × List Stp => 0 ≤ x.1 ∧ x.1 + x.2.2.2.2.2.2.2.length ≤ 14 ∧ SrcOk x.2.1 x.2.2.1 ∧ (x.2.2.2.1, x.2.2.2.2.1, x.2.2.2.2.2.1, x.2.2.2.2.2.2.1) = r6.2.2) (fun x => x.1.toNat) ⟨h7.2.1, by simp; omega, h7.1, rfl⟩ ?_
  rintro ⟨v, s', q', d1, d2, d3, d4, x⟩ ⟨v0, v1, h2, e⟩
  simp only at v0 v1 h2 e
  unfold law26_StepParts_L0
  refine Ok.bif (fun hc => ?_) fun hc => .ret ⟨e, by (try simp only); omega⟩
  have hc := of_decide_eq_true hc
  simp only at hc
  refine Ok.bind (mstep_ok (n := n) hg (d := (d1, d2, d3, d4)) (by rw [e]; exact hds.v) h2) fun r8 h8 => ?_
  refine Ok.gd (fits_t (by (try simp only); omega)) ?_
  rw [wi (by omega)]
  exact .ret ⟨⟨by (try simp only); omega, by simp only [List.length_append, List.length_cons, List.length_nil]; omega, h8.1, e⟩, by (try simp only); omega⟩
 ·rintro ⟨d1, d2, d3, d4, x⟩ ⟨e, hx⟩
  simp only at e hx
  have hdd : DkS (d1, d2, d3, d4) := by rw [e]; exact hds
  simp only
  rw [wi (show -9223372036854775808 ≤ cut ∧ cut ≤ 9223372036854775807 by omega), wi (by omega)]
  refine Ok.gd (by rw [dec_f (by omega)]; rfl) ?_
  have ht : Int.tmod cut ((x.length : Int) + 1) = ((cut.toNat % (x.length + 1) : Nat) : Int) := by
   rw [Int.tmod_eq_emod_of_nonneg hc.1, Int.natCast_emod, Int.toNat_of_nonneg hc.1]; rfl
  have hm := Nat.mod_lt cut.toNat (show 0 < x.length + 1 by omega)
  exact parts_run hg hdd hx (k := cut.toNat % (x.length + 1)) (by omega) ht hw
end
end Go.Proofs.YtbljipjemhbooaaGreat
