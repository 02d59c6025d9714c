/- Steps: desks and steps in which one thing may be wrong. No condition. -/
import Derived.Test.YtbljipjemhbooaaGreatSa0
namespace Go.Proofs.YtbljipjemhbooaaGreat
open Go Go.Sq
set_option linter.unusedVariables false
theorem sNn {n : Nat} {s : List Int} {p : Int} (h : SrcOk s p) (h1 : 1 ≤ n) (h2 : n ≤ 1000000) : Ok (keep_Src_N (n : Int) s p) fun q => SrcOk q.2.1 q.2.2 ∧ ∃ k : Nat, q.1 = (k : Int) ∧ k < n :=
 (sN h (n := (n : Int)) (by omega) (by omega)).mono fun q ⟨hq, a, b⟩ => ⟨hq, q.1.toNat, by omega, by omega⟩
theorem sT {l : List (List UInt8)} {s : List Int} {p : Int} (h : SrcOk s p) (h1 : l ≠ []) (h2 : l.length ≤ 1000000) : Ok (keep_Src_Text l s p) fun q => SrcOk q.2.1 q.2.2 ∧ q.1 ∈ l := by
 have hp := List.length_pos_iff.2 h1
 unfold keep_Src_Text
 refine Ok.bind (sNn h (by omega) h2) ?_
 rintro ⟨r, s1, p1⟩ ⟨h, i, e, hi⟩
 simp only at h e
 subst e
 refine Ok.gd (inB_t hi) (.ret ⟨h, ?_⟩)
 rw [Int.toNat_natCast]; exact gD_mem hi
theorem name6 (f : List UInt8) (n : Int) (hf : f.length ≤ 100) : Ok (keep_name f n) fun r => r.length ≤ 101 := by
 unfold keep_name
 have hl : ∀ x : Int, (toBytes [x]).length = 1 := fun x => rfl
 refine Ok.gd (Nat.ble_eq_true_of_le (by rw [hl]; omega)) (.ret ?_)
 rw [List.length_append, hl]; omega
theorem wrong6 {k : Nat} {n : Net} (hn : NetP k n) {s : List Int} {p : Int} (h : SrcOk s p) : Ok (keep_Src_Wrong n s p) fun q => SrcOk q.2.1 q.2.2 ∧ q.1.2.2.1.length = n.2.2.1.length := by
 have a2 := hn.k2; have a6 := hn.k6; have a4 := hn.ports.len; have a5 := hn.stats.len; have a7 := hn.segs.len; have a8 := hn.segk; have a9 := hn.some'
 have a1 : n.1.length = k := by rw [hn.nodes, nms_len]
 unfold keep_Src_Wrong
 simp only [List.nil_append]
 refine Ok.gd (fits_t (by omega)) (Ok.gd (fits_t (by omega)) (Ok.gd (fits_t (by omega)) (Ok.gd (fits_t (by omega)) ?_)))
 refine Ok.bind (sNn h (by omega) (by omega)) ?_
 rintro ⟨_, s1, p1⟩ ⟨h, r, rfl, hr⟩
 simp only at h
 refine Ok.gd (inB_t hr) ?_
 simp only [Int.toNat_natCast]
 have hsg := (hn.segs.rng _ (gD_mem (d := ([], (0, (0, (0, (0, (0, []))))))) hr)).pts
 have hpl := hsg.l8
 refine Ok.gd (fits_t (by omega)) ?_
 refine Ok.bind (sN h (n := 12) (by omega) (by omega)) ?_
 rintro ⟨c, s2, p2⟩ ⟨h, _, _⟩
 simp only at h
 refine Ok.bind (Q := fun q : Int × Int × Int × Int × Int × Int × List Pt × List Int × Int × List Str × List Seg × List Port × List Stat => SrcOk q.2.2.2.2.2.2.2.1 q.2.2.2.2.2.2.2.2.1 ∧ q.2.2.2.2.2.2.2.2.2.2.1.length = n.2.1.length ∧ q.2.2.2.2.2.2.2.2.2.2.2.1.length = n.2.2.1.length) ?_ ?_
 ·refine Ok.bif (fun _ => ?_) fun _ => Ok.bif (fun _ => ?_) fun _ => Ok.bif (fun _ => ?_) fun _ => Ok.bif (fun _ => ?_) fun _ => Ok.bif (fun _ => ?_) fun _ => Ok.bif (fun _ => ?_) fun _ => Ok.bif (fun _ => ?_) fun _ => Ok.bif (fun _ => ?_) fun _ => Ok.bif (fun _ => ?_) fun _ => Ok.bif (fun _ => ?_) fun _ => Ok.bif (fun _ => ?_) fun _ => ?_
  ·refine Ok.bind (sNn h (by omega) (by omega)) ?_
   rintro ⟨_, s3, p3⟩ ⟨h, i, rfl, hi⟩
   simp only at h
   refine Ok.bind (sT h (by simp) (by simp)) ?_
   rintro ⟨x, s4, p4⟩ ⟨h, _⟩
   exact Ok.gd (inB_t hi) (.ret ⟨h, rfl, rfl⟩)
  ·exact Ok.bind (sP h (by simp) (by simp)) fun q hq => .ret ⟨hq.1, rfl, rfl⟩
  ·exact Ok.bind (sP h (by simp) (by simp)) fun q hq => .ret ⟨hq.1, rfl, rfl⟩
  ·exact Ok.bind (sP h (by simp) (by simp)) fun q hq => .ret ⟨hq.1, rfl, rfl⟩
  ·exact Ok.bind (sP h (by simp) (by simp)) fun q hq => .ret ⟨hq.1, rfl, rfl⟩
  ·refine Ok.bif (fun hc => ?_) fun _ => .ret ⟨h, rfl, rfl⟩
   have hc := of_decide_eq_true hc
   refine Ok.bind (sNn h (by omega) (by omega)) ?_
   rintro ⟨_, s3, p3⟩ ⟨h, i, rfl, hi⟩
   simp only at h
   refine Ok.bind (sP h (by simp) (by simp)) ?_
   rintro ⟨x, s4, p4⟩ ⟨h, _⟩
   exact Ok.gd (inB_t hi) (.ret ⟨h, rfl, rfl⟩)
  ·have hm : min (3 : Int) (wi64 (((n.2.1.getD r ([], (0, (0, (0, (0, (0, []))))))).2.2.2.2.2.2.length : Int) + 1)) = ((min 3 ((n.2.1.getD r ([], (0, (0, (0, (0, (0, []))))))).2.2.2.2.2.2.length + 1) : Nat) : Int) := by rw [wi (by omega)]; omega
   rw [hm]
   refine Ok.bind (sNn h (by omega) (by omega)) ?_
   rintro ⟨_, s3, p3⟩ ⟨h, i, rfl, hi⟩
   simp only at h
   exact Ok.gd (inR_t (a := 0) (by omega) (by omega)) (.ret ⟨h, rfl, rfl⟩)
  ·refine Ok.bif (fun hc => ?_) fun _ => .ret ⟨h, rfl, rfl⟩
   have hc := of_decide_eq_true hc
   refine Ok.bind (sNn h (by omega) (by omega)) ?_
   rintro ⟨_, s3, p3⟩ ⟨h, i, rfl, hi⟩
   simp only at h
   refine Ok.bind (sP h (by simp) (by simp)) ?_
   rintro ⟨x, s4, p4⟩ ⟨h, _⟩
   exact Ok.gd (inB_t hi) (.ret ⟨h, rfl, rfl⟩)
  ·refine Ok.bif (fun hc => ?_) fun _ => .ret ⟨h, rfl, rfl⟩
   refine Ok.bind (sNn h (by omega) (by omega)) ?_
   rintro ⟨_, s3, p3⟩ ⟨h, i, rfl, hi⟩
   simp only at h
   refine Ok.bind (sT h (by simp) (by simp)) fun q1 h1 => Ok.bind (sP h1.1 (by simp) (by simp)) fun q2 h2 => Ok.bind (sP h2.1 (by simp) (by simp)) fun q3 h3 => ?_
   exact Ok.gd (inB_t hi) (.ret ⟨h3.1, rfl, by simp⟩)
  ·exact Ok.bind (sT h (by simp) (by simp)) fun q1 h1 => Ok.bind (sP h1.1 (by simp) (by simp)) fun q2 h2 => Ok.bind (sP h2.1 (by simp) (by simp)) fun q3 h3 => Ok.bind (sP h3.1 (by simp) (by simp)) fun q4 h4 => Ok.bind (sP h4.1 (by simp) (by simp)) fun q5 h5 => Ok.gd (fits_t (by omega)) (.ret ⟨h5.1, rfl, rfl⟩)
  ·exact Ok.bind (sP h (by simp) (by simp)) fun q1 h1 => Ok.bind (sP h1.1 (by simp) (by simp)) fun q2 h2 => .ret ⟨h2.1, rfl, rfl⟩
  ·refine Ok.bind (Q := fun q : List Int × Int × List Str × List Seg × List Port × List Stat × List Pt => SrcOk q.1 q.2.1 ∧ q.2.2.2.1.length = n.2.1.length ∧ q.2.2.2.2.1.length = n.2.2.1.length) ?_ fun q hq => .ret hq
   refine Ok.loop (fun x : List Int × Int × List Str × List Seg × List Port × List Stat × List Pt => SrcOk x.1 x.2.1 ∧ x.2.2.1.length ≤ 25 ∧ x.2.2.2.1.length = n.2.1.length ∧ x.2.2.2.2.1.length = n.2.2.1.length) (fun x => 25 - x.2.2.1.length) ⟨h, by (try simp only); omega, rfl, rfl⟩ ?_
   rintro ⟨s3, p3, n2, n3, n4, n5, x⟩ ⟨h, hl, e1, e2⟩
   unfold keep_Src_Wrong_L0
   simp only at h hl e1 e2 ⊢
   refine Ok.bind (sN h (n := 2) (by omega) (by omega)) ?_
   rintro ⟨c2, s4, p4⟩ ⟨h, _, _⟩
   simp only at h
   rw [show wi64 (23 + c2) = 23 + c2 from wi (by omega)]
   refine Ok.bif (fun hc => ?_) fun _ => .ret ⟨h, e1, e2⟩
   have hc := of_decide_eq_true hc
   refine Ok.bind (name6 [121] (n2.length : Int) (by simp)) fun a ha => ?_
   refine Ok.bind (name6 [] _ (by simp)) fun b hb => ?_
   refine Ok.gd (Nat.ble_eq_true_of_le (by omega)) (Ok.gd (fits_t (by omega)) (.ret ⟨⟨h, by simp; omega, e1, e2⟩, by simp; omega⟩))
 rintro ⟨q1, q2, q3, q4, q5, q6, q7, s3, p3, q10, q11, q12, q13⟩ ⟨h, e1, e2⟩
 simp only at h e1 e2
 exact Ok.gd (inB_t (by (try simp only); omega)) (.ret ⟨h, e2⟩)
/-! ### The law -/
theorem ridle_in (n : Net) (t : Int) (hn : VNet n) : iter (fun x => ref26_Idle_L0 n t x.1 x.2.1 x.2.2.1 x.2.2.2.1 x.2.2.2.2) (0, [], List.replicate n.2.1.length (0 : Int), List.replicate n.2.2.1.length (0 : Int), List.replicate n.2.2.2.1.length false) =
  some (List.replicate (n.2.1.length + n.2.2.1.length) (t, (0, (false, false))), List.replicate n.2.1.length 0, List.replicate n.2.2.1.length 0, List.replicate n.2.2.2.1.length false) := by
 have m1 := hn.small.sg
 have m2 := hn.small.po
 refine iter_for (step := fun x : Int × List Vl × List Int × List Int × List Bool => ref26_Idle_L0 n t x.1 x.2.1 x.2.2.1 x.2.2.2.1 x.2.2.2.2) (n.2.1.length + n.2.2.1.length) (fun i => ((i : Int), List.replicate i ((t, (0, (false, false))) : Vl), List.replicate n.2.1.length 0, List.replicate n.2.2.1.length 0, List.replicate n.2.2.2.1.length false)) (fun i hi => ?_) ?_
 ·show ref26_Idle_L0 n t (i : Int) (List.replicate i ((t, (0, (false, false))) : Vl)) _ _ _ = _
  unfold ref26_Idle_L0
  rw [net_eta, rcount_eq hn, Option.bind_some, dec_t (show (i : Int) < ((n.2.1.length + n.2.2.1.length : Nat) : Int) by omega), cond_true, gd_t (fits_t (by rw [List.length_replicate]; omega)), w1 hi (by omega), List.replicate_succ']
 ·show ref26_Idle_L0 n t ((n.2.1.length + n.2.2.1.length : Nat) : Int) (List.replicate (n.2.1.length + n.2.2.1.length) ((t, (0, (false, false))) : Vl)) _ _ _ = _
  unfold ref26_Idle_L0
  rw [net_eta, rcount_eq hn, Option.bind_some, dec_f (by omega)]; rfl
theorem ridle_eq (n : Net) (t : Int) : ref26_Idle n t = some (idleS n t) := by
 unfold ref26_Idle idleS
 rw [net_eta, refcheck_eq, Option.bind_some]
 by_cases h0 : chkNet n = 0
 ·have hn := VNet.of h0
  have m1 := hn.small.sg
  have m2 := hn.small.po
  have m3 := hn.small.st
  rw [dec_t h0, if_neg (fun e => e h0), Bool.not_true, cond_false]
  have e1 : (bif decide (t < 1) then some true else some (decide (60 < t))) = some (!rg 1 60 t) := by
   unfold rg; rw [notlt t 1, notlt 60 t]
   cases decide (1 ≤ t) <;> cases decide (t ≤ 60) <;> rfl
  rw [e1, Option.bind_some]
  cases rg 1 60 t with
  | false => rfl
  | true =>
   simp only [Bool.not_true, cond_false, cond_true]
   rw [gd_t (makeG_t (by omega)), gd_t (makeG_t (by omega)), gd_t (makeG_t (by omega))]
   simp only [Int.toNat_natCast]
   rw [ridle_in n t hn]; rfl
 ·rw [dec_f h0, if_pos h0]; rfl
theorem off_ok {p : Pl} (h1 : p.1.length ≤ 1000) (h2 : p.2.1.length ≤ 1000) (h3 : p.2.2.length ≤ 1000) {s : List Int} {q : Int} (h : SrcOk s q) : Ok (keep_Src_Off p s q) fun z => z.1.1.length ≤ 1001 ∧ z.1.2.1.length ≤ 1001 ∧ z.1.2.2.length ≤ 1001 := by
 unfold keep_Src_Off
 simp only [List.nil_append]
 refine Ok.gd (fits_t (by omega)) (Ok.gd (fits_t (by omega)) (Ok.gd (fits_t (by omega)) ?_))
 refine Ok.bind (sN h (n := 5) (by omega) (by omega)) fun r hr => ?_
 refine Ok.bind (Q := fun z : List Int × List Int × List Bool × List Int × Int => z.1.length ≤ 1001 ∧ z.2.1.length ≤ 1001 ∧ z.2.2.1.length ≤ 1001) ?_ fun z hz => .ret hz
 refine Ok.bif (fun _ => Ok.gd (fits_t (by omega)) (.ret ⟨by (try simp only); omega, by (try simp only); omega, by simp only [List.length_append, List.length_cons, List.length_nil]; omega⟩)) fun _ => ?_
 refine Ok.bind (Q := fun z : List Int × List Int × List Bool × List Int × Int => z.1.length ≤ 1001 ∧ z.2.1.length ≤ 1001 ∧ z.2.2.1.length ≤ 1001) ?_ fun z hz => .ret hz
 refine Ok.bif (fun _ => ?_) fun _ => ?_
 ·rw [wi (by omega)]
  refine Ok.bind (sN hr.1 (n := (p.2.1.length : Int) + 1) (by omega) (by omega)) fun r2 hr2 => ?_
  refine Ok.gd (by unfold cutG; simp only [Bool.and_eq_true, decide_eq_true_eq]; omega) (.ret ⟨by (try simp only); omega, by simp only [List.length_take]; omega, by (try simp only); omega⟩)
 ·refine Ok.bind (Q := fun z : List Int × Int × List Int × List Int × List Bool => z.2.2.1.length ≤ 1001 ∧ z.2.2.2.1.length ≤ 1001 ∧ z.2.2.2.2.length ≤ 1001) ?_ fun z hz => .ret hz
  refine Ok.bif (fun _ => ?_) fun _ => ?_
  ·refine Ok.bind (Q := fun z : List Int × Int × List Int × List Int × List Bool => z.2.2.1.length ≤ 1001 ∧ z.2.2.2.1.length ≤ 1001 ∧ z.2.2.2.2.length ≤ 1001) ?_ fun z hz => .ret hz
   refine Ok.bif (fun hc => ?_) fun _ => .ret ⟨by (try simp only); omega, by (try simp only); omega, by (try simp only); omega⟩
   have hc := of_decide_eq_true hc
   refine Ok.bind (sN hr.1 (n := (p.2.1.length : Int)) (by omega) (by omega)) fun r3 hr3 => ?_
   refine Ok.gd (inB_iff.2 hr3.2) ?_
   refine Ok.bind (sP hr3.1 (by simp) (by simp)) fun r4 hr4 => ?_
   exact Ok.gd (inB_iff.2 hr3.2) (.ret ⟨by (try simp only); omega, by simp only [List.length_set]; omega, by (try simp only); omega⟩)
  ·refine Ok.bind (Q := fun z : List Int × Int × List Int × List Int × List Bool => z.2.2.1.length ≤ 1001 ∧ z.2.2.2.1.length ≤ 1001 ∧ z.2.2.2.2.length ≤ 1001) ?_ fun z hz => .ret hz
   refine Ok.bif (fun hc => ?_) fun _ => .ret ⟨by (try simp only); omega, by (try simp only); omega, by (try simp only); omega⟩
   have hc := of_decide_eq_true hc
   refine Ok.bind (sN hr.1 (n := (p.1.length : Int)) (by omega) (by omega)) fun r3 hr3 => ?_
   refine Ok.gd (inB_iff.2 hr3.2) ?_
   refine Ok.bind (sP hr3.1 (by simp) (by simp)) fun r4 hr4 => ?_
   exact Ok.gd (inB_iff.2 hr3.2) (.ret ⟨by simp only [List.length_set]; omega, by (try simp only); omega, by (try simp only); omega⟩)
def XS (l : List Stp) : Prop := l.length ≤ 14 ∧ ∀ s ∈ l, s.2.2.2.2.2.1.length ≤ 100
theorem XS.set {l : List Stp} (h : XS l) {y : Stp} (hy : y.2.2.2.2.2.1.length ≤ 100) (i : Nat) : XS (l.set i y) := ⟨by rw [List.length_set]; exact h.1, fun s hs => by
 rcases List.mem_or_eq_of_mem_set hs with hs | rfl
 ·exact h.2 s hs
 ·exact hy⟩
theorem mod14 {x : Int} (hx : i64P x) {k : Int} (h1 : 1 ≤ k) (h2 : k ≤ 1000) : second_Mod x k = some (x % k) := by
 unfold second_Mod; rw [mod_eq hx h1 (by omega)]; rfl
theorem made_true (l : List Int) (hl : ∀ x ∈ l, i64P x) (odd travel : Int) (ho : i64P odd) (ht : i64P travel) : law26_StepMade l odd travel = some true := by
 refine Ok.true ?_
 have hw : Ok law26_awake (fun b => b = true) := ⟨true, awake_true, rfl⟩
 unfold law26_StepMade
 refine Ok.eq (few_eq l) (Ok.bif (fun _ => Ok.bind hw fun b hb => .ret hb) fun _ => ?_)
 obtain ⟨s, e, hs⟩ := new_eq hl
 refine Ok.eq e ?_
 refine Ok.bind (net_ok hs) ?_
 rintro ⟨n, s2, q2⟩ ⟨e, h, k, hn⟩
 replace e : s2 = s := e
 subst e
 simp only at h hn
 have hg := GN.of hn
 rw [net_eta]
 refine Ok.bind (mplan_ok hg h) fun r5 h5 => ?_
 refine Ok.bind (mdesk_ok hg h5.2 h5.1) fun r6 h6 => ?_
 refine Ok.bind (sN h6.1 (n := 3) (by omega) (by omega)) fun r7 h7 => ?_
 refine Ok.bind (Q := fun z : List Int × Int × Dk => SrcOk z.1 z.2.1 ∧ DkN n z.2.2) ?_ fun z hz => ?_
 ·refine Ok.bif (fun _ => ?_) fun _ => .ret ⟨h7.1, h6.2⟩
  exact Ok.bind (mopen_ok hg h5.2 h7.1) fun r8 h8 => .ret h8
 obtain ⟨s3, q3, d⟩ := z
 obtain ⟨h, hd⟩ := hz
 simp only at h hd
 have hds := hd.small hg
 refine Ok.bind (sN h (n := 12) (by omega) (by omega)) fun r9 h9 => ?_
 refine Ok.bind (Q := fun z : List Int × Int × List Stp × Dk => SrcOk z.1 z.2.1 ∧ XS z.2.2.1 ∧ z.2.2.2 = d) ?_ ?_
 ·refine Ok.loop (fun x : Int × List Int × Int × List Stp × Dk => 0 ≤ x.1 ∧ x.1 + x.2.2.2.1.length ≤ 14 ∧ SrcOk x.2.1 x.2.2.1 ∧ XS x.2.2.2.1 ∧ x.2.2.2.2 = d) (fun x => x.1.toNat) ⟨h9.2.1, by simp; omega, h9.1, ⟨by simp, fun s hs => (by cases hs)⟩, rfl⟩ ?_
  rintro ⟨v, s', q', x, d'⟩ ⟨v0, v1, h2, hx, e⟩
  replace e : d' = d := e
  subst e
  simp only at v0 v1 h2 hx
  show Ok (law26_StepMade_L0 (n, s2, q2) v s' q' x d'.1 d'.2.1 d'.2.2.1 d'.2.2.2) _
  unfold law26_StepMade_L0
  refine Ok.bif (fun hc => ?_) fun hc => .ret ⟨h2, hx, rfl⟩
  have hc := of_decide_eq_true hc
  refine Ok.bind (mstep_ok (n := n) hg (d := d') hds.v h2) fun r8 h8 => ?_
  refine Ok.gd (fits_t (by (try simp only); omega)) ?_
  rw [wi (by omega)]
  refine .ret ⟨⟨by (try simp only); omega, by simp only [List.length_append, List.length_cons, List.length_nil]; omega, h8.1, ⟨?_, fun s hs => ?_⟩, h8.2.2⟩, by (try simp only); omega⟩
  ·simp only [List.length_append, List.length_cons, List.length_nil]; omega
  ·rcases List.mem_append.1 hs with hs | hs
   ·exact hx.2 s hs
   ·rw [List.mem_singleton.1 hs]; exact h8.2.1
 rintro ⟨s4, q4, x, d'⟩ ⟨h, hx, e⟩
 replace e : d' = d := e
 subst e
 simp only at h hx
 have hp1 := hg.p1
 have hps := hd.p.small hg
 have hv1 := hd.v
 have hsg := hg.sg
 have hpo := hg.po
 refine Ok.eq (mod14 ho (by omega) (by omega)) ?_
 generalize odd % 14 = r11
 refine Ok.bind (Q := fun z : List (List UInt8) × List Seg × List Port × List Stat × Int × Int × List Vl × List Int × List Int × List Bool × List Stp => 1 ≤ z.2.2.1.length ∧ DkS (z.2.2.2.2.2.2.1, z.2.2.2.2.2.2.2.1, z.2.2.2.2.2.2.2.2.1, z.2.2.2.2.2.2.2.2.2.1) ∧ XS z.2.2.2.2.2.2.2.2.2.2) ?_ ?_
 ·refine Ok.bif (fun _ => ?_) fun _ => ?_
  ·refine Ok.bind (wrong6 hn h) fun r12 h12 => .ret ⟨by (try simp only); omega, hds, hx⟩
  refine Ok.bind (Q := fun z : List Vl × List Int × List Int × List Bool × List Stp => DkS (z.1, z.2.1, z.2.2.1, z.2.2.2.1) ∧ XS z.2.2.2.2) ?_ fun z hz => .ret ⟨hp1, hz⟩
  refine Ok.bif (fun _ => ?_) fun _ => ?_
  ·refine Ok.bind (off_ok (p := d'.2) (by omega) (by omega) (by omega) h) fun r13 h13 => .ret ⟨⟨hds.v, by (try simp only); omega, by (try simp only); omega, by (try simp only); omega⟩, hx⟩
  refine Ok.bind (Q := fun z : List Vl × List Int × List Int × List Bool × List Stp => DkS (z.1, z.2.1, z.2.2.1, z.2.2.2.1) ∧ XS z.2.2.2.2) ?_ fun z hz => .ret hz
  refine Ok.bif (fun _ => ?_) fun _ => ?_
  ·refine Ok.bind (sN h (n := (d'.1.length : Int)) (by omega) (by omega)) fun r14 h14 => ?_
   refine Ok.bind (sN h14.1 (n := 3) (by omega) (by omega)) fun r15 h15 => ?_
   exact Ok.gd (inB_iff.2 h14.2) (.ret ⟨⟨by simp only [List.length_set]; exact hds.v, hds.r, hds.p, hds.b⟩, hx⟩)
  refine Ok.bind (Q := fun z : List Vl × List Int × List Int × List Bool × List Stp => DkS (z.1, z.2.1, z.2.2.1, z.2.2.2.1) ∧ XS z.2.2.2.2) ?_ fun z hz => .ret hz
  refine Ok.bif (fun _ => ?_) fun _ => ?_
  ·refine Ok.bind (sN h (n := (d'.1.length : Int)) (by omega) (by omega)) fun r16 h16 => ?_
   exact Ok.gd (inB_iff.2 h16.2) (Ok.gd (inB_iff.2 h16.2) (.ret ⟨⟨by simp only [List.length_set]; exact hds.v, hds.r, hds.p, hds.b⟩, hx⟩))
  refine Ok.bind (Q := fun z : List Vl × List Int × List Int × List Bool × List Stp => DkS (z.1, z.2.1, z.2.2.1, z.2.2.2.1) ∧ XS z.2.2.2.2) ?_ fun z hz => .ret hz
  refine Ok.bif (fun _ => ?_) fun _ => ?_
  ·refine Ok.gd (by unfold cutG; simp only [Bool.and_eq_true, decide_eq_true_eq]; omega) (.ret ⟨⟨by simp only [List.length_drop]; have := hds.v; omega, hds.r, hds.p, hds.b⟩, hx⟩)
  refine Ok.bind (Q := fun z : List Stp × Dk => XS z.1 ∧ DkS z.2) ?_ fun z hz => .ret ⟨hz.2, hz.1⟩
  refine Ok.bif (fun _ => ?_) fun _ => ?_
  ·refine Ok.bind (Q := fun z : List Stp × Dk => XS z.1 ∧ DkS z.2) ?_ fun z hz => .ret hz
   refine Ok.bif (fun hc => ?_) fun _ => .ret ⟨hx, hds⟩
   replace hc : 0 < (d'.2.2.2.length : Int) := of_decide_eq_true hc
   have hB : inB 0 d'.2.2.2.length = true := inB0 (by (try simp only); omega)
   exact Ok.gd hB (Ok.gd hB (.ret ⟨hx, ⟨hds.v, hds.r, hds.p, by simp only [List.length_set]; exact hds.b⟩⟩))
  refine Ok.bind (Q := fun z : List Stp × Dk => XS z.1 ∧ DkS z.2) ?_ fun z hz => .ret hz
  refine Ok.bif (fun _ => ?_) fun _ => ?_
  ·refine Ok.bind (Q := fun z : List Stp × Dk => XS z.1 ∧ DkS z.2) ?_ fun z hz => .ret hz
   refine Ok.bif (fun hc => ?_) fun _ => .ret ⟨hx, hds⟩
   replace hc : 0 < (x.length : Int) := of_decide_eq_true hc
   have hm := hx.2 _ (gD_mem (d := ((0, (0, (0, (0, (0, ([], 0)))))) : Stp)) (show 0 < x.length by omega))
   exact Ok.gd (inB0 (by (try simp only); omega)) (.ret ⟨hx.set (by exact hm) 0, hds⟩)
  refine Ok.bind (Q := fun z : List Stp × Dk => XS z.1 ∧ DkS z.2) ?_ fun z hz => .ret hz
  refine Ok.bif (fun _ => ?_) fun _ => .ret ⟨hx, hds⟩
  refine Ok.bind (Q := fun z : List Stp × Dk => XS z.1 ∧ DkS z.2) ?_ fun z hz => .ret hz
  refine Ok.bif (fun hc => ?_) fun _ => .ret ⟨hx, hds⟩
  replace hc : 0 < (x.length : Int) := of_decide_eq_true hc
  have hm := hx.2 _ (gD_mem (d := ((0, (0, (0, (0, (0, ([], 0)))))) : Stp)) (show 0 < x.length by omega))
  exact Ok.gd (inB0 (by (try simp only); omega)) (.ret ⟨hx.set (by exact hm) 0, hds⟩)
 rintro ⟨n1, n2, n3, n4, n5, n6, d1, d2, d3, d4, y⟩ ⟨hP, hD, hX⟩
 simp only at hP hD hX
 refine Ok.eq (mod14 ht (by omega) (by omega)) ?_
 refine Ok.eq (idle_eq (n1, n2, n3, n4, n5, n6) _ (fun _ => by (try simp only); omega)) ?_
 refine Ok.eq (mod14 ht (by omega) (by omega)) ?_
 refine Ok.eq (ridle_eq (n1, n2, n3, n4, n5, n6) _) ?_
 rw [dec_t rfl, cond_true]
 have hI : DkS (idleS (n1, n2, n3, n4, n5, n6) (wi64 (travel % 64 - 1))).1 := by
  unfold idleS
  by_cases h0 : chkNet (n1, n2, n3, n4, n5, n6) = 0
  ·have hv := (VNet.of h0).small
   have a1 := hv.sg; have a2 := hv.po; have a3 := hv.st
   simp only at a1 a2 a3
   rw [if_neg (fun e => e h0)]
   cases rg 1 60 (wi64 (travel % 64 - 1)) with
   | false => exact ⟨by simp, by simp, by simp, by simp⟩
   | true => exact ⟨by simp; omega, by simp; omega, by simp; omega, by simp; omega⟩
  ·rw [if_pos h0]; exact ⟨by simp, by simp, by simp, by simp⟩
 refine Ok.eq (sameD hI) ?_
 rw [cond_true]
 refine Ok.eq (agree_eq (n := (n1, n2, n3, n4, n5, n6)) (d := (d1, d2, d3, d4)) hD y (by have := hX.1; omega) (fun s hs => by have := hX.2 s hs; omega)) ?_
 rw [cond_true]
 exact Ok.bind hw fun b hb => .ret hb
end Go.Proofs.YtbljipjemhbooaaGreat
