/- Steps: what flows behind steps. No condition. -/
import Derived.Test.YtbljipjemhbooaaGreatSa2
namespace Go.Proofs.YtbljipjemhbooaaGreat
open Go Go.Sq
set_option linter.unusedVariables false
section
variable {n : Net}
def near (a b : List Vl) (t : Int) : Prop := ∀ k, (b.getD k v0).2.1 - (a.getD k v0).2.1 ≤ t ∧ (a.getD k v0).2.1 - (b.getD k v0).2.1 ≤ t
theorem near.refl (a : List Vl) {t : Int} (h : 0 ≤ t) : near a a t := fun k => by omega
theorem near.trans {a b c : List Vl} {t u : Int} (h : near a b t) (h' : near b c u) : near a c (t + u) := fun k => by
 have := h k; have := h' k; omega
theorem mov_near {v : Vl} (h : validV v = true) {t : Int} (ht : 0 ≤ t) : movO v t - v.2.1 ≤ t ∧ v.2.1 - movO v t ≤ t := by
 have := valid_iff.1 h
 unfold movO
 cases v.2.2.2 <;> cases v.2.2.1 <;> simp only [cond_true, cond_false] <;> (try split) <;> omega
structure StepQ (n : Net) (d y : Dk) (s : Stp) : Prop where
 q : y.2.2.1 = if s.1 = 5 then growQ s.2.2.2 s.2.2.1 d.2.2.1 else d.2.2.1
 v : near d.1 y.1 (if s.1 = 6 then s.2.2.1 else 0)
 t : s.1 = 6 → 1 ≤ s.2.2.1 ∧ s.2.2.1 ≤ 100
 f : s.1 = 5 → (-1000 ≤ s.2.2.1 ∧ s.2.2.1 ≤ 1000) ∧ (0 ≤ s.2.2.2.1 ∧ s.2.2.2.1 < (n.2.2.1.length : Int)) ∧ (0 ≤ s.2.2.2.2.1 ∧ s.2.2.2.2.1 < (n.2.2.1.length : Int)) ∧ s.2.2.2.1.toNat ≠ s.2.2.2.2.1.toNat
theorem set_near (a : List Vl) (i : Nat) (w : Bool) : near a (a.set i (cmdV (a.getD i v0) w)) 0 := fun k => by
 rw [gD_set]
 split
 ·rename_i h; rw [h.1]; unfold cmdV; simp only; omega
 ·omega
theorem step_q {d : Dk} {s : Stp} (h : (appS n d s).2 = 0) : StepQ n d (appS n d s).1 s := by
 obtain ⟨hd, e⟩ := app_ok h
 rw [e] at h ⊢
 obtain ⟨_, ⟨k, e⟩ | ⟨k, e⟩ | ⟨k, e⟩ | ⟨k, e⟩⟩ := step_cases h
 ·rw [e] at h ⊢
  unfold turnS at h ⊢
  obtain ⟨c1, e1⟩ := bif_z (by decide) h
  rw [e1] at h ⊢
  obtain ⟨c2, e2⟩ := bif_z (by decide) h
  rw [e2]
  exact ⟨(if_neg (by omega)).symm, by rw [if_neg (by omega)]; exact set_near _ _ _, fun h => by omega, fun h => by omega⟩
 ·rw [e] at h ⊢
  unfold runS at h ⊢
  obtain ⟨c1, e1⟩ := bif_z (by decide) h
  rw [e1] at h ⊢
  obtain ⟨c2, e2⟩ := bif_z (by decide) h
  rw [e2]
  exact ⟨(if_neg (by omega)).symm, by rw [if_neg (by omega)]; exact .refl _ (by omega), fun h => by omega, fun h => by omega⟩
 ·rw [e] at h ⊢
  obtain ⟨hc, e⟩ := chg_of h
  rw [e]
  have hx := VPa.of hc.pa
  exact ⟨(if_pos k).symm, by rw [if_neg (by omega)]; exact .refl _ (by omega), fun h => by omega, fun _ => ⟨hc.v, hx.i, hx.o, by have := hx.i; have := hx.o; have := hx.ne; unfold absP at *; simp only at *; omega⟩⟩
 ·rw [e] at h ⊢
  unfold waitS at h ⊢
  obtain ⟨c1, e1⟩ := bif_z (by decide) h
  rw [e1]
  have ht := rg_iff.1 (show rg 1 100 s.2.2.1 = true by simpa using c1)
  refine ⟨(if_neg (by omega)).symm, ?_, fun _ => ht, fun h => by omega⟩
  rw [if_pos k]
  intro j
  rcases Nat.lt_or_ge j d.1.length with hj | hj
  ·have hv := all_gV.1 hd.val j hj
   rw [gD_map (fun v => movV v s.2.2.1) d.1 j v0 v0 hj]
   exact mov_near hv (by omega)
  ·rw [gD_out (by rw [List.length_map]; exact hj), gD_out hj]; omega
theorem mopenq_ok (hn : GN n) {p : Pl} (hp : PlS n p) {s : List Int} {q : Int} (h : SrcOk s q) : Ok (second_Opened n p s q) fun z => SrcOk z.1 z.2.1 ∧ DkN n z.2.2 ∧ z.2.2.2.2.1 = List.replicate n.2.2.1.length 0 := by
 have hsg := hn.sg
 have hpo := hn.po
 have hst := hn.st
 unfold second_Opened
 rw [show ((p.1, (p.2.1, p.2.2)) : Pl) = p from rfl]
 refine Ok.bind (mdesk_ok hn hp h) fun r hr => ?_
 refine Ok.gd (makeG_t (by omega)) (Ok.gd (makeG_t (by omega)) (Ok.gd (makeG_t (by omega)) (.ret ⟨hr.1, ⟨hr.2.v, ⟨?_, ?_, ?_⟩⟩, ?_⟩)))
 ·simp
 ·simp
 ·simp
 ·simp
abbrev FlS := Int × Int × List Int × Int × List Vl × List Int × List Int × List Bool × List Vl × List Int × List Int × List Bool × List Int
structure FlI (n : Net) (d : Dk) (x : FlS) : Prop where
 i0 : 0 ≤ x.2.1
 i1 : x.2.1 ≤ 20
 ran : 0 ≤ x.1 ∧ x.1 ≤ 100 * x.2.1
 src : SrcOk x.2.2.1 x.2.2.2.1
 de : (x.2.2.2.2.1, x.2.2.2.2.2.1, x.2.2.2.2.2.2.1, x.2.2.2.2.2.2.2.1) = d
 now : DkN n (x.2.2.2.2.2.2.2.2.1, x.2.2.2.2.2.2.2.2.2.1, x.2.2.2.2.2.2.2.2.2.2.1, x.2.2.2.2.2.2.2.2.2.2.2.1)
 q : x.2.2.2.2.2.2.2.2.2.2.1 = x.2.2.2.2.2.2.2.2.2.2.2.2
 bd : ∀ k, -1000 ≤ x.2.2.2.2.2.2.2.2.2.2.2.2.getD k 0 ∧ x.2.2.2.2.2.2.2.2.2.2.2.2.getD k 0 ≤ 1000
 nr : near d.1 x.2.2.2.2.2.2.2.2.1 x.1
theorem flows_in (hg : GN n) (r4 : Net × List Int × Int) (e4 : r4.1 = n) {s : List Int} {q : Int} (h : SrcOk s q) {d : Dk} (hd : DkN n d) (hq : d.2.2.1 = List.replicate n.2.2.1.length 0) :
  Ok (iter (fun x => law26_StepFlows_L0 r4 x.1 x.2.1 x.2.2.1 x.2.2.2.1 x.2.2.2.2.1 x.2.2.2.2.2.1 x.2.2.2.2.2.2.1 x.2.2.2.2.2.2.2.1 x.2.2.2.2.2.2.2.2.1 x.2.2.2.2.2.2.2.2.2.1 x.2.2.2.2.2.2.2.2.2.2.1 x.2.2.2.2.2.2.2.2.2.2.2.1 x.2.2.2.2.2.2.2.2.2.2.2.2)
   ((0, 0, s, q, d.1, d.2.1, d.2.2.1, d.2.2.2, d.1, d.2.1, d.2.2.1, d.2.2.2, List.replicate n.2.2.1.length 0) : FlS)) fun e => ∃ i s' q', FlI n d ((e.1, i, s', q', e.2) : FlS) := by
 refine Ok.loop (FlI n d) (fun x => 20 - x.2.1.toNat) ⟨Int.le_refl _, by simp, ⟨Int.le_refl _, by simp⟩, h, rfl, hd, hq, fun k => ?_, .refl _ (Int.le_refl _)⟩ ?_
 ·simp only
  rcases Nat.lt_or_ge k n.2.2.1.length with hk | hk
  ·rw [gD_rep _ _ _ _ hk]; omega
  ·rw [gD_out (by simp; omega)]; omega
 rintro ⟨ran, i, s, q, a1, a2, a3, a4, w1', w2, w3, w4, more⟩ ⟨i0, i1, hran, h, ed, hnow, hq', bd, nr⟩
 simp only at i0 i1 hran h ed hnow hq' bd nr
 subst hq'
 have hns := hnow.small hg
 show Ok (law26_StepFlows_L0 r4 ran i s q a1 a2 a3 a4 w1' w2 w3 w4 w3) _
 unfold law26_StepFlows_L0
 rw [net_eta, e4]
 refine Ok.bind (Q := fun z : Bool × List Int × Int × List Int => SrcOk z.2.1 z.2.2.1 ∧ z.2.2.2 = w3 ∧ (z.1 = true → i < 20)) ?_ ?_
 ·refine Ok.bif (fun hc => ?_) fun _ => .ret ⟨h, rfl, fun h => (by cases h)⟩
  exact Ok.eq (a := (decide (q < (s.length : Int)), s, q)) rfl (.ret ⟨h, rfl, fun _ => of_decide_eq_true hc⟩)
 rintro ⟨b, s, q, m⟩ ⟨h, em, hb⟩
 replace em : m = w3 := em
 subst em
 simp only at h hb
 refine Ok.bif (fun hc => ?_) fun _ => .ret ⟨i, s, q, ⟨i0, i1, hran, h, ed, hnow, rfl, bd, nr⟩⟩
 have hi := hb hc
 refine Ok.bind (Q := fun z : Int × List Int × Int × List Vl × List Int × List Int × List Bool × List Int => FlI n d ((z.1, i + 1, z.2.1, z.2.2.1, a1, a2, a3, a4, z.2.2.2) : FlS)) ?_ ?_
 ·refine Ok.bind (mstep_ok hg (d := (w1', w2, m, w4)) hns.v h) fun r8 h8 => ?_
  obtain ⟨x, s5, q5⟩ := r8
  simp only at h8 ⊢
  rw [show ((x.1, (x.2.1, (x.2.2.1, (x.2.2.2.1, (x.2.2.2.2.1, (x.2.2.2.2.2.1, x.2.2.2.2.2.2)))))) : Stp) = x from rfl]
  refine Ok.eq (Apply_eq hns x) ?_
  refine Ok.bif (fun _ => .ret ⟨by (try simp only); omega, by (try simp only); omega, ⟨hran.1, by (try simp only); omega⟩, h8.1, ed, hnow, rfl, bd, nr⟩) fun he => ?_
  have he : (appS n (w1', w2, m, w4) x).2 = 0 := by simpa using he
  have hv := app_keeps he
  have hy := hnow.ln (app_ln (n := n) (w1', w2, m, w4) x)
  have hs := step_q he
  generalize appS n (w1', w2, m, w4) x = Y at he hv hy hs
  have hpm : m.length = n.2.2.1.length := hnow.p.q
  have hsv := hs.v
  have hsq := hs.q
  simp only at hsv hsq
  refine Ok.bind (Q := fun z : List Int => z = Y.1.2.2.1) ?_ fun z hz => ?_
  ·refine Ok.bif (fun hk => ?_) fun hk => ?_
   ·have hk := of_decide_eq_true hk
    obtain ⟨f1, f2, f3, f4⟩ := hs.f hk
    have hA : inB x.2.2.2.1 m.length = true := inB_iff.2 (by omega)
    have b1 := bd x.2.2.2.1.toNat
    have b2 : -2000 ≤ (m.set x.2.2.2.1.toNat (m.getD x.2.2.2.1.toNat 0 + x.2.2.1)).getD x.2.2.2.2.1.toNat 0 ∧ (m.set x.2.2.2.1.toNat (m.getD x.2.2.2.1.toNat 0 + x.2.2.1)).getD x.2.2.2.2.1.toNat 0 ≤ 2000 := by
     rw [gD_set]; have := bd x.2.2.2.2.1.toNat; split <;> omega
    have hB : inB x.2.2.2.2.1 (m.set x.2.2.2.1.toNat (m.getD x.2.2.2.1.toNat 0 + x.2.2.1)).length = true := inB_iff.2 (by rw [List.length_set]; omega)
    rw [wi (show -9223372036854775808 ≤ m.getD x.2.2.2.1.toNat 0 + x.2.2.1 ∧ m.getD x.2.2.2.1.toNat 0 + x.2.2.1 ≤ 9223372036854775807 by omega)]
    refine Ok.gd hA (Ok.gd hA (Ok.gd hB (Ok.gd hB ?_)))
    rw [wi (by omega)]
    rw [if_pos hk] at hsq
    exact .ret hsq.symm
   ·have hk := of_decide_eq_false hk
    rw [if_neg hk] at hsq
    exact .ret hsq.symm
  ·subst hz
   refine Ok.bind (Q := fun z : Int × List Int => z.2 = Y.1.2.2.1 ∧ z.1 = ran + (if x.1 = 6 then x.2.2.1 else 0)) ?_ ?_
   ·refine Ok.bif (fun hk => ?_) fun hk => .ret ⟨rfl, by rw [if_neg (of_decide_eq_false hk), Int.add_zero]⟩
    have hk := of_decide_eq_true hk
    have := hs.t hk
    rw [wi (by omega), if_pos hk]
    exact .ret ⟨rfl, rfl⟩
   ·rintro ⟨ran', z⟩ ⟨ez, er⟩
    replace ez : z = Y.1.2.2.1 := ez
    replace er : ran' = ran + (if x.1 = 6 then x.2.2.1 else 0) := er
    subst ez er
    have ht : 0 ≤ (if x.1 = 6 then x.2.2.1 else 0) ∧ (if x.1 = 6 then x.2.2.1 else 0) ≤ 100 := by
     split
     ·rename_i hk; have := hs.t hk; omega
     ·omega
    exact .ret ⟨by (try simp only); omega, by (try simp only); omega, ⟨by (try simp only); omega, by (try simp only); omega⟩, h8.1, ed, hy, rfl, fun k => hv.prate k, nr.trans hsv⟩
 ·rintro ⟨ran', s', q', z⟩ hz
  rw [wi (by omega)]
  exact .ret ⟨hz, by (try simp only); omega⟩
theorem flows_true (l : List Int) (hl : ∀ x ∈ l, i64P x) : law26_StepFlows l = some true := by
 refine Ok.true ?_
 have hw : Ok law26_awake (fun b => b = true) := ⟨true, awake_true, rfl⟩
 unfold law26_StepFlows
 refine Ok.eq (few_eq l) (Ok.bif (fun _ => Ok.bind hw fun b hb => .ret hb) fun _ => ?_)
 obtain ⟨s, e, hs⟩ := new_eq hl
 refine Ok.eq e ?_
 refine Ok.bind (net_ok hs) ?_
 rintro ⟨n, s2, q2⟩ ⟨e, h, k, hn⟩
 replace e : s2 = s := e
 subst e
 simp only at h hn
 have hg := GN.of hn
 rw [net_eta]
 refine Ok.bind (mplan_ok hg h) fun r5 h5 => ?_
 refine Ok.bind (mopenq_ok hg h5.2 h5.1) fun r6 h6 => ?_
 have hpo := hg.po
 refine Ok.gd (makeG_t (by (try simp only); omega)) ?_
 rw [Int.toNat_natCast]
 refine Ok.bind (flows_in hg (n, s2, q2) rfl h6.1 h6.2.1 h6.2.2) ?_
 rintro ⟨ran, a1, a2, a3, a4, w1', w2, w3, w4, more⟩ ⟨i, s', q', i0, i1, hran, hsrc, ed, hnow, hq', bd, nr⟩
 simp only at i0 i1 hran hsrc ed hnow hq' bd nr
 subst hq'
 have hns := hnow.small hg
 have hd := h6.2.1
 have hq := h6.2.2
 rw [← ed] at hd hq nr
 simp only at hq nr
 have hpm : w3.length = n.2.2.1.length := hnow.p.q
 have hpa : a3.length = n.2.2.1.length := hd.p.q
 have hsg := hg.sg
 have hv1 : w1'.length = n.2.1.length + n.2.2.1.length := hnow.v
 have hv2 : a1.length = n.2.1.length + n.2.2.1.length := hd.v
 refine Ok.bind (Q := fun e : Unit ⊕ Bool => e = .inl ()) ?_ fun e he => ?_
 ·refine Ok.loop (fun x : Int × List Int => (∃ k : Nat, x.1 = (k : Int) ∧ k ≤ n.2.2.1.length) ∧ x.2 = w3) (fun x => n.2.2.1.length - x.1.toNat) ⟨⟨0, rfl, by omega⟩, rfl⟩ ?_
  rintro ⟨v, m⟩ ⟨⟨k, hk, hk2⟩, em⟩
  replace hk : v = (k : Int) := hk
  replace em : m = w3 := em
  subst hk em
  unfold law26_StepFlows_L1
  refine Ok.bif (fun hc => ?_) fun _ => .ret rfl
  have hc := of_decide_eq_true hc
  simp only at hc
  have hk' : k < n.2.2.1.length := by omega
  refine Ok.gd (inB_t (by (try simp only); omega)) (Ok.gd (inB_t (by (try simp only); omega)) (Ok.gd (inB_t (by (try simp only); omega)) ?_))
  simp only [Int.toNat_natCast]
  have hz : a3.getD k 0 = 0 := by rw [hq, gD_rep _ _ _ _ hk']
  have hb := bd k
  have he : m.getD k 0 = wi64 (a3.getD k 0 + m.getD k 0) := by rw [hz, wi (by omega)]; omega
  refine Ok.bif (fun hc => absurd he (by simpa using hc)) fun _ => ?_
  rw [w1 hk' (by omega)]
  exact .ret ⟨⟨⟨k + 1, rfl, by omega⟩, rfl⟩, by simp only [Int.toNat_natCast]; omega⟩
 subst he
 rw [Sum.elim_inl]
 refine Ok.bind (Q := fun e : Unit ⊕ Bool => e = .inl ()) ?_ fun e he => ?_
 ·refine Ok.loop (fun x : Int => ∃ k : Nat, x = (k : Int) ∧ k ≤ w1'.length) (fun x => w1'.length - x.toNat) ⟨0, rfl, by omega⟩ ?_
  rintro v ⟨k, hk, hk2⟩
  subst hk
  unfold law26_StepFlows_L2
  refine Ok.bif (fun hc => ?_) fun _ => .ret rfl
  have hc := of_decide_eq_true hc
  simp only at hc
  have hk' : k < w1'.length := by omega
  refine Ok.gd (inB_t (by (try simp only); omega)) (Ok.gd (inB_t (by (try simp only); omega)) ?_)
  simp only [Int.toNat_natCast]
  have hb := nr k
  have f1 : ¬ ran < wi64 ((w1'.getD k v0).2.1 - (a1.getD k v0).2.1) := by rw [wi (by omega)]; omega
  have f2 : ¬ ran < wi64 (0 - wi64 ((w1'.getD k v0).2.1 - (a1.getD k v0).2.1)) := by rw [wi (show -9223372036854775808 ≤ (w1'.getD k v0).2.1 - (a1.getD k v0).2.1 ∧ (w1'.getD k v0).2.1 - (a1.getD k v0).2.1 ≤ 9223372036854775807 by omega), wi (by omega)]; omega
  refine Ok.bind (Q := fun b : Bool => b = false) (Ok.bif (fun hc => absurd (of_decide_eq_true hc) f1) fun _ => .ret (decide_eq_false f2)) ?_
  rintro b rfl
  rw [cond_false, w1 hk' (by omega)]
  exact .ret ⟨⟨k + 1, rfl, by omega⟩, by simp only [Int.toNat_natCast]; omega⟩
 subst he
 rw [Sum.elim_inl]
 refine Ok.eq (cplan_eq (p := (w2, w3, w4)) hns.r hns.p hns.b) ?_
 refine Ok.eq (sameP (p := (w2, w3, w4)) hns.r hns.p hns.b) ?_
 exact Ok.bind hw fun b hb => .ret hb
end
end Go.Proofs.YtbljipjemhbooaaGreat
