/- Steps: what is reached is valid; a change of a flow is taken back. No condition. -/
import Derived.Test.YtbljipjemhbooaaGreatSa0
namespace Go.Proofs.YtbljipjemhbooaaGreat
open Go Go.Sq
set_option linter.unusedVariables false
theorem bif_z {c : Bool} {d : Dk} {k : Int} {y : Dk × Int} (hx : k ≠ 0) (h : (bif c then (d, k) else y).2 = 0) : c = false ∧ (bif c then (d, k) else y) = y := by
 cases c
 ·exact ⟨rfl, rfl⟩
 ·exact absurd h hx
section
variable {n : Net}
theorem rdy_iff {d : Dk} : rdyB d = true ↔ ∀ i, i < (need d.2).length → (need d.2).getD i false = true → readyV (d.1.getD i v0) = true := by
 unfold rdyB
 rw [all_range]
 refine forall_congr' fun i => forall_congr' fun _ => ?_
 cases (need d.2).getD i false <;> simp
theorem need_seg {p : Pl} {i : Nat} (h : i < p.1.length) : (need p).getD i false = !decide (p.1.getD i 0 = 0) := by
 unfold need
 rw [gD_app, if_pos (by rw [nz_len]; exact h)]
 exact gD_map (fun r : Int => !decide (r = 0)) p.1 i 0 false h
theorem need_port {p : Pl} {i : Nat} (h : i < p.2.1.length) : (need p).getD (p.1.length + i) false = !decide (p.2.1.getD i 0 = 0) := by
 unfold need
 rw [gD_app, if_neg (by rw [nz_len]; omega), nz_len, show p.1.length + i - p.1.length = i by omega]
 exact gD_map (fun r : Int => !decide (r = 0)) p.2.1 i 0 false h
theorem cmd_valid (v : Vl) (w : Bool) : validV (cmdV v w) = validV v := rfl
theorem all_gV {l : List Vl} {p : Vl → Bool} : l.all p = true ↔ ∀ i, i < l.length → p (l.getD i v0) = true := by
 rw [← all_gD l v0 p, all_range]
theorem turn_keeps {d : Dk} (hd : VDk n d) {s : Stp} (hk : (decide (s.1 = 1) || decide (s.1 = 2)) = true) (h : (turnS n d s).2 = 0) : VDk n (turnS n d s).1 := by
 unfold turnS at h ⊢
 obtain ⟨c1, e1⟩ := bif_z (by decide) h
 rw [e1] at h ⊢
 obtain ⟨c2, e2⟩ := bif_z (by decide) h
 rw [e2]
 have hb : (decide (0 ≤ s.2.1) && decide (s.2.1 < (d.1.length : Int))) = true := by simpa using c1
 have hb := inn_iff.1 hb
 refine ⟨hd.net, (List.length_set ..).trans hd.len, ?_, hd.pl, ?_, hd.idl⟩
 ·have hv := all_gV.1 hd.val
  refine all_gV.2 fun i hi => ?_
  rw [List.length_set] at hi
  rw [gD_set]
  split
  ·rw [cmd_valid]; exact hv _ (by omega)
  ·exact hv i hi
 ·have hr := rdy_iff.1 hd.rdy
  refine rdy_iff.2 fun i hi hn => ?_
  have h1 := hr i hi hn
  show readyV ((d.1.set s.2.1.toNat (cmdV (d.1.getD s.2.1.toNat v0) (decide (s.1 = 1)))).getD i v0) = true
  rw [gD_set]
  split
  ·rename_i hc
   rw [Bool.and_eq_false_iff] at c2
   rw [hc.1] at c2
   have h2 : decide (s.1 = 2) = false := c2.resolve_right (by rw [hn]; simp)
   rw [h2, Bool.or_false] at hk
   rw [hk, hc.1]
   unfold readyV at h1 ⊢
   rw [cmd_valid]
   rw [Bool.and_eq_true, Bool.and_eq_true] at h1 ⊢
   exact ⟨h1.1, h1.2.1, rfl⟩
  ·exact h1
theorem run_keeps {d : Dk} (hd : VDk n d) {s : Stp} (h : (runS n d s).2 = 0) : VDk n (runS n d s).1 := by
 unfold runS at h ⊢
 obtain ⟨c1, e1⟩ := bif_z (by decide) h
 rw [e1] at h ⊢
 obtain ⟨c2, e2⟩ := bif_z (by decide) h
 rw [e2]
 have hb : (decide (0 ≤ s.2.1) && decide (s.2.1 < (n.2.2.2.1.length : Int))) = true := by simpa using c1
 have hb := inn_iff.1 hb
 exact ⟨hd.net, hd.len, hd.val, by rw [chk_setP]; exact hd.pl, hd.rdy, by rw [idle_setP hd (by omega)]; exact c2⟩
structure Chg (n : Net) (d : Dk) (s : Stp) : Prop where
 v : -1000 ≤ s.2.2.1 ∧ s.2.2.1 ≤ 1000
 pa : pathB n (absP s) = true
 gr : growB n d (absP s) s.2.2.1 = true
 pl : chkPlan n (growP (absP s) s.2.2.1 d.2) = 0
 id : idleB n (growP (absP s) s.2.2.1 d.2) = false
theorem chg_of {d : Dk} {s : Stp} (h : (chgS n d s).2 = 0) : Chg n d s ∧ chgS n d s = ((d.1, growP (absP s) s.2.2.1 d.2), 0) := by
 unfold chgS at h ⊢
 obtain ⟨c1, e1⟩ := bif_z (by decide) h
 rw [e1] at h ⊢
 obtain ⟨c2, e2⟩ := bif_z (by decide) h
 rw [e2] at h ⊢
 obtain ⟨c3, e3⟩ := bif_z (by decide) h
 rw [e3] at h ⊢
 by_cases hp : chkPlan n (growP (absP s) s.2.2.1 d.2) = 0
 ·rw [if_neg (fun e => e hp)] at h ⊢
  obtain ⟨c4, e4⟩ := bif_z (by decide) h
  rw [e4]
  exact ⟨⟨rg_iff.1 (by simpa using c1), by simpa using c2, by simpa using c3, hp, c4⟩, rfl⟩
 ·rw [if_pos hp] at h; exact absurd h hp
theorem chg_to {d : Dk} {s : Stp} (h : Chg n d s) : chgS n d s = ((d.1, growP (absP s) s.2.2.1 d.2), 0) := by
 unfold chgS
 rw [rg_iff.2 h.v, h.pa, h.gr, if_neg (fun e => e h.pl), h.id]; rfl
theorem chg_keeps {d : Dk} (hd : VDk n d) {s : Stp} (h : (chgS n d s).2 = 0) : VDk n (chgS n d s).1 := by
 obtain ⟨hc, e⟩ := chg_of h
 rw [e]
 show VDk n (d.1, growP (absP s) s.2.2.1 d.2)
 have hx := VPa.of hc.pa
 have hz := hd.sz
 have hg := hc.gr
 unfold growB rdPath at hg
 simp only [Bool.and_eq_true, List.all_eq_true] at hg
 obtain ⟨⟨g1, g2, g3⟩, _⟩ := hg
 have hr := rdy_iff.1 hd.rdy
 have hs' := (VPl.of hc.pl).len
 refine ⟨hd.net, hd.len, hd.val, hc.pl, ?_, hc.id⟩
 refine rdy_iff.2 fun i hi hn => ?_
 replace hi : i < (need (growP (absP s) s.2.2.1 d.2)).length := hi
 replace hn : (need (growP (absP s) s.2.2.1 d.2)).getD i false = true := hn
 show readyV (d.1.getD i v0) = true
 rw [need_len (VPl.of hc.pl).sz] at hi
 have hnl := need_len (VPl.of hd.pl).sz
 rcases Nat.lt_or_ge i n.2.1.length with hlt | hge
 ·by_cases hin : ∃ h ∈ (absP s).2.2.1, h.1.toNat = i
  ·obtain ⟨h, hm, rfl⟩ := hin; exact g3 h hm
  ·refine hr i (by omega) ?_
   rw [need_seg (by omega)] at hn ⊢
   rw [show (growP (absP s) s.2.2.1 d.2).1 = growR (absP s).2.2.1 s.2.2.1 d.2.1 from rfl, growR_other _ _ _ fun h hm e => hin ⟨h, hm, e⟩] at hn
   exact hn
 ·obtain ⟨j, rfl⟩ : ∃ j, i = n.2.1.length + j := ⟨i - n.2.1.length, by omega⟩
  by_cases h1 : (absP s).1.toNat = j
  ·rw [← h1]; exact g1
  by_cases h2 : (absP s).2.1.toNat = j
  ·rw [← h2]; exact g2
  ·refine hr _ (by omega) ?_
   have hn' := hn
   rw [show n.2.1.length + j = (growP (absP s) s.2.2.1 d.2).1.length + j by rw [hs'.1], need_port (by omega)] at hn'
   rw [show n.2.1.length + j = d.2.1.length + j by rw [hz.1], need_port (by omega)]
   rw [show (growP (absP s) s.2.2.1 d.2).2.1 = growQ (absP s) s.2.2.1 d.2.2.1 from rfl] at hn'
   unfold growQ at hn'
   rw [gD_set, if_neg (fun h => h2 h.1), gD_set, if_neg (fun h => h1 h.1)] at hn'
   exact hn'
theorem mov_ready {v : Vl} (h : readyV v = true) {t : Int} (ht : 0 ≤ t) : readyV (movV v t) = true := by
 unfold readyV at h ⊢
 rw [Bool.and_eq_true, Bool.and_eq_true, decide_eq_true_iff] at h
 obtain ⟨h1, h2, h3⟩ := h
 have hv := valid_iff.1 h1
 have e : movO v t = v.2.1 := by
  unfold movO
  rw [h3]
  cases v.2.2.2 <;> simp only [cond_true, cond_false]
  rw [if_neg (by omega)]; omega
 rw [show movV v t = v by unfold movV; rw [e]]
 rw [h1, h3, dec_t h2]; rfl
theorem wait_keeps {d : Dk} (hd : VDk n d) {s : Stp} (h : (waitS d s).2 = 0) : VDk n (waitS d s).1 := by
 unfold waitS at h ⊢
 obtain ⟨c1, e1⟩ := bif_z (by decide) h
 rw [e1]
 have ht := rg_iff.1 (show rg 1 100 s.2.2.1 = true by simpa using c1)
 have hv := all_gV.1 hd.val
 refine ⟨hd.net, (List.length_map ..).trans hd.len, ?_, hd.pl, ?_, hd.idl⟩
 ·refine all_gV.2 fun i hi => ?_
  rw [List.length_map] at hi
  rw [gD_map _ _ _ v0 _ hi]
  exact mov_valid (hv i hi) (by omega)
 ·have hr := rdy_iff.1 hd.rdy
  refine rdy_iff.2 fun i hi hn => ?_
  have hl : i < d.1.length := by rw [← hd.needl]; exact hi
  show readyV ((d.1.map fun v => movV v s.2.2.1).getD i v0) = true
  rw [gD_map _ _ _ v0 _ hl]
  exact mov_ready (hr i hi hn) (by omega)
theorem blank6 {s : Stp} (h : blankB s = true) (h1 : (decide (s.1 = 1) || decide (s.1 = 2)) = false) (h3 : (decide (s.1 = 3) || decide (s.1 = 4)) = false) (h5 : decide (s.1 = 5) = false) : s.1 = 6 := by
 unfold blankB at h
 rw [Bool.or_eq_false_iff] at h1 h3
 rw [h1.1, h1.2, h3.1, h3.2, h5] at h
 cases h6 : decide (s.1 = 6) with
 | true => exact of_decide_eq_true h6
 | false => rw [h6] at h; cases h
theorem step_cases {d : Dk} {s : Stp} (h : (stepS n d s).2 = 0) : blankB s = true ∧ (((s.1 = 1 ∨ s.1 = 2) ∧ stepS n d s = turnS n d s) ∨ ((s.1 = 3 ∨ s.1 = 4) ∧ stepS n d s = runS n d s) ∨ (s.1 = 5 ∧ stepS n d s = chgS n d s) ∨ (s.1 = 6 ∧ stepS n d s = waitS d s)) := by
 unfold stepS at h ⊢
 obtain ⟨c1, e1⟩ := bif_z (by decide) h
 rw [e1]
 have c1 : blankB s = true := by simpa using c1
 refine ⟨c1, ?_⟩
 cases h1 : (decide (s.1 = 1) || decide (s.1 = 2)) with
 | true => left; exact ⟨by simpa using h1, rfl⟩
 | false =>
  cases h3 : (decide (s.1 = 3) || decide (s.1 = 4)) with
  | true => right; left; exact ⟨by simpa using h3, rfl⟩
  | false =>
   cases h5 : decide (s.1 = 5) with
   | true => right; right; left; exact ⟨of_decide_eq_true h5, rfl⟩
   | false => right; right; right; exact ⟨blank6 c1 h1 h3 h5, rfl⟩
theorem app_ok {d : Dk} {s : Stp} (h : (appS n d s).2 = 0) : VDk n d ∧ appS n d s = stepS n d s := by
 unfold appS at h ⊢
 by_cases hc : chkDesk n d = 0
 ·rw [if_neg (fun e => e hc)]; exact ⟨VDk.of hc, rfl⟩
 ·rw [if_pos hc] at h; exact absurd h hc
theorem app_keeps {d : Dk} {s : Stp} (h : (appS n d s).2 = 0) : VDk n (appS n d s).1 := by
 obtain ⟨hd, e⟩ := app_ok h
 rw [e] at h ⊢
 obtain ⟨_, ⟨k, e⟩ | ⟨k, e⟩ | ⟨k, e⟩ | ⟨k, e⟩⟩ := step_cases h
 ·rw [e] at h ⊢; exact turn_keeps hd (by simpa using k) h
 ·rw [e] at h ⊢; exact run_keeps hd h
 ·rw [e] at h ⊢; exact chg_keeps hd h
 ·rw [e] at h ⊢; exact wait_keeps hd h

/-! ### Taken back -/
def DL (l : List Hop) : Prop := ∀ i j, i < j → j < l.length → (l.getD i (0, false)).1.toNat ≠ (l.getD j (0, false)).1.toNat
theorem growR_at (v : Int) : ∀ (l : List Hop) (r : List Int), DL l → (∀ h ∈ l, h.1.toNat < r.length) → ∀ h ∈ l, (growR l v r).getD h.1.toNat 0 = r.getD h.1.toNat 0 + sgn h v
 | [], _, _, _, h, hh => by cases hh
 | a :: l, r, hd, hr, h, hh => by
  have hd' : DL l := fun i j hij hj => hd (i + 1) (j + 1) (by omega) (by rw [List.length_cons]; omega)
  have hne : ∀ h ∈ l, h.1.toNat ≠ a.1.toNat := fun h hm e => by
   obtain ⟨j, hj, rfl⟩ := mem_gD (0, false) hm
   exact hd 0 (j + 1) (by omega) (by rw [List.length_cons]; omega) e.symm
  show (growR l v (r.set a.1.toNat (r.getD a.1.toNat 0 + sgn a v))).getD h.1.toNat 0 = _
  rcases List.mem_cons.1 hh with rfl | hm
  ·rw [growR_other v l _ hne, gD_set, if_pos ⟨rfl, hr _ (by simp)⟩]
  ·rw [growR_at v l _ hd' (fun h' hm' => by rw [List.length_set]; exact hr h' (by simp [hm'])) h hm, gD_set, if_neg (fun e => hne h hm e.1.symm)]
theorem sgn_neg (h : Hop) (v : Int) : sgn h (0 - v) = 0 - sgn h v := by unfold sgn; split <;> omega
theorem growR_back {l : List Hop} {v : Int} {r : List Int} (hd : DL l) (hr : ∀ h ∈ l, h.1.toNat < r.length) : growR l (0 - v) (growR l v r) = r := by
 refine ext_gD 0 (by rw [growR_len, growR_len]) fun k hk => ?_
 by_cases hin : ∃ h ∈ l, h.1.toNat = k
 ·obtain ⟨h, hm, rfl⟩ := hin
  rw [growR_at (0 - v) l _ hd (fun h' hm' => by rw [growR_len]; exact hr h' hm') h hm, growR_at v l r hd hr h hm, sgn_neg]; omega
 ·rw [growR_other _ _ _ fun h hm e => hin ⟨h, hm, e⟩, growR_other _ _ _ fun h hm e => hin ⟨h, hm, e⟩]
theorem growQ_at {x : Pth} (hne : x.1.toNat ≠ x.2.1.toNat) {v : Int} {q : List Int} (h1 : x.1.toNat < q.length) (h2 : x.2.1.toNat < q.length) (k : Nat) : (growQ x v q).getD k 0 = if x.2.1.toNat = k then q.getD k 0 - v else if x.1.toNat = k then q.getD k 0 + v else q.getD k 0 := by
 unfold growQ
 rw [gD_set, List.length_set]
 by_cases a : x.2.1.toNat = k
 ·subst a; rw [if_pos ⟨rfl, h2⟩, if_pos rfl, gD_set, if_neg (fun e => hne e.1)]
 ·rw [if_neg (fun e => a e.1), if_neg a, gD_set]
  by_cases b : x.1.toNat = k
  ·subst b; rw [if_pos ⟨rfl, h1⟩, if_pos rfl]
  ·rw [if_neg (fun e => b e.1), if_neg b]
theorem growQ_back {x : Pth} (hne : x.1.toNat ≠ x.2.1.toNat) {v : Int} {q : List Int} (h1 : x.1.toNat < q.length) (h2 : x.2.1.toNat < q.length) : growQ x (0 - v) (growQ x v q) = q := by
 refine ext_gD 0 (by rw [growQ_len, growQ_len]) fun k hk => ?_
 rw [growQ_at hne (by rw [growQ_len]; exact h1) (by rw [growQ_len]; exact h2), growQ_at hne h1 h2]
 split <;> (try split) <;> omega
def backS (s : Stp) : Stp := (s.1, (s.2.1, (0 - s.2.2.1, s.2.2.2)))
theorem abs_back (s : Stp) : absP (backS s) = absP s := by
 unfold absP backS
 simp only
 rw [show max (0 - s.2.2.1) (0 - (0 - s.2.2.1)) = max s.2.2.1 (0 - s.2.2.1) by omega]
theorem back_ok {d : Dk} {s : Stp} (hk : s.1 = 5) (h : (appS n d s).2 = 0) : appS n (appS n d s).1 (backS s) = (d, 0) := by
 have hy := app_keeps h
 obtain ⟨hd, e⟩ := app_ok h
 rw [e] at h hy ⊢
 obtain ⟨hb, ⟨k, e⟩ | ⟨k, e⟩ | ⟨k, e⟩ | ⟨k, e⟩⟩ := step_cases h
 ·omega
 ·omega
 ·rw [e] at h hy ⊢
  obtain ⟨hc, e⟩ := chg_of h
  rw [e] at hy ⊢
  simp only at hy ⊢
  have hx := VPa.of hc.pa
  have hz := hd.sz
  have hi := hx.i
  have ho := hx.o
  have hne : (absP s).1.toNat ≠ (absP s).2.1.toNat := by have := hx.ne; omega
  have hDL : DL (absP s).2.2.1 := fun i j hij hj => by
   have := hx.d i j hij hj
   have := hx.h _ (gD_mem (d := (0, false)) hj)
   have := hx.h _ (gD_mem (d := (0, false)) (show i < (absP s).2.2.1.length by omega))
   omega
  have hin : ∀ h ∈ (absP s).2.2.1, h.1.toNat < d.2.1.length := fun h hm => by have := hx.h h hm; omega
  have hgb : growP (absP s) (0 - s.2.2.1) (growP (absP s) s.2.2.1 d.2) = d.2 := by
   unfold growP
   simp only
   rw [growR_back hDL hin, growQ_back hne (by omega) (by omega)]
  unfold appS
  rw [hy.to, if_neg (fun h => h rfl)]
  unfold stepS
  have hb' : blankB (backS s) = true := by
   unfold blankB at hb ⊢
   unfold backS
   simp only
   rw [hk] at hb ⊢
   exact hb
  rw [hb', show (backS s).1 = 5 from hk]
  have hg := hc.gr
  unfold growB ptOk at hg
  simp only [Bool.and_eq_true, List.all_eq_true, decide_eq_true_iff] at hg
  obtain ⟨hrd, ⟨p1, p2, p3, p4⟩, hh⟩ := hg
  refine (chg_to (d := (d.1, growP (absP s) s.2.2.1 d.2)) (s := backS s) ⟨?_, ?_, ?_, ?_, ?_⟩).trans ?_
  ·have := hc.v; show -1000 ≤ 0 - s.2.2.1 ∧ 0 - s.2.2.1 ≤ 1000; omega
  ·rw [abs_back]; exact hc.pa
  ·rw [abs_back]
   show growB n (d.1, growP (absP s) s.2.2.1 d.2) (absP s) (0 - s.2.2.1) = true
   unfold growB ptOk
   simp only [Bool.and_eq_true, List.all_eq_true, decide_eq_true_iff]
   have q1 : (growP (absP s) s.2.2.1 d.2).2.1.getD (absP s).1.toNat 0 = d.2.2.1.getD (absP s).1.toNat 0 + s.2.2.1 := by
    show (growQ (absP s) s.2.2.1 d.2.2.1).getD _ 0 = _
    rw [growQ_at hne (by omega) (by omega), if_neg (fun e => hne e.symm), if_pos rfl]
   have q2 : (growP (absP s) s.2.2.1 d.2).2.1.getD (absP s).2.1.toNat 0 = d.2.2.1.getD (absP s).2.1.toNat 0 - s.2.2.1 := by
    show (growQ (absP s) s.2.2.1 d.2.2.1).getD _ 0 = _
    rw [growQ_at hne (by omega) (by omega), if_pos rfl]
   rw [q1, q2]
   refine ⟨hrd, ⟨by omega, by omega, by omega, by omega⟩, fun h hm => ?_⟩
   have h1 := hh h hm
   unfold hpOk along at h1 ⊢
   rw [Bool.and_eq_true, decide_eq_true_iff, decide_eq_true_iff] at h1 ⊢
   rw [show (growP (absP s) s.2.2.1 d.2).1 = growR (absP s).2.2.1 s.2.2.1 d.2.1 from rfl, growR_at _ _ _ hDL hin h hm]
   unfold sgn
   split at h1 <;> rename_i hbk
   ·rw [if_pos hbk, if_pos hbk]; omega
   ·rw [if_neg hbk, if_neg hbk]; omega
  ·rw [abs_back]; show chkPlan n (growP (absP s) (0 - s.2.2.1) (growP (absP s) s.2.2.1 d.2)) = 0; rw [hgb]; exact hd.pl
  ·rw [abs_back]; show idleB n (growP (absP s) (0 - s.2.2.1) (growP (absP s) s.2.2.1 d.2)) = false; rw [hgb]; exact hd.idl
  ·rw [abs_back]; show ((d.1, growP (absP s) (0 - s.2.2.1) (growP (absP s) s.2.2.1 d.2)), (0 : Int)) = _; rw [hgb]
 ·omega
theorem keeps_in (hg : GN n) (r4 : Net × List Int × Int) (e4 : r4.1 = n) {s : List Int} {q : Int} (h : SrcOk s q) {d : Dk} (hd : DkN n d) :
  Ok (iter (fun x => law26_StepKeeps_L0 r4 x.1 x.2.1 x.2.2.1 x.2.2.2.1 x.2.2.2.2.1 x.2.2.2.2.2.1 x.2.2.2.2.2.2) (0, s, q, d)) fun e => e = .inl () := by
 refine Ok.loop (fun x : Int × List Int × Int × Dk => 0 ≤ x.1 ∧ x.1 ≤ 25 ∧ SrcOk x.2.1 x.2.2.1 ∧ DkN n x.2.2.2) (fun x => 25 - x.1.toNat) ⟨Int.le_refl _, by (try simp only); omega, h, hd⟩ ?_
 rintro ⟨i, s, q, d⟩ ⟨i0, i1, h, hd⟩
 simp only at i0 i1 h hd
 have hds := hd.small hg
 show Ok (law26_StepKeeps_L0 r4 i s q d.1 d.2.1 d.2.2.1 d.2.2.2) _
 unfold law26_StepKeeps_L0
 rw [net_eta, e4, show ((d.1, (d.2.1, (d.2.2.1, d.2.2.2))) : Dk) = d from rfl]
 refine Ok.bind (Q := fun z : Bool × List Int × Int => SrcOk z.2.1 z.2.2 ∧ (z.1 = true → i < 25)) ?_ ?_
 ·refine Ok.bif (fun hc => ?_) fun _ => .ret ⟨h, fun h => (by cases h)⟩
  exact Ok.eq (a := (decide (q < (s.length : Int)), s, q)) rfl (.ret ⟨h, fun _ => of_decide_eq_true hc⟩)
 rintro ⟨b, s, q⟩ ⟨h, hb⟩
 simp only at h hb
 refine Ok.bif (fun hc => ?_) fun _ => .ret rfl
 have hi := hb hc
 refine Ok.bind (Q := fun z : (List Int × Int × Dk) ⊕ Bool => ∃ w, z = .inl w ∧ SrcOk w.1 w.2.1 ∧ DkN n w.2.2) ?_ ?_
 ·refine Ok.bind (mstep_ok hg hds.v h) fun r10 h10 => ?_
  obtain ⟨x, s5, q5⟩ := r10
  simp only at h10 ⊢
  rw [show ((x.1, (x.2.1, (x.2.2.1, (x.2.2.2.1, (x.2.2.2.2.1, (x.2.2.2.2.2.1, x.2.2.2.2.2.2)))))) : Stp) = x from rfl]
  refine Ok.eq (Apply_eq hds x) ?_
  have hln := app_ln (n := n) d x
  refine Ok.bif (fun he => ?_) fun he => ?_
  ·have he : (appS n d x).2 ≠ 0 := by simpa using he
   have e : (appS n d x).1 = d := (app_er d x).resolve_left he
   rw [show (((appS n d x).1.1, ((appS n d x).1.2.1, ((appS n d x).1.2.2.1, (appS n d x).1.2.2.2))) : Dk) = (appS n d x).1 from rfl, e]
   refine Ok.eq (sameD hds) ?_
   exact .ret ⟨_, rfl, h10.1, hd⟩
  ·have he : (appS n d x).2 = 0 := by simpa using he
   have hv := app_keeps he
   have hy := hd.ln hln
   have hys := hy.small hg
   refine Ok.bind (Q := fun b : Bool => b = false) ?_ fun b hb => ?_
   ·rw [show (((appS n d x).1.1, ((appS n d x).1.2.1, ((appS n d x).1.2.2.1, (appS n d x).1.2.2.2))) : Dk) = (appS n d x).1 from rfl]
    refine Ok.eq (deskcheck_eq n _) ?_
    rw [hv.to, dec_t rfl]
    refine Ok.eq (refplan_eq n (appS n d x).1.2) ?_
    rw [hv.pl]
    exact .ret rfl
   ·subst hb
    rw [cond_false]
    refine Ok.bind (Q := fun z : Unit ⊕ Bool => z = .inl ()) ?_ fun z hz => ?_
    ·refine Ok.bif (fun hk => ?_) fun _ => .ret rfl
     have hk := of_decide_eq_true hk
     have hb := back_ok hk he
     have hvv : -1000 ≤ x.2.2.1 ∧ x.2.2.1 ≤ 1000 := by
      obtain ⟨hd', e'⟩ := app_ok he
      rw [e'] at he
      obtain ⟨_, ⟨k, e⟩ | ⟨k, e⟩ | ⟨k, e⟩ | ⟨k, e⟩⟩ := step_cases he
      ·omega
      ·omega
      ·rw [e] at he; exact (chg_of he).1.v
      ·omega
     rw [wi (by omega), show ((x.1, (x.2.1, (0 - x.2.2.1, (x.2.2.2.1, (x.2.2.2.2.1, (x.2.2.2.2.2.1, x.2.2.2.2.2.2)))))) : Stp) = backS x from rfl,
      show (((appS n d x).1.1, ((appS n d x).1.2.1, ((appS n d x).1.2.2.1, (appS n d x).1.2.2.2))) : Dk) = (appS n d x).1 from rfl]
     refine Ok.eq ((Apply_eq hys (backS x)).trans (congrArg some hb)) ?_
     refine Ok.eq (a := false) ?_ (.ret rfl)
     rw [dec_t rfl, cond_true]
     have := sameP (p := d.2) hds.r hds.p hds.b
     rw [show ((d.2.1, (d.2.2.1, d.2.2.2)) : Pl) = d.2 from rfl, this]; rfl
    ·subst hz
     exact .ret ⟨_, rfl, h10.1, hy⟩
 ·rintro z ⟨w, rfl, hw1, hw2⟩
  rw [wi (by omega)]
  exact .ret ⟨⟨by (try simp only); omega, by (try simp only); omega, hw1, hw2⟩, by (try simp only); omega⟩
theorem keeps_true (l : List Int) (hl : ∀ x ∈ l, i64P x) : law26_StepKeeps l = some true := by
 refine Ok.true ?_
 have hw : Ok law26_awake (fun b => b = true) := ⟨true, awake_true, rfl⟩
 unfold law26_StepKeeps
 refine Ok.eq (few_eq l) (Ok.bif (fun _ => Ok.bind hw fun b hb => .ret hb) fun _ => ?_)
 obtain ⟨s, e, hs⟩ := new_eq hl
 refine Ok.eq e ?_
 refine Ok.bind (net_ok hs) ?_
 rintro ⟨n, s2, q2⟩ ⟨e, h, k, hn⟩
 replace e : s2 = s := e
 subst e
 simp only at h hn
 have hg := GN.of hn
 rw [net_eta]
 refine Ok.bind (mplan_ok hg h) fun r5 h5 => ?_
 refine Ok.bind (mopen_ok hg h5.2 h5.1) fun r6 h6 => ?_
 refine Ok.bind (sN h6.1 (n := 2) (by omega) (by omega)) fun r7 h7 => ?_
 refine Ok.bind (Q := fun z : List Int × Int × Dk => SrcOk z.1 z.2.1 ∧ DkN n z.2.2) ?_ fun z hz => ?_
 ·refine Ok.bif (fun _ => ?_) fun _ => .ret ⟨h7.1, h6.2⟩
  exact Ok.bind (mdesk_ok hg h5.2 h7.1) fun r8 h8 => .ret h8
 ·refine Ok.bind (keeps_in hg (n, s2, q2) rfl hz.1 hz.2) fun e he => ?_
  subst he
  exact Ok.bind hw fun b hb => .ret hb
end
end Go.Proofs.YtbljipjemhbooaaGreat
