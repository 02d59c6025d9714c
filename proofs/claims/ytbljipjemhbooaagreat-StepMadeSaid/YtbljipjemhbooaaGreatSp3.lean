/- Steps: how a flow grows. No condition. -/
import Derived.Test.YtbljipjemhbooaaGreatSp2
namespace Go.Proofs.YtbljipjemhbooaaGreat
open Go Go.Sq
set_option linter.unusedVariables false
structure VDk (n : Net) (d : Dk) : Prop where
 net : chkNet n = 0
 len : d.1.length = n.2.1.length + n.2.2.1.length
 val : d.1.all validV = true
 pl : chkPlan n d.2 = 0
 rdy : rdyB d = true
 idl : idleB n d.2 = false
def along (p : Pl) (h : Hop) : Int := if h.2 = true then 0 - p.1.getD h.1.toNat 0 else p.1.getD h.1.toNat 0
def sgn (h : Hop) (v : Int) : Int := if h.2 = true then 0 - v else v
def rdPath (n : Net) (d : Dk) (x : Pth) : Bool := readyV (d.1.getD (n.2.1.length + x.1.toNat) v0) && (readyV (d.1.getD (n.2.1.length + x.2.1.toNat) v0) && x.2.2.1.all fun h => readyV (d.1.getD h.1.toNat v0))
def ptOk (p : Pl) (x : Pth) (v : Int) : Bool := decide (0 ≤ p.2.1.getD x.1.toNat 0) && (decide (0 ≤ 0 - p.2.1.getD x.2.1.toNat 0) && (decide (0 ≤ p.2.1.getD x.1.toNat 0 + v) && decide (0 ≤ 0 - p.2.1.getD x.2.1.toNat 0 + v)))
def hpOk (p : Pl) (v : Int) (h : Hop) : Bool := decide (0 ≤ along p h) && decide (0 ≤ along p h + v)
def growB (n : Net) (d : Dk) (x : Pth) (v : Int) : Bool := rdPath n d x && (ptOk d.2 x v && x.2.2.1.all (hpOk d.2 v))
def growR (l : List Hop) (v : Int) (r : List Int) : List Int := l.foldl (fun r h => r.set h.1.toNat (r.getD h.1.toNat 0 + sgn h v)) r
def growQ (x : Pth) (v : Int) (q : List Int) : List Int := (q.set x.1.toNat (q.getD x.1.toNat 0 + v)).set x.2.1.toNat ((q.set x.1.toNat (q.getD x.1.toNat 0 + v)).getD x.2.1.toNat 0 - v)
def growP (x : Pth) (v : Int) (p : Pl) : Pl := (growR x.2.2.1 v p.1, growQ x v p.2.1, p.2.2)
theorem growR_len (l : List Hop) (v : Int) : ∀ r, (growR l v r).length = r.length := by
 induction l with
 | nil => intro r; rfl
 | cons h l ih => intro r; exact (ih _).trans (List.length_set ..)
theorem growR_next {l : List Hop} {i : Nat} (hi : i < l.length) (v : Int) (r : List Int) : growR (l.take (i + 1)) v r = (growR (l.take i) v r).set (l.getD i (0, false)).1.toNat ((growR (l.take i) v r).getD (l.getD i (0, false)).1.toNat 0 + sgn (l.getD i (0, false)) v) := by
 unfold growR
 rw [take_next (0, false) hi, List.foldl_append]; rfl
theorem growR_other {k : Nat} (v : Int) : ∀ (l : List Hop) (r : List Int), (∀ h ∈ l, h.1.toNat ≠ k) → (growR l v r).getD k 0 = r.getD k 0
 | [], _, _ => rfl
 | h :: l, r, hl => by
  show (growR l v _).getD k 0 = _
  rw [growR_other v l _ fun h' hh => hl h' (by simp [hh]), gD_set, if_neg (fun e => hl h (by simp) e.1)]
theorem growR_bd (v : Int) (hv : -1000 ≤ v ∧ v ≤ 1000) {b : Int} : ∀ (l : List Hop) (r : List Int), (∀ k, -b ≤ r.getD k 0 ∧ r.getD k 0 ≤ b) → ∀ k, -b - 1000 * l.length ≤ (growR l v r).getD k 0 ∧ (growR l v r).getD k 0 ≤ b + 1000 * l.length := by
 intro l
 induction l generalizing b with
 | nil => intro r h k; have := h k; simpa [growR] using this
 | cons h l ih =>
  intro r hr k
  have := ih (b := b + 1000) (r.set h.1.toNat (r.getD h.1.toNat 0 + sgn h v)) (fun j => by
   rw [gD_set]
   have h1 := hr h.1.toNat
   have h2 := hr j
   split
   ·unfold sgn; split <;> omega
   ·omega) k
  rw [show growR (h :: l) v r = growR l v (r.set h.1.toNat (r.getD h.1.toNat 0 + sgn h v)) from rfl, List.length_cons]
  omega
theorem any_not_and {A : Type} (f g : A → Bool) : ∀ l : List A, (l.any fun h => !(f h && g h)) = !(l.all f && l.all g)
 | [] => rfl
 | a :: l => by
  rw [List.any_cons, List.all_cons, List.all_cons, any_not_and f g l]
  cases f a <;> cases g a <;> cases l.all f <;> cases l.all g <;> rfl
theorem growQ_len (x : Pth) (v : Int) (q : List Int) : (growQ x v q).length = q.length := by unfold growQ; rw [List.length_set, List.length_set]
section
variable {n : Net}
theorem VDk.of {d : Dk} (h : chkDesk n d = 0) : VDk n d := by
 unfold chkDesk at h
 by_cases h0 : chkNet n = 0
 ·rw [if_neg (fun e => e h0)] at h
  obtain ⟨h1, h⟩ := bif_ne (by decide) h
  unfold vlB at h1
  rw [Bool.and_eq_true, decide_eq_true_iff] at h1
  by_cases hp : chkPlan n d.2 = 0
  ·rw [if_neg (fun e => e hp)] at h
   obtain ⟨h2, h⟩ := bif_ne (by decide) h
   cases hi : idleB n d.2 with
   | true => rw [hi] at h; cases h
   | false => exact ⟨h0, h1.1, h1.2, hp, h2, hi⟩
  ·rw [if_pos hp] at h; exact absurd h hp
 ·rw [if_pos h0] at h; exact absurd h h0
theorem VDk.to {d : Dk} (h : VDk n d) : chkDesk n d = 0 := by
 unfold chkDesk vlB
 rw [if_neg (fun e => e h.net), dec_t h.len, h.val, if_neg (fun e => e h.pl), h.rdy, h.idl]; rfl
theorem VDk.sz {d : Dk} (h : VDk n d) : d.2.1.length = n.2.1.length ∧ d.2.2.1.length = n.2.2.1.length ∧ d.2.2.2.length = n.2.2.2.1.length := (VPl.of h.pl).len
theorem VDk.small {d : Dk} (h : VDk n d) : DkS d := by
 have hn := (VNet.of h.net).small
 have := h.len; have := h.sz; have := hn.sg; have := hn.po; have := hn.st
 exact ⟨by omega, by omega, by omega, by omega⟩
structure VPa (n : Net) (x : Pth) : Prop where
 i : 0 ≤ x.1 ∧ x.1 < (n.2.2.1.length : Int)
 o : 0 ≤ x.2.1 ∧ x.2.1 < (n.2.2.1.length : Int)
 ne : x.1 ≠ x.2.1
 hl : x.2.2.1.length ≤ 32
 h : ∀ h ∈ x.2.2.1, 0 ≤ h.1 ∧ h.1 < (n.2.1.length : Int)
 d : ∀ i j, i < j → j < x.2.2.1.length → (x.2.2.1.getD i (0, false)).1 ≠ (x.2.2.1.getD j (0, false)).1
theorem walk_ok : ∀ {l : List Hop} {a : Int} {ps : List Int} {b : Int}, walk n l a ps = some b → ∀ h ∈ l, (0 ≤ h.1 ∧ h.1 < (n.2.1.length : Int)) ∧ hopT n h ∉ ps
 | [], _, _, _, _ => fun h hh => by cases hh
 | h :: l, a, ps, b, hw => by
  unfold walk at hw
  cases hc : (hopOk n h && (decide (hopF n h = a) && !decide (hopT n h ∈ ps))) with
  | false => rw [hc] at hw; cases hw
  | true =>
   rw [hc, cond_true] at hw
   rw [Bool.and_eq_true, Bool.and_eq_true] at hc
   intro h' hh
   rcases List.mem_cons.1 hh with rfl | hh
   ·exact ⟨hop_iff.1 hc.1, by simpa using hc.2.2⟩
   ·have := walk_ok hw h' hh
    exact ⟨this.1, fun hm => this.2 (List.mem_append_left _ hm)⟩
theorem walk_ne : ∀ {l : List Hop} {a : Int} {ps : List Int} {b : Int}, a ∈ ps → walk n l a ps = some b → ∀ i j, i < j → j < l.length → (l.getD i (0, false)).1 ≠ (l.getD j (0, false)).1
 | [], _, _, _, _, _ => fun i j _ hj => by cases hj
 | h :: l, a, ps, b, ha, hw => by
  unfold walk at hw
  cases hc : (hopOk n h && (decide (hopF n h = a) && !decide (hopT n h ∈ ps))) with
  | false => rw [hc] at hw; cases hw
  | true =>
   rw [hc, cond_true] at hw
   rw [Bool.and_eq_true, Bool.and_eq_true, decide_eq_true_iff] at hc
   have hrec := walk_ne (List.mem_append_right ps (List.mem_singleton.2 rfl)) hw
   have all := walk_ok hw
   intro i j hij hj
   cases j with
   | zero => omega
   | succ j =>
    cases i with
    | succ i => exact hrec i j (by omega) (by simpa using hj)
    | zero =>
     show h.1 ≠ (l.getD j (0, false)).1
     intro e
     have hm : l.getD j (0, false) ∈ l := gD_mem (by simpa using hj)
     refine (all _ hm).2 ?_
     have es : sgH n (l.getD j (0, false)) = sgH n h := by unfold sgH; rw [e]
     have : hopT n (l.getD j (0, false)) = hopT n h ∨ hopT n (l.getD j (0, false)) = hopF n h := by
      unfold hopT hopF
      rw [es]
      cases (l.getD j (0, false)).2 <;> cases h.2 <;> simp
     rcases this with h1 | h1
     ·rw [h1]; exact List.mem_append_right _ (List.mem_singleton.2 rfl)
     ·rw [h1, hc.2.1]; exact List.mem_append_left _ ha
theorem VPa.of {x : Pth} (h : pathB n x = true) : VPa n x := by
 unfold pathB at h
 simp only [Bool.and_eq_true, Bool.not_eq_true', decide_eq_true_iff, decide_eq_false_iff_not] at h
 obtain ⟨⟨h1, h2, h3, h4, h5, h6⟩, hw⟩ := h
 split at hw
 ·rename_i a ha
  exact ⟨isPt_iff.1 h1, isPt_iff.1 h2, h3, h6, fun h hh => (walk_ok ha h hh).1, walk_ne (List.mem_singleton.2 rfl) ha⟩
 ·cases hw
theorem grow1_eq {d : Dk} {i : Int} (h0 : 0 ≤ i) (h1 : i < (d.1.length : Int)) : step_grows_1 i d = some (readyV (d.1.getD i.toNat v0)) := by
 unfold step_grows_1
 rw [gd_t (inB_iff.2 ⟨h0, h1⟩), show (d.1.getD i.toNat (0, (0, (false, false)))) = d.1.getD i.toNat v0 from rfl, ready_eq]; rfl
theorem VDk.rate {d : Dk} (h : VDk n d) (k : Nat) : -1000 ≤ d.2.1.getD k 0 ∧ d.2.1.getD k 0 ≤ 1000 := (VPl.of h.pl).rb.s k
theorem VDk.prate {d : Dk} (h : VDk n d) (k : Nat) : -1000 ≤ d.2.2.1.getD k 0 ∧ d.2.2.1.getD k 0 ≤ 1000 := (VPl.of h.pl).rb.q k
theorem along_eq {d : Dk} (hd : VDk n d) {h : Hop} (hh : 0 ≤ h.1 ∧ h.1 < (n.2.1.length : Int)) : step_along d.2 h = some (along d.2 h) := by
 have := hd.sz
 have hr := hd.rate h.1.toNat
 unfold step_along along
 rw [gd_t (inB_iff.2 (by omega)), gd_t (inB_iff.2 (by omega)), wi (by omega)]
 cases h.2 <;> rfl
theorem grow2_eq {d : Dk} (hd : VDk n d) {v : Int} (hv : -1000 ≤ v ∧ v ≤ 1000) {h : Hop} (hh : 0 ≤ h.1 ∧ h.1 < (n.2.1.length : Int)) : step_grows_2 h d d v = some (!(readyV (d.1.getD h.1.toNat v0) && hpOk d.2 v h)) := by
 have hr := hd.rate h.1.toNat
 have hb : -1000 ≤ along d.2 h ∧ along d.2 h ≤ 1000 := by unfold along; split <;> omega
 have hl := hd.len
 unfold step_grows_2
 rw [show ((h.1, h.2) : Hop) = h from rfl, along_eq hd hh, Option.bind_some, grow1_eq hh.1 (by omega), Option.bind_some, wi (by omega)]
 unfold hpOk
 rw [notlt (along d.2 h) 0, notlt (along d.2 h + v) 0]
 cases readyV (d.1.getD h.1.toNat v0) <;> cases decide (0 ≤ along d.2 h) <;> cases decide (0 ≤ along d.2 h + v) <;> rfl
theorem grows_eq {d : Dk} (hd : VDk n d) {x : Pth} (hx : VPa n x) {v : Int} (hv : -1000 ≤ v ∧ v ≤ 1000) : step_grows n d x v = some (growB n d x v) := by
 have hz := hd.sz
 have hl := hd.len
 have hi := hx.i
 have ho := hx.o
 have b1 := hd.prate x.1.toNat
 have b2 := hd.prate x.2.1.toNat
 have hn := (VNet.of hd.net).small
 have m1 := hn.sg
 have m2 := hn.po
 unfold step_grows
 rw [gd_t (inB_iff.2 (by omega)), gd_t (inB_iff.2 (by omega)), wi (by omega), wi (by omega), show ((d.1, (d.2.1, (d.2.2.1, d.2.2.2))) : Dk) = d from rfl,
  grow1_eq (by omega) (by omega), grow1_eq (by omega) (by omega), Option.bind_some, Option.bind_some, show (((n.2.1.length : Int) + x.1).toNat) = n.2.1.length + x.1.toNat by omega, show (((n.2.1.length : Int) + x.2.1).toNat) = n.2.1.length + x.2.1.toNat by omega,
  wi (show -9223372036854775808 ≤ 0 - d.2.2.1.getD x.2.1.toNat 0 ∧ 0 - d.2.2.1.getD x.2.1.toNat 0 ≤ 9223372036854775807 by omega), wi (by omega), wi (by omega)]
 have eh := any_api_Hop_api_Hop x.2.2.1 (fun h => !(readyV (d.1.getD h.1.toNat v0) && hpOk d.2 v h)) (fun h => (step_grows_2 h.1 d d v).bind fun y => some y) (fun h hh => by
  show (step_grows_2 h d d v).bind _ = _
  rw [grow2_eq hd hv (hx.h h hh)]; rfl) (by have := hx.hl; omega)
 unfold growB rdPath ptOk
 have el : (x.2.2.1.any fun h => !(readyV (d.1.getD h.1.toNat v0) && hpOk d.2 v h)) = !((x.2.2.1.all fun h => readyV (d.1.getD h.1.toNat v0)) && x.2.2.1.all (hpOk d.2 v)) := by
  exact any_not_and _ _ _
 rw [notlt (d.2.2.1.getD x.1.toNat 0) 0, notlt (0 - d.2.2.1.getD x.2.1.toNat 0) 0, notlt (d.2.2.1.getD x.1.toNat 0 + v) 0, notlt (0 - d.2.2.1.getD x.2.1.toNat 0 + v) 0]
 cases readyV (d.1.getD (n.2.1.length + x.1.toNat) v0) with
 | false => rfl
 | true =>
 cases readyV (d.1.getD (n.2.1.length + x.2.1.toNat) v0) with
 | false => rfl
 | true =>
 cases decide (0 ≤ d.2.2.1.getD x.1.toNat 0) with
 | false => simp
 | true =>
 cases decide (0 ≤ 0 - d.2.2.1.getD x.2.1.toNat 0) with
 | false => simp
 | true =>
 cases decide (0 ≤ d.2.2.1.getD x.1.toNat 0 + v) with
 | false => simp
 | true =>
 cases decide (0 ≤ 0 - d.2.2.1.getD x.2.1.toNat 0 + v) with
 | false => simp
 | true =>
  simp only [Bool.not_true, cond_false, Option.bind_some, Bool.true_and]
  rw [eh, Option.bind_some, el, Bool.not_not]
theorem grow_eq {x : Pth} {v : Int} (hv : -1000 ≤ v ∧ v ≤ 1000) {p : Pl} (hr : ∀ k, -1000 ≤ p.1.getD k 0 ∧ p.1.getD k 0 ≤ 1000) (hq : ∀ k, -1000 ≤ p.2.1.getD k 0 ∧ p.2.1.getD k 0 ≤ 1000) (hx : VPa n x) (l1 : p.1.length = n.2.1.length) (l2 : p.2.1.length = n.2.2.1.length) (d : List Vl) :
  paths_Grow x v d p.1 p.2.1 p.2.2 = some (d, growP x v p) := by
 have hi := hx.i
 have ho := hx.o
 have b1 := hq x.1.toNat
 unfold paths_Grow
 have hB : inB x.1 p.2.1.length = true := inB_iff.2 (by omega)
 have hC : inB x.2.1 (p.2.1.set x.1.toNat (wi64 ((p.2.1.getD x.1.toNat 0) + v))).length = true := inB_iff.2 (by rw [List.length_set]; omega)
 rw [gd_t hB, gd_t hB, gd_t hC, gd_t hC, wi (by omega)]
 have b2 : -2000 ≤ (p.2.1.set x.1.toNat (p.2.1.getD x.1.toNat 0 + v)).getD x.2.1.toNat 0 ∧ (p.2.1.set x.1.toNat (p.2.1.getD x.1.toNat 0 + v)).getD x.2.1.toNat 0 ≤ 2000 := by
  rw [gD_set]; have := hq x.2.1.toNat; split <;> omega
 rw [wi (by omega), show ((p.2.1.set x.1.toNat (p.2.1.getD x.1.toNat 0 + v)).set x.2.1.toNat ((p.2.1.set x.1.toNat (p.2.1.getD x.1.toNat 0 + v)).getD x.2.1.toNat 0 - v)) = growQ x v p.2.1 from rfl]
 have := iter_for (step := fun x2 : Int × List Vl × List Int × List Int × List Bool => paths_Grow_L0 x v x2.1 x2.2.1 x2.2.2.1 x2.2.2.2.1 x2.2.2.2.2) (e := (d, growP x v p)) x.2.2.1.length (fun i => ((i : Int), d, growR (x.2.2.1.take i) v p.1, growQ x v p.2.1, p.2.2)) (fun i hi' => ?_) ?_
 ·have this : iter (fun x2 => paths_Grow_L0 x v x2.1 x2.2.1 x2.2.2.1 x2.2.2.2.1 x2.2.2.2.2) ((0 : Int), d, p.1, growQ x v p.2.1, p.2.2) = some (d, growP x v p) := this
  rw [this]; rfl
 ·show paths_Grow_L0 x v (i : Int) d (growR (x.2.2.1.take i) v p.1) (growQ x v p.2.1) p.2.2 = some (.inl (((i + 1 : Nat) : Int), d, growR (x.2.2.1.take (i + 1)) v p.1, growQ x v p.2.1, p.2.2))
  unfold paths_Grow_L0
  have hl := hx.hl
  have hh := hx.h _ (gD_mem (d := (0, false)) hi')
  have hb := growR_bd v hv (b := 1000) (x.2.2.1.take i) p.1 hr (x.2.2.1.getD i (0, false)).1.toNat
  rw [List.length_take] at hb
  have hD : inB (x.2.2.1.getD i (0, false)).1 (growR (x.2.2.1.take i) v p.1).length = true := inB_iff.2 (by rw [growR_len]; omega)
  have es : paths_signed ((x.2.2.1.getD i (0, false)).1, (x.2.2.1.getD i (0, false)).2) v = some (sgn (x.2.2.1.getD i (0, false)) v) := by
   unfold paths_signed sgn; rw [wi (by omega)]; simp only; cases (x.2.2.1.getD i (0, false)).2 <;> rfl
  have hs : -1000 ≤ sgn (x.2.2.1.getD i (0, false)) v ∧ sgn (x.2.2.1.getD i (0, false)) v ≤ 1000 := by unfold sgn; split <;> omega
  rw [dec_t (show (i : Int) < (x.2.2.1.length : Int) by omega), cond_true, gd_t (inB_t hi'), Int.toNat_natCast, gd_t hD, es, Option.bind_some, gd_t hD, w1 hi' (by omega), wi (by omega), growR_next hi']
 ·show paths_Grow_L0 x v ((x.2.2.1.length : Nat) : Int) d (growR (x.2.2.1.take x.2.2.1.length) v p.1) (growQ x v p.2.1) p.2.2 = _
  unfold paths_Grow_L0
  rw [dec_f (by omega), List.take_length]; rfl
end
end Go.Proofs.YtbljipjemhbooaaGreat
