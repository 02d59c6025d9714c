/- Desks and steps that are made of numbers. No condition. -/
import Derived.Test.YtbljipjemhbooaaGreatSp8
namespace Go.Proofs.YtbljipjemhbooaaGreat
open Go Go.Sq
set_option linter.unusedVariables false
section
variable {n : Net}
theorem fed_ok (hn : GN n) {p : Pl} (hp : PlS n p) : Ok (second_Fed n p) (PlS n) := by
 have hs := hp.small hn
 have hst := hn.st
 unfold second_Fed
 refine Ok.eq (cplan_eq (p := p) (by omega) (by omega) (by omega)) ?_
 refine Ok.bind (Q := PlS n) ?_ fun z hz => .ret hz
 refine Ok.loop (fun x : Int × List Int × List Int × List Bool => (∃ k : Nat, x.1 = (k : Int) ∧ k ≤ n.2.2.2.1.length) ∧ PlS n x.2) (fun x => n.2.2.2.1.length - x.1.toNat) ⟨⟨0, rfl, by omega⟩, hp⟩ ?_
 rintro ⟨v, p1, p2, p3⟩ ⟨⟨k, hk, hk2⟩, h⟩
 replace hk : v = (k : Int) := hk
 subst hk
 replace h : PlS n (p1, p2, p3) := h
 have hb := h.b
 simp only at hb
 show Ok (second_Fed_L0 n p (k : Int) p1 p2 p3) _
 unfold second_Fed_L0
 refine Ok.bind (Q := fun z : Bool × List Int × List Int × List Bool => z.2 = (p1, p2, p3) ∧ (z.1 = true → k < n.2.2.2.1.length)) (Ok.bif (fun hc => .ret ⟨rfl, fun _ => by have := of_decide_eq_true hc; omega⟩) fun _ => .ret ⟨rfl, fun h => (by cases h)⟩) ?_
 rintro ⟨b, z⟩ ⟨e, hb2⟩
 replace e : z = (p1, p2, p3) := e
 subst e
 refine Ok.bif (fun hc => ?_) fun _ => .ret h
 have hk' := hb2 hc
 refine Ok.gd (inB_t hk') ?_
 refine Ok.eq (rthr_eq n p _) ?_
 have hB : inB (k : Int) p3.length = true := inB_t (by omega)
 refine Ok.bind (Q := fun z : List Int × List Int × List Bool => PlS n z) ?_ fun z hz => ?_
 ·have hx : ∀ c : Bool, PlS n (p1, p2, p3.set (k : Int).toNat c) := fun c => ⟨h.r, h.q, (List.length_set ..).trans h.b⟩
  exact Ok.gd hB (Ok.bif (fun _ => Ok.bif (fun _ => Ok.gd hB (.ret (hx _))) fun _ => Ok.gd hB (.ret (hx _))) fun _ => Ok.gd hB (.ret (hx _)))
 ·rw [w1 hk' (by omega)]
  exact .ret ⟨⟨⟨k + 1, rfl, by omega⟩, hz⟩, by simp only [Int.toNat_natCast]; omega⟩
theorem mplan_ok (hn : GN n) {s : List Int} {q : Int} (h : SrcOk s q) : Ok (second_Plan n s q) fun z => SrcOk z.2.1 z.2.2 ∧ PlS n z.1 := by
 unfold second_Plan
 refine Ok.bind (plan_ok hn h) fun r hr => ?_
 exact Ok.bind (fed_ok hn hr.2) fun r2 hr2 => .ret ⟨hr.1, hr2⟩
theorem mvalve_ok {s : List Int} {q : Int} (h : SrcOk s q) : Ok (second_Valve s q) fun z => SrcOk z.2.1 z.2.2 := by
 unfold second_Valve
 refine Ok.bind (sP h (by simp) (by simp)) fun r hr => ?_
 have b : 1 ≤ r.1 ∧ r.1 ≤ 60 := by have := hr.2; simp at this; omega
 refine Ok.bind (sN hr.1 (n := 2) (by omega) (by omega)) fun r2 hr2 => ?_
 refine Ok.bind (sN hr2.1 (n := 8) (by omega) (by omega)) fun r3 hr3 => ?_
 rw [wi (by omega)]
 refine Ok.bind (sN hr3.1 (n := r.1 + 1) (by omega) (by omega)) fun r4 hr4 => ?_
 exact Ok.bind (sP hr4.1 (by simp) (by simp)) fun r5 hr5 => .ret hr5.1
structure DkN (n : Net) (d : Dk) : Prop where
 v : d.1.length = n.2.1.length + n.2.2.1.length
 p : PlS n d.2
theorem DkN.small (hn : GN n) {d : Dk} (h : DkN n d) : DkS d := by
 have := h.p.small hn; have := h.v; have := hn.sg; have := hn.po
 exact ⟨by omega, by omega, by omega, by omega⟩
theorem DkN.ln {d e : Dk} (h : DkN n d) (hl : Ln d e) : DkN n e := ⟨hl.v.trans h.v, ⟨hl.r.trans h.p.r, hl.p.trans h.p.q, hl.b.trans h.p.b⟩⟩
theorem mdesk_ok (hn : GN n) {p : Pl} (hp : PlS n p) {s : List Int} {q : Int} (h : SrcOk s q) : Ok (second_Desk n p s q) fun z => SrcOk z.1 z.2.1 ∧ DkN n z.2.2 := by
 unfold second_Desk
 rw [show ((p.1, (p.2.1, p.2.2)) : Pl) = p from rfl]
 refine Ok.bind (fed_ok hn hp) fun r hr => ?_
 have hs := hr.small hn
 have hsg := hn.sg
 have hpo := hn.po
 rw [show ((r.1, (r.2.1, r.2.2)) : Pl) = r from rfl]
 refine Ok.eq (needs_eq r (by omega) (by omega)) (Ok.eq (all_eq (nz r.1) (nz r.2.1) (by rw [nz_len]; omega) (by rw [nz_len]; omega)) ?_)
 have hl : (nz r.1 ++ nz r.2.1).length = n.2.1.length + n.2.2.1.length := by rw [List.length_append, nz_len, nz_len, hr.r, hr.q]
 generalize nz r.1 ++ nz r.2.1 = L at hl
 refine Ok.bind (Q := fun z : List Int × Int × List Vl × List Int × List Int × List Bool => SrcOk z.1 z.2.1 ∧ DkN n z.2.2) ?_ fun z hz => .ret hz
 refine Ok.loop (fun x : Int × List Int × Int × List Bool × List Vl × List Int × List Int × List Bool => x.1 = (x.2.2.2.2.1.length : Int) ∧ x.2.2.2.2.1.length ≤ L.length ∧ SrcOk x.2.1 x.2.2.1 ∧ x.2.2.2.1 = L ∧ x.2.2.2.2.2 = r) (fun x => L.length - x.2.2.2.2.1.length) ⟨rfl, by simp, h, rfl, rfl⟩ ?_
 rintro ⟨v, s', q', L', d, z⟩ ⟨e1, h1, h2, e3, e4⟩
 replace e1 : v = (d.length : Int) := e1
 replace e3 : L' = L := e3
 replace e4 : z = r := e4
 subst e1 e3 e4
 simp only at h1 h2
 show Ok (second_Desk_L0 (d.length : Int) s' q' L' d z.1 z.2.1 z.2.2) _
 unfold second_Desk_L0
 refine Ok.bif (fun hc => ?_) fun hc => ?_
 ·have hc := of_decide_eq_true hc
  refine Ok.bind (mvalve_ok h2) fun r4 hr4 => ?_
  refine Ok.gd (inB_t (by omega)) ?_
  refine Ok.bind (Q := fun x : Int × Bool × List Bool × List Vl × List Int × List Int × List Bool => x.2.2 = (L', d, z)) (Ok.bif (fun _ => .ret rfl) fun _ => .ret rfl) ?_
  rintro ⟨a, b, x⟩ e
  replace e : x = (L', d, z) := e
  subst e
  refine Ok.gd (fits_t (by (try simp only); omega)) (.ret ⟨⟨?_, ?_, hr4, rfl, rfl⟩, ?_⟩)
  ·simp only [List.length_append, List.length_cons, List.length_nil]; rw [wi (by omega)]; omega
  ·simp only [List.length_append, List.length_cons, List.length_nil]; omega
  ·simp only [List.length_append, List.length_cons, List.length_nil]; omega
 ·have hc := of_decide_eq_false hc
  exact .ret ⟨h2, ⟨by (try simp only); omega, hr⟩⟩
theorem mopen_ok (hn : GN n) {p : Pl} (hp : PlS n p) {s : List Int} {q : Int} (h : SrcOk s q) : Ok (second_Opened n p s q) fun z => SrcOk z.1 z.2.1 ∧ DkN n z.2.2 := by
 have hsg := hn.sg
 have hpo := hn.po
 have hst := hn.st
 unfold second_Opened
 rw [show ((p.1, (p.2.1, p.2.2)) : Pl) = p from rfl]
 refine Ok.bind (mdesk_ok hn hp h) fun r hr => ?_
 refine Ok.gd (makeG_t (by omega)) (Ok.gd (makeG_t (by omega)) (Ok.gd (makeG_t (by omega)) (.ret ⟨hr.1, ⟨hr.2.v, ⟨?_, ?_, ?_⟩⟩⟩)))
 ·simp
 ·simp
 ·simp

/-! ### Dividing a plan -/
theorem leav_ok (hn : GN n) {rates : List Int} (hr : rates.length = n.2.1.length) (a : Int) : Ok (ref25_leaves n rates a) fun z => z.2 = true → hopOk n z.1 = true := by
 have hsg := hn.sg
 unfold ref25_leaves
 refine Ok.bind (Q := fun e : (Int × Bool) ⊕ (Bool × Int × Bool) => ∀ z, e = .inr z → hopOk n z.2 = true) ?_ fun e he => ?_
 ·refine Ok.loop (fun x : Int × Int × Bool => ∃ k : Nat, x.1 = (k : Int) ∧ k ≤ n.2.1.length) (fun x => n.2.1.length - x.1.toNat) ⟨0, rfl, by omega⟩ ?_
  rintro ⟨v, b, c⟩ ⟨k, hk, hk2⟩
  replace hk : v = (k : Int) := hk
  subst hk
  show Ok (ref25_leaves_L0 n rates a (k : Int) b c) _
  unfold ref25_leaves_L0
  refine Ok.bif (fun hc => ?_) fun _ => .ret fun z hz => (by cases hz)
  have hc := of_decide_eq_true hc
  have hk' : k < n.2.1.length := by omega
  have hA : inB (k : Int) rates.length = true := inB_t (by omega)
  have hB : inB (k : Int) n.2.1.length = true := inB_t hk'
  refine Ok.bind (Q := fun _ => True) ?_ fun b _ => ?_
  ·have z : ∀ b : Bool, Ok (some b) fun _ => True := fun b => .ret trivial
   exact Ok.gd hA (Ok.bif (fun _ => Ok.gd hB (Ok.bif (fun _ => z _) fun _ => Ok.gd hA (Ok.bif (fun _ => Ok.gd hB (z _)) fun _ => z _))) fun _ => Ok.gd hA (Ok.bif (fun _ => Ok.gd hB (z _)) fun _ => z _))
  ·refine Ok.bif (fun _ => Ok.gd hA (.ret fun z hz => ?_)) fun _ => ?_
   ·cases hz; exact hop_iff.2 ⟨by (try simp only); omega, by (try simp only); omega⟩
   ·rw [w1 hk' (by omega)]
    exact .ret ⟨⟨k + 1, rfl, by omega⟩, by simp only [Int.toNat_natCast]; omega⟩
 ·cases e with
  | inl z => exact .ret fun h => (by cases h)
  | inr z => exact .ret fun _ => he z rfl
def hopsIn (n : Net) (l : List Hop) : Prop := ∀ h ∈ l, hopOk n h = true
theorem hopsIn.more {l : List Hop} (h : hopsIn n l) {x : Hop} (hx : hopOk n x = true) : hopsIn n (l ++ [x]) := fun y hy => by
 rcases List.mem_append.1 hy with hy | hy
 ·exact h y hy
 ·rw [List.mem_singleton.1 hy]; exact hx
theorem foll_ok (hn : GN n) {rates ports : List Int} (hr : rates.length = n.2.1.length) (hp : ports.length = n.2.2.1.length) {i : Int} (hi : 0 ≤ i ∧ i < (n.2.2.1.length : Int)) :
  Ok (ref25_follow n rates ports i) fun z => z.1 = i ∧ (0 ≤ z.2.1 ∧ z.2.1 < (n.2.2.1.length : Int)) ∧ hopsIn n z.2.2.2.2 ∧ z.2.2.2.2.length ≤ 40 := by
 have hsg := hn.sg
 have hpo := hn.po
 have hno := hn.no
 unfold ref25_follow
 refine Ok.gd (inB_iff.2 (by omega)) (Ok.gd (inB_iff.2 (by omega)) ?_)
 refine Ok.bind (Q := fun e : (Int × Int × List Hop × Int × Int × Int × List Hop) ⊕ (Bool × Int × Int × Int × List Hop) => (∀ z, e = .inl z → (0 ≤ z.2.2.2.2.1 ∧ z.2.2.2.2.1 < (n.2.2.1.length : Int)) ∧ hopsIn n z.2.2.2.2.2.2 ∧ z.2.2.2.2.2.2.length ≤ 40) ∧
  (∀ z, e = .inr z → z.2.1 = i ∧ (0 ≤ z.2.2.1 ∧ z.2.2.1 < (n.2.2.1.length : Int)) ∧ hopsIn n z.2.2.2.2 ∧ z.2.2.2.2.length ≤ 40)) ?_ fun e he => ?_
 ·refine Ok.loop (fun x : Int × Int × Int × Int × List Hop × Int × Int × Int × List Hop => (∃ k : Nat, x.2.1 = (k : Int) ∧ k ≤ n.1.length + 1 ∧ x.2.2.2.2.2.2.2.2.length ≤ k) ∧ (0 ≤ x.2.2.2.2.2.2.1 ∧ x.2.2.2.2.2.2.1 < (n.2.2.1.length : Int)) ∧ hopsIn n x.2.2.2.2.2.2.2.2) (fun x => n.1.length + 1 - x.2.1.toNat) ⟨⟨0, rfl, by omega, by simp⟩, by (try simp only); omega, fun x hx => (by cases hx)⟩ ?_
  rintro ⟨a, v, c1, c2, c3, c4, o, rt, hs⟩ ⟨⟨k, hk, hk2, hk3⟩, h1, h2⟩
  replace hk : v = (k : Int) := hk
  subst hk
  simp only at hk3 h1 h2
  show Ok (ref25_follow_L0 n rates ports i a (k : Int) c1 c2 c3 c4 o rt hs) _
  unfold ref25_follow_L0
  refine Ok.bif (fun hc => ?_) fun hc => .ret ⟨fun z hz => ?_, fun z hz => (by cases hz)⟩
  ·have hc := of_decide_eq_true hc
   refine Ok.bind (Q := fun e : (Int × Int × List Hop × Int × Int × Int × List Hop) ⊕ (Bool × Int × Int × Int × List Hop) => (∀ z, e = .inl z → z.2.2.2.2.1 = o ∧ z.2.2.2.2.2.2 = hs) ∧
    (∀ z, e = .inr z → z.2.1 = i ∧ (0 ≤ z.2.2.1 ∧ z.2.2.1 < (n.2.2.1.length : Int)) ∧ z.2.2.2.2 = hs)) ?_ fun e he => ?_
   ·refine Ok.loop (fun x : Int × Int × Int × List Hop × Int × Int × Int × List Hop => (∃ k : Nat, x.1 = (k : Int) ∧ k ≤ n.2.2.1.length) ∧ x.2.2.2.2.2.1 = o ∧ x.2.2.2.2.2.2.2 = hs) (fun x => n.2.2.1.length - x.1.toNat) ⟨⟨0, rfl, by omega⟩, rfl, rfl⟩ ?_
    rintro ⟨v, b1, b2, b3, b4, o', rt', hs'⟩ ⟨⟨j, hj, hj2⟩, e1, e2⟩
    replace hj : v = (j : Int) := hj
    replace e1 : o' = o := e1
    replace e2 : hs' = hs := e2
    subst hj e1 e2
    show Ok (ref25_follow_L1 n ports i a (j : Int) b1 b2 b3 b4 o' rt' hs') _
    unfold ref25_follow_L1
    refine Ok.bif (fun hc => ?_) fun hc => .ret ⟨fun z hz => (by cases hz; exact ⟨rfl, rfl⟩), fun z hz => (by cases hz)⟩
    have hc := of_decide_eq_true hc
    have hj' : j < n.2.2.1.length := by omega
    have hB : inB (j : Int) ports.length = true := inB_t (by omega)
    refine Ok.bind (Q := fun z : Bool × List Hop => z.2 = hs') (Ok.gd (inB_t hj') (Ok.bif (fun _ => Ok.gd hB (.ret rfl)) fun _ => .ret rfl)) ?_
    rintro ⟨b, x⟩ e
    replace e : x = hs' := e
    subst e
    refine Ok.bif (fun _ => Ok.gd hB (.ret ⟨fun z hz => (by cases hz), fun z hz => (by cases hz; exact ⟨rfl, ⟨by (try simp only); omega, by (try simp only); omega⟩, rfl⟩)⟩)) fun _ => ?_
    rw [w1 hj' (by omega)]
    exact .ret ⟨⟨⟨j + 1, rfl, by omega⟩, rfl, rfl⟩, by simp only [Int.toNat_natCast]; omega⟩
   ·cases e with
    | inl z =>
     obtain ⟨e1, e2⟩ := he.1 z rfl
     refine Ok.bind (leav_ok hn hr a) fun r hr2 => ?_
     refine Ok.bif (fun _ => .ret ⟨fun z hz => (by cases hz), fun w hw => ?_⟩) fun hb => ?_
     ·cases hw
      exact ⟨rfl, by rw [e1]; exact h1, by rw [e2]; exact h2, by rw [e2]; omega⟩
     ·have hb : r.2 = true := by simpa using hb
      have ho := hr2 hb
      have ho2 := hop_iff.1 ho
      refine Ok.gd (fits_t (by rw [e2]; omega)) (Ok.gd (inB_iff.2 (by omega)) ?_)
      refine Ok.eq (a := max (rates.getD r.1.1.toNat 0) (wi64 (0 - rates.getD r.1.1.toNat 0))) rfl ?_
      rw [show ((r.1.1, r.1.2) : Hop) = r.1 from rfl]
      refine Ok.eq (rpends_eq ho) ?_
      rw [w1 (show k < n.1.length + 1 by omega) (by omega), e1, e2]
      exact .ret ⟨⟨⟨k + 1, rfl, by omega, by (try simp only); simp only [List.length_append, List.length_cons, List.length_nil]; omega⟩, h1, h2.more ho⟩, by simp only [Int.toNat_natCast]; omega⟩
    | inr z =>
     obtain ⟨e1, e2, e3⟩ := he.2 z rfl
     exact .ret ⟨fun z hz => (by cases hz), fun w hw => (by cases hw; exact ⟨e1, e2, by rw [e3]; exact h2, by rw [e3]; omega⟩)⟩
  ·cases hz; exact ⟨h1, h2, by (try simp only); omega⟩
 ·cases e with
  | inl z => have := he.1 z rfl; exact .ret ⟨rfl, this.1, this.2.1, this.2.2⟩
  | inr z => exact .ret (he.2 z rfl)
def pathsIn (l : List Pth) : Prop := ∀ x ∈ l, x.2.2.1.length ≤ 100
theorem divide_ok (hn : GN n) (p : Pl) : Ok (ref25_Divide n p.1 p.2.1 p.2.2) fun z => (z.2.1, z.2.2.1, z.2.2.2.1) = p ∧ z.2.2.2.2.length ≤ 100 ∧ pathsIn z.2.2.2.2 := by
 have hsg := hn.sg
 have hpo := hn.po
 unfold ref25_Divide
 rw [show ((p.1, (p.2.1, p.2.2)) : Pl) = p from rfl]
 refine Ok.eq (refplan_eq n p) ?_
 refine Ok.bif (fun _ => .ret ⟨rfl, by simp, fun x hx => (by cases hx)⟩) fun hc => ?_
 have hc : chkPlan n p = 0 := by simpa using hc
 obtain ⟨l1, l2, l3⟩ := (VPl.of hc).len
 refine Ok.gd (fits_t (by omega)) (Ok.gd (fits_t (by omega)) ?_)
 rw [List.nil_append, List.nil_append]
 refine Ok.bind (Q := fun e : (List Pth × Pl) ⊕ (Int × Pl) => (∀ z, e = .inl z → z.2 = p ∧ z.1.length ≤ 100 ∧ pathsIn z.1) ∧ (∀ z, e = .inr z → z.2 = p)) ?_ fun e he => ?_
 ·refine Ok.loop (fun x : Int × List Int × List Int × List Pth × Pl => (∃ k : Nat, x.1 = (k : Int) ∧ k ≤ n.2.2.1.length) ∧ x.2.1.length = n.2.1.length ∧ x.2.2.1.length = n.2.2.1.length ∧ x.2.2.2.1.length ≤ 64 ∧ pathsIn x.2.2.2.1 ∧ x.2.2.2.2 = p) (fun x => n.2.2.1.length - x.1.toNat) ⟨⟨0, rfl, by omega⟩, l1, l2, by simp, fun x hx => (by cases hx), rfl⟩ ?_
  rintro ⟨v, ra, po, out, pp⟩ ⟨⟨k, hk, hk2⟩, h1, h2, h3, h4, h5⟩
  replace h5 : pp = p := h5
  subst h5
  replace hk : v = (k : Int) := hk
  subst hk
  simp only at h1 h2 h3 h4
  show Ok (ref25_Divide_L0 n (k : Int) ra po out pp.1 pp.2.1 pp.2.2) _
  unfold ref25_Divide_L0
  refine Ok.bif (fun hc => ?_) fun hc => .ret ⟨fun z hz => (by cases hz; exact ⟨rfl, by (try simp only); omega, h4⟩), fun z hz => (by cases hz)⟩
  have hc := of_decide_eq_true hc
  have hk' : k < n.2.2.1.length := by omega
  refine Ok.bind (Q := fun e : (List Int × List Int × List Pth × Pl) ⊕ (Int × Pl) => (∀ z, e = .inl z → z.1.length = n.2.1.length ∧ z.2.1.length = n.2.2.1.length ∧ z.2.2.1.length ≤ 64 ∧ pathsIn z.2.2.1 ∧ z.2.2.2 = pp) ∧ (∀ z, e = .inr z → z.2 = pp)) ?_ fun e he => ?_
  ·refine Ok.loop (fun x : List Int × List Int × List Pth × Pl => x.1.length = n.2.1.length ∧ x.2.1.length = n.2.2.1.length ∧ x.2.2.1.length ≤ 64 ∧ pathsIn x.2.2.1 ∧ x.2.2.2 = pp) (fun x => 64 - x.2.2.1.length) ⟨h1, h2, h3, h4, rfl⟩ ?_
   rintro ⟨ra, po, out, pq⟩ ⟨h1, h2, h3, h4, h5⟩
   replace h5 : pq = pp := h5
   subst h5
   simp only at h1 h2 h3 h4
   show Ok (ref25_Divide_L1 n (k : Int) ra po out pq.1 pq.2.1 pq.2.2) _
   unfold ref25_Divide_L1
   refine Ok.gd (inB_t (by omega)) ?_
   refine Ok.bif (fun hc => ?_) fun hc => .ret ⟨fun z hz => (by cases hz; exact ⟨h1, h2, h3, h4, rfl⟩), fun z hz => (by cases hz)⟩
   refine Ok.bind (foll_ok hn (rates := ra) (ports := po) h1 h2 (i := (k : Int)) ⟨by omega, by omega⟩) ?_
   rintro ⟨i, o, rt, ok, hs⟩ ⟨e1, e2, e3, e4⟩
   replace e1 : i = (k : Int) := e1
   subst e1
   simp only at e2 e3 e4
   refine Ok.bind (Q := fun z : Bool × List Int × List Int × List Pth × List Int × List Int × List Bool × List Hop => z.2 = (ra, po, out, pq.1, pq.2.1, pq.2.2, hs) ∧ (z.1 = false → out.length < 64)) ?_ ?_
   ·refine Ok.bif (fun _ => .ret ⟨rfl, fun h => (by cases h)⟩) fun _ => Ok.bif (fun _ => .ret ⟨rfl, fun h => (by cases h)⟩) fun hb => .ret ⟨rfl, fun _ => ?_⟩
    have hb := of_decide_eq_false hb
    omega
   rintro ⟨b, z⟩ ⟨e, hb⟩
   replace e : z = (ra, po, out, pq.1, pq.2.1, pq.2.2, hs) := e
   subst e
   refine Ok.bif (fun _ => .ret ⟨fun z hz => (by cases hz), fun z hz => (by cases hz; rfl)⟩) fun hbf => ?_
   have h64 := hb hbf
   have hA : inB (k : Int) po.length = true := inB_t (by omega)
   refine Ok.gd hA (Ok.gd hA (Ok.gd (inB_iff.2 (by rw [List.length_set]; (try simp only); omega)) (Ok.gd (inB_iff.2 (by rw [List.length_set]; (try simp only); omega)) ?_)))
   refine Ok.bind (Q := fun z : List Int × List Int × List Pth × List Int × List Int × List Bool × List Hop => z.1.length = n.2.1.length ∧ z.2.1.length = n.2.2.1.length ∧ z.2.2.1 = out ∧ z.2.2.2 = (pq.1, pq.2.1, pq.2.2, hs)) ?_ ?_
   ·refine Ok.loop (fun x : Int × List Int × List Int × List Pth × List Int × List Int × List Bool × List Hop => (∃ j : Nat, x.1 = (j : Int) ∧ j ≤ hs.length) ∧ x.2.1.length = n.2.1.length ∧ x.2.2.1.length = n.2.2.1.length ∧ x.2.2.2.1 = out ∧ x.2.2.2.2 = (pq.1, pq.2.1, pq.2.2, hs)) (fun x => hs.length - x.1.toNat) ⟨⟨0, rfl, by omega⟩, h1, by simp only [List.length_set]; exact h2, rfl, rfl⟩ ?_
    rintro ⟨v, ra', po', out', y1, y2, y3, hs'⟩ ⟨⟨j, hj, hj2⟩, g1, g2, g3, g4⟩
    replace g4 : (y1, y2, y3, hs') = (pq.1, pq.2.1, pq.2.2, hs) := g4
    obtain ⟨z1, z2, z3, z4⟩ : y1 = pq.1 ∧ y2 = pq.2.1 ∧ y3 = pq.2.2 ∧ hs' = hs := by simpa using g4
    subst z1 z2 z3
    replace hj : v = (j : Int) := hj
    replace g3 : out' = out := g3
    subst hj g3 z4
    simp only at g1 g2
    unfold ref25_Divide_L2
    refine Ok.bif (fun hc => ?_) fun hc => .ret ⟨g1, g2, rfl, rfl⟩
    have hc := of_decide_eq_true hc
    simp only at hc
    have hj' : j < hs'.length := by omega
    have hh := hop_iff.1 (e3 _ (gD_mem (d := (0, false)) hj'))
    have hC : inB (hs'.getD j (0, false)).1 ra'.length = true := inB_iff.2 (by omega)
    refine Ok.gd (inB_t hj') ?_
    simp only [Int.toNat_natCast]
    refine Ok.bind (Q := fun z : List Int × List Int × List Pth × List Int × List Int × List Bool × List Hop => z.1.length = n.2.1.length ∧ z.2 = (po', out', pq.1, pq.2.1, pq.2.2, hs')) (Ok.bif (fun _ => Ok.gd hC (Ok.gd hC (.ret ⟨(List.length_set ..).trans g1, rfl⟩))) fun _ => Ok.gd hC (Ok.gd hC (.ret ⟨(List.length_set ..).trans g1, rfl⟩))) ?_
    rintro ⟨y, w⟩ ⟨hy, e⟩
    replace e : w = (po', out', pq.1, pq.2.1, pq.2.2, hs') := e
    subst e
    rw [w1 hj' (by omega)]
    exact .ret ⟨⟨⟨j + 1, rfl, by omega⟩, hy, g2, rfl, rfl⟩, by simp only [Int.toNat_natCast]; omega⟩
   ·rintro ⟨ra', po', out', y1, y2, y3, hs'⟩ ⟨g1, g2, g3, g4⟩
    replace g3 : out' = out := g3
    obtain ⟨z1, z2, z3, z4⟩ : y1 = pq.1 ∧ y2 = pq.2.1 ∧ y3 = pq.2.2 ∧ hs' = hs := by simpa using g4
    subst g3 z1 z2 z3 z4
    refine Ok.gd (fits_t (by (try simp only); omega)) (.ret ⟨⟨g1, g2, ?_, fun x hx => ?_, rfl⟩, ?_⟩)
    ·simp only [List.length_append, List.length_cons, List.length_nil]; omega
    ·rcases List.mem_append.1 hx with hx | hx
     ·exact h4 x hx
     ·rw [List.mem_singleton.1 hx]; (try simp only); omega
    ·simp only [List.length_append, List.length_cons, List.length_nil]; omega
  ·cases e with
   | inl z =>
    have := he.1 z rfl
    rw [w1 hk' (by omega)]
    exact .ret ⟨⟨⟨k + 1, rfl, by omega⟩, this.1, this.2.1, this.2.2.1, this.2.2.2.1, this.2.2.2.2⟩, by simp only [Int.toNat_natCast]; omega⟩
   | inr z => exact .ret ⟨fun w hw => (by cases hw), fun w hw => (by cases hw; exact he.2 z rfl)⟩
 ·cases e with
  | inl z => exact .ret (he.1 z rfl)
  | inr z => exact .ret ⟨he.2 z rfl, by simp, fun x hx => (by cases hx)⟩
theorem mstep_ok (hn : GN n) {d : Dk} (hd : d.1.length ≤ 100000) {s : List Int} {q : Int} (h : SrcOk s q) : Ok (second_Step n s q d.1 d.2.1 d.2.2.1 d.2.2.2) fun z => SrcOk z.2.1 z.2.2.1 ∧ z.1.2.2.2.2.2.1.length ≤ 100 ∧ z.2.2.2 = d := by
 have hst := hn.st
 unfold second_Step
 refine Ok.bind (sN h (n := 9) (by omega) (by omega)) fun r hr => ?_
 refine Ok.bif (fun _ => ?_) fun _ => Ok.bif (fun _ => ?_) fun _ => Ok.bif (fun _ => ?_) fun _ => Ok.bif (fun _ => ?_) fun _ => ?_
 ·rw [wi (by omega)]; exact Ok.bind (sN hr.1 (by omega) (by omega)) fun r2 h2 => .ret ⟨h2.1, by simp, rfl⟩
 ·rw [wi (by omega)]; exact Ok.bind (sN hr.1 (by omega) (by omega)) fun r2 h2 => .ret ⟨h2.1, by simp, rfl⟩
 ·rw [wi (by omega)]; exact Ok.bind (sN hr.1 (by omega) (by omega)) fun r2 h2 => .ret ⟨h2.1, by simp, rfl⟩
 ·rw [wi (by omega)]; exact Ok.bind (sN hr.1 (by omega) (by omega)) fun r2 h2 => .ret ⟨h2.1, by simp, rfl⟩
 refine Ok.bind (Q := fun z : Bool × Dk => z.2 = d) (Ok.bif (fun _ => .ret rfl) fun _ => .ret rfl) ?_
 rintro ⟨b, d'⟩ e
 replace e : d' = d := e
 subst e
 refine Ok.bif (fun _ => Ok.bind (sP hr.1 (by simp) (by simp)) fun r6 h6 => .ret ⟨h6.1, by simp, rfl⟩) fun _ => Ok.bif (fun _ => ?_) fun _ => ?_
 ·exact Ok.bind (sN hr.1 (n := 9) (by omega) (by omega)) fun r7 h7 => Ok.bind (sN h7.1 (n := 4) (by omega) (by omega)) fun r8 h8 => Ok.bind (sN h8.1 (n := 5) (by omega) (by omega)) fun r9 h9 => Ok.bind (sN h9.1 (n := 2) (by omega) (by omega)) fun r10 h10 => Ok.bind (sN h10.1 (n := 2) (by omega) (by omega)) fun r11 h11 => .ret ⟨h11.1, by simp, rfl⟩
 refine Ok.bind (sN hr.1 (n := 2) (by omega) (by omega)) fun r12 h12 => ?_
 have tail : ∀ {l : List Pth} {s4 : List Int} {q4 : Int} {X : Dk}, SrcOk s4 q4 → l.length ≤ 100 → pathsIn l → X = d' → Ok (bif decide ((l.length : Int) = 0) then some ((((5, (0, (1, (0, (1, ([], 0)))))), s4, q4, X) : Stp × List Int × Int × Dk)) else
   (keep_Src_N (l.length : Int) s4 q4).bind fun r15 => gd (inB r15.1 l.length) ((ref25_Copy (l.getD r15.1.toNat (0, (0, ([], 0))))).bind fun r16 =>
    (keep_Src_Pick [r16.2.2.1, wi64 (0 - r16.2.2.1), 1, (-1), wi64 (r16.2.2.1 + 1), wi64 ((wi64 (0 - r16.2.2.1)) - 1), 0] r15.2.1 r15.2.2).bind fun r17 =>
    some ((5, (0, (r17.1, (r16.1, (r16.2.1, (r16.2.2.2, 0)))))), r17.2.1, r17.2.2, X))) (fun z => SrcOk z.2.1 z.2.2.1 ∧ z.1.2.2.2.2.2.1.length ≤ 100 ∧ z.2.2.2 = d') := by
  intro l s4 q4 X h4 hl hp hX
  refine Ok.bif (fun _ => .ret ⟨h4, by simp, hX⟩) fun hc => ?_
  have hc := of_decide_eq_false hc
  refine Ok.bind (sN h4 (n := (l.length : Int)) (by omega) (by omega)) fun r15 h15 => ?_
  refine Ok.gd (inB_iff.2 h15.2) ?_
  have hx := hp _ (gD_mem (d := ((0, (0, ([], 0))) : Pth)) (show r15.1.toNat < l.length by omega))
  refine Ok.eq (pcopy_eq _ (by omega)) ?_
  exact Ok.bind (sP h15.1 (by simp) (by simp)) fun r17 h17 => .ret ⟨h17.1, hx, hX⟩
 refine Ok.bif (fun _ => ?_) fun _ => ?_
 ·refine Ok.bind (plan_ok hn h12.1) fun r13 h13 => ?_
  refine Ok.bind (divide_ok hn r13.2.2) fun r14 h14 => ?_
  exact tail h13.1 h14.2.1 h14.2.2 rfl
 ·refine Ok.bind (divide_ok hn d'.2) fun r14 h14 => ?_
  exact tail h12.1 h14.2.1 h14.2.2 (Prod.ext rfl h14.1)
end
end Go.Proofs.YtbljipjemhbooaaGreat
