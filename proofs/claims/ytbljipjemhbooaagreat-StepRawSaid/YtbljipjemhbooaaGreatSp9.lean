/- Desks and steps that are made of numbers. No condition. -/
import Derived.Test.YtbljipjemhbooaaGreatSp8
namespace Go.Proofs.YtbljipjemhbooaaGreat
open Go Go.Sq
set_option linter.unusedVariables false
section
variable {n : Net}
theorem fed_ok (hn : GN n) {p : Pl} (hp : PlS n p) : Ok (second_Fed n p) (PlS n) := by
 have hs := hp.small hn
 have hst := hn.st
 unfold second_Fed
 refine Ok.eq (cplan_eq (p := p) (by omega) (by omega) (by omega)) ?_
 refine Ok.bind (Q := PlS n) ?_ fun z hz => .ret hz
 refine Ok.loop (fun x : Int × List Int × List Int × List Bool => (∃ k : Nat, x.1 = (k : Int) ∧ k ≤ n.2.2.2.1.length) ∧ PlS n x.2) (fun x => n.2.2.2.1.length - x.1.toNat) ⟨⟨0, rfl, by omega⟩, hp⟩ ?_
 rintro ⟨v, p1, p2, p3⟩ ⟨⟨k, hk, hk2⟩, h⟩
 replace hk : v = (k : Int) := hk
 subst hk
 replace h : PlS n (p1, p2, p3) := h
 have hb := h.b
 simp only at hb
 show Ok (second_Fed_L0 n p (k : Int) p1 p2 p3) _
 unfold second_Fed_L0
 refine Ok.bind (Q := fun z : Bool × List Int × List Int × List Bool => z.2 = (p1, p2, p3) ∧ (z.1 = true → k < n.2.2.2.1.length)) (Ok.bif (fun hc => .ret ⟨rfl, fun _ => by have := of_decide_eq_true hc; omega⟩) fun _ => .ret ⟨rfl, fun h => (by cases h)⟩) ?_
 rintro ⟨b, z⟩ ⟨e, hb2⟩
 replace e : z = (p1, p2, p3) := e
 subst e
 refine Ok.bif (fun hc => ?_) fun _ => .ret h
 have hk' := hb2 hc
 refine Ok.gd (inB_t hk') ?_
 refine Ok.eq (rthr_eq n p _) ?_
 have hB : inB (k : Int) p3.length = true := inB_t (by omega)
 refine Ok.bind (Q := fun z : List Int × List Int × List Bool => PlS n z) ?_ fun z hz => ?_
 ·have hx : ∀ c : Bool, PlS n (p1, p2, p3.set (k : Int).toNat c) := fun c => ⟨h.r, h.q, (List.length_set ..).trans h.b⟩
  exact Ok.gd hB (Ok.bif (fun _ => Ok.bif (fun _ => Ok.gd hB (.ret (hx _))) fun _ => Ok.gd hB (.ret (hx _))) fun _ => Ok.gd hB (.ret (hx _)))
 ·rw [w1 hk' (by omega)]
  exact .ret ⟨⟨⟨k + 1, rfl, by omega⟩, hz⟩, by simp only [Int.toNat_natCast]; omega⟩
theorem mplan_ok (hn : GN n) {s : List Int} {q : Int} (h : SrcOk s q) : Ok (second_Plan n s q) fun z => SrcOk z.2.1 z.2.2 ∧ PlS n z.1 := by
 unfold second_Plan
 refine Ok.bind (plan_ok hn h) fun r hr => ?_
 exact Ok.bind (fed_ok hn hr.2) fun r2 hr2 => .ret ⟨hr.1, hr2⟩
theorem mvalve_ok {s : List Int} {q : Int} (h : SrcOk s q) : Ok (second_Valve s q) fun z => SrcOk z.2.1 z.2.2 := by
 unfold second_Valve
 refine Ok.bind (sP h (by simp) (by simp)) fun r hr => ?_
 have b : 1 ≤ r.1 ∧ r.1 ≤ 60 := by have := hr.2; simp at this; omega
 refine Ok.bind (sN hr.1 (n := 2) (by omega) (by omega)) fun r2 hr2 => ?_
 refine Ok.bind (sN hr2.1 (n := 8) (by omega) (by omega)) fun r3 hr3 => ?_
 rw [wi (by omega)]
 refine Ok.bind (sN hr3.1 (n := r.1 + 1) (by omega) (by omega)) fun r4 hr4 => ?_
 exact Ok.bind (sP hr4.1 (by simp) (by simp)) fun r5 hr5 => .ret hr5.1
structure DkN (n : Net) (d : Dk) : Prop where
 v : d.1.length = n.2.1.length + n.2.2.1.length
 p : PlS n d.2
theorem DkN.small (hn : GN n) {d : Dk} (h : DkN n d) : DkS d := by
 have := h.p.small hn; have := h.v; have := hn.sg; have := hn.po
 exact ⟨by omega, by omega, by omega, by omega⟩
theorem DkN.ln {d e : Dk} (h : DkN n d) (hl : Ln d e) : DkN n e := ⟨hl.v.trans h.v, ⟨hl.r.trans h.p.r, hl.p.trans h.p.q, hl.b.trans h.p.b⟩⟩
theorem mdesk_ok (hn : GN n) {p : Pl} (hp : PlS n p) {s : List Int} {q : Int} (h : SrcOk s q) : Ok (second_Desk n p s q) fun z => SrcOk z.1 z.2.1 ∧ DkN n z.2.2 := by
 unfold second_Desk
 rw [show ((p.1, (p.2.1, p.2.2)) : Pl) = p from rfl]
 refine Ok.bind (fed_ok hn hp) fun r hr => ?_
 have hs := hr.small hn
 have hsg := hn.sg
 have hpo := hn.po
 rw [show ((r.1, (r.2.1, r.2.2)) : Pl) = r from rfl]
 refine Ok.eq (needs_eq r (by omega) (by omega)) (Ok.eq (all_eq (nz r.1) (nz r.2.1) (by rw [nz_len]; omega) (by rw [nz_len]; omega)) ?_)
 have hl : (nz r.1 ++ nz r.2.1).length = n.2.1.length + n.2.2.1.length := by rw [List.length_append, nz_len, nz_len, hr.r, hr.q]
 generalize nz r.1 ++ nz r.2.1 = L at hl
 refine Ok.bind (Q := fun z : List Int × Int × List Vl × List Int × List Int × List Bool => SrcOk z.1 z.2.1 ∧ DkN n z.2.2) ?_ fun z hz => .ret hz
 refine Ok.loop (fun x : Int × List Int × Int × List Bool × List Vl × List Int × List Int × List Bool => x.1 = (x.2.2.2.2.1.length : Int) ∧ x.2.2.2.2.1.length ≤ L.length ∧ SrcOk x.2.1 x.2.2.1 ∧ x.2.2.2.1 = L ∧ x.2.2.2.2.2 = r) (fun x => L.length - x.2.2.2.2.1.length) ⟨rfl, by simp, h, rfl, rfl⟩ ?_
 rintro ⟨v, s', q', L', d, z⟩ ⟨e1, h1, h2, e3, e4⟩
 replace e1 : v = (d.length : Int) := e1
 replace e3 : L' = L := e3
 replace e4 : z = r := e4
 subst e1 e3 e4
 simp only at h1 h2
 show Ok (second_Desk_L0 (d.length : Int) s' q' L' d z.1 z.2.1 z.2.2) _
 unfold second_Desk_L0
 refine Ok.bif (fun hc => ?_) fun hc => ?_
 ·have hc := of_decide_eq_true hc
  refine Ok.bind (mvalve_ok h2) fun r4 hr4 => ?_
  refine Ok.gd (inB_t (by omega)) ?_
  refine Ok.bind (Q := fun x : Int × Bool × List Bool × List Vl × List Int × List Int × List Bool => x.2.2 = (L', d, z)) (Ok.bif (fun _ => .ret rfl) fun _ => .ret rfl) ?_
  rintro ⟨a, b, x⟩ e
  replace e : x = (L', d, z) := e
  subst e
  refine Ok.gd (fits_t (by (try simp only); omega)) (.ret ⟨⟨?_, ?_, hr4, rfl, rfl⟩, ?_⟩)
  ·simp only [List.length_append, List.length_cons, List.length_nil]; rw [wi (by omega)]; omega
  ·simp only [List.length_append, List.length_cons, List.length_nil]; omega
  ·simp only [List.length_append, List.length_cons, List.length_nil]; omega
 ·have hc := of_decide_eq_false hc
  exact .ret ⟨h2, ⟨by (try simp only); omega, hr⟩⟩
/-! ### Dividing a plan -/
def hopsIn (n : Net) (l : List Hop) : Prop := ∀ h ∈ l, hopOk n h = true
theorem hopsIn.more {l : List Hop} (h : hopsIn n l) {x : Hop} (hx : hopOk n x = true) : hopsIn n (l ++ [x]) := fun y hy => by
 rcases List.mem_append.1 hy with hy | hy
 ·exact h y hy
 ·rw [List.mem_singleton.1 hy]; exact hx
end
end Go.Proofs.YtbljipjemhbooaaGreat
