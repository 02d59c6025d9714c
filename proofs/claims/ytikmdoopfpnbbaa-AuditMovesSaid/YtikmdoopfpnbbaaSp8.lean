/- Plans that are made of numbers. No condition. -/
import Derived.Test.YtikmdoopfpnbbaaFl4
import Derived.Test.YtikmdoopfpnbbaaLa2
namespace Go.Proofs.Ytikmdoopfpnbbaa
open Go Go.Sq
set_option linter.unusedVariables false
theorem sN {n : Int} {s : List Int} {p : Int} (h : SrcOk s p) (h1 : 1 ≤ n) (h2 : n ≤ 4611686018427387904) : Ok (qag n s p) fun q => SrcOk q.2.1 q.2.2 ∧ 0 ≤ q.1 ∧ q.1 < n :=
 (srcN h h1 h2).mono fun q hq => ⟨hq.1 ▸ hq.2.1, hq.2.2⟩
theorem sP {l s : List Int} {p : Int} (h : SrcOk s p) (h1 : l ≠ []) (h2 : l.length ≤ 1000000) : Ok (qaf l s p) fun q => SrcOk q.2.1 q.2.2 ∧ q.1 ∈ l :=
 (srcP h h1 h2).mono fun q hq => ⟨hq.1 ▸ hq.2.1, hq.2.2⟩
theorem sR {lo hi : Int} {s : List Int} {p : Int} (h : SrcOk s p) (h0 : -1000000 ≤ lo) (h1 : lo ≤ hi) (h2 : hi ≤ 1000000) : Ok (qai lo hi s p) fun q => SrcOk q.2.1 q.2.2 ∧ lo ≤ q.1 ∧ q.1 ≤ hi :=
 (srcR h h0 h1 h2).mono fun q hq => ⟨hq.1 ▸ hq.2.1, hq.2.2⟩
structure GN (n : Net) : Prop where
 no : n.1.length ≤ 24
 sg : n.2.1.length ≤ 32
 p1 : 1 ≤ n.2.2.1.length
 po : n.2.2.1.length ≤ 24
 st : n.2.2.2.1.length ≤ 12
 kn : KnP n
theorem GN.of {k : Nat} {n : Net} (h : NetP k n) : GN n := by
 have h6 := h.k6
 have e : n.1.length = k := by rw [h.nodes, qhK]
 refine ⟨by omega, by have := h.segs.len; omega, by have := h.some'; omega, by have := h.ports.len; omega, by have := h.stats.len; omega, ⟨fun i hi => ?_, fun i hi => ?_, fun i hi => ?_⟩⟩
 ·have := h.segs.rng _ (qaL (d := sg0) hi)
  exact ⟨⟨this.f0, by rw [e]; exact this.f1⟩, this.t0, by rw [e]; exact this.t1⟩
 ·have := h.ports.rng _ (qaL (d := po0) hi)
  exact ⟨this.1, by rw [e]; exact this.2.1⟩
 ·have := h.stats.rng _ (qaL (d := sta0) hi)
  exact ⟨this.1, by rw [e]; exact this.2.1⟩
structure PlS (n : Net) (p : Pl) : Prop where
 r : p.1.length = n.2.1.length
 q : p.2.1.length = n.2.2.1.length
 b : p.2.2.length = n.2.2.2.1.length
theorem PlS.small {n : Net} (hn : GN n) {p : Pl} (h : PlS n p) : p.1.length ≤ 32 ∧ p.2.1.length ≤ 24 ∧ p.2.2.length ≤ 12 := by
 have := h.r; have := h.q; have := h.b; have := hn.sg; have := hn.po; have := hn.st; omega
theorem qrb {n : Net} (hn : GN n) {p : Pl} (h : PlS n p) : Ok (qdg p) (PlS n) := by
 have hs := h.small hn
 unfold qdg
 refine Ok.gd (qaj (by omega)) ?_
 refine Ok.bind (Q := fun q : List Int × List Bool => q.1.length = p.1.length ∧ q.2.length = p.2.2.length) ?_ fun q hq => ?_
 ·refine Ok.loop (fun x : Int × List Int × List Bool => x.1 = (x.2.1.length : Int) ∧ x.2.1.length ≤ p.1.length ∧ x.2.2.length = p.2.2.length) (fun x => p.1.length - x.2.1.length) ⟨rfl, by simp, by simp⟩ ?_
  rintro ⟨v, a, b⟩ ⟨e, h1, h2⟩
  replace e : v = (a.length : Int) := e
  subst e
  try simp only at h1 h2
  unfold qeq
  refine Ok.bif (fun hc => ?_) fun hc => ?_
  ·have hc := of_decide_eq_true hc
   try simp only at hc
   refine Ok.gd (inB_t (by (try simp only); omega)) (Ok.gd (qaj (by (try simp only); omega)) (.ret ⟨⟨?_, ?_, h2⟩, ?_⟩))
   ·simp only [List.length_append, List.length_cons, List.length_nil]; rw [wi (by omega)]; omega
   ·simp only [List.length_append, List.length_cons, List.length_nil]; omega
   ·simp only [List.length_append, List.length_cons, List.length_nil]; omega
  ·have hc := of_decide_eq_false hc
   try simp only at hc
   exact .ret ⟨by (try simp only); omega, h2⟩
 ·refine Ok.bind (Q := fun z : List Int × List Int × List Bool => z.1.length = p.1.length ∧ z.2.1.length = p.2.1.length ∧ z.2.2.length = p.2.2.length) ?_ fun z hz => .ret ⟨hz.1.trans h.r, hz.2.1.trans h.q, hz.2.2.trans h.b⟩
  refine Ok.loop (fun x : Int × List Int × List Int × List Bool => x.1 = (x.2.2.1.length : Int) ∧ x.2.1.length = p.1.length ∧ x.2.2.1.length ≤ p.2.1.length ∧ x.2.2.2.length = p.2.2.length) (fun x => p.2.1.length - x.2.2.1.length) ⟨rfl, hq.1, by simp, hq.2⟩ ?_
  rintro ⟨v, a, c, b⟩ ⟨e, h0, h1, h2⟩
  replace e : v = (c.length : Int) := e
  subst e
  try simp only at h0 h1 h2
  unfold qer
  refine Ok.bif (fun hc => ?_) fun hc => ?_
  ·have hc := of_decide_eq_true hc
   try simp only at hc
   refine Ok.gd (inB_t (by (try simp only); omega)) (Ok.gd (qaj (by (try simp only); omega)) (.ret ⟨⟨?_, h0, ?_, h2⟩, ?_⟩))
   ·simp only [List.length_append, List.length_cons, List.length_nil]; rw [wi (by omega)]; omega
   ·simp only [List.length_append, List.length_cons, List.length_nil]; omega
   ·simp only [List.length_append, List.length_cons, List.length_nil]; omega
  ·have hc := of_decide_eq_false hc
   try simp only at hc
   exact .ret ⟨h0, by (try simp only); omega, h2⟩
section
variable {n : Net}
theorem plan3 (hn : GN n) {r4 r6 : Int × List Int × Int} {at' : Int} {s : List Int} {q : Int} (h : SrcOk s q) {way p1 p2 : List Int} {p3 : List Bool} (hp : PlS n (p1, p2, p3)) {e0 : Int} (he : e0 < (n.2.2.1.length : Int)) :
  Ok (iter (fun x2 => qbq n r4 r6 at' x2.1 x2.2.1 x2.2.2.1 x2.2.2.2.1 x2.2.2.2.2.1 x2.2.2.2.2.2.1 x2.2.2.2.2.2.2.1 x2.2.2.2.2.2.2.2) (e0, 0, s, q, way, p1, p2, p3)) fun z => z.1 < (n.2.2.1.length : Int) ∧ SrcOk z.2.1 z.2.2.1 ∧ z.2.2.2 = (way, p1, p2, p3) := by
 have hq := hp.q
 simp only at hq
 have hpo := hn.po
 refine Ok.loop (fun x : Int × Int × List Int × Int × List Int × List Int × List Int × List Bool => x.1 < (n.2.2.1.length : Int) ∧ (∃ k : Nat, x.2.1 = (k : Int) ∧ k ≤ n.2.2.1.length) ∧ SrcOk x.2.2.1 x.2.2.2.1 ∧ x.2.2.2.2 = (way, p1, p2, p3)) (fun x => n.2.2.1.length - x.2.1.toNat) ⟨he, ⟨0, rfl, by omega⟩, h, rfl⟩ ?_
 rintro ⟨e, v, s', q', w⟩ ⟨h1, ⟨k, hk, hk2⟩, h3, h4⟩
 replace hk : v = (k : Int) := hk
 replace h4 : w = (way, p1, p2, p3) := h4
 subst hk h4
 replace h1 : e < (n.2.2.1.length : Int) := h1
 replace h3 : SrcOk s' q' := h3
 show Ok (qbq n r4 r6 at' e (k : Int) s' q' way p1 p2 p3) _
 unfold qbq
 refine Ok.bif (fun hc => ?_) fun hc => ?_
 ·have hc := of_decide_eq_true hc
  have hk' : k < n.2.2.1.length := by omega
  have hB : inB (k : Int) p2.length = true := inB_t (by omega)
  refine Ok.gd (inB_t hk') ?_
  refine Ok.bind (Q := fun z : Bool × List Int × Int × List Int × List Int × List Int × List Bool => SrcOk z.2.1 z.2.2.1 ∧ z.2.2.2 = (way, p1, p2, p3)) ?_ ?_
  ·have z : ∀ b : Bool, Ok (some (b, s', q', way, p1, p2, p3)) fun z : Bool × List Int × Int × List Int × List Int × List Int × List Bool => SrcOk z.2.1 z.2.2.1 ∧ z.2.2.2 = (way, p1, p2, p3) := fun b => .ret ⟨h3, rfl⟩
   refine Ok.bif (fun _ => Ok.bif (fun _ => Ok.gd hB (Ok.bif (fun _ => Ok.gd hB (Ok.bif (fun _ => Ok.bif (fun _ => ?_) fun _ => z _) fun _ => z _)) fun _ => z _)) fun _ => z _) fun _ => z _
   exact Ok.bind (sN h3 (n := 2) (by omega) (by omega)) fun r hr => .ret ⟨hr.1, rfl⟩
  ·rintro ⟨b, s2, q2, w2⟩ ⟨hs, hw⟩
   replace hw : w2 = (way, p1, p2, p3) := hw
   subst hw
   refine Ok.bind (Q := fun z : Int × List Int × List Int × List Int × List Bool => z.1 < (n.2.2.1.length : Int) ∧ z.2 = (way, p1, p2, p3)) (Ok.bif (fun _ => .ret ⟨hc, rfl⟩) fun _ => .ret ⟨h1, rfl⟩) ?_
   rintro ⟨e2, w3⟩ ⟨he2, hw⟩
   replace hw : w3 = (way, p1, p2, p3) := hw
   subst hw
   rw [w1 hk' (by omega)]
   exact .ret ⟨⟨he2, ⟨k + 1, rfl, by omega⟩, hs, rfl⟩, by simp only [Int.toNat_natCast]; omega⟩
 ·exact .ret ⟨h1, h3, rfl⟩
def qfU (n : Net) (l : List Int) : Prop := ∀ x ∈ l, 0 ≤ x ∧ x < (n.2.1.length : Int)
theorem qfU.more {l : List Int} (h : qfU n l) {x : Int} (hx : 0 ≤ x ∧ x < (n.2.1.length : Int)) : qfU n (l ++ [x]) := fun y hy => by
 rcases List.mem_append.1 hy with hy | hy
 ·exact h y hy
 ·rw [List.mem_singleton.1 hy]; exact hx
def other (n : Net) (x a : Int) : Int := (n.2.1.getD x.toNat sg0).2.1 + (n.2.1.getD x.toNat sg0).2.2.1 - a
theorem plan4 (hn : GN n) {r6 : Int × List Int × Int} {a : Int} (ha : 0 ≤ a ∧ a < n.1.length) {way p1 p2 : List Int} {p3 : List Bool} (hp : PlS n (p1, p2, p3)) :
  Ok (iter (fun x3 => qbr n r6 a x3.1 x3.2.1 x3.2.2.1 x3.2.2.2.1 x3.2.2.2.2.1 x3.2.2.2.2.2) (0, way, [], p1, p2, p3)) fun z => z.1 = way ∧ z.2.1.length ≤ 32 ∧ qfU n z.2.1 ∧ (∀ x ∈ z.2.1, a < other n x a ∧ ((n.2.1.getD x.toNat sg0).2.1 = a ∨ (n.2.1.getD x.toNat sg0).2.2.1 = a)) ∧ z.2.2 = (p1, p2, p3) := by
 have hr := hp.r
 simp only at hr
 have hsg := hn.sg
 have hno := hn.no
 refine Ok.loop (fun x : Int × List Int × List Int × List Int × List Int × List Bool => (∃ k : Nat, x.1 = (k : Int) ∧ k ≤ n.2.1.length ∧ x.2.2.1.length ≤ k) ∧ x.2.1 = way ∧ qfU n x.2.2.1 ∧ (∀ y ∈ x.2.2.1, a < other n y a ∧ ((n.2.1.getD y.toNat sg0).2.1 = a ∨ (n.2.1.getD y.toNat sg0).2.2.1 = a)) ∧ x.2.2.2 = (p1, p2, p3)) (fun x => n.2.1.length - x.1.toNat) ⟨⟨0, rfl, by omega, by simp⟩, rfl, fun x hx => (by cases hx), fun x hx => (by cases hx), rfl⟩ ?_
 rintro ⟨v, w, o, ps⟩ ⟨⟨k, hk, hk2, hk3⟩, h1, h2, h3, h4⟩
 replace hk : v = (k : Int) := hk
 replace h1 : w = way := h1
 replace h4 : ps = (p1, p2, p3) := h4
 subst hk h1 h4
 simp only at hk3 h2 h3
 show Ok (qbr n r6 a (k : Int) w o p1 p2 p3) _
 unfold qbr
 refine Ok.bif (fun hc => ?_) fun hc => ?_
 ·have hc := of_decide_eq_true hc
  have hk' : k < n.2.1.length := by omega
  have hkn := hn.kn.s k hk'
  refine Ok.gd (inB_t hk') ?_
  have hw : wi64 (wi64 ((n.2.1.getD k sg0).2.1 + (n.2.1.getD k sg0).2.2.1) - a) = (n.2.1.getD k sg0).2.1 + (n.2.1.getD k sg0).2.2.1 - a := by
   rw [wi (show -9223372036854775808 ≤ (n.2.1.getD k sg0).2.1 + (n.2.1.getD k sg0).2.2.1 ∧ (n.2.1.getD k sg0).2.1 + (n.2.1.getD k sg0).2.2.1 ≤ 9223372036854775807 by omega), wi (by omega)]
  rw [Int.toNat_natCast, show (n.2.1.getD k ([], (0, (0, (0, (0, (0, []))))))) = n.2.1.getD k sg0 from rfl, hw]
  refine Ok.bind (Q := fun z : Bool × List Int × List Int × List Int × List Int × List Bool => (z.1 = true → a < other n (k : Int) a ∧ ((n.2.1.getD (k : Int).toNat sg0).2.1 = a ∨ (n.2.1.getD (k : Int).toNat sg0).2.2.1 = a)) ∧ z.2 = (w, o, p1, p2, p3)) ?_ ?_
  ·have z : Ok (some (false, w, o, p1, p2, p3)) fun z : Bool × List Int × List Int × List Int × List Int × List Bool => (z.1 = true → a < other n (k : Int) a ∧ ((n.2.1.getD (k : Int).toNat sg0).2.1 = a ∨ (n.2.1.getD (k : Int).toNat sg0).2.2.1 = a)) ∧ z.2 = (w, o, p1, p2, p3) := .ret ⟨fun h => (by cases h), rfl⟩
   have hB : inB (k : Int) p1.length = true := inB_t (by omega)
   refine Ok.bif (fun ha1 => Ok.bif (fun ha2 => Ok.gd hB ?_) fun _ => z) fun _ => Ok.bif (fun ha1 => Ok.bif (fun ha2 => Ok.gd hB ?_) fun _ => z) fun _ => z
   ·exact Ok.eq (a := max (p1.getD k 0) (wi64 (0 - p1.getD k 0))) rfl (.ret ⟨fun _ => ⟨by have := of_decide_eq_true ha2; unfold other; rw [Int.toNat_natCast]; exact this, .inl (by rw [Int.toNat_natCast]; exact of_decide_eq_true ha1)⟩, rfl⟩)
   ·exact Ok.eq (a := max (p1.getD k 0) (wi64 (0 - p1.getD k 0))) rfl (.ret ⟨fun _ => ⟨by have := of_decide_eq_true ha2; unfold other; rw [Int.toNat_natCast]; exact this, .inr (by rw [Int.toNat_natCast]; exact of_decide_eq_true ha1)⟩, rfl⟩)
  ·rintro ⟨b, w2⟩ ⟨hb, hw⟩
   replace hw : w2 = (w, o, p1, p2, p3) := hw
   subst hw
   refine Ok.bind (Q := fun z : List Int × List Int × List Int × List Int × List Bool => z.1 = w ∧ z.2.1.length ≤ k + 1 ∧ qfU n z.2.1 ∧ (∀ y ∈ z.2.1, a < other n y a ∧ ((n.2.1.getD y.toNat sg0).2.1 = a ∨ (n.2.1.getD y.toNat sg0).2.2.1 = a)) ∧ z.2.2 = (p1, p2, p3)) ?_ ?_
   ·refine Ok.bif (fun hbt => Ok.gd (qaj (by (try simp only); omega)) (.ret ⟨rfl, ?_, h2.more (by omega), fun y hy => ?_, rfl⟩)) fun _ => .ret ⟨rfl, by (try simp only); omega, h2, h3, rfl⟩
    ·simp only [List.length_append, List.length_cons, List.length_nil]; omega
    ·rcases List.mem_append.1 hy with hy | hy
     ·exact h3 y hy
     ·rw [List.mem_singleton.1 hy]; exact hb hbt
   ·rintro ⟨w3, o3, ps3⟩ ⟨e1, e2, e3, e4, e5⟩
    replace e1 : w3 = w := e1
    replace e5 : ps3 = (p1, p2, p3) := e5
    subst e1 e5
    rw [w1 hk' (by omega)]
    exact .ret ⟨⟨⟨k + 1, rfl, by omega, e2⟩, rfl, e3, e4, rfl⟩, by simp only [Int.toNat_natCast]; omega⟩
 ·exact .ret ⟨rfl, by (try simp only); omega, h2, h3, rfl⟩
theorem plan2 (hn : GN n) {r4 r6 : Int × List Int × Int} {a : Int} (ha : 0 ≤ a ∧ a < n.1.length) {s : List Int} {q : Int} (h : SrcOk s q) {p1 p2 : List Int} {p3 : List Bool} (hp : PlS n (p1, p2, p3)) :
  Ok (iter (fun x4 => qbs n r4 r6 x4.1 x4.2.1 x4.2.2.1 x4.2.2.2.1 x4.2.2.2.2.1 x4.2.2.2.2.2.1 x4.2.2.2.2.2.2.1 x4.2.2.2.2.2.2.2) (a, -1, s, q, [], p1, p2, p3)) fun z => z.1 < (n.2.2.1.length : Int) ∧ SrcOk z.2.1 z.2.2.1 ∧ z.2.2.2.1.length ≤ 24 ∧ qfU n z.2.2.2.1 ∧ z.2.2.2.2 = (p1, p2, p3) := by
 have hsg := hn.sg
 have hno := hn.no
 refine Ok.loop (fun x : Int × Int × List Int × Int × List Int × List Int × List Int × List Bool => (∃ k : Nat, x.1 = (k : Int) ∧ k < n.1.length ∧ x.2.2.2.2.1.length ≤ k) ∧ x.2.1 < (n.2.2.1.length : Int) ∧ SrcOk x.2.2.1 x.2.2.2.1 ∧ qfU n x.2.2.2.2.1 ∧ x.2.2.2.2.2 = (p1, p2, p3)) (fun x => n.1.length - x.1.toNat) ⟨⟨a.toNat, by (try simp only); omega, by omega, by simp⟩, by have := hn.p1; simp only; omega, h, fun x hx => (by cases hx), rfl⟩ ?_
 rintro ⟨v, e, s', q', w, ps⟩ ⟨⟨k, hk, hk2, hk3⟩, h1, h2, h3, h4⟩
 replace hk : v = (k : Int) := hk
 replace h4 : ps = (p1, p2, p3) := h4
 subst hk h4
 simp only at hk3 h1 h2 h3
 show Ok (qbs n r4 r6 (k : Int) e s' q' w p1 p2 p3) _
 unfold qbs
 refine Ok.bif (fun hc => ?_) fun hc => .ret ⟨h1, h2, by (try simp only); omega, h3, rfl⟩
 refine Ok.bind (plan3 hn (r4 := r4) (r6 := r6) (at' := (k : Int)) h2 (way := w) hp h1) ?_
 rintro ⟨e2, s2, q2, w2⟩ ⟨a1, a2, a3⟩
 replace a3 : w2 = (w, p1, p2, p3) := a3
 subst a3
 refine Ok.bif (fun hc2 => .ret ⟨a1, a2, by (try simp only); omega, h3, rfl⟩) fun hc2 => ?_
 refine Ok.bind (plan4 hn (r6 := r6) (a := (k : Int)) ⟨by omega, by omega⟩ (way := w) hp) ?_
 rintro ⟨w3, o, ps⟩ ⟨b1, b2, b3, b4, b5⟩
 replace b1 : w3 = w := b1
 replace b5 : ps = (p1, p2, p3) := b5
 subst b1 b5
 simp only at b2 b3 b4
 refine Ok.bif (fun hc3 => .ret ⟨a1, a2, by (try simp only); omega, h3, rfl⟩) fun hc3 => ?_
 have hc3 := of_decide_eq_false hc3
 simp only at hc3
 refine Ok.bind (sN a2 (n := (o.length : Int)) (by omega) (by omega)) ?_
 rintro ⟨r, s5, q5⟩ ⟨c1, c2, c3⟩
 simp only at c1 c2 c3
 have hr : r.toNat < o.length := by omega
 have hm := qaL (d := 0) hr
 have hx := b3 _ hm
 have hy := b4 _ hm
 have hB : inB (o.getD r.toNat 0) n.2.1.length = true := qa0.2 hx
 refine Ok.gd (qa0.2 (by (try simp only); omega)) (Ok.gd (qaj (by (try simp only); omega)) (Ok.gd hB (Ok.gd hB ?_)))
 have hkn := hn.kn.s (o.getD r.toNat 0).toNat (by omega)
 unfold other at hy
 simp only
 have hw : wi64 (wi64 ((n.2.1.getD (o.getD r.toNat 0).toNat sg0).2.1 + (n.2.1.getD (o.getD r.toNat 0).toNat sg0).2.2.1) - (k : Int)) = (n.2.1.getD (o.getD r.toNat 0).toNat sg0).2.1 + (n.2.1.getD (o.getD r.toNat 0).toNat sg0).2.2.1 - (k : Int) := by
  rw [wi (show -9223372036854775808 ≤ (n.2.1.getD (o.getD r.toNat 0).toNat sg0).2.1 + (n.2.1.getD (o.getD r.toNat 0).toNat sg0).2.2.1 ∧ (n.2.1.getD (o.getD r.toNat 0).toNat sg0).2.1 + (n.2.1.getD (o.getD r.toNat 0).toNat sg0).2.2.1 ≤ 9223372036854775807 by omega), wi (by omega)]
 rw [show (n.2.1.getD (o.getD r.toNat 0).toNat ([], (0, (0, (0, (0, (0, []))))))) = n.2.1.getD (o.getD r.toNat 0).toNat sg0 from rfl, hw]
 refine .ret ⟨⟨⟨((n.2.1.getD (o.getD r.toNat 0).toNat sg0).2.1 + (n.2.1.getD (o.getD r.toNat 0).toNat sg0).2.2.1 - (k : Int)).toNat, by (try simp only); omega, by omega, ?_⟩, a1, c1, h3.more hx, rfl⟩, by (try simp only); omega⟩
 simp only [List.length_append, List.length_cons, List.length_nil]; omega
theorem plan5 (hn : GN n) {r6 : Int × List Int × Int} {s19 : Int × List Int × Int × List Int × List Int × List Int × List Bool} (h1 : s19.2.2.2.1.length ≤ 24) (h2 : qfU n s19.2.2.2.1) {p1 p2 : List Int} {p3 : List Bool} (hp : PlS n (p1, p2, p3)) :
  Ok (iter (fun x5 => qbt n r6 s19 x5.1 x5.2.1 x5.2.2.1 x5.2.2.2.1 x5.2.2.2.2) (0, s19.2.2.2.1, p1, p2, p3)) (PlS n) := by
 refine Ok.loop (fun x : Int × List Int × List Int × List Int × List Bool => (∃ k : Nat, x.1 = (k : Int) ∧ k ≤ s19.2.2.2.1.length) ∧ x.2.1 = s19.2.2.2.1 ∧ PlS n x.2.2) (fun x => s19.2.2.2.1.length - x.1.toNat) ⟨⟨0, rfl, by omega⟩, rfl, hp⟩ ?_
 rintro ⟨v, w, ps⟩ ⟨⟨k, hk, hk2⟩, h3, h4⟩
 replace hk : v = (k : Int) := hk
 replace h3 : w = s19.2.2.2.1 := h3
 subst hk
 obtain ⟨q1, q2, q3⟩ := ps
 replace h4 : PlS n (q1, q2, q3) := h4
 have hr := h4.r
 simp only at hr
 show Ok (qbt n r6 s19 (k : Int) w q1 q2 q3) _
 unfold qbt
 refine Ok.bif (fun hc => ?_) fun hc => .ret h4
 have hc := of_decide_eq_true hc
 have hk' : k < w.length := by rw [h3]; omega
 have hm := h2 _ (by rw [← h3]; exact qaL (d := 0) hk')
 have hB : inB (w.getD k 0) n.2.1.length = true := qa0.2 hm
 have hA : inB (w.getD k 0) q1.length = true := qa0.2 (by omega)
 refine Ok.gd (inB_t hk') ?_
 rw [Int.toNat_natCast]
 refine Ok.gd hB (Ok.gd hB ?_)
 refine Ok.bind (Q := fun z : List Int × List Int × List Int × List Bool => z.1 = w ∧ PlS n z.2) (Ok.bif (fun _ => Ok.gd hA (Ok.gd hA (.ret ⟨rfl, ⟨(List.length_set ..).trans h4.r, h4.q, h4.b⟩⟩))) fun _ => Ok.gd hA (Ok.gd hA (.ret ⟨rfl, ⟨(List.length_set ..).trans h4.r, h4.q, h4.b⟩⟩))) ?_
 rintro ⟨w2, z⟩ ⟨e, hz⟩
 rw [w1 (show k < 24 by rw [h3] at hk'; omega) (by omega)]
 exact .ret ⟨⟨⟨k + 1, rfl, by rw [← h3]; omega⟩, Eq.trans e h3, hz⟩, by rw [h3] at hk'; simp only [Int.toNat_natCast]; omega⟩
theorem qqO (hn : GN n) {s : List Int} {q : Int} (h : SrcOk s q) : Ok (qcC n s q) fun z => SrcOk z.2.1 z.2.2 ∧ PlS n z.1 := by
 have hsg := hn.sg
 have hpo := hn.po
 have hst := hn.st
 unfold qcC
 refine Ok.gd (qf3 (by omega)) (Ok.gd (qf3 (by omega)) ?_)
 rw [Int.toNat_natCast, Int.toNat_natCast]
 refine Ok.bind (Q := fun z : List Int × Int × List Int × List Int × List Bool => SrcOk z.1 z.2.1 ∧ PlS n z.2.2) ?_ ?_
 ·refine Ok.loop (fun x : Int × List Int × Int × List Int × List Int × List Bool => x.1 = (x.2.2.2.2.2.length : Int) ∧ SrcOk x.2.1 x.2.2.1 ∧ x.2.2.2.1.length = n.2.1.length ∧ x.2.2.2.2.1.length = n.2.2.1.length ∧ x.2.2.2.2.2.length ≤ n.2.2.2.1.length) (fun x => n.2.2.2.1.length - x.2.2.2.2.2.length) ⟨rfl, h, by simp, by simp, by simp⟩ ?_
  rintro ⟨v, s', q', p1, p2, p3⟩ ⟨e, h1, h2, h3, h4⟩
  replace e : v = (p3.length : Int) := e
  subst e
  simp only at h1 h2 h3 h4
  unfold qd2
  refine Ok.bif (fun hc => ?_) fun hc => ?_
  ·have hc := of_decide_eq_true hc
   try simp only at hc
   refine Ok.bind (sN h1 (n := 2) (by omega) (by omega)) ?_
   rintro ⟨r, s2, q2⟩ ⟨c1, _⟩
   refine Ok.gd (qaj (by (try simp only); omega)) (.ret ⟨⟨?_, c1, h2, h3, ?_⟩, ?_⟩)
   ·simp only [List.length_append, List.length_cons, List.length_nil]; rw [wi (by omega)]; omega
   ·simp only [List.length_append, List.length_cons, List.length_nil]; omega
   ·simp only [List.length_append, List.length_cons, List.length_nil]; omega
  ·have hc := of_decide_eq_false hc
   try simp only at hc
   exact .ret ⟨h1, ⟨h2, h3, by (try simp only); omega⟩⟩
 rintro ⟨s1, q1, ps⟩ ⟨h, hp⟩
 simp only at h hp
 refine Ok.bind (sN h (n := 3) (by omega) (by omega)) ?_
 rintro ⟨r2, s2, q2⟩ ⟨h, _⟩
 simp only at h
 refine Ok.bind (sN h (n := 5) (by omega) (by omega)) ?_
 rintro ⟨r3, s3, q3⟩ ⟨h, h30, h31⟩
 simp only at h h30 h31
 refine Ok.bind (Q := fun z : List Int × Int × List Int × List Int × List Bool => SrcOk z.1 z.2.1 ∧ PlS n z.2.2) ?_ ?_
 ·refine Ok.loop (fun x : Int × List Int × Int × List Int × List Int × List Bool => 0 ≤ x.1 ∧ x.1 ≤ 5 ∧ SrcOk x.2.1 x.2.2.1 ∧ PlS n x.2.2.2) (fun x => x.1.toNat) ⟨h30, by (try simp only); omega, h, hp⟩ ?_
  rintro ⟨v, s', q', p1, p2, p3⟩ ⟨v0, v5, h1, h2⟩
  simp only at v0 v5 h1 h2
  show Ok (qcp n v s' q' p1 p2 p3) _
  unfold qcp
  refine Ok.bif (fun hc => ?_) fun hc => .ret ⟨h1, h2⟩
  have hc := of_decide_eq_true hc
  refine Ok.bind (Q := fun z : List Int × Int × List Int × List Int × List Bool => SrcOk z.1 z.2.1 ∧ PlS n z.2.2) ?_ ?_
  ·have hp1 := hn.p1
   have hq := h2.q
   simp only at hq
   refine Ok.bind (sN h1 (n := (n.2.2.1.length : Int)) (by omega) (by omega)) ?_
   rintro ⟨r4, s4, q4⟩ ⟨h, h40, h41⟩
   simp only at h h40 h41
   refine Ok.gd (qa0.2 ⟨h40, h41⟩) ?_
   refine Ok.bind (sP h (by simp) (by simp)) ?_
   rintro ⟨r5, s5, q5⟩ ⟨h, h5⟩
   simp only at h h5
   have b5 : 1 ≤ r5 ∧ r5 ≤ 300 := by simp at h5; omega
   refine Ok.bind (sR h (by omega) (by omega) (by omega)) ?_
   rintro ⟨r6, s6, q6⟩ ⟨h, h60, h61⟩
   simp only at h h60 h61
   have hA : inB r4 p2.length = true := qa0.2 (by omega)
   refine Ok.bind (Q := fun z : Bool × List Int × List Int × List Bool => z.2 = (p1, p2, p3)) (Ok.gd hA (Ok.bif (fun _ => .ret rfl) fun _ => Ok.gd hA (.ret rfl))) ?_
   rintro ⟨b, ps⟩ e
   replace e : ps = (p1, p2, p3) := e
   subst e
   refine Ok.bif (fun _ => .ret ⟨h, h2⟩) fun _ => ?_
   have hk4 := hn.kn.p r4.toNat (by omega)
   refine Ok.bind (plan2 hn (r4 := (r4, s4, q4)) (r6 := (r6, s6, q6)) (a := (n.2.2.1.getD r4.toNat po0).2.1) hk4 h h2) ?_
   rintro ⟨e, s7, q7, w, ps⟩ ⟨a1, a2, a3, a4, a5⟩
   replace a5 : ps = (p1, p2, p3) := a5
   subst a5
   simp only at a1 a2 a3 a4
   refine Ok.bif (fun _ => .ret ⟨a2, h2⟩) fun hc7 => ?_
   have hc7 := of_decide_eq_false hc7
   simp only at hc7
   have hE : inB e p2.length = true := qa0.2 (by omega)
   refine Ok.gd hA (Ok.gd hE (Ok.gd hA (Ok.gd (qa0.2 (by rw [List.length_set]; simp only; omega)) ?_)))
   refine Ok.bind (plan5 hn (r6 := (r6, s6, q6)) (s19 := (e, s7, q7, w, p1, p2, p3)) a3 a4 (p1 := p1) (p2 := (p2.set r4.toNat (wi64 ((p2.getD r4.toNat 0) + r6))).set e.toNat (wi64 ((p2.getD e.toNat 0) - r6))) (p3 := p3) ⟨h2.r, by simp only [List.length_set]; exact h2.q, h2.b⟩) ?_
   intro z hz
   exact .ret ⟨a2, hz⟩
  ·rintro ⟨s8, q8, ps⟩ ⟨a1, a2⟩
   rw [wi (by omega)]
   exact .ret ⟨⟨by (try simp only); omega, by (try simp only); omega, a1, a2⟩, by (try simp only); omega⟩
 ·rintro ⟨s4, q4, ps⟩ ⟨h, hp⟩
  simp only at h hp
  refine Ok.bif (fun _ => ?_) fun _ => .ret ⟨h, hp⟩
  exact Ok.bind (qrb hn hp) fun z hz => .ret ⟨h, hz⟩
end
end Go.Proofs.Ytikmdoopfpnbbaa
