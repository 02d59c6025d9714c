/- What flows: a fill is shifted, and what comes out has no more pieces. No condition. -/
import Derived.Test.YtikmdoopfpnbbaaMv4
import Derived.Test.YtikmdoopfpnbbaaSp8
import Derived.Test.YtikmdoopfpnbbaaNk5
namespace Go.Proofs.Ytikmdoopfpnbbaa
open Go Go.Sq
structure ShfN (f v F O : List Pc) : Prop extends Shf f v F O where
 kF : F.length ≤ f.length + v.length
 kO : tot v ≤ tot f → O.length ≤ f.length
 kQ : O.length ≤ f.length + v.length
theorem qoQ {f v : List Pc} {back : Bool} (hf : f.length ≤ 400 ∧ ∀ p ∈ f, 0 ≤ p.2 ∧ p.2 ≤ 10000000) (hv : v.length ≤ 400 ∧ ∀ p ∈ v, 0 ≤ p.2 ∧ p.2 ≤ 10000000) : ∃ F O, qaH f v back = some (F, O) ∧ ShfN f v F O := by
 obtain ⟨F0, O0, h0, hs⟩ := qpI (back := back) hf hv
 have gen : ∀ {x y : List Pc}, (x.length ≤ 400 ∧ ∀ p ∈ x, 0 ≤ p.2 ∧ p.2 ≤ 10000000) → (y.length ≤ 400 ∧ ∀ p ∈ y, 0 ≤ p.2 ∧ p.2 ≤ 10000000) → ∃ A B, qbz (x ++ y) (tot y) = some (A, B) ∧ Norm A ∧ Norm B ∧ exp A = (exp (x ++ y)).take (tot y).toNat ∧ exp B = (exp (x ++ y)).drop (tot y).toNat := by
  intro x y hx hy
  have hvol : Vol (x ++ y) := ⟨by simp; omega, fun p hp => (List.mem_append.1 hp).elim (hx.2 p) (hy.2 p)⟩
  have ht := qil (f := y) (by omega) hy.2
  have hs := qka (f := x ++ y) ht.1 hvol.2
  obtain ⟨s1, s2⟩ := qll (f := x ++ y) ht.1 (fun p hp => (hvol.2 p hp).1)
  obtain ⟨j1, j2⟩ := qa1 (f := (spl (x ++ y) (tot y)).1) (fun p hp => (hs.2.1 p hp).1)
  obtain ⟨k1, k2⟩ := qa1 (f := (spl (x ++ y) (tot y)).2) (fun p hp => (hs.2.2 p hp).1)
  exact ⟨_, _, (qqf hvol ⟨ht.1, ht.2⟩).2, j1, k1, by rw [j2, s1], by rw [k2, s2]⟩
 have lf : ((exp f).length : Int) = tot f := qex fun p hp => (hf.2 p hp).1
 have lv : ((exp v).length : Int) = tot v := qex fun p hp => (hv.2 p hp).1
 suffices hn : F0.length ≤ f.length + v.length ∧ (tot v ≤ tot f → O0.length ≤ f.length) ∧ O0.length ≤ f.length + v.length from ⟨F0, O0, h0, hs, hn.1, hn.2.1, hn.2.2⟩
 cases back with
 | true =>
  obtain ⟨A, B, q1, q2, q3, q4, q5⟩ := gen hf hv
  have e : qaH f v true = some (B, A) := by
   unfold qaH
   simp only [cond_true, List.nil_append]
   rw [gd_t (qaj (by omega)), gd_t (qaj (by omega)), (qdU (by omega) hv.2).2]
   simp only [Option.bind_some]
   rw [q1]; rfl
  rw [h0] at e
  obtain ⟨rfl, rfl⟩ := Prod.mk.inj (Option.some.inj e)
  refine ⟨?_, fun ht => qez (n := (tot v).toNat) q2 ?_, by have := qez q2 q4; rwa [List.length_append] at this⟩
  ·have := qeA q3 q5
   rwa [List.length_append] at this
  ·rw [q4, qaS, List.take_append_of_le_length (by omega)]
 | false =>
  obtain ⟨A, B, q1, q2, q3, q4, q5⟩ := gen hv hf
  have e : qaH f v false = some (A, B) := by
   unfold qaH
   simp only [cond_false, List.nil_append]
   rw [gd_t (qaj (by omega)), gd_t (qaj (by omega)), (qdU (by omega) hf.2).2]
   simp only [Option.bind_some]
   rw [q1]; rfl
  rw [h0] at e
  obtain ⟨rfl, rfl⟩ := Prod.mk.inj (Option.some.inj e)
  refine ⟨?_, fun ht => qeA (n := (tot f).toNat - (exp v).length) q3 ?_, by have := qeA q3 q5; rw [List.length_append] at this; omega⟩
  ·have := qez q2 q4
   rw [List.length_append] at this; omega
  ·rw [q5, qaS, List.drop_append, List.drop_of_length_le (by omega), List.nil_append]
end Go.Proofs.Ytikmdoopfpnbbaa
namespace Go.Proofs.Ytikmdoopfpnbbaa
open Go Go.Sq
theorem qgb (l : List Bool) {k : Nat} (hk : k < l.length) (m : Nat) : (l.set k true).getD m false = (if k = m then true else l.getD m false) := by
 rw [List.getD_eq_getElem?_getD, List.getD_eq_getElem?_getD, List.getElem?_set]
 by_cases e : k = m
 ·subst e; rw [if_pos rfl, if_pos rfl, if_pos hk]; rfl
 ·rw [if_neg e, if_neg e]
theorem qoR {n : Net} {p : Pl} (hk : KnP n) : ∀ (f : Nat) (there : List Bool), there.length = n.1.length → ∀ k, k < (topo n p f there).length →
  ∃ m : Nat, (topo n p f there).getD k 0 = (m : Int) ∧ m < n.1.length ∧ there.getD m false = false ∧ (m : Int) ∉ (topo n p f there).take k ∧
   ∀ i, i < n.2.1.length → rate p i ≠ 0 → tow n p i = (m : Int) → there.getD (frm n p i).toNat false = true ∨ frm n p i ∈ (topo n p f there).take k
 | 0, there, _, k, h => by simp [topo] at h
 | f + 1, there, ht, k, h => by
  cases hx : nextF n p there with
  | none => rw [topo, hx] at h; simp at h
  | some v =>
   have e : topo n p (f + 1) there = (v : Int) :: topo n p f (there.set v true) := by rw [topo, hx]
   obtain ⟨v1, v2⟩ := qfT hx
   rw [e] at h ⊢
   cases k with
   | zero =>
    refine ⟨v, rfl, v1, v2, by simp, fun i hi hr hw => ?_⟩
    have hfr : freeB n p there v = true := by
     have := List.find?_some hx
     exact this
    unfold freeB at hfr
    rw [Bool.and_eq_true, Bool.not_eq_true', Bool.not_eq_true', List.any_eq_false] at hfr
    have := hfr.2 i (List.mem_range.2 hi)
    unfold blk at this
    simp only [Bool.and_eq_true, Bool.not_eq_true', decide_eq_false_iff_not, decide_eq_true_eq, not_and] at this
    have := this hr hw
    left
    cases hg : there.getD (frm n p i).toNat false with
    | true => rfl
    | false => exact absurd hg this
   | succ k =>
    have h' : k < (topo n p f (there.set v true)).length := by simpa using h
    obtain ⟨m, a1, a2, a3, a4, a5⟩ := qoR hk f (there.set v true) (by rw [List.length_set]; exact ht) k h'
    rw [qgb there (by omega)] at a3
    have hvm : v ≠ m := fun e => by rw [if_pos e] at a3; cases a3
    rw [if_neg hvm] at a3
    refine ⟨m, by rw [List.getD_cons_succ]; exact a1, a2, a3, ?_, fun i hi hr hw => ?_⟩
    ·rw [List.take_succ_cons, List.mem_cons]
     intro hc
     rcases hc with hc | hc
     ·omega
     ·exact a4 hc
    ·rw [List.take_succ_cons, List.mem_cons]
     rcases a5 i hi hr hw with hq | hq
     ·rw [qgb there (by omega)] at hq
      by_cases e : v = (frm n p i).toNat
      ·have := qqj (p := p) hk hi
       exact .inr (.inl (by omega))
      ·rw [if_neg e] at hq; exact .inl hq
     ·exact .inr (.inr hq)
theorem qmt {n : Net} {p : Pl} : ∀ (f : Nat) (there : List Bool), there.length = n.1.length → (topo n p f there).length ≤ there.count false ∧ ((topo n p f there).length = there.count false → ∀ m, m < n.1.length → there.getD m false = false → (m : Int) ∈ topo n p f there)
 | 0, there, ht => ⟨Nat.zero_le _, fun h m hm hf => by
  have := qhO (l := there) (k := m) (by omega) hf
  simp [topo] at h; omega⟩
 | f + 1, there, ht => by
  cases hx : nextF n p there with
  | none =>
   have e : topo n p (f + 1) there = [] := by rw [topo, hx]
   rw [e]
   refine ⟨Nat.zero_le _, fun h m hm hf => ?_⟩
   have := qhO (l := there) (k := m) (by omega) hf
   simp at h; omega
  | some v =>
   have e : topo n p (f + 1) there = (v : Int) :: topo n p f (there.set v true) := by rw [topo, hx]
   obtain ⟨v1, v2⟩ := qfT hx
   have hc := count_set (l := there) (k := v) (by omega) v2
   obtain ⟨b1, b2⟩ := qmt (n := n) (p := p) f (there.set v true) (by rw [List.length_set]; exact ht)
   rw [e, List.length_cons]
   refine ⟨by omega, fun h m hm hf => ?_⟩
   by_cases e : v = m
   ·rw [e]; exact List.mem_cons_self ..
   ·refine List.mem_cons_of_mem _ (b2 (by omega) m hm ?_)
    rw [qgb there (by omega), if_neg e]; exact hf
structure Ord (n : Net) (p : Pl) (O : List Int) : Prop where
 len : O.length = n.1.length
 rng : ∀ k, k < O.length → 0 ≤ O.getD k 0 ∧ O.getD k 0 < n.1.length
 new : ∀ k, k < O.length → O.getD k 0 ∉ O.take k
 up : ∀ k, k < O.length → ∀ i, i < n.2.1.length → rate p i ≠ 0 → tow n p i = O.getD k 0 → frm n p i ∈ O.take k
 all : ∀ m : Nat, m < n.1.length → (m : Int) ∈ O
theorem qrc {n : Net} {p : Pl} (hk : KnP n) (h : (ordL n p).length = n.1.length) : Ord n p (ordL n p) := by
 have key := qoR (p := p) hk n.1.length (List.replicate n.1.length false) (by simp)
 have hrep : ∀ m, (List.replicate n.1.length false).getD m false = false := by
  intro m
  rw [List.getD_eq_getElem?_getD]
  cases hx : (List.replicate n.1.length false)[m]? with
  | none => rfl
  | some x => rw [(List.mem_replicate.1 (List.mem_of_getElem? hx)).2]; rfl
 refine ⟨h, fun k hk' => ?_, fun k hk' => ?_, fun k hk' i hi hr hw => ?_, fun m hm => ?_⟩
 ·obtain ⟨m, a1, a2, -⟩ := key k hk'
  unfold ordL; rw [a1]; omega
 ·obtain ⟨m, a1, -, -, a4, -⟩ := key k hk'
  unfold ordL; rw [a1]; exact a4
 ·obtain ⟨m, a1, -, -, -, a5⟩ := key k hk'
  unfold ordL at hw ⊢
  rw [a1] at hw
  rcases a5 i hi hr hw with hq | hq
  ·rw [hrep] at hq; cases hq
  ·exact hq
 ·exact (qmt (p := p) n.1.length (List.replicate n.1.length false) (by simp)).2 (by rw [List.count_replicate]; simp only [beq_self_eq_true, if_true]; exact h) m hm (hrep m)
end Go.Proofs.Ytikmdoopfpnbbaa
namespace Go.Proofs.Ytikmdoopfpnbbaa
open Go Go.Sq
theorem qeC {A : Type} (f : Nat → List A) (k : Nat) : (List.range (k + 1)).flatMap f = (List.range k).flatMap f ++ f k := by
 rw [List.range_succ, List.flatMap_append]; simp
theorem qdi {A : Type} {f : Nat → List A} {b : Nat} (h : ∀ i, (f i).length ≤ b) : ∀ k, ((List.range k).flatMap f).length ≤ b * k
 | 0 => by simp
 | k + 1 => by
  rw [qeC, List.length_append]
  have := qdi h k; have := h k
  rw [Nat.mul_succ]; omega
def pnode (n : Net) (q : Nat) : Int := (n.2.2.1.getD q po0).2.1
def pS1 (n : Net) (p : Pl) (feeds : List Int) (v : Int) (q : Nat) : List Pc := if pnode n q = v ∧ 0 < prate p q then [(feeds.getD q 0, prate p q)] else []
def pR1 (n : Net) (p : Pl) (v : Int) (q : Nat) : List Int := if pnode n q = v ∧ prate p q < 0 then [0 - prate p q] else []
def pT1 (n : Net) (p : Pl) (v : Int) (q : Nat) : List Int := if pnode n q = v ∧ prate p q < 0 then [(q : Int)] else []
def sS1 (n : Net) (p : Pl) (g : List (List Pc)) (v : Int) (i : Nat) : List Pc := if rate p i ≠ 0 ∧ tow n p i = v then g.getD i [] else []
def sR1 (n : Net) (p : Pl) (v : Int) (i : Nat) : List Int := if rate p i ≠ 0 ∧ frm n p i = v then [amtR (rate p i)] else []
def sT1 (n : Net) (p : Pl) (v : Int) (i : Nat) : List Int := if rate p i ≠ 0 ∧ frm n p i = v then [(i : Int)] else []
abbrev fm {A : Type} (f : Nat → List A) (k : Nat) : List A := (List.range k).flatMap f
theorem qnd {n : Net} {p : Pl} {feeds O : List Int} (hb : RB p) (hq : n.2.2.1.length ≤ 24) (h2 : p.2.1.length = n.2.2.1.length) (hf : feeds.length = n.2.2.1.length) (k : Nat) (next ports given : List (List Pc)) :
  iter (fun x2 : Int × List (List Pc) × List (List Pc) × List (List Pc) × List Pc × List Int × List Int × List Int => qcI n p feeds (k : Int) O x2.1 x2.2.1 x2.2.2.1 x2.2.2.2.1 x2.2.2.2.2.1 x2.2.2.2.2.2.1 x2.2.2.2.2.2.2.1 x2.2.2.2.2.2.2.2) (0, next, ports, given, [], [], [], O) =
   some (next, ports, given, fm (pS1 n p feeds (O.getD k 0)) n.2.2.1.length, fm (pR1 n p (O.getD k 0)) n.2.2.1.length, fm (pT1 n p (O.getD k 0)) n.2.2.1.length, O) := by
 have l1 : ∀ i, (fm (pS1 n p feeds (O.getD k 0)) i).length ≤ 1 * i := qdi fun i => by unfold pS1; split <;> simp
 have l2 : ∀ i, (fm (pR1 n p (O.getD k 0)) i).length ≤ 1 * i := qdi fun i => by unfold pR1; split <;> simp
 have l3 : ∀ i, (fm (pT1 n p (O.getD k 0)) i).length ≤ 1 * i := qdi fun i => by unfold pT1; split <;> simp
 refine qaB n.2.2.1.length (fun i => ((i : Int), next, ports, given, fm (pS1 n p feeds (O.getD k 0)) i, fm (pR1 n p (O.getD k 0)) i, fm (pT1 n p (O.getD k 0)) i, O)) (fun i hi => ?_) ?_
 ·unfold qcI
  have m1 := l1 i; have m2 := l2 i; have m3 := l3 i
  have hr : -1000 ≤ p.2.1.getD i 0 ∧ p.2.1.getD i 0 ≤ 1000 := hb.q i
  simp only [Int.toNat_natCast]
  rw [dec_t (show (i : Int) < (n.2.2.1.length : Int) by omega), cond_true, gd_t (inB_t hi)]
  have e1 : fm (pS1 n p feeds (O.getD k 0)) (i + 1) = fm (pS1 n p feeds (O.getD k 0)) i ++ pS1 n p feeds (O.getD k 0) i := qeC _ _
  have e2 : fm (pR1 n p (O.getD k 0)) (i + 1) = fm (pR1 n p (O.getD k 0)) i ++ pR1 n p (O.getD k 0) i := qeC _ _
  have e3 : fm (pT1 n p (O.getD k 0)) (i + 1) = fm (pT1 n p (O.getD k 0)) i ++ pT1 n p (O.getD k 0) i := qeC _ _
  rw [e1, e2, e3]
  generalize fm (pS1 n p feeds (O.getD k 0)) i = X1 at m1 ⊢
  generalize fm (pR1 n p (O.getD k 0)) i = X2 at m2 ⊢
  generalize fm (pT1 n p (O.getD k 0)) i = X3 at m3 ⊢
  have hw : wi64 ((i : Int) + 1) = ((i + 1 : Nat) : Int) := w1 hi (by omega)
  by_cases hv : (n.2.2.1.getD i ([], (0, 0))).2.1 = O.getD k 0
  ·have hv' : pnode n i = O.getD k 0 := hv
   rw [dec_t hv]
   simp only [cond_true, gd_t (inB_t (show i < p.2.1.length by omega)), Option.bind_some]
   by_cases h3 : 0 < p.2.1.getD i 0
   ·rw [dec_t h3, dec_f (show ¬ p.2.1.getD i 0 < 0 by omega)]
    simp only [cond_true, cond_false, gd_t (inB_t (show i < feeds.length by omega)), gd_t (show fits (X1.length + 1) 16 = true from qaj (by omega)), Option.bind_some]
    rw [hw, show pS1 n p feeds (O.getD k 0) i = [(feeds.getD i 0, p.2.1.getD i 0)] from if_pos ⟨hv', h3⟩, show pR1 n p (O.getD k 0) i = [] from if_neg (fun h => by have h := h.2; change p.2.1.getD i 0 < 0 at h; omega), show pT1 n p (O.getD k 0) i = [] from if_neg (fun h => by have h := h.2; change p.2.1.getD i 0 < 0 at h; omega), List.append_nil, List.append_nil]
   ·rw [dec_f h3]
    simp only [cond_false, Option.bind_some]
    by_cases h4 : p.2.1.getD i 0 < 0
    ·rw [dec_t h4]
     simp only [cond_true]
     rw [gd_t (qaj (by omega)), gd_t (qaj (by omega))]
     simp only [Option.bind_some]
     rw [hw, show pS1 n p feeds (O.getD k 0) i = [] from if_neg (fun h => by have h := h.2; change 0 < p.2.1.getD i 0 at h; omega), show pR1 n p (O.getD k 0) i = [0 - p.2.1.getD i 0] from if_pos ⟨hv', h4⟩, show pT1 n p (O.getD k 0) i = [(i : Int)] from if_pos ⟨hv', h4⟩, List.append_nil, wi (by omega)]
    ·rw [dec_f h4]
     simp only [cond_false, Option.bind_some]
     rw [hw, show pS1 n p feeds (O.getD k 0) i = [] from if_neg (fun h => by have h := h.2; change 0 < p.2.1.getD i 0 at h; omega), show pR1 n p (O.getD k 0) i = [] from if_neg (fun h => by have h := h.2; change p.2.1.getD i 0 < 0 at h; omega), show pT1 n p (O.getD k 0) i = [] from if_neg (fun h => by have h := h.2; change p.2.1.getD i 0 < 0 at h; omega), List.append_nil, List.append_nil, List.append_nil]
  ·have hv' : ¬ pnode n i = O.getD k 0 := hv
   rw [dec_f hv]
   simp only [cond_false, Option.bind_some]
   rw [hw, show pS1 n p feeds (O.getD k 0) i = [] from if_neg (fun h => hv' h.1), show pR1 n p (O.getD k 0) i = [] from if_neg (fun h => hv' h.1), show pT1 n p (O.getD k 0) i = [] from if_neg (fun h => hv' h.1), List.append_nil, List.append_nil, List.append_nil]
 ·unfold qcI
  rw [dec_f (show ¬ (n.2.2.1.length : Int) < (n.2.2.1.length : Int) by omega)]; rfl
theorem qoS {n : Net} {p : Pl} {O : List Int} (hb : RB p) (hs : n.2.1.length ≤ 32) (h1 : p.1.length = n.2.1.length) (k : Nat) (next ports given : List (List Pc)) (hg : given.length = n.2.1.length) (hgl : ∀ i, (given.getD i []).length ≤ 1000)
  {P : List Pc} {R T : List Int} (hP : P.length ≤ 100) (hR : R.length ≤ 100) :
  iter (fun x3 : Int × List (List Pc) × List (List Pc) × List (List Pc) × List Pc × List Int × List Int × List Int × List Int => qbP n p (k : Int) O x3.1 x3.2.1 x3.2.2.1 x3.2.2.2.1 x3.2.2.2.2.1 x3.2.2.2.2.2.1 x3.2.2.2.2.2.2.1 x3.2.2.2.2.2.2.2.1 x3.2.2.2.2.2.2.2.2) (0, next, ports, given, P, R, T, [], O) =
   some (next, ports, given, P ++ fm (sS1 n p given (O.getD k 0)) n.2.1.length, R ++ fm (sR1 n p (O.getD k 0)) n.2.1.length, T, fm (sT1 n p (O.getD k 0)) n.2.1.length, O) := by
 have l1 : ∀ i, (fm (sS1 n p given (O.getD k 0)) i).length ≤ 1000 * i := qdi fun i => by unfold sS1; split; exact hgl i; simp
 have l2 : ∀ i, (fm (sR1 n p (O.getD k 0)) i).length ≤ 1 * i := qdi fun i => by unfold sR1; split <;> simp
 have l3 : ∀ i, (fm (sT1 n p (O.getD k 0)) i).length ≤ 1 * i := qdi fun i => by unfold sT1; split <;> simp
 have key := qaB (step := fun x3 : Int × List (List Pc) × List (List Pc) × List (List Pc) × List Pc × List Int × List Int × List Int × List Int => qbP n p (k : Int) O x3.1 x3.2.1 x3.2.2.1 x3.2.2.2.1 x3.2.2.2.2.1 x3.2.2.2.2.2.1 x3.2.2.2.2.2.2.1 x3.2.2.2.2.2.2.2.1 x3.2.2.2.2.2.2.2.2) (e := (next, ports, given, P ++ fm (sS1 n p given (O.getD k 0)) n.2.1.length, R ++ fm (sR1 n p (O.getD k 0)) n.2.1.length, T, fm (sT1 n p (O.getD k 0)) n.2.1.length, O)) n.2.1.length (fun i => ((i : Int), next, ports, given, P ++ fm (sS1 n p given (O.getD k 0)) i, R ++ fm (sR1 n p (O.getD k 0)) i, T, fm (sT1 n p (O.getD k 0)) i, O)) (fun i hi => ?_) ?_
 ·have e0 : P ++ fm (sS1 n p given (O.getD k 0)) 0 = P := List.append_nil _
  have e1 : R ++ fm (sR1 n p (O.getD k 0)) 0 = R := List.append_nil _
  simp only [e0, e1] at key
  exact key
 ·unfold qbP
  have m1 := l1 i; have m2 := l2 i; have m3 := l3 i
  have hr : -1000 ≤ p.1.getD i 0 ∧ p.1.getD i 0 ≤ 1000 := hb.s i
  have hgi := hgl i
  simp only [Int.toNat_natCast]
  rw [dec_t (show (i : Int) < (n.2.1.length : Int) by omega), cond_true, gd_t (inB_t hi), gd_t (inB_t (show i < p.1.length by omega))]
  have e1 : fm (sS1 n p given (O.getD k 0)) (i + 1) = fm (sS1 n p given (O.getD k 0)) i ++ sS1 n p given (O.getD k 0) i := qeC _ _
  have e2 : fm (sR1 n p (O.getD k 0)) (i + 1) = fm (sR1 n p (O.getD k 0)) i ++ sR1 n p (O.getD k 0) i := qeC _ _
  have e3 : fm (sT1 n p (O.getD k 0)) (i + 1) = fm (sT1 n p (O.getD k 0)) i ++ sT1 n p (O.getD k 0) i := qeC _ _
  rw [e1, e2, e3, ← List.append_assoc, ← List.append_assoc]
  have m1' : (P ++ fm (sS1 n p given (O.getD k 0)) i).length ≤ 100 + 1000 * i := by rw [List.length_append]; omega
  have m2' : (R ++ fm (sR1 n p (O.getD k 0)) i).length ≤ 100 + 1 * i := by rw [List.length_append]; omega
  generalize P ++ fm (sS1 n p given (O.getD k 0)) i = X1 at m1' ⊢
  generalize R ++ fm (sR1 n p (O.getD k 0)) i = X2 at m2' ⊢
  generalize fm (sT1 n p (O.getD k 0)) i = X3 at m3 ⊢
  have hw : wi64 ((i : Int) + 1) = ((i + 1 : Nat) : Int) := w1 hi (by omega)
  by_cases h0 : p.1.getD i 0 = 0
  ·rw [dec_t h0]
   simp only [cond_true, Option.bind_some]
   rw [hw, show sS1 n p given (O.getD k 0) i = [] from if_neg (fun h => h.1 h0), show sR1 n p (O.getD k 0) i = [] from if_neg (fun h => h.1 h0), show sT1 n p (O.getD k 0) i = [] from if_neg (fun h => h.1 h0), List.append_nil, List.append_nil, List.append_nil]
  ·rw [dec_f h0]
   simp only [cond_false]
   rw [gd_t (inB_t (show i < p.1.length by omega)), qjl]
   simp only [Option.bind_some]
   have ht : (if p.1.getD i 0 < 0 then (n.2.1.getD i ([], (0, (0, (0, (0, (0, []))))))).2.1 else (n.2.1.getD i ([], (0, (0, (0, (0, (0, []))))))).2.2.1) = tow n p i := rfl
   have hf : (if p.1.getD i 0 < 0 then (n.2.1.getD i ([], (0, (0, (0, (0, (0, []))))))).2.2.1 else (n.2.1.getD i ([], (0, (0, (0, (0, (0, []))))))).2.1) = frm n p i := rfl
   rw [ht, hf]
   have hA : ∀ (X : List Pc), X.length ≤ 50000 → (Option.bind (bif decide (frm n p i = O.getD k 0) then (
     gd (inB (i : Int) p.1.length) <| (qc4 (p.1.getD i 0)).bind fun r4 => gd (fits (X2.length + 1) 8) <| gd (fits (X3.length + 1) 8) <| some (next, ports, given, X, X2 ++ [r4], T, X3 ++ [(i : Int)], O)) else some (next, ports, given, X, X2, T, X3, O)) fun s8 => some s8) = some (next, ports, given, X, X2 ++ sR1 n p (O.getD k 0) i, T, X3 ++ sT1 n p (O.getD k 0) i, O) := by
    intro X hX
    by_cases hv : frm n p i = O.getD k 0
    ·rw [dec_t hv, cond_true, gd_t (inB_t (show i < p.1.length by omega)), qoO hr, Option.bind_some, gd_t (qaj (by omega)), gd_t (qaj (by omega)), show sR1 n p (O.getD k 0) i = [amtR (p.1.getD i 0)] from if_pos ⟨h0, hv⟩, show sT1 n p (O.getD k 0) i = [(i : Int)] from if_pos ⟨h0, hv⟩]; rfl
    ·rw [dec_f hv, cond_false, show sR1 n p (O.getD k 0) i = [] from if_neg (fun h => hv h.2), show sT1 n p (O.getD k 0) i = [] from if_neg (fun h => hv h.2), List.append_nil, List.append_nil]; rfl
   by_cases hv : tow n p i = O.getD k 0
   ·rw [dec_t hv]
    simp only [cond_true]
    rw [gd_t (inB_t (show i < given.length by omega)), gd_t (qaj (by omega)), show sS1 n p given (O.getD k 0) i = given.getD i [] from if_pos ⟨h0, hv⟩]
    have := hA (X1 ++ given.getD i []) (by rw [List.length_append]; omega)
    simp only [Option.bind_some] at this ⊢
    have this2 : ∀ {A : Type} (o : Option A) (a : A), (o.bind fun s => some s) = some a → o = some a := fun o a h => by cases o with | none => cases h | some b => exact h
    rw [this2 _ _ this]
    simp only [Option.bind_some]
    rw [hw]
   ·rw [dec_f hv]
    simp only [cond_false]
    rw [show sS1 n p given (O.getD k 0) i = [] from if_neg (fun h => hv h.2)]
    have := hA X1 (by omega)
    simp only [Option.bind_some] at this ⊢
    have this2 : ∀ {A : Type} (o : Option A) (a : A), (o.bind fun s => some s) = some a → o = some a := fun o a h => by cases o with | none => cases h | some b => exact h
    rw [this2 _ _ this]
    simp only [Option.bind_some]
    rw [hw, List.append_nil]
 ·unfold qbP
  rw [dec_f (show ¬ (n.2.1.length : Int) < (n.2.1.length : Int) by omega)]; rfl
end Go.Proofs.Ytikmdoopfpnbbaa
namespace Go.Proofs.Ytikmdoopfpnbbaa
open Go Go.Sq
theorem qoT (f : List Pc) : tot f.reverse = tot f := by
 induction f with
 | nil => rfl
 | cons p f ih => rw [List.reverse_cons, tot_app', ih, qf8, qpF]; omega
theorem ShfN.rev {f v F O : List Pc} (h : ShfN f v.reverse F O) : ShfN f v F O.reverse :=
 ⟨⟨h.nF, qpH h.nO, h.lF, by rw [qji, List.length_reverse, h.lO, qoT], fun c hc => by have := h.mF c hc; rwa [qji, List.mem_reverse] at this, fun c hc => by rw [qji, List.mem_reverse] at hc; have := h.mO c hc; rwa [qji, List.mem_reverse] at this, fun b => by have := h.amt b; rwa [qoM, ← qoM O] at this⟩, by have := h.kF; rwa [List.length_reverse] at this, fun ht => by rw [List.length_reverse]; exact h.kO (by rw [qoT]; exact ht), by rw [List.length_reverse]; have := h.kQ; rwa [List.length_reverse] at this⟩
structure Idx (T : List Int) (m : Nat) : Prop where
 rng : ∀ k, k < T.length → 0 ≤ T.getD k 0 ∧ T.getD k 0 < m
 inj : ∀ j k, j < k → k < T.length → T.getD j 0 ≠ T.getD k 0
theorem qgc {A : Type} (l : List A) (i j : Nat) (x d : A) (hi : i < l.length) : (l.set i x).getD j d = if i = j then x else l.getD j d := by
 rw [List.getD_eq_getElem?_getD, List.getD_eq_getElem?_getD, List.getElem?_set]
 by_cases e : i = j
 ·rw [if_pos e, if_pos e, if_pos hi]; rfl
 ·rw [if_neg e, if_neg e]
theorem qpN {s11 : Bool × List (List Pc) × List (List Pc) × List (List Pc) × List Pc × List Int × List Int × List Int × List Int} {T : List Int} (h11 : s11.2.2.2.2.2.2.1 = T) {ports : List (List Pc)} (hT : Idx T ports.length) (next given : List (List Pc)) (T2 : List Int) {dealt : List (List Pc)} (hd : T.length ≤ dealt.length) (hl : T.length ≤ 100) (O : List Int) :
  ∃ ports', iter (fun x4 : Int × List (List Pc) × List (List Pc) × List (List Pc) × List Int × List Int × List (List Pc) × List Int => qcJ s11 x4.1 x4.2.1 x4.2.2.1 x4.2.2.2.1 x4.2.2.2.2.1 x4.2.2.2.2.2.1 x4.2.2.2.2.2.2.1 x4.2.2.2.2.2.2.2) (0, next, ports, given, T, T2, dealt, O) = some (next, ports', given, T, T2, dealt, O) ∧
   ports'.length = ports.length ∧ (∀ k, k < T.length → ports'.getD (T.getD k 0).toNat [] = dealt.getD k []) ∧ ∀ q : Nat, (∀ k, k < T.length → T.getD k 0 ≠ q) → ports'.getD q [] = ports.getD q [] := by
 have key : ∃ s, iter (fun x4 : Int × List (List Pc) × List (List Pc) × List (List Pc) × List Int × List Int × List (List Pc) × List Int => qcJ s11 x4.1 x4.2.1 x4.2.2.1 x4.2.2.2.1 x4.2.2.2.2.1 x4.2.2.2.2.2.1 x4.2.2.2.2.2.2.1 x4.2.2.2.2.2.2.2) (0, next, ports, given, T, T2, dealt, O) = some s ∧ ∃ ports', s = (next, ports', given, T, T2, dealt, O) ∧
   ports'.length = ports.length ∧ (∀ k, k < T.length → ports'.getD (T.getD k 0).toNat [] = dealt.getD k []) ∧ ∀ q : Nat, (∀ k, k < T.length → T.getD k 0 ≠ q) → ports'.getD q [] = ports.getD q [] := by
  refine qbm (fun x => ∃ (m : Nat) (ps : List (List Pc)), x = ((m : Int), next, ps, given, T, T2, dealt, O) ∧ m ≤ T.length ∧ ps.length = ports.length ∧ (∀ k, k < m → ps.getD (T.getD k 0).toNat [] = dealt.getD k []) ∧ ∀ q : Nat, (∀ k, k < m → T.getD k 0 ≠ q) → ps.getD q [] = ports.getD q []) (fun x => ((T.length : Int) - x.1).toNat) _ ?_ ⟨0, ports, rfl, by omega, rfl, fun k hk => by omega, fun q _ => rfl⟩
  rintro _ ⟨m, ps, rfl, h1, h2, h3, h4⟩
  unfold qcJ
  simp only [h11, Int.toNat_natCast]
  by_cases hm : m < T.length
  ·right
   have hr := hT.rng m hm
   obtain ⟨i, hi⟩ : ∃ i : Nat, T.getD m 0 = (i : Int) := ⟨(T.getD m 0).toNat, by omega⟩
   rw [dec_t (show (m : Int) < (T.length : Int) by omega), cond_true, gd_t (inB_t hm), gd_t (inB_t (show m < dealt.length by omega))]
   rw [hi] at hr ⊢
   rw [gd_t (inB_t (show i < ps.length by omega)), Int.toNat_natCast, w1 hm (by omega)]
   refine ⟨_, rfl, ⟨m + 1, _, rfl, by omega, by rw [List.length_set]; exact h2, fun k hk => ?_, fun q hq => ?_⟩, by simp only; omega⟩
   ·rw [qgc _ _ _ _ _ (by omega)]
    by_cases e : k = m
    ·subst e; rw [hi, Int.toNat_natCast, if_pos rfl]
    ·have hj := hT.inj k m (by omega) hm
     have hrk := hT.rng k (by omega)
     rw [if_neg (by omega)]; exact h3 k (by omega)
   ·rw [qgc _ _ _ _ _ (by omega)]
    have := hq m (by omega)
    rw [if_neg (by omega)]; exact h4 q fun k hk => hq k (by omega)
  ·left
   have : m = T.length := by omega
   subst this
   rw [dec_f (show ¬ (T.length : Int) < (T.length : Int) by omega)]
   exact ⟨_, rfl, ps, rfl, h2, h3, h4⟩
 obtain ⟨s, q1, ps, rfl, q2⟩ := key
 exact ⟨ps, q1, q2⟩
theorem qqP {p : Pl} {s12 : List (List Pc) × List (List Pc) × List (List Pc) × List Int × List Int × List (List Pc) × List Int} {T2 : List Int} (h12 : s12.2.2.2.2.1 = T2) {next given : List (List Pc)} (ports : List (List Pc)) {S : Nat} (hT : Idx T2 S) (hp : p.1.length = S) (hn : next.length = S) (hg : given.length = S) (hS : S ≤ 100) {T : List Int} {dealt : List (List Pc)} (hd : dealt.length = T.length + T2.length) (hl : T.length ≤ 100) (hl2 : T2.length ≤ 100)
  (hf : ∀ k, k < T2.length → (next.getD (T2.getD k 0).toNat []).length ≤ 400 ∧ ∀ q ∈ next.getD (T2.getD k 0).toNat [], 0 ≤ q.2 ∧ q.2 ≤ 10000000)
  (hv : ∀ k, k < T2.length → (dealt.getD (T.length + k) []).length ≤ 400 ∧ ∀ q ∈ dealt.getD (T.length + k) [], 0 ≤ q.2 ∧ q.2 ≤ 10000000) (O : List Int) :
  ∃ next' given', iter (fun x5 : Int × List (List Pc) × List (List Pc) × List (List Pc) × List Int × List (List Pc) × List Int × List Int => qcK p s12 x5.1 x5.2.1 x5.2.2.1 x5.2.2.2.1 x5.2.2.2.2.1 x5.2.2.2.2.2.1 x5.2.2.2.2.2.2.1 x5.2.2.2.2.2.2.2) (0, next, ports, given, T, dealt, O, T2) = some (next', ports, given', O) ∧
   next'.length = S ∧ given'.length = S ∧ (∀ k, k < T2.length → ShfN (next.getD (T2.getD k 0).toNat []) (dealt.getD (T.length + k) []) (next'.getD (T2.getD k 0).toNat []) (given'.getD (T2.getD k 0).toNat [])) ∧ ∀ i : Nat, (∀ k, k < T2.length → T2.getD k 0 ≠ i) → next'.getD i [] = next.getD i [] ∧ given'.getD i [] = given.getD i [] := by
 have key : ∃ s, iter (fun x5 : Int × List (List Pc) × List (List Pc) × List (List Pc) × List Int × List (List Pc) × List Int × List Int => qcK p s12 x5.1 x5.2.1 x5.2.2.1 x5.2.2.2.1 x5.2.2.2.2.1 x5.2.2.2.2.2.1 x5.2.2.2.2.2.2.1 x5.2.2.2.2.2.2.2) (0, next, ports, given, T, dealt, O, T2) = some s ∧ ∃ next' given', s = (next', ports, given', O) ∧
   next'.length = S ∧ given'.length = S ∧ (∀ k, k < T2.length → ShfN (next.getD (T2.getD k 0).toNat []) (dealt.getD (T.length + k) []) (next'.getD (T2.getD k 0).toNat []) (given'.getD (T2.getD k 0).toNat [])) ∧ ∀ i : Nat, (∀ k, k < T2.length → T2.getD k 0 ≠ i) → next'.getD i [] = next.getD i [] ∧ given'.getD i [] = given.getD i [] := by
  refine qbm (fun x => ∃ (m : Nat) (ne gi : List (List Pc)), x = ((m : Int), ne, ports, gi, T, dealt, O, T2) ∧ m ≤ T2.length ∧ ne.length = S ∧ gi.length = S ∧ (∀ k, k < m → ShfN (next.getD (T2.getD k 0).toNat []) (dealt.getD (T.length + k) []) (ne.getD (T2.getD k 0).toNat []) (gi.getD (T2.getD k 0).toNat [])) ∧ ∀ i : Nat, (∀ k, k < m → T2.getD k 0 ≠ i) → ne.getD i [] = next.getD i [] ∧ gi.getD i [] = given.getD i []) (fun x => ((T2.length : Int) - x.1).toNat) _ ?_ ⟨0, next, given, rfl, by omega, hn, hg, fun k hk => by omega, fun q _ => ⟨rfl, rfl⟩⟩
  rintro _ ⟨m, ne, gi, rfl, h1, h2, h3, h4, h5⟩
  unfold qcK
  simp only [h12, Int.toNat_natCast]
  by_cases hm : m < T2.length
  ·right
   have hr := hT.rng m hm
   obtain ⟨i, hi⟩ : ∃ i : Nat, T2.getD m 0 = (i : Int) := ⟨(T2.getD m 0).toNat, by omega⟩
   have hfm := hf m hm
   have hvm := hv m hm
   have hsame := (h5 i fun k hk => by have := hT.inj k m hk hm; rw [hi] at this; exact this).1
   have hwx : wi64 ((T.length : Int) + (m : Int)) = ((T.length + m : Nat) : Int) := by rw [wi (by omega)]; omega
   rw [dec_t (show (m : Int) < (T2.length : Int) by omega), cond_true, gd_t (inB_t hm), hwx, gd_t (inB_t (show T.length + m < dealt.length by omega))]
   rw [hi] at hr hfm
   rw [Int.toNat_natCast] at hfm
   simp only [hi, Int.toNat_natCast]
   rw [gd_t (inB_t (show i < p.1.length by omega))]
   have fin : ∀ (F Q : List Pc), ShfN (next.getD i []) (dealt.getD (T.length + m) []) F Q → ∃ y, (gd (inB (i : Int) gi.length) <| some (.inl (wi64 ((m : Int) + 1), ne.set i F, ports, gi.set i Q, T, dealt, O, T2)) : Option ((Int × List (List Pc) × List (List Pc) × List (List Pc) × List Int × List (List Pc) × List Int × List Int) ⊕ (List (List Pc) × List (List Pc) × List (List Pc) × List Int))) = some (.inl y) ∧ (∃ (m : Nat) (ne gi : List (List Pc)), y = ((m : Int), ne, ports, gi, T, dealt, O, T2) ∧ m ≤ T2.length ∧ ne.length = S ∧ gi.length = S ∧ (∀ k, k < m → ShfN (next.getD (T2.getD k 0).toNat []) (dealt.getD (T.length + k) []) (ne.getD (T2.getD k 0).toNat []) (gi.getD (T2.getD k 0).toNat [])) ∧ ∀ i : Nat, (∀ k, k < m → T2.getD k 0 ≠ i) → ne.getD i [] = next.getD i [] ∧ gi.getD i [] = given.getD i []) ∧ ((T2.length : Int) - y.1).toNat < ((T2.length : Int) - (m : Int)).toNat := by
    intro F Q hFQ
    rw [gd_t (inB_t (show i < gi.length by omega)), w1 hm (by omega)]
    refine ⟨_, rfl, ⟨m + 1, _, _, rfl, by omega, by rw [List.length_set]; exact h2, by rw [List.length_set]; exact h3, fun k hk => ?_, fun q hq => ?_⟩, by simp only; omega⟩
    ·rw [qgc _ _ _ _ _ (by omega), qgc _ _ _ _ _ (by omega)]
     by_cases e : k = m
     ·subst e; rw [hi, Int.toNat_natCast, if_pos rfl, if_pos rfl]; exact hFQ
     ·have hj := hT.inj k m (by omega) hm
      have hrk := hT.rng k (by omega)
      rw [if_neg (by omega), if_neg (by omega)]; exact h4 k (by omega)
    ·rw [qgc _ _ _ _ _ (by omega), qgc _ _ _ _ _ (by omega)]
     have := hq m (by omega)
     rw [if_neg (by omega), if_neg (by omega)]; exact h5 q fun k hk => hq k (by omega)
   by_cases hb : p.1.getD i 0 < 0
   ·rw [dec_t hb]
    simp only [Bool.not_true, cond_false, Option.bind_some]
    rw [gd_t (inB_t (show i < ne.length by omega)), hsame]
    obtain ⟨F, Q, g1, g2⟩ := qoQ (back := true) hfm hvm
    rw [g1]
    simp only [Option.bind_some]
    rw [gd_t (inB_t (show i < ne.length by omega))]
    exact fin F Q g2
   ·rw [dec_f hb]
    simp only [Bool.not_false, cond_true]
    rw [qkd (by omega)]
    simp only [Option.bind_some]
    rw [gd_t (inB_t (show i < ne.length by omega)), hsame]
    obtain ⟨F, Q, g1, g2⟩ := qoQ (back := false) hfm (v := (dealt.getD (T.length + m) []).reverse) ⟨by rw [List.length_reverse]; exact hvm.1, fun q hq => hvm.2 q (List.mem_reverse.1 hq)⟩
    rw [g1]
    have g3 : Q.length ≤ 100000 := by
     have := g2.kQ
     rw [List.length_reverse] at this
     omega
    simp only [Option.bind_some]
    rw [gd_t (inB_t (show i < ne.length by omega)), qkd g3]
    simp only [Option.bind_some]
    exact fin F Q.reverse g2.rev
  ·left
   have : m = T2.length := by omega
   subst this
   rw [dec_f (show ¬ (T2.length : Int) < (T2.length : Int) by omega)]
   exact ⟨_, rfl, ne, gi, rfl, h2, h3, h4, h5⟩
 obtain ⟨s, q1, ne, gi, rfl, q2⟩ := key
 exact ⟨ne, gi, q1, q2⟩
end Go.Proofs.Ytikmdoopfpnbbaa
