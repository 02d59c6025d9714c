/- The centre: a record that is carried out has bytes. No condition. -/
import Derived.Test.YtnkfkceghbkkkaaGreatCr1
import Derived.Test.YtnkfkceghbkkkaaGreatSp12
namespace Go.Proofs.YtnkfkceghbkkkaaGreat
open Go Go.Sq Wi
set_option linter.unusedVariables false
def I64 (x : Int) : Prop := -9223372036854775808 ≤ x ∧ x ≤ 9223372036854775807
theorem i64_s {x : Int} (h : -1000000000000000000 ≤ x ∧ x ≤ 1000000000000000000) : I64 x := by unfold I64; omega
structure EncP (r : Rec) : Prop where
 hr : i64A (recL r)
 hh : ∀ x ∈ hps r, -9223372036854775808 ≤ x.1 ∧ x.1 ≤ 9223372036854775807
 nb : ¬ big r
theorem qw4 {r : Rec} (h1 : I64 r.1) (h2 : i64A r.2.1) (h3 : r.2.1.length ≤ 21) (h4 : I64 r.2.2.1.1) (h5 : I64 r.2.2.1.2.1) (h6 : I64 r.2.2.1.2.2.1) (h7 : I64 r.2.2.1.2.2.2.1) (h8 : I64 r.2.2.1.2.2.2.2.1)
  (h9 : ∀ x ∈ r.2.2.1.2.2.2.2.2.1, I64 x.1) (h10 : r.2.2.1.2.2.2.2.2.1.length ≤ 32) (h11 : I64 r.2.2.1.2.2.2.2.2.2) (h12 : I64 r.2.2.2.2.1) (h13 : I64 r.2.2.2.2.2) (h14 : r.2.2.2.1.length ≤ 12) : EncP r := by
 refine ⟨?_, h9, ?_⟩
 ·unfold recL
  refine qeg.2 ⟨?_, qeg.2 ⟨h2, qeg.2 ⟨?_, qeg.2 ⟨qx8 h9, ?_⟩⟩⟩⟩
  ·intro x hx
   simp only [recA, List.mem_cons, List.not_mem_nil, or_false] at hx
   rcases hx with rfl | rfl
   ·exact h1
   ·omega
  ·intro x hx
   simp only [recB, List.mem_cons, List.not_mem_nil, or_false] at hx
   rcases hx with rfl | rfl | rfl | rfl | rfl | rfl
   ·exact h4
   ·exact h5
   ·exact h6
   ·exact h7
   ·exact h8
   ·have e : (hps r).length = r.2.2.1.2.2.2.2.2.1.length := rfl
    omega
  ·intro x hx
   simp only [recC, List.mem_cons, List.not_mem_nil, or_false] at hx
   rcases hx with rfl | rfl | rfl | rfl
   ·exact h11
   ·exact h12
   ·exact h13
   ·have e : (shp r).length = r.2.2.2.1.length := rfl
    omega
 ·unfold big
  show ¬ ((21 : Int) < (r.2.1.length : Int) ∨ (32 : Int) < ((r.2.2.1.2.2.2.2.2.1.length : Nat) : Int) ∨ (12 : Int) < ((r.2.2.2.1.length : Nat) : Int))
  omega
theorem z64 {x : Int} (h : x = 0) : I64 x := by subst h; unfold I64; omega
theorem qyN {s : Stp} (h : noB s = true) : s.1 = 0 ∧ s.2.1 = 0 ∧ s.2.2.1 = 0 ∧ s.2.2.2.1 = 0 ∧ s.2.2.2.2.1 = 0 ∧ s.2.2.2.2.2.2 = 0 ∧ s.2.2.2.2.2.1 = [] := by
 unfold noB at h
 simp only [Bool.and_eq_true, decide_eq_true_eq] at h
 obtain ⟨a, b, c, d, e, f, g⟩ := h
 exact ⟨a, b, c, d, e, f, List.eq_nil_of_length_eq_zero g⟩
theorem qyO {e : Ent3} (h : noE e = true) : e.1 = [] ∧ e.2.1 = 0 ∧ e.2.2 = 0 := by
 unfold noE at h
 simpa only [Bool.and_eq_true, decide_eq_true_eq] using h
theorem rg_of {lo hi x : Int} (h : rg lo hi x = true) : lo ≤ x ∧ x ≤ hi := by
 unfold rg at h
 simpa only [Bool.and_eq_true, decide_eq_true_eq] using h
theorem qyc {v : List Int} (h5 : ¬ v.length < 5) (h : qk4 (telOf v) = true) : i64A v ∧ v.length ≤ 21 := by
 unfold qk4 telOf at h
 simp only [Bool.and_eq_true, decide_eq_true_eq, List.length_drop] at h
 obtain ⟨⟨g0, g1, g2, g3, g4⟩, g5, g6⟩ := h
 have g0 := rg_of g0; have g1 := rg_of g1; have g2 := rg_of g2; have g3 := rg_of g3; have g4 := rg_of g4
 refine ⟨fun x hx => ?_, by omega⟩
 obtain ⟨i, hi, rfl⟩ := List.getElem_of_mem hx
 have hg : ∀ j, j < v.length → v.getD j 0 = v[j]! := fun j hj => by rw [List.getD_eq_getElem?_getD, List.getElem?_eq_getElem hj, List.getElem!_eq_getElem?_getD, List.getElem?_eq_getElem hj]; rfl
 have hgi : v[i] = v.getD i 0 := by rw [List.getD_eq_getElem?_getD, List.getElem?_eq_getElem hi]; rfl
 by_cases hi5 : i < 5
 ·rw [hgi]
  match i, hi5 with
  | 0, _ => omega
  | 1, _ => omega
  | 2, _ => omega
  | 3, _ => omega
  | 4, _ => omega
 ·have hm : v[i] ∈ v.drop 5 := by
   rw [List.mem_iff_getElem?]
   exact ⟨i - 5, by rw [List.getElem?_drop, show 5 + (i - 5) = i by omega, List.getElem?_eq_getElem hi]⟩
  have := List.all_eq_true.1 g6 _ hm
  have := rg_of (show rg _ _ _ = true from this)
  omega
theorem qzJ {x : Pth} (h : bareP x = true) : x.1 = 0 ∧ x.2.1 = 0 ∧ x.2.2.1 = [] ∧ x.2.2.2 = 0 := by
 unfold bareP at h
 simp only [Bool.and_eq_true, decide_eq_true_eq] at h
 obtain ⟨a, b, c, d⟩ := h
 exact ⟨a, b, List.eq_nil_of_length_eq_zero (by omega), d⟩
theorem qyd {n : Net} (hn : GN n) {d : Dk} (hd : DkN n d) {s : Stp} (h : (appS n d s).2 = 0) : I64 s.1 ∧ I64 s.2.1 ∧ I64 s.2.2.1 ∧ I64 s.2.2.2.1 ∧ I64 s.2.2.2.2.1 ∧ (∀ x ∈ s.2.2.2.2.2.1, I64 x.1) ∧ s.2.2.2.2.2.1.length ≤ 32 ∧ I64 s.2.2.2.2.2.2 := by
 obtain ⟨hv, e⟩ := qyH h
 rw [e] at h
 have h1 := hn.sg; have h2 := hn.po; have h3 := hn.st; have h4 := hd.v
 obtain ⟨hb, hc⟩ := qp2 h
 have bare : ∀ {x : Pth}, bareP x = true → I64 x.1 ∧ I64 x.2.1 ∧ (∀ y ∈ x.2.2.1, I64 y.1) ∧ x.2.2.1.length ≤ 32 ∧ I64 x.2.2.2 := fun {x} hx => by
  obtain ⟨a, b, c, d⟩ := qzJ hx
  exact ⟨z64 a, z64 b, (by rw [c]; intro y hy; cases hy), (by rw [c]; simp), z64 d⟩
 unfold qk3 at hb
 rcases hc with ⟨hk, he⟩ | ⟨hk, he⟩ | ⟨hk, he⟩ | ⟨hk, he⟩
 ·have hk' : (decide (s.1 = 1) || (decide (s.1 = 2) || (decide (s.1 = 3) || decide (s.1 = 4)))) = true := by rcases hk with hk | hk <;> simp [hk]
  rw [hk', cond_true, Bool.and_eq_true, decide_eq_true_eq] at hb
  obtain ⟨b1, b2, b3, b4, b5⟩ := bare hb.2
  rw [he] at h
  unfold turnS at h
  cases hr : (decide (0 ≤ s.2.1) && decide (s.2.1 < (d.1.length : Int))) with
  | false => rw [hr] at h; cases h
  | true =>
   simp only [Bool.and_eq_true, decide_eq_true_eq] at hr
   exact ⟨i64_s (by omega), i64_s (by omega), z64 hb.1, b1, b2, b3, b4, b5⟩
 ·have hk' : (decide (s.1 = 1) || (decide (s.1 = 2) || (decide (s.1 = 3) || decide (s.1 = 4)))) = true := by rcases hk with hk | hk <;> simp [hk]
  rw [hk', cond_true, Bool.and_eq_true, decide_eq_true_eq] at hb
  obtain ⟨b1, b2, b3, b4, b5⟩ := bare hb.2
  rw [he] at h
  unfold runS at h
  cases hr : (decide (0 ≤ s.2.1) && decide (s.2.1 < (n.2.2.2.1.length : Int))) with
  | false => rw [hr] at h; cases h
  | true =>
   simp only [Bool.and_eq_true, decide_eq_true_eq] at hr
   exact ⟨i64_s (by omega), i64_s (by omega), z64 hb.1, b1, b2, b3, b4, b5⟩
 ·have hk' : (decide (s.1 = 1) || (decide (s.1 = 2) || (decide (s.1 = 3) || decide (s.1 = 4)))) = false := by simp [hk]
  rw [hk', cond_false, decide_eq_true hk, cond_true, Bool.and_eq_true, decide_eq_true_eq, decide_eq_true_eq] at hb
  rw [he] at h
  obtain ⟨hg, _⟩ := qyG h
  have hp := VPa.of hg.pa
  have hi := hp.i; have ho := hp.o; have hl := hp.hl; have hh := hp.h; have hv := hg.v
  simp only [absP] at hi ho hl hh
  exact ⟨i64_s (by omega), z64 hb.1, i64_s (by omega), i64_s (by omega), i64_s (by omega), fun x hx => i64_s (by have := hh x hx; omega), hl, z64 hb.2⟩
 ·have hk' : (decide (s.1 = 1) || (decide (s.1 = 2) || (decide (s.1 = 3) || decide (s.1 = 4)))) = false := by simp [hk]
  rw [hk', cond_false, decide_eq_false (by omega), cond_false, decide_eq_true hk, cond_true, Bool.and_eq_true, decide_eq_true_eq] at hb
  obtain ⟨b1, b2, b3, b4, b5⟩ := bare hb.2
  rw [he] at h
  unfold waitS at h
  cases hr : rg 1 100 s.2.2.1 with
  | false => rw [hr] at h; cases h
  | true => have := rg_of hr; exact ⟨i64_s (by omega), z64 hb.1, i64_s (by omega), b1, b2, b3, b4, b5⟩
theorem qzK {l : List Acc4} (hl : l.length ≤ 100000) {e : Ent3} (h : (Ac.postF l e).2 = 0) : I64 e.2.1 ∧ I64 e.2.2 ∧ e.1.length ≤ 12 := by
 obtain ⟨_, _, hp⟩ := Ac.post_eq (l := l) (e := e) hl
 have he : Ac.entP e = true := by
  cases hc : Ac.entP e with
  | true => rfl
  | false =>
   have := hp.bad (fun hh => by rw [hc] at hh; cases hh.2)
   rw [this] at h; cases h
 unfold Ac.entP Ac.volP Ac.sgnP at he
 simp only [Bool.and_eq_true, Bool.or_eq_true, decide_eq_true_eq] at he
 obtain ⟨h1, h2⟩ := he
 unfold Ac.nameP at h2
 simp only [Bool.and_eq_true, decide_eq_true_eq] at h2
 refine ⟨i64_s ?_, i64_s ?_, h2.2.1⟩
 ·rcases h1 with ⟨h1, _⟩ | ⟨h1, _⟩ <;> omega
 ·rcases h1 with ⟨_, h1⟩ | ⟨_, h1⟩ <;> omega
theorem qw5 {n : Net} (hn : GN n) {c : Cn} {k : Nat} (hi : CnI n c k) (hk : k ≤ 10000) {r : Rec} (h : (capp n c r).2 = 0) : EncP r := by
 unfold capp at h
 by_cases k1 : r.1 = 1
 ·rw [if_pos k1] at h
  unfold capp1 at h
  by_cases h1 : c.2.2.2 = 1000
  ·rw [if_pos h1] at h; cases h
  rw [if_neg h1] at h
  have h2 : (accS c.2.1 r).2 = 0 := by
   by_cases h2 : (accS c.2.1 r).2 = 0
   ·exact h2
   ·rw [if_neg h2] at h; exact absurd h h2
  unfold accS at h2
  by_cases h3 : r.2.1.length < 5 ∨ noB r.2.2.1 = false ∨ noE r.2.2.2 = false ∨ qk4 (telOf r.2.1) = false
  ·rw [if_pos h3] at h2; cases h2
  simp only [not_or, Bool.not_eq_false] at h3
  obtain ⟨g1, g2, g3, g4⟩ := h3
  obtain ⟨a1, a2, a3, a4, a5, a6, a7⟩ := qyN g2
  obtain ⟨b1, b2, b3⟩ := qyO g3
  obtain ⟨c1, c2⟩ := qyc g1 g4
  exact qw4 (i64_s (by omega)) c1 c2 (z64 a1) (z64 a2) (z64 a3) (z64 a4) (z64 a5) (by rw [a7]; intro y hy; cases hy) (by rw [a7]; simp) (z64 a6) (z64 b2) (z64 b3) (by rw [b1]; simp)
 rw [if_neg k1] at h
 by_cases k2 : r.1 = 2
 ·rw [if_pos k2] at h
  unfold capp2 at h
  by_cases h1 : c.2.2.2 = 1000
  ·rw [if_pos h1] at h; cases h
  rw [if_neg h1] at h
  have h2 : (cmdS n c.1 r).2 = 0 := by
   by_cases h2 : (cmdS n c.1 r).2 = 0
   ·exact h2
   ·rw [if_neg h2] at h; exact absurd h h2
  unfold cmdS at h2
  by_cases h3 : 0 < r.2.1.length ∨ noE r.2.2.2 = false
  ·rw [if_pos h3] at h2; cases h2
  rw [if_neg h3] at h2
  simp only [not_or, Bool.not_eq_false] at h3
  obtain ⟨b1, b2, b3⟩ := qyO h3.2
  have e0 : r.2.1 = [] := List.eq_nil_of_length_eq_zero (by omega)
  obtain ⟨s1, s2, s3, s4, s5, s6, s7, s8⟩ := qyd hn hi.d h2
  exact qw4 (i64_s (by omega)) (by rw [e0]; intro y hy; cases hy) (by rw [e0]; simp) s1 s2 s3 s4 s5 s6 s7 s8 (z64 b2) (z64 b3) (by rw [b1]; simp)
 rw [if_neg k2] at h
 by_cases k3 : r.1 = 3
 ·rw [if_pos k3] at h
  unfold capp3 at h
  by_cases h1 : c.2.2.2 = 1000
  ·rw [if_pos h1] at h; cases h
  rw [if_neg h1] at h
  have h2 : (postS c.2.2.1 r).2 = 0 := by
   by_cases h2 : (postS c.2.2.1 r).2 = 0
   ·exact h2
   ·rw [if_neg h2] at h; exact absurd h h2
  unfold postS at h2
  by_cases h3 : 0 < r.2.1.length ∨ noB r.2.2.1 = false
  ·rw [if_pos h3] at h2; cases h2
  rw [if_neg h3] at h2
  simp only [not_or, Bool.not_eq_false] at h3
  obtain ⟨a1, a2, a3, a4, a5, a6, a7⟩ := qyN h3.2
  have e0 : r.2.1 = [] := List.eq_nil_of_length_eq_zero (by omega)
  obtain ⟨s1, s2, s3⟩ := qzK (by have := hi.a; omega) h2
  exact qw4 (i64_s (by omega)) (by rw [e0]; intro y hy; cases hy) (by rw [e0]; simp) (z64 a1) (z64 a2) (z64 a3) (z64 a4) (z64 a5) (by rw [a7]; intro y hy; cases hy) (by rw [a7]; simp) (z64 a6) s1 s2 s3
 ·rw [if_neg k3] at h
  exfalso
  revert h
  simp only
  split <;> simp
def bts (r : Rec) : List Int := encs (recL r) ++ qei (shp r)
theorem qpr {r : Rec} (h : EncP r) : (bts r).length ≤ 1500 ∧ qeP (bts r) := by
 have h1 := qhp h.hr
 have hb := h.nb
 unfold big at hb
 simp only [not_or] at hb
 have h2 : (recL r).length = 2 + (r.2.1.length + (6 + (2 * (hps r).length + 4))) := by
  unfold recL recA recB recC
  simp [qra]
  omega
 have h3 : (qei (shp r)).length = (shp r).length := qsL _
 refine ⟨?_, fun x hx => ?_⟩
 ·unfold bts; rw [List.length_append]; omega
 ·rcases List.mem_append.1 hx with hx | hx
  ·exact qp4 x hx
  ·obtain ⟨b, _, rfl⟩ := List.mem_map.1 hx
   have := b.toNat_lt
   omega
theorem qyP {r : Rec} (h : EncP r) : qdo r = some (0, bts r) := by
 rw [wenc h.hr h.hh]
 unfold encR
 rw [if_neg h.nb]; rfl
theorem qAn {r : Rec} (h : EncP r) : qeK (bts r) = some (r, 0) := by
 obtain ⟨h1, h2⟩ := qpr h
 rw [wdec h2 (by omega)]
 exact congrArg some (qzG h.hr h.hh h.nb)
end Go.Proofs.YtnkfkceghbkkkaaGreat
