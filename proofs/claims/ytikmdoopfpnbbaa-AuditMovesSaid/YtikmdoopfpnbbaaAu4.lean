/- Pieces: litres, what is joined, what is cut, what is valid, a push. No condition. -/
import Derived.Test.YtikmdoopfpnbbaaQu
import Derived.Test.YtikmdoopfpnbbaaSr
namespace Go.Proofs.Ytikmdoopfpnbbaa
open Go Go.Sq
abbrev Pc := Int × Int
abbrev pz : Pc := (0, 0)
/-! ### Litres -/
def exp : List Pc → List Int
 | [] => []
 | p :: f => List.replicate p.2.toNat p.1 ++ exp f
theorem qaS : ∀ (f g : List Pc), exp (f ++ g) = exp f ++ exp g
 | [], _ => rfl
 | p :: f, g => by simp only [List.cons_append, exp, qaS f g, List.append_assoc]
theorem qi9 (p : Pc) : exp [p] = List.replicate p.2.toNat p.1 := by simp [exp]
structure Norm (f : List Pc) : Prop where
 pos : ∀ p ∈ f, 1 ≤ p.2
 ne : ∀ i, i + 1 < f.length → (f.getD i pz).1 ≠ (f.getD (i + 1) pz).1
theorem Norm.nil : Norm [] := ⟨by simp, by simp⟩
theorem Norm.tail {p : Pc} {f : List Pc} (h : Norm (p :: f)) : Norm f :=
 ⟨fun q hq => h.pos q (by simp [hq]), fun i hi => h.ne (i + 1) (by simp; omega)⟩
theorem Norm.head {p q : Pc} {f : List Pc} (h : Norm (p :: f)) (hq : f.head? = some q) : p.1 ≠ q.1 := by
 cases f with
 | nil => cases hq
 | cons q' f => injection hq with hq; subst hq; exact h.ne 0 (by simp)
theorem qpx {f : List Pc} (h : Norm f) : (exp f).head? = f.head?.map (·.1) := by
 cases f with
 | nil => rfl
 | cons p f =>
  have := h.pos p (by simp)
  obtain ⟨n, hn⟩ : ∃ n, p.2.toNat = n + 1 := ⟨p.2.toNat - 1, by omega⟩
  simp only [exp, hn, List.replicate_succ, List.cons_append, List.head?_cons, Option.map_some]
theorem qex {f : List Pc} (h : ∀ p ∈ f, 0 ≤ p.2) : ((exp f).length : Int) = isum (f.map (·.2)) := by
 induction f with
 | nil => rfl
 | cons p f ih =>
  have := ih fun q hq => h q (by simp [hq])
  have h1 := h p (by simp)
  simp only [exp, List.length_append, List.length_replicate, List.map_cons, isum]
  omega
theorem qfj {f : List Pc} {c : Int} (h : c ∈ exp f) : ∃ p ∈ f, p.1 = c := by
 induction f with
 | nil => cases h
 | cons p f ih =>
  simp only [exp, List.mem_append, List.mem_replicate] at h
  rcases h with ⟨_, rfl⟩ | h
  ·exact ⟨p, by simp, rfl⟩
  ·obtain ⟨q, hq, e⟩ := ih h
   exact ⟨q, by simp [hq], e⟩
theorem qf7 {f : List Pc} {p : Pc} (h : p ∈ f) (hp : 1 ≤ p.2) : p.1 ∈ exp f := by
 induction f with
 | nil => cases h
 | cons q f ih =>
  simp only [exp, List.mem_append, List.mem_replicate]
  rcases List.mem_cons.1 h with rfl | h
  ·exact .inl ⟨by omega, rfl⟩
  ·exact .inr (ih h)
theorem qli {f : List Pc} {p : Pc} (h : p ∈ f) : p.2.toNat ≤ (exp f).length := by
 induction f with
 | nil => cases h
 | cons q f ih =>
  simp only [exp, List.length_append, List.length_replicate]
  rcases List.mem_cons.1 h with rfl | h
  ·omega
  ·have := ih h; omega
theorem ql9 {f : List Pc} (h : ∀ p ∈ f, 1 ≤ p.2) : f.length ≤ (exp f).length := by
 induction f with
 | nil => exact Nat.le_refl _
 | cons p f ih =>
  have := ih fun q hq => h q (by simp [hq])
  have h1 := h p (by simp)
  simp only [exp, List.length_append, List.length_replicate, List.length_cons]; omega
theorem qma {f : List Pc} {B : Nat} (h : ∀ p ∈ f, p.2 ≤ B) : (exp f).length ≤ f.length * B := by
 induction f with
 | nil => simp [exp]
 | cons p f ih =>
  have := ih fun q hq => h q (by simp [hq])
  have h1 := h p (by simp)
  simp only [exp, List.length_append, List.length_replicate, List.length_cons, Nat.add_mul]; omega
/-! ### What is joined -/
def jn (out : List Pc) (p : Pc) : List Pc :=
 if p.2 = 0 then out else if 0 < out.length ∧ (out.getD (out.length - 1) pz).1 = p.1 then out.set (out.length - 1) ((out.getD (out.length - 1) pz).1, (out.getD (out.length - 1) pz).2 + p.2) else out ++ [p]
theorem qlj (l : List Pc) (q : Pc) : (l ++ [q]).getD ((l ++ [q]).length - 1) pz = q := by
 rw [List.length_append, List.length_singleton, Nat.add_sub_cancel, qeQ, if_neg (Nat.lt_irrefl _), Nat.sub_self]; rfl
theorem qmb (l : List Pc) (q r : Pc) : (l ++ [q]).set ((l ++ [q]).length - 1) r = l ++ [r] := by
 rw [List.length_append, List.length_singleton, Nat.add_sub_cancel]
 induction l with
 | nil => rfl
 | cons a l ih => simp only [List.cons_append, List.length_cons, List.set_cons_succ, ih]
theorem jn_ok {out : List Pc} {p : Pc} (h : Norm out) (hp : 0 ≤ p.2) : Norm (jn out p) ∧ exp (jn out p) = exp out ++ List.replicate p.2.toNat p.1 := by
 unfold jn
 split
 ·next h0 => rw [h0]; exact ⟨h, by simp⟩
 ·next h0 =>
  split
  ·next hc =>
   obtain ⟨hl, he⟩ := hc
   rcases List.eq_nil_or_concat out with rfl | ⟨l, q, rfl⟩
   ·simp at hl
   ·rw [List.concat_eq_append] at *
    rw [qlj] at he ⊢
    rw [qmb]
    have hq := h.pos q (by simp)
    refine ⟨⟨fun r hr => ?_, fun i hi => ?_⟩, ?_⟩
    ·rcases List.mem_append.1 hr with hr | hr
     ·exact h.pos r (by simp [hr])
     ·rw [List.mem_singleton.1 hr]; simp only; omega
    ·have e : ∀ j, ((l ++ [(q.1, q.2 + p.2)]).getD j pz).1 = ((l ++ [q]).getD j pz).1 := by
      intro j
      rw [qeQ, qeQ]
      split
      ·rfl
      ·cases j - l.length with
       | zero => rfl
       | succ k => simp [List.getD]
     rw [e, e]
     exact h.ne i (by simpa using hi)
    ·rw [qaS, qaS, qi9, qi9, List.append_assoc]
     simp only
     rw [he, List.replicate_append_replicate]
     congr 2; omega
  ·next hc =>
   refine ⟨⟨fun r hr => ?_, fun i hi => ?_⟩, by rw [qaS, qi9]⟩
   ·rcases List.mem_append.1 hr with hr | hr
    ·exact h.pos r hr
    ·rw [List.mem_singleton.1 hr]; omega
   ·simp only [List.length_append, List.length_singleton] at hi
    rw [qeQ, qeQ, if_pos (by omega)]
    by_cases hi2 : i + 1 < out.length
    ·rw [if_pos hi2]; exact h.ne i hi2
    ·rw [if_neg hi2, show i + 1 - out.length = 0 by omega]
     intro he
     exact hc ⟨by omega, by rw [show out.length - 1 = i by omega]; exact he⟩
def joinF (f : List Pc) : List Pc := f.foldl jn []
theorem qmc : ∀ {f out : List Pc}, Norm out → (∀ p ∈ f, 0 ≤ p.2) → Norm (f.foldl jn out) ∧ exp (f.foldl jn out) = exp out ++ exp f
 | [], out, h, _ => ⟨h, by simp [exp]⟩
 | p :: f, out, h, hv => by
  obtain ⟨h1, h2⟩ := jn_ok h (hv p (by simp))
  obtain ⟨h3, h4⟩ := qmc (f := f) h1 fun q hq => hv q (by simp [hq])
  exact ⟨h3, by rw [List.foldl_cons, h4, h2, List.append_assoc]; rfl⟩
theorem qa1 {f : List Pc} (hv : ∀ p ∈ f, 0 ≤ p.2) : Norm (joinF f) ∧ exp (joinF f) = exp f := by
 have := qmc Norm.nil hv
 exact ⟨this.1, by rw [joinF, this.2]; rfl⟩
theorem qm9 {f : List Pc} {i : Nat} (hi : i < f.length) : joinF (f.take (i + 1)) = jn (joinF (f.take i)) (f.getD i pz) := by
 unfold joinF
 rw [qbI pz hi, List.foldl_append]; rfl
def Vol (f : List Pc) : Prop := f.length ≤ 1000 ∧ ∀ p ∈ f, 0 ≤ p.2 ∧ p.2 ≤ 10000000
theorem Vol.take {f : List Pc} (h : Vol f) (i : Nat) : Vol (f.take i) := ⟨by rw [List.length_take]; have := h.1; omega, fun p hp => h.2 p (List.mem_of_mem_take hp)⟩
theorem Vol.len {f : List Pc} (h : Vol f) : (exp f).length ≤ 10000000000 := by
 have := qma (f := f) (B := 10000000) fun p hp => (h.2 p hp).2
 have h2 := h.1
 have h3 : f.length * 10000000 ≤ 1000 * 10000000 := Nat.mul_le_mul_right _ h2
 omega
theorem qoE {f : List Pc} (h : Vol f) : (joinF f).length ≤ 10000000000 ∧ ∀ p ∈ joinF f, 1 ≤ p.2 ∧ p.2 ≤ 10000000000 := by
 obtain ⟨h1, h2⟩ := qa1 fun p hp => (h.2 p hp).1
 have h3 := h.len
 rw [← h2] at h3
 refine ⟨Nat.le_trans (ql9 h1.pos) h3, fun p hp => ⟨h1.pos p hp, ?_⟩⟩
 have := qli hp
 omega
theorem qhG {f : List Pc} (h : Vol f) {i : Nat} (hi : i < f.length) : qa4 f (i : Int) (joinF (f.take i)) = some (.inl (((i + 1 : Nat) : Int), joinF (f.take (i + 1)))) ∧ qa7 f (i : Int) (joinF (f.take i)) = some (.inl (((i + 1 : Nat) : Int), joinF (f.take (i + 1)))) := by
 obtain ⟨b1, b2⟩ := qoE (h.take i)
 have hv := h.2 _ (qaL (d := pz) hi)
 have hf := h.1
 rw [qm9 hi]
 generalize joinF (f.take i) = out at b1 b2
 unfold qa4 qa7 jn
 simp only [dec_t (show (i : Int) < (f.length : Int) by omega), cond_true, gd_t (inB_t hi), Int.toNat_natCast, decide_true, Bool.true_and, show ((0, 0) : Pc) = pz from rfl]
 rw [show wi64 ((i : Int) + 1) = ((i + 1 : Nat) : Int) by rw [wi (by omega)]; rfl]
 by_cases h0 : (f.getD i pz).2 = 0
 ·rw [dec_t h0, if_pos h0]; refine ⟨?_, ?_⟩ <;> first | trivial | rfl
 ·rw [dec_f h0, if_neg h0]
  by_cases hl : 0 < out.length
  ·have e1 : wi64 ((out.length : Int) - 1) = ((out.length - 1 : Nat) : Int) := by rw [wi (by omega)]; omega
   have hlt : out.length - 1 < out.length := by omega
   have hq := b2 _ (qaL (d := pz) hlt)
   rw [dec_t (show (0 : Int) < (out.length : Int) by omega), e1]
   simp only [cond_false, cond_true, gd_t (inB_t hlt), Int.toNat_natCast, Option.bind_some]
   by_cases he : (out.getD (out.length - 1) pz).1 = (f.getD i pz).1
   ·rw [if_pos ⟨hl, he⟩, dec_t he]
    simp only [cond_true, e1, gd_t (inB_t hlt), Int.toNat_natCast, Option.bind_some, wi (show -9223372036854775808 ≤ (out.getD (out.length - 1) pz).2 + (f.getD i pz).2 ∧ (out.getD (out.length - 1) pz).2 + (f.getD i pz).2 ≤ 9223372036854775807 by omega)]
    refine ⟨?_, ?_⟩ <;> first | trivial | rfl
   ·rw [if_neg (fun h => he h.2), dec_f he]
    simp only [cond_false, gd_t (qaj (show (out.length + 1) * 16 ≤ 140737488355328 by omega)), Option.bind_some]
    refine ⟨?_, ?_⟩ <;> first | trivial | rfl
  ·rw [dec_f (show ¬ (0 : Int) < (out.length : Int) by omega), if_neg (fun h => hl h.1)]
   simp only [cond_false, Option.bind_some, gd_t (qaj (show (out.length + 1) * 16 ≤ 140737488355328 by omega))]
   refine ⟨?_, ?_⟩ <;> first | trivial | rfl
theorem qey {f : List Pc} (h : Vol f) : qck f = some (joinF f) ∧ qaN f = some (joinF f) := by
 have hf := h.1
 have k1 := qaB (step := fun x : Int × List Pc => qa4 f x.1 x.2) f.length (fun i => ((i : Int), joinF (f.take i))) (e := joinF f) (fun i hi => (qhG h hi).1) (by
  unfold qa4
  simp only [dec_f (show ¬ (f.length : Int) < (f.length : Int) by omega), cond_false, List.take_length])
 have k2 := qaB (step := fun x : Int × List Pc => qa7 f x.1 x.2) f.length (fun i => ((i : Int), joinF (f.take i))) (e := joinF f) (fun i hi => (qhG h hi).2) (by
  unfold qa7
  simp only [dec_f (show ¬ (f.length : Int) < (f.length : Int) by omega), cond_false, List.take_length])
 have e0 : (((0 : Nat) : Int), joinF (f.take 0)) = ((0 : Int), ([] : List Pc)) := rfl
 rw [e0] at k1 k2
 exact ⟨by unfold qck; rw [k1]; rfl, by unfold qaN; rw [k2]; rfl⟩
/-! ### What is cut -/
def rst : List Pc → Int → Int
 | [], n => n
 | p :: f, n => rst f (n - min p.2 n)
def spl : List Pc → Int → List Pc × List Pc
 | [], _ => ([], [])
 | p :: f, n => ((p.1, min p.2 n) :: (spl f (n - min p.2 n)).1, (p.1, p.2 - min p.2 n) :: (spl f (n - min p.2 n)).2)
theorem qmd : ∀ (f : List Pc) (p : Pc) (n : Int), spl (f ++ [p]) n = ((spl f n).1 ++ [(p.1, min p.2 (rst f n))], (spl f n).2 ++ [(p.1, p.2 - min p.2 (rst f n))]) ∧ rst (f ++ [p]) n = rst f n - min p.2 (rst f n)
 | [], p, n => ⟨rfl, rfl⟩
 | q :: f, p, n => by
  obtain ⟨h1, h2⟩ := qmd f p (n - min q.2 n)
  exact ⟨by simp only [List.cons_append, spl, h1, rst], by simp only [List.cons_append, rst, h2]⟩
theorem qlk : ∀ (f : List Pc) (n : Int), (spl f n).1.length = f.length ∧ (spl f n).2.length = f.length
 | [], _ => ⟨rfl, rfl⟩
 | p :: f, n => by
  obtain ⟨h1, h2⟩ := qlk f (n - min p.2 n)
  exact ⟨by simp only [spl, List.length_cons, h1], by simp only [spl, List.length_cons, h2]⟩
theorem qka : ∀ {f : List Pc} {n : Int}, 0 ≤ n → (∀ p ∈ f, 0 ≤ p.2 ∧ p.2 ≤ 10000000) → (0 ≤ rst f n ∧ rst f n ≤ n) ∧ (∀ p ∈ (spl f n).1, 0 ≤ p.2 ∧ p.2 ≤ 10000000) ∧ (∀ p ∈ (spl f n).2, 0 ≤ p.2 ∧ p.2 ≤ 10000000)
 | [], n, h, _ => ⟨⟨h, Int.le_refl _⟩, by simp [spl], by simp [spl]⟩
 | p :: f, n, h, hv => by
  have h1 := hv p (by simp)
  obtain ⟨h2, h3, h4⟩ := qka (f := f) (n := n - min p.2 n) (by omega) fun q hq => hv q (by simp [hq])
  refine ⟨by simp only [rst]; omega, fun q hq => ?_, fun q hq => ?_⟩
  ·simp only [spl] at hq
   rcases List.mem_cons.1 hq with rfl | hq
   ·simp only; omega
   ·exact h3 q hq
  ·simp only [spl] at hq
   rcases List.mem_cons.1 hq with rfl | hq
   ·simp only; omega
   ·exact h4 q hq
theorem qll : ∀ {f : List Pc} {n : Int}, 0 ≤ n → (∀ p ∈ f, 0 ≤ p.2) → exp (spl f n).1 = (exp f).take n.toNat ∧ exp (spl f n).2 = (exp f).drop n.toNat
 | [], n, _, _ => by simp [spl, exp]
 | p :: f, n, h, hv => by
  have h1 := hv p (by simp)
  obtain ⟨h2, h3⟩ := qll (f := f) (n := n - min p.2 n) (by omega) fun q hq => hv q (by simp [hq])
  simp only [spl, exp, h2, h3]
  by_cases hc : p.2 ≤ n
  ·rw [show min p.2 n = p.2 by omega]
   have hr : (List.replicate p.2.toNat p.1).length ≤ n.toNat := by rw [List.length_replicate]; omega
   rw [List.take_append, List.drop_append, List.take_of_length_le hr, List.drop_of_length_le hr, List.length_replicate]
   rw [show (n - p.2).toNat = n.toNat - p.2.toNat by omega, Int.sub_self]
   simp
  ·rw [show min p.2 n = n by omega]
   rw [List.take_append, List.drop_append, List.length_replicate, List.take_replicate, List.drop_replicate]
   rw [show min n.toNat p.2.toNat = n.toNat by omega, show n.toNat - p.2.toNat = 0 by omega, show (n - n).toNat = 0 by omega, show (p.2 - n).toNat = p.2.toNat - n.toNat by omega]
   simp
theorem set_at (P Q : List Pc) (x y : Pc) {i : Nat} (hi : i = P.length) : (P ++ x :: Q).set i y = P ++ y :: Q := by
 subst hi
 induction P with
 | nil => rfl
 | cons a P ih => simp only [List.cons_append, List.length_cons, List.set_cons_succ, ih]
theorem qqe (P Q : List Pc) (x : Pc) {i : Nat} (hi : i = P.length) : (P ++ x :: Q).getD i pz = x := by
 rw [qeQ, if_neg (by omega), show i - P.length = 0 by omega]; rfl
theorem qpy {s : List Pc} (h : s.length ≤ 1000000) : qad s = some s := by
 unfold qad
 have hf : fits (0 + s.length) 16 = true := qaj (by omega)
 rw [hf]; rfl
theorem qqf {f : List Pc} {n : Int} (h : Vol f) (hn : 0 ≤ n ∧ n ≤ 1000000000000) : qen f n = some (joinF (spl f n).1, joinF (spl f n).2) ∧ qbz f n = some (joinF (spl f n).1, joinF (spl f n).2) := by
 have hf := h.1
 have step : ∀ i, i < f.length → (0 ≤ rst (f.take i) n ∧ rst (f.take i) n ≤ n) ∧ spl (f.take (i + 1)) n = ((spl (f.take i) n).1 ++ [((f.getD i pz).1, min (f.getD i pz).2 (rst (f.take i) n))], (spl (f.take i) n).2 ++ [((f.getD i pz).1, (f.getD i pz).2 - min (f.getD i pz).2 (rst (f.take i) n))]) ∧
   rst (f.take (i + 1)) n = rst (f.take i) n - min (f.getD i pz).2 (rst (f.take i) n) ∧ (spl (f.take i) n).1.length = i ∧ (spl (f.take i) n).2.length = i ∧ (0 ≤ (f.getD i pz).2 ∧ (f.getD i pz).2 ≤ 10000000) := by
  intro i hi
  rw [qbI pz hi]
  obtain ⟨a1, a2⟩ := qmd (f.take i) (f.getD i pz) n
  obtain ⟨a3, _⟩ := qka (f := f.take i) hn.1 (h.take i).2
  obtain ⟨a4, a5⟩ := qlk (f.take i) n
  rw [List.length_take] at a4 a5
  exact ⟨a3, a1, a2, by omega, by omega, h.2 _ (qaL hi)⟩
 have k1 := qaB (step := fun x : Int × Int × List Pc × List Pc => qde f x.1 x.2.1 x.2.2.1 x.2.2.2) f.length (fun i => (rst (f.take i) n, (i : Int), (spl (f.take i) n).1 ++ f.drop i, (spl (f.take i) n).2 ++ f.drop i)) (e := spl f n) (fun i hi => by
   obtain ⟨a1, a2, a3, a4, a5, a6⟩ := step i hi
   have hd : f.drop i = f.getD i pz :: f.drop (i + 1) := by rw [gD_eq hi, ← List.drop_eq_getElem_cons hi]
   have hl1 : ((spl (f.take i) n).1 ++ f.getD i pz :: f.drop (i + 1)).length = f.length := by simp; omega
   have hl2 : ((spl (f.take i) n).2 ++ f.getD i pz :: f.drop (i + 1)).length = f.length := by simp; omega
   have hl3 : ∀ (P : List Pc) (x : Pc), P.length = i → (P ++ x :: f.drop (i + 1)).length = f.length := by intro P x hP; simp; omega
   unfold qde
   simp only [hd]
   simp only [dec_t (show (i : Int) < (f.length : Int) by omega), cond_true, gd_t (inB_t hi), Int.toNat_natCast, List.length_set, hl1, hl2, hl3 _ _ a4, hl3 _ _ a5, show ((0, 0) : Pc) = pz from rfl,
    qqe _ _ _ a4.symm, qqe _ _ _ a5.symm, set_at _ _ _ _ a4.symm, set_at _ _ _ _ a5.symm]
   rw [a2, a3, wi (by omega), wi (by omega), wi (by omega)]
   simp only [List.append_assoc, List.cons_append, List.nil_append]
   rfl) (by
   unfold qde
   simp only [dec_f (show ¬ (f.length : Int) < (f.length : Int) by omega), cond_false, List.take_length, List.drop_length, List.append_nil])
 have k2 := qaB (step := fun x : Int × Int × List Pc × List Pc => qce f x.1 x.2.1 x.2.2.1 x.2.2.2) f.length (fun i => (rst (f.take i) n, (i : Int), (spl (f.take i) n).1, (spl (f.take i) n).2)) (e := spl f n) (fun i hi => by
   obtain ⟨a1, a2, a3, a4, a5, a6⟩ := step i hi
   unfold qce
   simp only [dec_t (show (i : Int) < (f.length : Int) by omega), cond_true, gd_t (inB_t hi), Int.toNat_natCast, a4, a5, gd_t (qaj (show (i + 1) * 16 ≤ 140737488355328 by omega)), show ((0, 0) : Pc) = pz from rfl, Int.min_comm (rst (f.take i) n)]
   rw [a2, a3, wi (by omega), wi (by omega), wi (by omega)]; rfl) (by
   unfold qce
   simp only [dec_f (show ¬ (f.length : Int) < (f.length : Int) by omega), cond_false, List.take_length])
 have e1 : (rst (f.take 0) n, ((0 : Nat) : Int), (spl (f.take 0) n).1 ++ f.drop 0, (spl (f.take 0) n).2 ++ f.drop 0) = (n, 0, f, f) := rfl
 have e2 : (rst (f.take 0) n, ((0 : Nat) : Int), (spl (f.take 0) n).1, (spl (f.take 0) n).2) = (n, 0, [], []) := rfl
 rw [e1] at k1
 rw [e2] at k2
 obtain ⟨_, v1, v2⟩ := qka (f := f) hn.1 h.2
 obtain ⟨l1, l2⟩ := qlk f n
 have m1 := qey (f := (spl f n).1) ⟨by omega, v1⟩
 have m2 := qey (f := (spl f n).2) ⟨by omega, v2⟩
 constructor
 ·unfold qen
  rw [qpy (by omega)]
  simp only [Option.bind_some, k1, m1.1, m2.1]
 ·unfold qbz
  simp only [k2, Option.bind_some, m1.2, m2.2]
/-! ### What is valid -/
def tot (f : List Pc) : Int := isum (f.map (·.2))
theorem qkb (f : List Pc) {i : Nat} (hi : i < f.length) : tot (f.take (i + 1)) = tot (f.take i) + (f.getD i pz).2 := by
 unfold tot
 rw [qbI pz hi, List.map_append, qdd]
 simp only [List.map_cons, List.map_nil, isum]; omega
theorem qil {f : List Pc} (hl : f.length ≤ 100000) (h : ∀ p ∈ f, 0 ≤ p.2 ∧ p.2 ≤ 10000000) : 0 ≤ tot f ∧ tot f ≤ 1000000000000 := by
 have := qiZ (l := f.map (·.2)) (a := 0) (b := 10000000) fun v hv => by
  obtain ⟨p, hp, rfl⟩ := List.mem_map.1 hv
  exact h p hp
 rw [List.length_map] at this
 unfold tot; omega
theorem qdU {f : List Pc} (hl : f.length ≤ 100000) (h : ∀ p ∈ f, 0 ≤ p.2 ∧ p.2 ≤ 10000000) : qbW f = some (tot f) ∧ qdC f = some (tot f) := by
 have hb : ∀ i, 0 ≤ tot (f.take i) ∧ tot (f.take i) ≤ 1000000000000 := fun i => qil (by rw [List.length_take]; omega) fun p hp => h p (List.mem_of_mem_take hp)
 have k1 := qaB (step := fun x : Int × Int => qbZ f x.1 x.2) f.length (fun i => (tot (f.take i), (i : Int))) (e := tot f) (fun i hi => by
   have b0 := hb i
   have b1 := h _ (qaL (d := pz) hi)
   unfold qbZ
   simp only [dec_t (show (i : Int) < (f.length : Int) by omega), cond_true, gd_t (inB_t hi), Int.toNat_natCast, show ((0, 0) : Pc) = pz from rfl]
   rw [qkb f hi, wi (by omega), wi (by omega)]; rfl) (by
   unfold qbZ
   simp only [dec_f (show ¬ (f.length : Int) < (f.length : Int) by omega), cond_false, List.take_length])
 have k2 := qaB (step := fun x : Int × Int => qdh f x.1 x.2) f.length (fun i => (tot (f.take i), (i : Int))) (e := tot f) (fun i hi => by
   have b0 := hb i
   have b1 := h _ (qaL (d := pz) hi)
   unfold qdh
   simp only [dec_t (show (i : Int) < (f.length : Int) by omega), cond_true, gd_t (inB_t hi), Int.toNat_natCast, show ((0, 0) : Pc) = pz from rfl]
   rw [qkb f hi, wi (by omega), wi (by omega)]; rfl) (by
   unfold qdh
   simp only [dec_f (show ¬ (f.length : Int) < (f.length : Int) by omega), cond_false, List.take_length])
 have e0 : (tot (f.take 0), ((0 : Nat) : Int)) = ((0 : Int), (0 : Int)) := rfl
 rw [e0] at k1 k2
 exact ⟨by unfold qbW; rw [k1]; rfl, by unfold qdC; rw [k2]; rfl⟩
def okp (f : List Pc) (i : Nat) : Bool := decide (0 ≤ (f.getD i pz).1 ∧ (f.getD i pz).1 ≤ 999) && (decide (1 ≤ (f.getD i pz).2 ∧ (f.getD i pz).2 ≤ 1000000) && (decide (i = 0) || decide ((f.getD (i - 1) pz).1 ≠ (f.getD i pz).1)))
def vB (f : List Pc) : Bool := decide (f.length ≤ 200) && ((List.range f.length).all (okp f) && decide (tot f ≤ 1000000))
structure VF (f : List Pc) : Prop where
 len : f.length ≤ 200
 norm : Norm f
 rng : ∀ p ∈ f, (0 ≤ p.1 ∧ p.1 ≤ 999) ∧ p.2 ≤ 1000000
 tot : tot f ≤ 1000000
theorem qkc {f : List Pc} : vB f = true ↔ VF f := by
 unfold vB
 rw [Bool.and_eq_true, Bool.and_eq_true, decide_eq_true_eq, decide_eq_true_eq, qfI]
 constructor
 ·rintro ⟨h1, h2, h3⟩
  have h4 : ∀ i, i < f.length → (0 ≤ (f.getD i pz).1 ∧ (f.getD i pz).1 ≤ 999) ∧ (1 ≤ (f.getD i pz).2 ∧ (f.getD i pz).2 ≤ 1000000) ∧ (i ≠ 0 → (f.getD (i - 1) pz).1 ≠ (f.getD i pz).1) := fun i hi => by
   have := h2 i hi
   simp only [okp, Bool.and_eq_true, Bool.or_eq_true, decide_eq_true_eq] at this
   exact ⟨this.1, this.2.1, fun h => this.2.2.resolve_left h⟩
  refine ⟨h1, ⟨fun p hp => ?_, fun i hi => ?_⟩, fun p hp => ?_, h3⟩
  ·obtain ⟨k, hk, rfl⟩ := qj8 pz hp
   exact (h4 k hk).2.1.1
  ·have := (h4 (i + 1) hi).2.2 (by omega)
   rwa [Nat.add_sub_cancel] at this
  ·obtain ⟨k, hk, rfl⟩ := qj8 pz hp
   exact ⟨(h4 k hk).1, (h4 k hk).2.1.2⟩
 ·intro h
  refine ⟨h.len, fun i hi => ?_, h.tot⟩
  have hm := qaL (d := pz) hi
  simp only [okp, Bool.and_eq_true, Bool.or_eq_true, decide_eq_true_eq]
  refine ⟨(h.rng _ hm).1, ⟨h.norm.pos _ hm, (h.rng _ hm).2⟩, ?_⟩
  by_cases h0 : i = 0
  ·exact .inl h0
  ·right
   have := h.norm.ne (i - 1) (by omega)
   rwa [show i - 1 + 1 = i by omega] at this
theorem qja (f : List Pc) : qbv f = some (vB f) ∧ qdN f = some (vB f) := by
 unfold qbv qdN vB
 by_cases hl : f.length ≤ 200
 ·rw [dec_f (show ¬ (200 : Int) < (f.length : Int) by omega), dec_t hl]
  simp only [cond_false, Bool.true_and]
  have hr : ∀ i, okp f i = true → 1 ≤ (f.getD i pz).2 ∧ (f.getD i pz).2 ≤ 1000000 := fun i h => by
   simp only [okp, Bool.and_eq_true, decide_eq_true_eq] at h
   exact h.2.1
  have s1 : ∀ i : Nat, i < f.length → qbf f (i : Int) = bif okp f i then some (.inl ((i + 1 : Nat) : Int)) else some (.inr (.inr false)) := by
   intro i hi
   unfold qbf qfd okp
   simp only [dec_t (show (i : Int) < (f.length : Int) by omega), cond_true, gd_t (inB_t hi), Int.toNat_natCast, show ((0, 0) : Pc) = pz from rfl]
   rw [show wi64 ((i : Int) + 1) = ((i + 1 : Nat) : Int) by rw [wi (by omega)]; rfl]
   have e1 : 0 < i → wi64 ((i : Int) - 1) = ((i - 1 : Nat) : Int) := fun h => by rw [wi (by omega)]; omega
   by_cases c1 : 0 ≤ (f.getD i pz).1
   ·by_cases c2 : (f.getD i pz).1 < 1000
    ·rw [dec_t c1, dec_t c2, dec_t (show 0 ≤ (f.getD i pz).1 ∧ (f.getD i pz).1 ≤ 999 by omega)]
     by_cases c3 : 0 ≤ (f.getD i pz).2
     ·by_cases c4 : (f.getD i pz).2 ≤ 1000000
      ·rw [dec_t c3, dec_t c4]
       by_cases c5 : (f.getD i pz).2 = 0
       ·rw [dec_t c5, dec_f (show ¬ (1 ≤ (f.getD i pz).2 ∧ (f.getD i pz).2 ≤ 1000000) by omega)]; rfl
       ·rw [dec_f c5, dec_t (show (1 ≤ (f.getD i pz).2 ∧ (f.getD i pz).2 ≤ 1000000) by omega)]
        by_cases c6 : i = 0
        ·rw [dec_t c6, dec_f (show ¬ (0 : Int) < (i : Int) by omega)]; rfl
        ·rw [dec_f c6, dec_t (show (0 : Int) < (i : Int) by omega), e1 (by omega)]
         simp only [cond_true, cond_false, Option.bind_some, Bool.not_true, gd_t (inB_t (show i - 1 < f.length by omega)), Int.toNat_natCast, Bool.true_and, Bool.false_or]
         by_cases c7 : (f.getD (i - 1) pz).1 = (f.getD i pz).1
         ·rw [dec_t c7, dec_f (fun h => h c7)]; rfl
         ·rw [dec_f c7, dec_t c7]; rfl
      ·rw [dec_t c3, dec_f c4, dec_f (show ¬ (1 ≤ (f.getD i pz).2 ∧ (f.getD i pz).2 ≤ 1000000) by omega)]; rfl
     ·rw [dec_f c3, dec_f (show ¬ (1 ≤ (f.getD i pz).2 ∧ (f.getD i pz).2 ≤ 1000000) by omega)]; rfl
    ·rw [dec_t c1, dec_f c2, dec_f (show ¬ (0 ≤ (f.getD i pz).1 ∧ (f.getD i pz).1 ≤ 999) by omega)]; rfl
   ·rw [dec_f c1, dec_f (show ¬ (0 ≤ (f.getD i pz).1 ∧ (f.getD i pz).1 ≤ 999) by omega)]; rfl
  have hbt : ∀ i, i ≤ f.length → (∀ j, j < i → okp f j = true) → 0 ≤ tot (f.take i) ∧ tot (f.take i) ≤ 1000000000000 := fun i hi hj => qil (by rw [List.length_take]; omega) fun p hp => by
   obtain ⟨k, hk, rfl⟩ := qj8 pz hp
   rw [List.length_take] at hk
   rw [qqA, if_pos (by omega)]
   have := hr k (hj k (by omega))
   omega
  have s2 : ∀ i : Nat, i < f.length → (∀ j, j < i → okp f j = true) → qaE f (tot (f.take i)) (i : Int) = bif okp f i then some (.inl (tot (f.take (i + 1)), ((i + 1 : Nat) : Int))) else some (.inr (.inr false)) := by
   intro i hi hj
   have hb := hbt i (by omega) hj
   rw [qkb f hi]
   unfold qaE qaM okp
   simp only [dec_t (show (i : Int) < (f.length : Int) by omega), cond_true, gd_t (inB_t hi), Int.toNat_natCast, show ((0, 0) : Pc) = pz from rfl]
   rw [show wi64 ((i : Int) + 1) = ((i + 1 : Nat) : Int) by rw [wi (by omega)]; rfl]
   have e1 : 0 < i → wi64 ((i : Int) - 1) = ((i - 1 : Nat) : Int) := fun h => by rw [wi (by omega)]; omega
   by_cases c1 : 0 ≤ (f.getD i pz).1
   ·by_cases c2 : (f.getD i pz).1 < 1000
    ·rw [dec_t c1, dec_t c2, dec_t (show 0 ≤ (f.getD i pz).1 ∧ (f.getD i pz).1 ≤ 999 by omega)]
     by_cases c3 : (f.getD i pz).2 < 1
     ·rw [dec_t c3, dec_f (show ¬ (1 ≤ (f.getD i pz).2 ∧ (f.getD i pz).2 ≤ 1000000) by omega)]; rfl
     ·by_cases c4 : 1000000 < (f.getD i pz).2
      ·rw [dec_f c3, dec_t c4, dec_f (show ¬ (1 ≤ (f.getD i pz).2 ∧ (f.getD i pz).2 ≤ 1000000) by omega)]; rfl
      ·rw [dec_f c3, dec_f c4, dec_t (show (1 ≤ (f.getD i pz).2 ∧ (f.getD i pz).2 ≤ 1000000) by omega), show wi64 (tot (f.take i) + (f.getD i pz).2) = tot (f.take i) + (f.getD i pz).2 from wi (by omega)]
       by_cases c6 : i = 0
       ·rw [dec_t c6, dec_f (show ¬ (0 : Int) < (i : Int) by omega)]; rfl
       ·rw [dec_f c6, dec_t (show (0 : Int) < (i : Int) by omega), e1 (by omega)]
        simp only [cond_true, cond_false, Option.bind_some, Bool.not_true, gd_t (inB_t (show i - 1 < f.length by omega)), Int.toNat_natCast, Bool.true_and, Bool.false_or]
        by_cases c7 : (f.getD (i - 1) pz).1 = (f.getD i pz).1
        ·rw [dec_t c7.symm, dec_f (fun h => h c7)]; rfl
        ·rw [dec_f (fun h => c7 h.symm), dec_t c7]; rfl
    ·rw [dec_t c1, dec_f c2, dec_f (show ¬ (0 ≤ (f.getD i pz).1 ∧ (f.getD i pz).1 ≤ 999) by omega)]; rfl
   ·rw [dec_f c1, dec_f (show ¬ (0 ≤ (f.getD i pz).1 ∧ (f.getD i pz).1 ≤ 999) by omega)]; rfl
  have k1 := qbb (step := fun x => qbf f x) f.length (fun i => (i : Int)) (okp f) (fin := .inl ()) (bad := .inr false) (fun i hi _ hp => by
    rw [s1 i hi, hp]; rfl) (fun i hi _ hp => by
    rw [s1 i hi, hp]; rfl) (fun _ => by
    unfold qbf
    simp only [dec_f (show ¬ (f.length : Int) < (f.length : Int) by omega), cond_false])
  have k2 := qbb (step := fun x : Int × Int => qaE f x.1 x.2) f.length (fun i => (tot (f.take i), (i : Int))) (okp f) (fin := .inl (tot f)) (bad := .inr false) (fun i hi hj hp => by
    show qaE f (tot (f.take i)) (i : Int) = _
    rw [s2 i hi hj, hp]; rfl) (fun i hi hj hp => by
    show qaE f (tot (f.take i)) (i : Int) = _
    rw [s2 i hi hj, hp]; rfl) (fun _ => by
    unfold qaE
    simp only [dec_f (show ¬ (f.length : Int) < (f.length : Int) by omega), cond_false, List.take_length])
  have e0 : (tot (f.take 0), ((0 : Nat) : Int)) = ((0 : Int), (0 : Int)) := rfl
  rw [e0] at k2
  rw [show (0 : Int) = ((0 : Nat) : Int) from rfl, k1]
  rw [show (((0 : Nat) : Int), ((0 : Nat) : Int)) = ((0 : Int), (0 : Int)) from rfl, k2]
  cases ha : (List.range f.length).all (okp f) with
  | false => exact ⟨rfl, rfl⟩
  | true =>
   have hv : ∀ p ∈ f, 0 ≤ p.2 ∧ p.2 ≤ 10000000 := fun p hp => by
    obtain ⟨k, hk, rfl⟩ := qj8 pz hp
    have := hr k (qfI.1 ha k hk)
    omega
   simp only [cond_true, Option.bind_some, Sum.elim_inl, (qdU (by omega) hv).1, Bool.true_and]
   exact ⟨trivial, trivial⟩
 ·rw [dec_t (show (200 : Int) < (f.length : Int) by omega), dec_f hl]; exact ⟨rfl, rfl⟩
theorem VF.vol {f : List Pc} (h : VF f) : ∀ p ∈ f, 0 ≤ p.2 ∧ p.2 ≤ 10000000 := fun p hp => by
 have h1 := h.norm.pos p hp
 have h2 := (h.rng p hp).2
 omega
theorem VF.of {F : List Pc} (hl : F.length ≤ 200) (hn : Norm F) (hb : ∀ c ∈ exp F, 0 ≤ c ∧ c ≤ 999) (ht : (exp F).length ≤ 1000000) : VF F := by
 have hle : ((exp F).length : Int) = Go.Proofs.Ytikmdoopfpnbbaa.tot F := qex fun p hp => by have := hn.pos p hp; omega
 refine ⟨hl, hn, fun p hp => ⟨hb _ (qf7 hp (hn.pos p hp)), ?_⟩, by omega⟩
 have := qli hp
 omega
theorem VF.batch {f : List Pc} (h : VF f) : ∀ c ∈ exp f, 0 ≤ c ∧ c ≤ 999 := fun c hc => by
 obtain ⟨p, hp, rfl⟩ := qfj hc
 exact (h.rng p hp).1
/-! ### A push -/
end Go.Proofs.Ytikmdoopfpnbbaa
namespace Go.Proofs.Ytikmdoopfpnbbaa
open Go Go.Sq
theorem qlm (f g : List Pc) : tot (f ++ g) = tot f + tot g := by unfold tot; rw [List.map_append, qdd]
theorem qf8 (p : Pc) : tot [p] = p.2 := by simp [tot, isum]
theorem qqC {v c : Int} {s : List Int} {p : Int} (h : SrcOk s p) (hv : 0 ≤ v ∧ v ≤ 1000000) (hc : 1 ≤ c ∧ c ≤ 1000) : Ok (qcD v c s p) fun r => ∃ (f : List Pc) (p' : Int), r = (f, s, p') ∧ SrcOk s p' ∧ f.length ≤ 12 ∧ (∀ q ∈ f, (0 ≤ q.1 ∧ q.1 < c) ∧ 1 ≤ q.2) ∧ tot f ≤ v ∧ (1 ≤ v → 1 ≤ f.length) := by
 unfold qcD
 refine Ok.bind (Q := fun r => ∃ (f : List Pc) (p' : Int), r = (s, p', f) ∧ SrcOk s p' ∧ f.length ≤ 12 ∧ (∀ q ∈ f, (0 ≤ q.1 ∧ q.1 < c) ∧ 1 ≤ q.2) ∧ tot f ≤ v ∧ (1 ≤ v → 1 ≤ f.length)) ?_ fun r hr => ?_
 ·refine Ok.loop (fun x => ∃ (w p' : Int) (f : List Pc), x = (w, s, p', f) ∧ 0 ≤ w ∧ SrcOk s p' ∧ f.length ≤ 12 ∧ (∀ q ∈ f, (0 ≤ q.1 ∧ q.1 < c) ∧ 1 ≤ q.2) ∧ tot f + w = v) (fun x => x.1.toNat) ⟨v, p, [], rfl, hv.1, h, by simp, by simp, by simp [tot, isum]⟩ ?_
  rintro _ ⟨w, p', f, rfl, k1, k2, k3, k4, k5⟩
  have htf : 0 ≤ tot f := qi0 fun x hx => by
   obtain ⟨q, hq, rfl⟩ := List.mem_map.1 hx
   have := (k4 q hq).2; omega
  unfold qd4
  simp only
  by_cases hw : 0 < w
  ·rw [dec_t hw]
   simp only [cond_true, Option.bind_some]
   refine Ok.bif (fun hlt => ?_) (fun hlt => Ok.ret ⟨f, p', rfl, k2, k3, k4, by omega, fun _ => by have := of_decide_eq_false hlt; omega⟩)
   have hlt : f.length < 12 := by have := of_decide_eq_true hlt; omega
   obtain ⟨b, p1, q1, q2, q3, q4⟩ := n_eq (n := c) k2 (by omega) (by omega)
   refine Ok.eq q1 ?_
   have hm : wi64 (Int.tdiv (wi64 (w * 2)) 3) = w * 2 / 3 := by
    rw [wi (n := w * 2) (by omega), Int.tdiv_eq_ediv_of_nonneg (by omega), wi (by omega)]
   rw [hm]
   obtain ⟨n, p2, r1, r2, r3, r4⟩ := ql8 (lo := 1) (hi := max 1 (w * 2 / 3)) q4 (by omega) (by omega) (by omega)
   refine Ok.eq r1 ?_
   have h6 : (bif decide ((f.length : Int) = 11) then some (w, f) else some (n, f)) = some ((if f.length = 11 then w else n), f) := by
    by_cases h11 : f.length = 11
    ·rw [dec_t (show (f.length : Int) = 11 by omega), if_pos h11]; rfl
    ·rw [dec_f (show ¬ (f.length : Int) = 11 by omega), if_neg h11]; rfl
   simp only
   rw [h6, Option.bind_some]
   simp only
   obtain ⟨m, hm1, hm2, hm3⟩ : ∃ m : Int, min (if f.length = 11 then w else n) w = m ∧ 1 ≤ m ∧ m ≤ w := ⟨_, rfl, by split <;> omega, by split <;> omega⟩
   rw [hm1]
   have tm : 0 ≤ Int.tmod (wi64 (b + 1)) c ∧ Int.tmod (wi64 (b + 1)) c < c := by
    rw [wi (by omega)]
    exact ⟨Int.tmod_nonneg _ (by omega), Int.tmod_lt_of_pos _ (by omega)⟩
   have app : ∀ b' : Int, 0 ≤ b' ∧ b' < c → Sq.gd (fits (f.length + 1) 16) (some (Sum.inl (α := Int × List Int × Int × List (Int × Int)) (β := List Int × Int × List (Int × Int)) (wi64 (w - m), s, p2, f ++ [(b', m)]))) = some (Sum.inl (w - m, s, p2, f ++ [(b', m)])) ∧ ((∃ (w' p' : Int) (f' : List Pc), (w - m, s, p2, f ++ [(b', m)]) = (w', s, p', f') ∧ 0 ≤ w' ∧ SrcOk s p' ∧ f'.length ≤ 12 ∧ (∀ q ∈ f', (0 ≤ q.1 ∧ q.1 < c) ∧ 1 ≤ q.2) ∧ tot f' + w' = v) ∧ (w - m).toNat < w.toNat) := by
    intro b' hb'
    rw [wi (n := w - m) (by omega)]
    refine ⟨by rw [gd_t (qaj (by omega))], ⟨w - m, p2, _, rfl, by omega, r4, by simp; omega, fun q hq => ?_, by rw [qlm, qf8]; simp only; omega⟩, by omega⟩
    rcases List.mem_append.1 hq with hq | hq
    ·exact k4 q hq
    ·rw [List.mem_singleton.1 hq]; exact ⟨hb', hm2⟩
   rcases List.eq_nil_or_concat f with rfl | ⟨l, q, rfl⟩
   ·rw [show (bif decide (0 < ((([] : List Pc).length : Nat) : Int)) then Sq.gd (inB (wi64 ((([] : List Pc).length : Int) - 1)) ([] : List Pc).length) (some (decide ((([] : List Pc).getD ((wi64 ((([] : List Pc).length : Int) - 1)).toNat) (0, 0)).1 = b), ([] : List Pc))) else some (false, ([] : List Pc))) = some (false, []) from rfl]
    simp only [Option.bind_some, cond_false, Sum.elim_inl]
    obtain ⟨ae, ah⟩ := app b ⟨q2, q3⟩; rw [ae]; exact Ok.ret ah
   ·rw [List.concat_eq_append] at *
    have hll : (l ++ [q]).length = l.length + 1 := by simp
    have e1 : wi64 (((l ++ [q]).length : Int) - 1) = ((l ++ [q]).length - 1 : Nat) := by rw [wi (by omega)]; omega
    have hlb : (l ++ [q]).length - 1 < (l ++ [q]).length := by omega
    rw [dec_t (show (0 : Int) < ((l ++ [q]).length : Int) by omega), e1, gd_t (inB_t hlb), Int.toNat_natCast, show ((0, 0) : Pc) = pz from rfl, qlj, dec_f (show ¬ c = 0 by omega)]
    simp only [cond_true, Option.bind_some, Bool.not_false, gd_tt, e1, gd_t (inB_t hlb), Int.toNat_natCast, qlj, qmb]
    by_cases g1 : q.1 = b
    ·rw [dec_t g1]
     simp only [cond_true]
     by_cases g2 : q.1 = Int.tmod (wi64 (b + 1)) c
     ·rw [dec_t g2]
      simp only [cond_true, Option.bind_some, Sum.elim_inr]
      have hq0 := k4 q (by simp)
      rw [qlm, qf8] at k5 htf
      have htl : 0 ≤ tot l := qi0 fun x hx => by
       obtain ⟨q', hq', rfl⟩ := List.mem_map.1 hx
       have := (k4 q' (by simp [hq'])).2; omega
      rw [show wi64 (q.2 + m) = q.2 + m from wi (by omega), wi (n := w - m) (by omega)]
      refine Ok.ret ⟨⟨w - m, p2, _, rfl, by omega, r4, by simp at k3 ⊢; omega, fun q' hq' => ?_, by rw [qlm, qf8]; simp only; omega⟩, by simp only; omega⟩
      rcases List.mem_append.1 hq' with hq' | hq'
      ·exact k4 q' (by simp [hq'])
      ·rw [List.mem_singleton.1 hq']; exact ⟨hq0.1, by simp only; omega⟩
     ·rw [dec_f g2]
      simp only [Option.bind_some, cond_false, Sum.elim_inl]
      obtain ⟨ae, ah⟩ := app _ tm; rw [ae]; exact Ok.ret ah
    ·rw [dec_f g1]
     simp only [Option.bind_some, cond_false, Sum.elim_inl]
     obtain ⟨ae, ah⟩ := app b ⟨q2, q3⟩; rw [ae]; exact Ok.ret ah
  ·rw [dec_f hw]
   refine Ok.ret ⟨f, p', rfl, k2, k3, k4, by omega, fun h1 => ?_⟩
   cases f with
   | nil => simp [tot, isum] at k5; omega
   | cons q f => simp
 ·obtain ⟨f, p', rfl, r1, r2⟩ := hr
  exact Ok.ret ⟨f, p', rfl, r1, r2⟩
/-! ### AuditParts -/
theorem qme {f : List Pc} (hl : f.length ≤ 400) (h : ∀ p ∈ f, (0 ≤ p.1 ∧ p.1 ≤ 999) ∧ 0 ≤ p.2 ∧ p.2 ≤ 1000000) : qc8 f = some (joinF f) := by
 have k := qaB (step := fun x => qcf f x) f.length (fun i => (i : Int)) (e := .inl ()) (fun i hi => by
   have hq := h _ (qaL (d := pz) hi)
   unfold qcf qaM
   simp only [dec_t (show (i : Int) < (f.length : Int) by omega), cond_true, gd_t (inB_t hi), Int.toNat_natCast, show ((0, 0) : Pc) = pz from rfl, dec_t hq.1.1, dec_t (show (f.getD i pz).1 < 1000 by omega), Option.bind_some, Bool.not_true, cond_false, dec_f (show ¬ (f.getD i pz).2 < 0 by omega), dec_f (show ¬ 1000000 < (f.getD i pz).2 by omega)]
   rw [wi (by omega)]; rfl) (by
   unfold qcf
   simp only [dec_f (show ¬ (f.length : Int) < (f.length : Int) by omega), cond_false])
 unfold qc8
 rw [dec_f (show ¬ (400 : Int) < (f.length : Int) by omega), show (0 : Int) = ((0 : Nat) : Int) from rfl, k]
 simp only [cond_false, Option.bind_some, Sum.elim_inl, (qey (f := f) ⟨by omega, fun p hp => by have := h p hp; omega⟩).2]
theorem VF.join {f g : List Pc} (hf : VF f) (hg : VF g) : Norm (joinF (f ++ g)) ∧ exp (joinF (f ++ g)) = exp f ++ exp g := by
 have := qa1 (f := f ++ g) fun p hp => (List.mem_append.1 hp).elim (fun h => (hf.vol p h).1) (fun h => (hg.vol p h).1)
 rw [qaS] at this
 exact this
theorem qq4 (l : List Int) : qf4 l = some (decide ((l.length : Int) ≤ 400)) := rfl
end Go.Proofs.Ytikmdoopfpnbbaa
namespace Go.Proofs.Ytikmdoopfpnbbaa
open Go Go.Sq
/-! ### Maps in the order of their keys -/
theorem qar (p : Pc) (r : List Pc) (x : Int) : mget keyI (p :: r) x = if x = p.1 then some p.2 else mget keyI r x := by
 show (bif decide (x = p.1) then _ else _) = _
 by_cases h : x = p.1
 ·rw [dec_t h, if_pos h]; rfl
 ·rw [dec_f h, if_neg h]; rfl
theorem qhH (p : Pc) (r : List Pc) (x : Int) : mdel keyI (p :: r) x = if x = p.1 then r else p :: mdel keyI r x := by
 show (bif decide (x = p.1) then _ else _) = _
 by_cases h : x = p.1
 ·rw [dec_t h, if_pos h]; rfl
 ·rw [dec_f h, if_neg h]; rfl
theorem qhI (p : Pc) (r : List Pc) (x y : Int) : mins keyI (p :: r) x y = if x < p.1 then (x, y) :: p :: r else p :: mins keyI r x y := by
 show (bif decide (x < p.1) then _ else _) = _
 by_cases h : x < p.1
 ·rw [dec_t h, if_pos h]; rfl
 ·rw [dec_f h, if_neg h]; rfl
abbrev Srt (M : List Pc) : Prop := M.Pairwise fun p q => p.1 < q.1
theorem qdV {M : List Pc} {b : Int} (h : ∀ q ∈ M, q.1 ≠ b) : mget keyI M b = none := by
 induction M with
 | nil => rfl
 | cons p r ih =>
  rw [qar, if_neg (fun e => h p (by simp) e.symm), ih fun q hq => h q (by simp [hq])]
theorem qmf {M : List Pc} {b v : Int} (h : mget keyI M b = some v) : (b, v) ∈ M := by
 induction M with
 | nil => cases h
 | cons p r ih =>
  rw [qar] at h
  by_cases hb : b = p.1
  ·rw [if_pos hb] at h; injection h with h; subst hb h; simp
  ·rw [if_neg hb] at h; exact List.mem_cons_of_mem _ (ih h)
theorem qmg {M : List Pc} (hs : Srt M) {p : Pc} (h : p ∈ M) : mget keyI M p.1 = some p.2 := by
 induction M with
 | nil => cases h
 | cons q r ih =>
  rw [qar]
  rcases List.mem_cons.1 h with rfl | h
  ·rw [if_pos rfl]
  ·have := (List.pairwise_cons.1 hs).1 p h
   rw [if_neg (by omega)]
   exact ih (List.pairwise_cons.1 hs).2 h
theorem qmh {M : List Pc} (hs : Srt M) {b : Int} (h : mget keyI M b = none) : ∀ q ∈ M, q.1 ≠ b := by
 rintro q hq rfl
 rw [qmg hs hq] at h; cases h
theorem qpz {M : List Pc} {b : Int} : ∀ q ∈ mdel keyI M b, q ∈ M := by
 induction M with
 | nil => intro q hq; cases hq
 | cons p r ih =>
  intro q hq
  rw [qhH] at hq
  split at hq
  ·simp [hq]
  ·rcases List.mem_cons.1 hq with rfl | hq
   ·simp
   ·simp [ih q hq]
theorem qgD {M : List Pc} (h : Srt M) (b : Int) : Srt (mdel keyI M b) := by
 induction M with
 | nil => exact h
 | cons p r ih =>
  obtain ⟨h1, h2⟩ := List.pairwise_cons.1 h
  rw [qhH]
  split
  ·exact h2
  ·exact List.pairwise_cons.2 ⟨fun q hq => h1 q (qpz q hq), ih h2⟩
theorem qfR {M : List Pc} (h : Srt M) (b x : Int) : mget keyI (mdel keyI M b) x = if x = b then none else mget keyI M x := by
 induction M with
 | nil => show none = _; split <;> rfl
 | cons p r ih =>
  obtain ⟨h1, h2⟩ := List.pairwise_cons.1 h
  rw [qhH, qar]
  by_cases hb : b = p.1
  ·rw [if_pos hb]
   by_cases hx : x = b
   ·rw [if_pos hx]
    exact qdV fun q hq => by have := h1 q hq; omega
   ·rw [if_neg hx, if_neg (by omega)]
  ·rw [if_neg hb, qar, ih h2]
   by_cases hx : x = b
   ·rw [if_pos hx, if_neg (by omega), if_pos hx]
   ·rw [if_neg hx, if_neg hx]
theorem qpA {M : List Pc} {b v : Int} {q : Pc} : q ∈ mins keyI M b v ↔ q = (b, v) ∨ q ∈ M := by
 induction M with
 | nil => show q ∈ [(b, v)] ↔ _; simp
 | cons p r ih =>
  rw [qhI]
  split
  ·simp
  ·rw [List.mem_cons, ih, List.mem_cons]
   constructor
   ·rintro (h | h | h)
    ·exact .inr (.inl h)
    ·exact .inl h
    ·exact .inr (.inr h)
   ·rintro (h | h | h)
    ·exact .inr (.inl h)
    ·exact .inl h
    ·exact .inr (.inr h)
theorem qpB {M : List Pc} (h : Srt M) {b v : Int} (hb : ∀ q ∈ M, q.1 ≠ b) : Srt (mins keyI M b v) := by
 induction M with
 | nil => exact List.pairwise_cons.2 ⟨fun q hq => (by cases hq), List.Pairwise.nil⟩
 | cons p r ih =>
  obtain ⟨h1, h2⟩ := List.pairwise_cons.1 h
  rw [qhI]
  have hp := hb p (by simp)
  split
  ·next hlt =>
   refine List.pairwise_cons.2 ⟨fun q hq => ?_, h⟩
   rcases List.mem_cons.1 hq with rfl | hq
   ·exact hlt
   ·have := h1 q hq; simp only; omega
  ·next hlt =>
   refine List.pairwise_cons.2 ⟨fun q hq => ?_, ih h2 fun q hq => hb q (by simp [hq])⟩
   rcases qpA.1 hq with rfl | hq
   ·simp only; omega
   ·exact h1 q hq
theorem qoF {M : List Pc} {b v : Int} (hb : ∀ q ∈ M, q.1 ≠ b) (x : Int) : mget keyI (mins keyI M b v) x = if x = b then some v else mget keyI M x := by
 induction M with
 | nil => show mget keyI [(b, v)] x = _; rw [qar]
 | cons p r ih =>
  have hp := hb p (by simp)
  rw [qhI]
  split
  ·rw [qar]
  ·rw [qar, ih fun q hq => hb q (by simp [hq]), qar]
   by_cases hx : x = b
   ·rw [if_pos hx, if_neg (by omega), if_pos hx]
   ·rw [if_neg hx, if_neg hx]
theorem qmi : ∀ {M M' : List Pc}, Srt M → Srt M' → (∀ x, mget keyI M x = mget keyI M' x) → M = M'
 | [], [], _, _, _ => rfl
 | [], q :: r, _, _, h => by have := h q.1; rw [qar, if_pos rfl] at this; cases this
 | p :: r, [], _, _, h => by have := h p.1; rw [qar, if_pos rfl] at this; cases this
 | p :: r, q :: s, h1, h2, h => by
  obtain ⟨a1, a2⟩ := List.pairwise_cons.1 h1
  obtain ⟨b1, b2⟩ := List.pairwise_cons.1 h2
  have e1 := h p.1
  rw [qar, if_pos rfl] at e1
  have e2 := h q.1
  rw [qar (p := q), if_pos rfl] at e2
  have m1 := qmf e1.symm
  have m2 := qmf e2
  have hpq : p.1 = q.1 := by
   have l1 : q.1 ≤ p.1 := by
    rcases List.mem_cons.1 m1 with h | h
    ·rw [← h]; exact Int.le_refl _
    ·have := b1 _ h; simp only at this; omega
   have l2 : p.1 ≤ q.1 := by
    rcases List.mem_cons.1 m2 with h | h
    ·rw [← h]; exact Int.le_refl _
    ·have := a1 _ h; simp only at this; omega
   omega
  rw [qar, if_pos hpq] at e1
  injection e1 with e1
  obtain rfl : p = q := Prod.ext hpq e1
  rw [qmi a2 b2 fun x => ?_]
  have := h x
  rw [qar, qar] at this
  by_cases hx : x = p.1
  ·rw [qdV (M := r) fun y hy => by have := a1 y hy; omega, qdV (M := s) fun y hy => by have := b1 y hy; omega]
  ·rwa [if_neg hx, if_neg hx] at this
structure Tab (M : List Pc) (g : Int → Int) : Prop where
 srt : Srt M
 get : ∀ x, mget keyI M x = if g x = 0 then none else some (g x)
theorem Tab.nil : Tab [] fun _ => 0 := ⟨List.Pairwise.nil, fun _ => rfl⟩
theorem Tab.uniq {M M' : List Pc} {g g' : Int → Int} (h : Tab M g) (h' : Tab M' g') (e : ∀ x, g x = g' x) : M = M' :=
 qmi h.srt h'.srt fun x => by rw [h.get, h'.get, e]
theorem Tab.cong {M : List Pc} {g g' : Int → Int} (h : Tab M g) (e : ∀ x, g x = g' x) : Tab M g' := ⟨h.srt, fun x => by rw [h.get, e]⟩
theorem Tab.val {M : List Pc} {g : Int → Int} (h : Tab M g) (x : Int) : (mget keyI M x).getD 0 = g x := by
 rw [h.get]
 by_cases hx : g x = 0
 ·rw [if_pos hx, hx]; rfl
 ·rw [if_neg hx]; rfl
theorem qjb {M : List Pc} (hs : Srt M) (b v x : Int) : mget keyI (mput keyI M b v) x = if x = b then some v else mget keyI M x := by
 unfold mput
 rw [qoF (qmh (qgD hs b) (by rw [qfR hs, if_pos rfl])), qfR hs]
 by_cases hx : x = b
 ·rw [if_pos hx, if_pos hx]
 ·rw [if_neg hx, if_neg hx, if_neg hx]
theorem qjc {M : List Pc} (hs : Srt M) (b v : Int) : Srt (mput keyI M b v) :=
 qpB (qgD hs b) (qmh (qgD hs b) (by rw [qfR hs, if_pos rfl]))
theorem Tab.put {M : List Pc} {g : Int → Int} (h : Tab M g) {b v : Int} (hv : v ≠ 0) : Tab (mput keyI M b v) fun x => if x = b then v else g x := by
 refine ⟨qjc h.srt b v, fun x => ?_⟩
 rw [qjb h.srt, h.get]
 by_cases hx : x = b
 ·rw [if_pos hx, if_pos hx, if_neg hv]
 ·rw [if_neg hx, if_neg hx]
theorem Tab.del {M : List Pc} {g : Int → Int} (h : Tab M g) {b v : Int} : Tab (mdel keyI (mput keyI M b v) b) fun x => if x = b then 0 else g x := by
 refine ⟨qgD (qjc h.srt b v) b, fun x => ?_⟩
 rw [qfR (qjc h.srt b v), qjb h.srt, h.get]
 by_cases hx : x = b
 ·rw [if_pos hx, if_pos hx, if_pos rfl]
 ·rw [if_neg hx, if_neg hx, if_neg hx]
def amt : List Pc → Int → Int
 | [], _ => 0
 | p :: r, b => (if b = p.1 then p.2 else 0) + amt r b
theorem qdq (X Y : List Pc) (b : Int) : amt (X ++ Y) b = amt X b + amt Y b := by
 induction X with
 | nil => show _ = 0 + _; rw [Int.zero_add]; rfl
 | cons p r ih => show _ + amt (r ++ Y) b = _ + _ + _; rw [ih, Int.add_assoc]
theorem qoG {L : List Pc} {i : Nat} {p : Pc} (h : L[i]? = some p) (b : Int) : amt L b = (if b = p.1 then p.2 else 0) + amt (L.eraseIdx i) b := by
 induction L generalizing i with
 | nil => simp at h
 | cons q r ih =>
  cases i with
  | zero => simp at h; subst h; rfl
  | succ i =>
   have := ih (by simpa using h)
   show _ + amt r b = _ + (_ + amt (r.eraseIdx i) b)
   rw [this]; omega
theorem qmj {L : List Pc} (h : ∀ p ∈ L, 0 ≤ p.2) (b : Int) : 0 ≤ amt L b := by
 induction L with
 | nil => exact Int.le_refl _
 | cons p r ih =>
  have h1 := h p (by simp)
  have h2 := ih fun q hq => h q (by simp [hq])
  show 0 ≤ _ + amt r b
  split <;> omega
theorem qq5 {L : List Pc} (h : ∀ p ∈ L, 0 ≤ p.2) (b : Int) : amt L b ≤ tot L := by
 induction L with
 | nil => exact Int.le_refl _
 | cons p r ih =>
  have h1 := h p (by simp)
  have h2 := ih fun q hq => h q (by simp [hq])
  show _ + amt r b ≤ p.2 + tot r
  split <;> omega
theorem Tab.amt {M : List Pc} {g : Int → Int} (h : Tab M g) (x : Int) : Go.Proofs.Ytikmdoopfpnbbaa.amt M x = g x := by
 rw [← h.val x]
 have hs := h.srt
 clear h
 induction M with
 | nil => rfl
 | cons p r ih =>
  obtain ⟨h1, h2⟩ := List.pairwise_cons.1 hs
  show _ + Go.Proofs.Ytikmdoopfpnbbaa.amt r x = _
  rw [ih h2, qar]
  by_cases hx : x = p.1
  ·rw [if_pos hx, if_pos hx, qdV fun q hq => by have := h1 q hq; omega]
   show p.2 + 0 = p.2; omega
  ·rw [if_neg hx, if_neg hx, Int.zero_add]
/-! ### What is counted -/
def pcs (fs : List (List Pc)) : List Pc := fs.flatten
def errF (fs : List (List Pc)) : Int := if 32 < fs.length then 4 else if fs.all vB = true then 0 else 14
theorem qmk {fs : List (List Pc)} {i : Nat} (h : i < fs.length) : pcs (fs.take (i + 1)) = pcs (fs.take i) ++ fs.getD i [] := by
 unfold pcs
 rw [qbI [] h, List.flatten_append]
 simp
theorem qoH {fs : List (List Pc)} (h : ∀ f ∈ fs, VF f) : ∀ p ∈ pcs fs, (0 ≤ p.1 ∧ p.1 ≤ 999) ∧ 1 ≤ p.2 := fun p hp => by
 obtain ⟨f, hf, hp⟩ := List.mem_flatten.1 hp
 exact ⟨((h f hf).rng p hp).1, (h f hf).norm.pos p hp⟩
theorem tot_app' (f g : List Pc) : tot (f ++ g) = tot f + tot g := by unfold tot; rw [List.map_append, qdd]
theorem qqD {fs : List (List Pc)} (h : ∀ f ∈ fs, VF f) : 0 ≤ tot (pcs fs) ∧ tot (pcs fs) ≤ 1000000 * fs.length := by
 induction fs with
 | nil => exact ⟨by decide, by decide⟩
 | cons f r ih =>
  have h1 := h f (by simp)
  obtain ⟨h2, h3⟩ := ih fun g hg => h g (by simp [hg])
  have h4 := h1.tot
  have h5 := (qil (f := f) (by have := h1.len; omega) h1.vol).1
  show 0 ≤ tot (f ++ pcs r) ∧ tot (f ++ pcs r) ≤ _
  rw [tot_app', List.length_cons]
  omega
theorem qln {fs : List (List Pc)} (h : ∀ f ∈ fs, VF f) (hl : fs.length ≤ 32) (b : Int) : 0 ≤ amt (pcs fs) b ∧ amt (pcs fs) b ≤ 32000000 := by
 have h1 := fun p hp => (qoH h p hp).2
 have h2 := qmj (L := pcs fs) (fun p hp => by have := h1 p hp; omega) b
 have h3 := qq5 (L := pcs fs) (fun p hp => by have := h1 p hp; omega) b
 have h4 := (qqD h).2
 omega
theorem qlo {L : List Pc} (h : ∀ p ∈ L, 0 ≤ p.2) (k : Nat) (b : Int) : amt (L.take k) b ≤ amt L b := by
 conv => rhs; rw [← List.take_append_drop k L]
 rw [qdq]
 have := qmj (L := L.drop k) (fun p hp => h p (List.mem_of_mem_drop hp)) b
 omega
theorem qfk (p : Pc) (b : Int) : amt [p] b = if b = p.1 then p.2 else 0 := by show _ + (0 : Int) = _; rw [Int.add_zero]
theorem qna {fs : List (List Pc)} : ∃ M, qcA fs = some (M, errF fs) ∧ (errF fs = 0 → Tab M (amt (pcs fs))) := by
 unfold qcA errF
 by_cases hl : 32 < fs.length
 ·rw [dec_t (show (32 : Int) < (fs.length : Int) by omega), if_pos hl]
  exact ⟨[], rfl, fun h => by cases h⟩
 ·rw [dec_f (show ¬ (32 : Int) < (fs.length : Int) by omega), if_neg hl]
  simp only [cond_false]
  have hOk : Ok (iter (fun x2 : Int × List Pc => qcn fs x2.1 x2.2) (0, [])) fun r => match r with | .inl M => fs.all vB = true ∧ Tab M (amt (pcs fs)) | .inr z => ¬ fs.all vB = true ∧ z = ([], 14) := by
   refine Ok.loop (fun x => ∃ (i : Nat) (M : List Pc), x = ((i : Int), M) ∧ i ≤ fs.length ∧ (∀ f ∈ fs.take i, VF f) ∧ Tab M (amt (pcs (fs.take i)))) (fun x => (fs.length - x.1).toNat) ⟨0, [], rfl, by omega, by simp, Tab.nil.cong fun _ => rfl⟩ ?_
   rintro _ ⟨i, M, rfl, h1, h2, h3⟩
   unfold qcn
   by_cases hi : i < fs.length
   ·rw [dec_t (show (i : Int) < (fs.length : Int) by omega)]
    simp only [cond_true, gd_t (inB_t hi), Int.toNat_natCast, (qja _).1, Option.bind_some]
    cases hv : vB (fs.getD i []) with
    | false =>
     refine Ok.ret ⟨fun ha => ?_, rfl⟩
     rw [List.all_eq_true.1 ha _ (qaL hi)] at hv; cases hv
    | true =>
     have hf := qkc.1 hv
     simp only [Bool.not_true, cond_false]
     generalize hfe : fs.getD i [] = f at hf
     have h2' : ∀ g ∈ fs.take (i + 1), VF g := by
      rw [qbI [] hi, hfe]
      intro g hg
      rcases List.mem_append.1 hg with hg | hg
      ·exact h2 g hg
      ·rw [List.mem_singleton.1 hg]; exact hf
     have hlt : (fs.take (i + 1)).length ≤ 32 := by rw [List.length_take]; omega
     have hamt := fun b => qln h2' hlt b
     rw [qmk hi, hfe] at hamt
     have key : iter (fun x : Int × List Pc => qbn fs (i : Int) x.1 x.2) (0, M) = iter (fun x : Int × List Pc => qbn fs (i : Int) x.1 x.2) (0, M) := rfl
     refine Ok.bind (Q := fun M' => Tab M' (amt (pcs (fs.take (i + 1))))) ?_ fun M' hM' => ?_
     ·refine Ok.loop (fun x => ∃ (k : Nat) (M' : List Pc), x = ((k : Int), M') ∧ k ≤ f.length ∧ Tab M' (amt (pcs (fs.take i) ++ f.take k))) (fun x => (f.length - x.1).toNat) ⟨0, M, rfl, by omega, by rw [List.take_zero, List.append_nil]; exact h3⟩ ?_
      rintro _ ⟨k, M', rfl, k1, k2⟩
      unfold qbn
      simp only [Int.toNat_natCast, hfe]
      by_cases hk : k < f.length
      ·rw [dec_t (show (k : Int) < (f.length : Int) by omega)]
       simp only [cond_true, gd_t (inB_t hk), k2.val]
       have hq := hf.norm.pos _ (qaL (d := pz) hk)
       have hq2 := (hf.rng _ (qaL (d := pz) hk)).2
       have hkl := hf.len
       have hb1 := qmj (L := pcs (fs.take i) ++ f.take k) (fun p hp => by
        rcases List.mem_append.1 hp with hp | hp
        ·have := (qoH h2 p hp).2; omega
        ·have := hf.norm.pos p (List.mem_of_mem_take hp); omega) (f.getD k pz).1
       have hb2 : amt (pcs (fs.take i) ++ f.take k) (f.getD k pz).1 ≤ 32000000 := by
        have := (hamt (f.getD k pz).1).2
        have h5 := qlo (L := f) (fun p hp => by have := hf.norm.pos p hp; omega) k (f.getD k pz).1
        rw [qdq] at this ⊢
        omega
       rw [show ((0, 0) : Pc) = pz from rfl, wi (by omega), wi (by omega)]
       refine Ok.ret ⟨⟨k + 1, _, rfl, by omega, ?_⟩, by simp only; omega⟩
       refine (k2.put (b := (f.getD k pz).1) (v := amt (pcs (fs.take i) ++ f.take k) (f.getD k pz).1 + (f.getD k pz).2) (by omega)).cong fun x => ?_
       rw [qbI pz hk, ← List.append_assoc, qdq (pcs (fs.take i) ++ f.take k), qfk]
       by_cases hx : x = (f.getD k pz).1
       ·rw [if_pos hx, if_pos hx, hx]
       ·rw [if_neg hx, if_neg hx, Int.add_zero]
      ·rw [dec_f (show ¬ (k : Int) < (f.length : Int) by omega)]
       refine Ok.ret ?_
       have hkk : k = f.length := by omega
       rw [qmk hi, hfe]
       rw [hkk, List.take_length] at k2
       exact k2
     ·refine Ok.ret ⟨⟨i + 1, M', ?_, by omega, h2', hM'⟩, by simp only; rw [wi (by omega)]; omega⟩
      rw [wi (by omega)]; rfl
   ·rw [dec_f (show ¬ (i : Int) < (fs.length : Int) by omega)]
    have hii : i = fs.length := by omega
    subst hii
    rw [List.take_length] at h2 h3
    exact Ok.ret ⟨List.all_eq_true.2 fun f hf => qkc.2 (h2 f hf), h3⟩
  obtain ⟨r, hr, hq⟩ := hOk
  rw [hr]
  cases r with
  | inl M =>
   rw [if_pos hq.1]
   exact ⟨M, rfl, fun _ => hq.2⟩
  | inr z =>
   rw [if_neg hq.1, hq.2]
   exact ⟨[], rfl, fun h => by cases h⟩
end Go.Proofs.Ytikmdoopfpnbbaa
namespace Go.Proofs.Ytikmdoopfpnbbaa
open Go Go.Sq
theorem qjd {fs : List (List Pc)} (h : errF fs = 0) : fs.length ≤ 32 ∧ ∀ f ∈ fs, VF f := by
 unfold errF at h
 split at h
 ·cases h
 ·split at h
  ·next h1 h2 => exact ⟨by omega, fun f hf => qkc.1 (List.all_eq_true.1 h2 f hf)⟩
  ·cases h
theorem Tab.add {M : List Pc} {g : Int → Int} (h : Tab M g) (k d : Int) : ∃ M', Tab M' fun b => g b + if b = k then d else 0 := by
 by_cases h0 : g k + d = 0
 ·refine ⟨_, (h.del (b := k) (v := 1)).cong fun x => ?_⟩
  by_cases hx : x = k
  ·subst hx; rw [if_pos rfl, if_pos rfl, h0]
  ·rw [if_neg hx, if_neg hx, Int.add_zero]
 ·refine ⟨_, (h.put (b := k) h0).cong fun x => ?_⟩
  by_cases hx : x = k
  ·subst hx; rw [if_pos rfl, if_pos rfl]
  ·rw [if_neg hx, if_neg hx, Int.add_zero]
theorem qoI {sg : Int} (hsg : sg = 1 ∨ sg = -1) : ∀ (c : List Pc) {M : List Pc} {g : Int → Int}, Tab M g → ∃ e, Tab e fun b => g b + sg * amt c b
 | [], M, g, h => ⟨M, h.cong fun x => by show _ = _ + sg * 0; rw [Int.mul_zero, Int.add_zero]⟩
 | p :: r, M, g, h => by
  obtain ⟨M', h'⟩ := h.add p.1 (sg * p.2)
  obtain ⟨e, he⟩ := qoI hsg r h'
  refine ⟨e, he.cong fun x => ?_⟩
  show _ = _ + sg * (_ + amt r x)
  rcases hsg with rfl | rfl <;> split <;> omega
theorem qoJ {before after : List (List Pc)} {vin out : List Pc} {v sg : Int} (hq : ([(before, 1), (after, (-1)), ([vin], 1), ([out], (-1))].getD v.toNat ([], 0)).2 = sg) (hsg : sg = 1 ∨ sg = -1) {c S : List Pc} {g : Int → Int} (hS : Tab S g) (hc : ∀ p ∈ c, 0 ≤ p.2)
  (hb : ∀ b, amt c b ≤ 32000000) (hg : ∀ b, -200000000 ≤ g b ∧ g b ≤ 200000000) : ∃ e, iterA (fun x : List Pc × List Pc => qcB before after vin out v x.1 x.2) (S, (0, 0) :: c) = some e ∧ Tab e fun b => g b + sg * amt c b := by
 obtain ⟨e, he⟩ := qoI hsg c hS
 refine ⟨e, ?_, he⟩
 refine qoD (fun x => Tab x.1 (fun b => g b + sg * amt c b - sg * amt x.2.tail b) ∧ (∀ p ∈ x.2.tail, 0 ≤ p.2) ∧ ∀ b, amt x.2.tail b ≤ amt c b) (fun x => x.2.tail.length) ⟨hS.cong fun x => ?_, hc, fun b => Int.le_refl _⟩ ?_ ?_
 ·show _ = _ - sg * amt c x; omega
 ·rintro ⟨S', v2⟩ _
  unfold qcB
  simp only
  cases h : v2.tail with
  | nil => simp [qgm]
  | cons p r => simp [qgm, List.range_succ]
 ·rintro ⟨S', v2⟩ ⟨h1, h2, h3⟩ o ho
  unfold qcB at ho
  simp only at h1 h2 h3 ho ⊢
  generalize v2.tail = L at h1 h2 h3 ho
  cases hL : L with
  | nil =>
   rw [hL] at h1 ho
   simp only [qgm, cond_true, List.mem_singleton] at ho
   right
   rw [ho, h1.uniq he fun x => by show _ - sg * 0 = _; omega]
  | cons p0 r0 =>
   rw [show qgm L = false by rw [hL]; rfl] at ho
   simp only [cond_false, List.mem_map, List.mem_range] at ho
   obtain ⟨i, hi, rfl⟩ := ho
   left
   have hLi : L[i]? = some (L.getD i (0, 0)) := by rw [List.getD_eq_getElem?_getD, List.getElem?_eq_getElem hi]; rfl
   simp only [qbH, List.headD_cons, hq, h1.val]
   generalize hp : L.getD i (0, 0) = p at hLi
   have hp2 := h2 p (List.mem_of_getElem? hLi)
   have hamt := qoG hLi
   have hsub : ∀ q ∈ L.eraseIdx i, 0 ≤ q.2 := fun q hq => h2 q (List.mem_of_mem_eraseIdx hq)
   have hnn := fun b => qmj hsub b
   have hle : ∀ b, amt (L.eraseIdx i) b ≤ amt c b := fun b => by
    have := h3 b
    rw [hamt b] at this
    split at this <;> omega
   have hlen : (L.eraseIdx i).length < L.length := by rw [List.length_eraseIdx, if_pos hi]; omega
   have hgp := hg p.1
   have hcp := hb p.1
   have hlp := h3 p.1
   have hap := hamt p.1
   rw [if_pos rfl] at hap
   have hnp := hnn p.1
   have w1 : wi64 (sg * p.2) = sg * p.2 := by rcases hsg with rfl | rfl <;> exact wi (by omega)
   have w2 : wi64 (g p.1 + sg * amt c p.1 - sg * amt L p.1 + sg * p.2) = g p.1 + sg * amt c p.1 - sg * amt L p.1 + sg * p.2 := by rcases hsg with rfl | rfl <;> exact wi (by omega)
   have hval : ∀ y : Int, (mget keyI (mput keyI S' p.1 y) p.1).getD 0 = y := fun y => by rw [qjb h1.srt, if_pos rfl]; rfl
   rw [w1, w2, hval]
   by_cases h0 : g p.1 + sg * amt c p.1 - sg * amt L p.1 + sg * p.2 = 0
   ·rw [dec_t h0]
    refine ⟨_, rfl, ⟨h1.del.cong fun x => ?_, hsub, hle⟩, ?_⟩
    ·simp only [List.tail_cons]
     by_cases hx : x = p.1
     ·rw [if_pos hx]
      subst hx
      rcases hsg with rfl | rfl <;> omega
     ·rw [if_neg hx]
      have := hamt x
      rw [if_neg hx] at this
      rcases hsg with rfl | rfl <;> omega
    ·rw [← hL]; exact hlen
   ·rw [dec_f h0]
    refine ⟨_, rfl, ⟨(h1.put h0).cong fun x => ?_, hsub, hle⟩, ?_⟩
    ·simp only [List.tail_cons]
     by_cases hx : x = p.1
     ·rw [if_pos hx]
      subst hx
      rcases hsg with rfl | rfl <;> omega
     ·rw [if_neg hx]
      have := hamt x
      rw [if_neg hx] at this
      rcases hsg with rfl | rfl <;> omega
    ·rw [← hL]; exact hlen
def balB (before after : List (List Pc)) (vin out : List Pc) : Bool := (List.range 1000).all fun b => decide (amt (pcs before) (b : Int) + amt (pcs [vin]) (b : Int) = amt (pcs after) (b : Int) + amt (pcs [out]) (b : Int))
def keptF (before after : List (List Pc)) (vin out : List Pc) : Bool × Int :=
 if errF before ≠ 0 then (false, errF before) else if errF after ≠ 0 then (false, errF after) else if errF [vin] ≠ 0 then (false, errF [vin]) else if errF [out] ≠ 0 then (false, errF [out]) else (balB before after vin out, 0)
theorem qq6 {L : List Pc} {b : Int} (h : ∀ p ∈ L, p.1 ≠ b) : amt L b = 0 := by
 induction L with
 | nil => rfl
 | cons p r ih =>
  show _ + amt r b = 0
  rw [if_neg (fun e => h p (by simp) e.symm), ih fun q hq => h q (by simp [hq])]; rfl
theorem qje {fs : List (List Pc)} (h : errF fs = 0) {b : Int} (hb : b < 0 ∨ 1000 ≤ b) : amt (pcs fs) b = 0 :=
 qq6 fun p hp => by have := (qoH (qjd h).2 p hp).1; omega
theorem qgE {before after : List (List Pc)} {vin out : List Pc} (h1 : errF before = 0) (h2 : errF after = 0) (h3 : errF [vin] = 0) (h4 : errF [out] = 0) :
  balB before after vin out = true ↔ ∀ b, amt (pcs before) b + amt (pcs [vin]) b = amt (pcs after) b + amt (pcs [out]) b := by
 unfold balB
 rw [qfI]
 constructor
 ·intro h b
  by_cases hb : b < 0 ∨ 1000 ≤ b
  ·rw [qje h1 hb, qje h2 hb, qje h3 hb, qje h4 hb]
  ·have := of_decide_eq_true (h b.toNat (by omega))
   rwa [show ((b.toNat : Nat) : Int) = b by omega] at this
 ·intro h i _; exact dec_t (h i)
theorem Tab.empty {M : List Pc} {g : Int → Int} (h : Tab M g) : M.length = 0 ↔ ∀ x, g x = 0 := by
 constructor
 ·intro hl x
  have := h.get x
  rw [List.eq_nil_of_length_eq_zero hl] at this
  by_cases hx : g x = 0
  ·exact hx
  ·rw [if_neg hx] at this; cases this
 ·intro hx
  cases M with
  | nil => rfl
  | cons p r =>
   have := h.get p.1
   rw [qar, if_pos rfl, if_pos (hx _)] at this; cases this
theorem qfS {before after : List (List Pc)} {vin out : List Pc} {v : Nat} {fs : List (List Pc)} {sg : Int} (hv : v < 4) (hq : [(before, 1), (after, (-1)), ([vin], 1), ([out], (-1))].getD v ([], 0) = (fs, sg)) (hsg : sg = 1 ∨ sg = -1) {S : List Pc} {g : Int → Int} (hS : Tab S g)
  (hg : ∀ b, -200000000 ≤ g b ∧ g b ≤ 200000000) : (errF fs ≠ 0 ∧ qbJ before after vin out (v : Int) S = some (.inr (.inr (false, errF fs)))) ∨ (errF fs = 0 ∧ ∃ e, qbJ before after vin out (v : Int) S = some (.inl (((v + 1 : Nat) : Int), e)) ∧ Tab e fun b => g b + sg * amt (pcs fs) b) := by
 obtain ⟨M, hM, ht⟩ := qna (fs := fs)
 unfold qbJ
 rw [show (([(before, 1), (after, (-1)), ([vin], 1), ([out], (-1))] : List (List (List Pc) × Int)).length : Int) = 4 from rfl, show ([(before, 1), (after, (-1)), ([vin], 1), ([out], (-1))] : List (List (List Pc) × Int)).length = 4 from rfl, dec_t (show (v : Int) < 4 by omega), gd_t (inB_t hv), Int.toNat_natCast, hq, hM]
 simp only [cond_true, Option.bind_some]
 by_cases h0 : errF fs = 0
 ·right
  refine ⟨h0, ?_⟩
  rw [dec_t h0]
  have T := ht h0
  obtain ⟨hl, hf⟩ := qjd h0
  have hamt := fun b => qln hf hl b
  obtain ⟨e, e1, e2⟩ := qoJ (before := before) (after := after) (vin := vin) (out := out) (v := (v : Int)) (sg := sg) (by rw [Int.toNat_natCast, hq]) hsg (c := M) hS (fun p hp => by
   have h1 := qmg T.srt hp
   rw [T.get] at h1
   split at h1
   ·cases h1
   ·injection h1 with h1; have := (hamt p.1).1; omega) (fun b => by rw [T.amt]; exact (hamt b).2) hg
  refine ⟨e, ?_, e2.cong fun b => by rw [T.amt]⟩
  simp only [Bool.not_true, cond_false]
  exact qld e1 (by rw [wi (by omega)]; rfl)
 ·left
  refine ⟨h0, ?_⟩
  rw [dec_f h0]; rfl
theorem qlp (before after : List (List Pc)) (vin out : List Pc) : qcO before after vin out = some (keptF before after vin out) := by
 unfold qcO keptF
 have bd : ∀ {fs : List (List Pc)}, errF fs = 0 → ∀ b, 0 ≤ amt (pcs fs) b ∧ amt (pcs fs) b ≤ 32000000 := fun h b => qln (qjd h).2 (qjd h).1 b
 rcases qfS (before := before) (after := after) (vin := vin) (out := out) (v := 0) (by omega) rfl (.inl rfl) Tab.nil (fun b => by omega) with ⟨h1, k1⟩ | ⟨h1, e1, k1, t1⟩
 ·rw [if_pos h1, show ((0 : Int), ([] : List Pc)) = (((0 : Nat) : Int), []) from rfl, qbl k1]; rfl
 rw [if_neg (fun h => h h1), show ((0 : Int), ([] : List Pc)) = (((0 : Nat) : Int), []) from rfl, qcz k1]
 have b1 := bd h1
 rcases qfS (before := before) (after := after) (vin := vin) (out := out) (v := 1) (by omega) rfl (.inr rfl) t1 (fun b => by have := b1 b; omega) with ⟨h2, k2⟩ | ⟨h2, e2, k2, t2⟩
 ·rw [if_pos h2, qbl k2]; rfl
 rw [if_neg (fun h => h h2), qcz k2]
 have b2 := bd h2
 rcases qfS (before := before) (after := after) (vin := vin) (out := out) (v := 2) (by omega) rfl (.inl rfl) t2 (fun b => by have := b1 b; have := b2 b; omega) with ⟨h3, k3⟩ | ⟨h3, e3, k3, t3⟩
 ·rw [if_pos h3, qbl k3]; rfl
 rw [if_neg (fun h => h h3), qcz k3]
 have b3 := bd h3
 rcases qfS (before := before) (after := after) (vin := vin) (out := out) (v := 3) (by omega) rfl (.inr rfl) t3 (fun b => by have := b1 b; have := b2 b; have := b3 b; omega) with ⟨h4, k4⟩ | ⟨h4, e4, k4, t4⟩
 ·rw [if_pos h4, qbl k4]; rfl
 rw [if_neg (fun h => h h4), qcz k4]
 have k5 : qbJ before after vin out ((3 + 1 : Nat) : Int) e4 = some (.inr (.inl e4)) := rfl
 rw [qbl k5]
 simp only [Option.bind_some, Sum.elim_inl]
 have : decide ((e4.length : Int) = 0) = balB before after vin out := by
  cases hb : balB before after vin out with
  | true =>
   have hb := (qgE h1 h2 h3 h4).1 hb
   refine dec_t ?_
   have := (t4.empty).2 fun x => by have := hb x; omega
   omega
  | false =>
   refine dec_f fun hl => ?_
   have hb2 : balB before after vin out = true := (qgE h1 h2 h3 h4).2 fun x => by
    have := (t4.empty).1 (by omega) x
    omega
   rw [hb] at hb2; cases hb2
 rw [this]
/-! ### The greatest batch -/
end Go.Proofs.Ytikmdoopfpnbbaa
