/- Sums over numbers below a bound, and lists of those of a kind. No condition. -/
import Derived.Test.YtikmdoopfpnbbaaMx4
namespace Go.Proofs.Ytikmdoopfpnbbaa
open Go Go.Sq
theorem qhQ {a b c d : Nat → Int} : ∀ n : Nat, (∀ i, i < n → a i = b i + c i - d i) → sumTo a n = sumTo b n + sumTo c n - sumTo d n
 | 0, _ => rfl
 | n + 1, h => by
  have := qhQ n fun i hi => h i (by omega)
  have h0 := h n (by omega)
  show sumTo a n + a n = (sumTo b n + b n) + (sumTo c n + c n) - (sumTo d n + d n)
  omega
theorem qjm {a : Nat → Int} (m : Nat) : ∀ n : Nat, sumTo a (m + n) = sumTo a m + sumTo (fun j => a (m + j)) n
 | 0 => by show sumTo a m = sumTo a m + 0; omega
 | n + 1 => by
  have := qjm (a := a) m n
  show sumTo a (m + n) + a (m + n) = sumTo a m + (sumTo (fun j => a (m + j)) n + a (m + n))
  omega
theorem st_le {a b : Nat → Int} : ∀ n : Nat, (∀ i, i < n → a i ≤ b i) → sumTo a n ≤ sumTo b n
 | 0, _ => Int.le_refl _
 | n + 1, h => by
  have := st_le n fun i hi => h i (by omega)
  have h0 := h n (by omega)
  show sumTo a n + a n ≤ sumTo b n + b n
  omega
theorem qrd {a : Nat → Int} {n : Nat} (h : ∀ i, i < n → 0 ≤ a i) {k : Nat} (hk : k < n) : a k ≤ sumTo a n := by
 induction n with
 | zero => omega
 | succ n ih =>
  have h0 : 0 ≤ sumTo a n := by
   have := st_le (a := fun _ => 0) (b := a) n (fun i hi => h i (by omega))
   rw [qas n (fun _ _ => rfl)] at this; exact this
  show a k ≤ sumTo a n + a n
  have hn := h n (by omega)
  by_cases e : k = n
  ·subst e; omega
  ·have := ih (fun i hi => h i (by omega)) (by omega); omega
theorem qoU {f : Nat → Nat → Int} (m : Nat) : ∀ n : Nat, sumTo (fun i => sumTo (f i) m) n = sumTo (fun j => sumTo (fun i => f i j) n) m
 | 0 => (qas m (fun _ _ => rfl)).symm
 | n + 1 => by
  have := qoU (f := f) m n
  have h2 := qhQ (a := fun j => sumTo (fun i => f i j) (n + 1)) (b := fun j => sumTo (fun i => f i j) n) (c := fun j => f n j) (d := fun _ => 0) m (fun j _ => by show sumTo (fun i => f i j) n + f n j = _; omega)
  rw [qas (f := fun _ => 0) m (fun _ _ => rfl)] at h2
  rw [h2]
  show sumTo (fun i => sumTo (f i) m) n + sumTo (f n) m = _
  rw [this]
  show _ = _ + sumTo (f n) m - 0
  omega
theorem qdY {A : Type} (f : Nat → List A) (k : Nat) : fm f (k + 1) = fm f k ++ f k := qeC f k
theorem qls {A : Type} (l : List A) (g : A → Int) (d : A) : isum (l.map g) = sumTo (fun j => g (l.getD j d)) l.length := by
 induction l with
 | nil => rfl
 | cons x l ih =>
  rw [List.map_cons, qav, ih, List.length_cons, show l.length + 1 = 1 + l.length by omega, qjm]
  show _ = (0 + g x) + _
  rw [Int.zero_add]
  congr 1
  exact qat _ fun j _ => by rw [show 1 + j = j + 1 by omega, List.getD_cons_succ]
theorem qkj (f : Nat → List Pc) (b : Int) : ∀ k, amt (fm f k) b = sumTo (fun i => amt (f i) b) k
 | 0 => rfl
 | k + 1 => by rw [qdY, qdq, qkj f b k]; rfl
theorem qoV (f : Nat → List Pc) : ∀ k, tot (fm f k) = sumTo (fun i => tot (f i)) k
 | 0 => rfl
 | k + 1 => by rw [qdY, tot_app', qoV f k]; rfl
theorem qhR (f : Nat → List Int) : ∀ k, isum (fm f k) = sumTo (fun i => isum (f i)) k
 | 0 => rfl
 | k + 1 => by rw [qdY, qdd, qhR f k]; rfl
theorem qkk {A : Type} {f : Nat → List A} {x : A} {k : Nat} (h : x ∈ fm f k) : ∃ i, i < k ∧ x ∈ f i := by
 obtain ⟨i, h1, h2⟩ := List.mem_flatMap.1 h
 exact ⟨i, List.mem_range.1 h1, h2⟩
structure Enum (c : Nat → Prop) (f : Nat → Int) (k : Nat) (T R : List Int) : Prop where
 len : R.length = T.length
 le : T.length ≤ k
 at' : ∀ j, j < T.length → ∃ q : Nat, q < k ∧ c q ∧ T.getD j 0 = (q : Int) ∧ R.getD j 0 = f q
 inc : ∀ i j, i < j → j < T.length → T.getD i 0 < T.getD j 0
 all : ∀ q : Nat, q < k → c q → ∃ j, j < T.length ∧ T.getD j 0 = (q : Int)
theorem qdr {A : Type} (l : List A) (x d : A) (j : Nat) : (l ++ [x]).getD j d = if j < l.length then l.getD j d else if j = l.length then x else d := by
 rw [List.getD_eq_getElem?_getD, List.getD_eq_getElem?_getD]
 by_cases h : j < l.length
 ·rw [if_pos h, List.getElem?_append_left h]
 ·rw [if_neg h, List.getElem?_append_right (by omega)]
  by_cases e : j = l.length
  ·subst e; rw [if_pos rfl]; simp
  ·rw [if_neg e, List.getElem?_eq_none (by simp; omega)]; rfl
theorem qhS (c : Nat → Prop) [DecidablePred c] (f : Nat → Int) : ∀ k, Enum c f k (fm (fun q => if c q then [(q : Int)] else []) k) (fm (fun q => if c q then [f q] else []) k)
 | 0 => ⟨rfl, Nat.le_refl _, fun j h => by simp at h, fun i j _ h => by simp at h, fun q h => by omega⟩
 | k + 1 => by
  have ih := qhS c f k
  rw [qdY, qdY]
  generalize fm (fun q => if c q then [(q : Int)] else []) k = T at ih ⊢
  generalize fm (fun q => if c q then [f q] else []) k = R at ih ⊢
  have hl := ih.le
  by_cases hc : c k
  ·rw [if_pos hc, if_pos hc]
   refine ⟨by simp [ih.len], by simp; omega, fun j hj => ?_, fun i j hij hj => ?_, fun q hq hcq => ?_⟩
   ·rw [qdr, qdr, ih.len]
    by_cases h : j < T.length
    ·rw [if_pos h, if_pos h]
     obtain ⟨q, a1, a2⟩ := ih.at' j h
     exact ⟨q, by omega, a2⟩
    ·have : j = T.length := by simp at hj; omega
     rw [if_neg h, if_neg h, if_pos this, if_pos this]
     exact ⟨k, by omega, hc, rfl, rfl⟩
   ·rw [qdr, qdr]
    simp at hj
    rw [if_pos (by omega)]
    by_cases h : j < T.length
    ·rw [if_pos h]; exact ih.inc i j hij h
    ·rw [if_neg h, if_pos (by omega)]
     obtain ⟨q, a1, -, a3, -⟩ := ih.at' i (by omega)
     omega
   ·by_cases e : q = k
    ·subst e
     exact ⟨T.length, by simp, by rw [qdr, if_neg (by omega), if_pos rfl]⟩
    ·obtain ⟨j, a1, a2⟩ := ih.all q (by omega) hcq
     exact ⟨j, by simp; omega, by rw [qdr, if_pos a1]; exact a2⟩
  ·rw [if_neg hc, if_neg hc, List.append_nil, List.append_nil]
   refine ⟨ih.len, by omega, fun j hj => ?_, ih.inc, fun q hq hcq => ?_⟩
   ·obtain ⟨q, a1, a2⟩ := ih.at' j hj
    exact ⟨q, by omega, a2⟩
   ·by_cases e : q = k
    ·subst e; exact absurd hcq hc
    ·exact ih.all q (by omega) hcq
theorem qjn (c : Nat → Prop) [DecidablePred c] (h : Nat → Int) : ∀ k, sumTo (fun j => h ((fm (fun q => if c q then [(q : Int)] else []) k).getD j 0).toNat) (fm (fun q => if c q then [(q : Int)] else []) k).length = sumTo (fun q => if c q then h q else 0) k
 | 0 => rfl
 | k + 1 => by
  have ih := qjn c h k
  rw [qdY]
  generalize fm (fun q => if c q then [(q : Int)] else []) k = T at ih ⊢
  show _ = sumTo (fun q => if c q then h q else 0) k + (if c k then h k else 0)
  rw [← ih]
  by_cases hc : c k
  ·rw [if_pos hc, if_pos hc, List.length_append]
   show sumTo _ T.length + _ = _
   congr 1
   ·exact qat _ fun j hj => by rw [qdr, if_pos hj]
   ·show h ((T ++ [(k : Int)]).getD T.length 0).toNat = h k
    rw [qdr, if_neg (by omega), if_pos rfl, Int.toNat_natCast]
  ·rw [if_neg hc, if_neg hc, List.append_nil]; omega
theorem Enum.idx {c : Nat → Prop} {f : Nat → Int} {k : Nat} {T R : List Int} (h : Enum c f k T R) : Idx T k :=
 ⟨fun j hj => by obtain ⟨q, a1, -, a3, -⟩ := h.at' j hj; omega, fun i j hij hj => by have := h.inc i j hij hj; omega⟩
end Go.Proofs.Ytikmdoopfpnbbaa
namespace Go.Proofs.Ytikmdoopfpnbbaa
open Go Go.Sq
def feedB (p : Pl) (feeds : List Int) (q : Nat) (b : Int) : Int := if 0 < prate p q then (if b = feeds.getD q 0 then prate p q else 0) else 0
def cntIn (n : Net) (p : Pl) (v : Int) : Int := sumTo (fun i => if tow n p i = v then 1 else 0) n.2.1.length
def okc (f : List Pc) : Prop := ∀ c ∈ exp f, 0 ≤ c ∧ c ≤ 999
structure TE (n : Net) (p : Pl) (feeds : List Int) (fills : List (List Pc)) (O : List Int) : Prop where
 hb : RB p
 h1 : p.1.length = n.2.1.length
 h2 : p.2.1.length = n.2.2.1.length
 hf : feeds.length = n.2.2.1.length
 hl : fills.length = n.2.1.length
 n24 : n.1.length ≤ 24
 s8 : n.2.1.length ≤ 8
 q6 : n.2.2.1.length ≤ 6
 fv : ∀ i, i < n.2.1.length → VF (fills.getD i []) ∧ (fills.getD i []).length ≤ 12 ∧ amtR (rate p i) ≤ tot (fills.getD i [])
 fe : ∀ q, q < n.2.2.1.length → 0 ≤ feeds.getD q 0 ∧ feeds.getD q 0 ≤ 999
 bal : ∀ k : Int, 0 ≤ k → k < n.1.length → comeF n p k = qhM n p k
 pd : ∀ q r, q < n.2.2.1.length → r < n.2.2.1.length → pnode n q = pnode n r → q = r
 ord : Ord n p O
structure TI (n : Net) (p : Pl) (feeds : List Int) (fills : List (List Pc)) (D : List Int) (next ports given : List (List Pc)) : Prop where
 ln : next.length = n.2.1.length
 lp : ports.length = n.2.2.1.length
 lg : given.length = n.2.1.length
 s0 : ∀ i, i < n.2.1.length → (frm n p i ∉ D ∨ rate p i = 0) → next.getD i [] = fills.getD i [] ∧ given.getD i [] = []
 s1 : ∀ i, i < n.2.1.length → frm n p i ∈ D → rate p i ≠ 0 → (Norm (given.getD i []) ∧ (given.getD i []).length ≤ 12 ∧ ((exp (given.getD i [])).length : Int) = amtR (rate p i) ∧ okc (given.getD i [])) ∧ Norm (next.getD i []) ∧ (next.getD i []).length ≤ 200 ∧ ((exp (next.getD i [])).length : Int) = tot (fills.getD i []) ∧ okc (next.getD i [])
 p0 : ∀ q, q < n.2.2.1.length → (pnode n q ∉ D ∨ 0 ≤ prate p q) → ports.getD q [] = []
 p1 : ∀ q, q < n.2.2.1.length → Norm (ports.getD q []) ∧ ((ports.getD q []).length : Int) ≤ 12 * cntIn n p (pnode n q) ∧ (exp (ports.getD q [])).length ≤ 1000 ∧ okc (ports.getD q [])
 sum : ∀ b, sumTo (fun i => amt (next.getD i []) b) n.2.1.length + sumTo (fun q => amt (ports.getD q []) b) n.2.2.1.length + sumTo (fun i => if tow n p i ∈ D then 0 else amt (given.getD i []) b) n.2.1.length = sumTo (fun i => amt (fills.getD i []) b) n.2.1.length + sumTo (fun q => if pnode n q ∈ D then feedB p feeds q b else 0) n.2.2.1.length
theorem qfV {A : Type} {l : List A} {i : Nat} (h : ¬ i < l.length) (d : A) : l.getD i d = d := by
 rw [List.getD_eq_getElem?_getD, List.getElem?_eq_none (by omega)]; rfl
theorem qjo {f : List Pc} (h : Norm f) : tot f = ((exp f).length : Int) := (qex fun p hp => by have := h.pos p hp; omega).symm
theorem qjp {f : List Pc} (h : Norm f) {p : Pc} (hp : p ∈ f) : 1 ≤ p.2 ∧ p.2 ≤ ((exp f).length : Int) := by
 have := h.pos p hp; have := qli hp; omega
theorem qoW {r : Int} (h : -1000 ≤ r ∧ r ≤ 1000) : 0 ≤ amtR r ∧ amtR r ≤ 1000 := by unfold amtR; omega
theorem qjq {r : Int} (h : r ≠ 0) : 1 ≤ amtR r := by unfold amtR; omega
section
variable {n : Net} {p : Pl} {feeds : List Int} {fills : List (List Pc)} {O : List Int} {next ports given : List (List Pc)} {k : Nat}
theorem qbQ (hk : k < O.length) (x : Int) : x ∈ O.take (k + 1) ↔ x ∈ O.take k ∨ x = O.getD k 0 := by
 rw [List.take_succ_eq_append_getElem hk, List.mem_append, List.mem_singleton, gD_eq hk]
theorem qlt (E : TE n p feeds fills O) (hk : k < O.length) (h : TI n p feeds fills (O.take k) next ports given) :
  ((fm (pS1 n p feeds (O.getD k 0)) n.2.2.1.length ++ fm (sS1 n p given (O.getD k 0)) n.2.1.length).length ≤ 102 ∧ (∀ x ∈ fm (pS1 n p feeds (O.getD k 0)) n.2.2.1.length ++ fm (sS1 n p given (O.getD k 0)) n.2.1.length, (0 ≤ x.1 ∧ x.1 ≤ 999) ∧ 1 ≤ x.2 ∧ x.2 ≤ 1000)) ∧
  (∀ b, amt (fm (pS1 n p feeds (O.getD k 0)) n.2.2.1.length ++ fm (sS1 n p given (O.getD k 0)) n.2.1.length) b = sumTo (fun q => if pnode n q = O.getD k 0 then feedB p feeds q b else 0) n.2.2.1.length + sumTo (fun i => if tow n p i = O.getD k 0 then amt (given.getD i []) b else 0) n.2.1.length) ∧
  tot (fm (pS1 n p feeds (O.getD k 0)) n.2.2.1.length ++ fm (sS1 n p given (O.getD k 0)) n.2.1.length) = isum (fm (pR1 n p (O.getD k 0)) n.2.2.1.length ++ fm (sR1 n p (O.getD k 0)) n.2.1.length) ∧
  (∀ i, i < n.2.1.length → rate p i ≠ 0 → tow n p i = O.getD k 0 → frm n p i ∈ O.take k) := by
 have up : ∀ i, i < n.2.1.length → rate p i ≠ 0 → tow n p i = O.getD k 0 → frm n p i ∈ O.take k := fun i hi hr hw => E.ord.up k hk i hi hr hw
 have glen : ∀ i, (sS1 n p given (O.getD k 0) i).length ≤ 12 := by
  intro i
  unfold sS1
  split
  ·rename_i hc
   by_cases hi : i < n.2.1.length
   ·exact (h.s1 i hi (up i hi hc.1 hc.2) hc.1).1.2.1
   ·rw [qfV (by rw [h.lg]; exact hi)]; simp
  ·simp
 refine ⟨⟨?_, fun x hx => ?_⟩, fun b => ?_, ?_, up⟩
 ·have a1 : (fm (pS1 n p feeds (O.getD k 0)) n.2.2.1.length).length ≤ 1 * n.2.2.1.length := qdi (fun i => by unfold pS1; split <;> simp) _
  have a2 : (fm (sS1 n p given (O.getD k 0)) n.2.1.length).length ≤ _ := qdi glen n.2.1.length
  have := E.s8; have := E.q6
  rw [List.length_append]
  omega
 ·rcases List.mem_append.1 hx with hx | hx
  ·obtain ⟨q, hq, hx⟩ := qkk hx
   unfold pS1 at hx
   split at hx
   ·rename_i hc
    rw [List.mem_singleton.1 hx]
    have := E.fe q hq; have := E.hb.q q
    exact ⟨this.1 |> fun _ => E.fe q hq, by have := hc.2; simp only; omega⟩
   ·simp at hx
  ·obtain ⟨i, hi, hx⟩ := qkk hx
   unfold sS1 at hx
   split at hx
   ·rename_i hc
    obtain ⟨⟨g1, g2, g3, g4⟩, -⟩ := h.s1 i hi (up i hi hc.1 hc.2) hc.1
    have hm := qjp g1 hx
    have := qoW (E.hb.s i)
    exact ⟨g4 _ (qf7 hx hm.1), by omega⟩
   ·simp at hx
 ·rw [qdq, qkj, qkj]
  congr 1
  ·refine qat _ fun q hq => ?_
   unfold pS1 feedB
   by_cases h1 : pnode n q = O.getD k 0
   ·rw [if_pos h1]
    by_cases h2 : 0 < prate p q
    ·rw [if_pos ⟨h1, h2⟩, if_pos h2, qfk]
    ·rw [if_neg (fun h => h2 h.2), if_neg h2]; rfl
   ·rw [if_neg (fun h => h1 h.1), if_neg h1]; rfl
  ·refine qat _ fun i hi => ?_
   unfold sS1
   by_cases h1 : tow n p i = O.getD k 0
   ·rw [if_pos h1]
    by_cases h2 : rate p i = 0
    ·rw [if_neg (fun h => h.1 h2), (h.s0 i hi (.inr h2)).2]
    ·rw [if_pos ⟨h2, h1⟩]
   ·rw [if_neg (fun h => h1 h.2), if_neg h1]; rfl
 ·rw [tot_app', qdd, qoV, qoV, qhR, qhR]
  have hr := E.ord.rng k hk
  have hbal := E.bal _ hr.1 hr.2
  unfold comeF qhM at hbal
  have e1 : sumTo (fun q => tot (pS1 n p feeds (O.getD k 0) q)) n.2.2.1.length = sumTo (qd6 n p (O.getD k 0)) n.2.2.1.length := qat _ fun q hq => by
   unfold pS1 qd6
   by_cases h1 : pnode n q = O.getD k 0
   ·have h1' : (n.2.2.1.getD q po0).2.1 = O.getD k 0 := h1
    rw [if_pos h1']
    by_cases h2 : 0 < prate p q
    ·rw [if_pos ⟨h1, h2⟩, qf8]; simp only; omega
    ·rw [if_neg (fun h => h2 h.2)]; show (0 : Int) = _; omega
   ·have h1' : ¬ (n.2.2.1.getD q po0).2.1 = O.getD k 0 := h1
    rw [if_neg (fun h => h1 h.1), if_neg h1']; rfl
  have e2 : sumTo (fun i => tot (sS1 n p given (O.getD k 0) i)) n.2.1.length = sumTo (segIn n p (O.getD k 0)) n.2.1.length := qat _ fun i hi => by
   unfold sS1 segIn
   by_cases h1 : tow n p i = O.getD k 0
   ·rw [if_pos h1]
    by_cases h2 : rate p i = 0
    ·rw [if_neg (fun h => h.1 h2), h2]; rfl
    ·rw [if_pos ⟨h2, h1⟩]
     obtain ⟨⟨g1, g2, g3, g4⟩, -⟩ := h.s1 i hi (up i hi h2 h1) h2
     rw [qjo g1, g3]
   ·rw [if_neg (fun h => h1 h.2), if_neg h1]; rfl
  have e3 : sumTo (fun q => isum (pR1 n p (O.getD k 0) q)) n.2.2.1.length = sumTo (qcr n p (O.getD k 0)) n.2.2.1.length := qat _ fun q hq => by
   unfold pR1 qcr
   by_cases h1 : pnode n q = O.getD k 0
   ·have h1' : (n.2.2.1.getD q po0).2.1 = O.getD k 0 := h1
    rw [if_pos h1']
    by_cases h2 : prate p q < 0
    ·rw [if_pos ⟨h1, h2⟩, qav]; show _ + (0 : Int) = _; omega
    ·rw [if_neg (fun h => h2 h.2)]; show (0 : Int) = _; omega
   ·have h1' : ¬ (n.2.2.1.getD q po0).2.1 = O.getD k 0 := h1
    rw [if_neg (fun h => h1 h.1), if_neg h1']; rfl
  have e4 : sumTo (fun i => isum (sR1 n p (O.getD k 0) i)) n.2.1.length = sumTo (qa9 n p (O.getD k 0)) n.2.1.length := qat _ fun i hi => by
   unfold sR1 qa9
   by_cases h1 : frm n p i = O.getD k 0
   ·rw [if_pos h1]
    by_cases h2 : rate p i = 0
    ·rw [if_neg (fun h => h.1 h2), h2]; rfl
    ·rw [if_pos ⟨h2, h1⟩, qav]; show _ + (0 : Int) = _; omega
   ·rw [if_neg (fun h => h1 h.2), if_neg h1]; rfl
  rw [e1, e2, e3, e4]; omega
theorem qmu (hk : k < O.length) (hn : O.getD k 0 ∉ O.take k) (b : Int) : sumTo (fun q => if pnode n q ∈ O.take (k + 1) then feedB p feeds q b else 0) n.2.2.1.length = sumTo (fun q => if pnode n q ∈ O.take k then feedB p feeds q b else 0) n.2.2.1.length + sumTo (fun q => if pnode n q = O.getD k 0 then feedB p feeds q b else 0) n.2.2.1.length := by
 have := qhQ (a := fun q => if pnode n q ∈ O.take (k + 1) then feedB p feeds q b else 0) (b := fun q => if pnode n q ∈ O.take k then feedB p feeds q b else 0) (c := fun q => if pnode n q = O.getD k 0 then feedB p feeds q b else 0) (d := fun _ => 0) n.2.2.1.length (fun q _ => by
  simp only [qbQ hk]
  by_cases h1 : pnode n q ∈ O.take k
  ·have h2 : ¬ pnode n q = O.getD k 0 := fun e => hn (e ▸ h1)
   rw [if_pos (.inl h1), if_pos h1, if_neg h2]; omega
  ·by_cases h2 : pnode n q = O.getD k 0
   ·rw [if_pos (.inr h2), if_neg h1, if_pos h2]; omega
   ·rw [if_neg (fun h => h.elim h1 h2), if_neg h1, if_neg h2]; omega)
 rw [qas (f := fun _ => 0) _ (fun _ _ => rfl)] at this
 omega
theorem qoX (E : TE n p feeds fills O) (hk : k < O.length) (h : TI n p feeds fills (O.take k) next ports given)
  (hx : fm (pS1 n p feeds (O.getD k 0)) n.2.2.1.length ++ fm (sS1 n p given (O.getD k 0)) n.2.1.length = []) : TI n p feeds fills (O.take (k + 1)) next ports given := by
 obtain ⟨-, c2, c3, c4⟩ := qlt E hk h
 have hn := E.ord.new k hk
 rw [hx] at c2 c3
 refine ⟨h.ln, h.lp, h.lg, fun i hi hc => h.s0 i hi (hc.imp (fun h h' => h ((qbQ hk _).2 (.inl h'))) id), fun i hi hc hr => ?_, fun q hq hc => h.p0 q hq (hc.imp (fun h h' => h ((qbQ hk _).2 (.inl h'))) id), h.p1, fun b => ?_⟩
 ·rcases (qbQ hk _).1 hc with hc | hc
  ·exact h.s1 i hi hc hr
  ·exfalso
   have h3 : isum (fm (pR1 n p (O.getD k 0)) n.2.2.1.length) + isum (fm (sR1 n p (O.getD k 0)) n.2.1.length) = 0 := by rw [← qdd, ← c3]; rfl
   rw [qhR, qhR] at h3
   have hp1 : ∀ q, 0 ≤ isum (pR1 n p (O.getD k 0) q) := fun q => by
    unfold pR1; split
    ·rename_i hh; rw [qav]; show 0 ≤ _ + (0 : Int); omega
    ·exact Int.le_refl _
   have hp2 : ∀ i, 0 ≤ isum (sR1 n p (O.getD k 0) i) := fun i => by
    unfold sR1; split
    ·rename_i hh; have := qjq hh.1; rw [qav]; show 0 ≤ _ + (0 : Int); omega
    ·exact Int.le_refl _
   have q1 := st_le (a := fun _ => 0) (b := fun q => isum (pR1 n p (O.getD k 0) q)) n.2.2.1.length (fun q _ => hp1 q)
   rw [qas (f := fun _ => 0) _ (fun _ _ => rfl)] at q1
   have q2 := qrd (a := fun i => isum (sR1 n p (O.getD k 0) i)) (n := n.2.1.length) (fun i _ => hp2 i) hi
   have q3 : isum (sR1 n p (O.getD k 0) i) = amtR (rate p i) := by
    unfold sR1; rw [if_pos ⟨hr, hc⟩, qav]; show _ + (0 : Int) = _; omega
   have := qjq hr
   rw [q3] at q2
   omega
 ·have hs := h.sum b
  have hf := qmu (n := n) (p := p) (feeds := feeds) hk hn b
  have hg := qhQ (a := fun i => if tow n p i ∈ O.take (k + 1) then 0 else amt (given.getD i []) b) (b := fun i => if tow n p i ∈ O.take k then 0 else amt (given.getD i []) b) (c := fun _ => 0) (d := fun i => if tow n p i = O.getD k 0 then amt (given.getD i []) b else 0) n.2.1.length (fun i _ => by
   simp only [qbQ hk]
   by_cases h1 : tow n p i ∈ O.take k
   ·have h2 : ¬ tow n p i = O.getD k 0 := fun e => hn (e ▸ h1)
    rw [if_pos (.inl h1), if_pos h1, if_neg h2]; omega
   ·by_cases h2 : tow n p i = O.getD k 0
    ·rw [if_pos (.inr h2), if_neg h1, if_pos h2]; omega
    ·rw [if_neg (fun h => h.elim h1 h2), if_neg h1, if_neg h2]; omega)
  rw [qas (f := fun _ => 0) _ (fun _ _ => rfl)] at hg
  have hc := c2 b
  have h0 : amt ([] : List Pc) b = 0 := rfl
  rw [h0] at hc
  rw [hf, hg]; omega
end
end Go.Proofs.Ytikmdoopfpnbbaa
namespace Go.Proofs.Ytikmdoopfpnbbaa
open Go Go.Sq
theorem qoY {A : Type} (f : Nat → List A) : ∀ k, ((fm f k).length : Int) = sumTo (fun i => ((f i).length : Int)) k
 | 0 => rfl
 | k + 1 => by rw [qdY, List.length_append, Int.natCast_add, qoY f k]; rfl
theorem qoZ {f : Nat → Int} (m : Int) : ∀ n : Nat, sumTo (fun i => m * f i) n = m * sumTo f n
 | 0 => by show (0 : Int) = m * 0; omega
 | n + 1 => by
  have := qoZ (f := f) m n
  show sumTo (fun i => m * f i) n + m * f n = m * (sumTo f n + f n)
  rw [this, Int.mul_add]
section
variable {n : Net} {p : Pl} {feeds : List Int} {fills : List (List Pc)} {O : List Int} {next ports given : List (List Pc)} {k : Nat}
theorem qo0 (E : TE n p feeds fills O) (hk : k < O.length) (h : TI n p feeds fills (O.take k) next ports given) {rows : List (List Pc)} {X : List Pc}
  (hX : X = fm (pS1 n p feeds (O.getD k 0)) n.2.2.1.length ++ fm (sS1 n p given (O.getD k 0)) n.2.1.length)
  (r1 : rows.length = (fm (pR1 n p (O.getD k 0)) n.2.2.1.length ++ fm (sR1 n p (O.getD k 0)) n.2.1.length).length)
  (r2 : ∀ r ∈ rows, Norm r ∧ ∀ c ∈ exp r, ∃ q ∈ joinF X, q.1 = c)
  (r3 : ∀ b, amt (pcs rows) b = amt (joinF X) b)
  (r4 : ∀ j, j < rows.length → ((exp (rows.getD j [])).length : Int) = (fm (pR1 n p (O.getD k 0)) n.2.2.1.length ++ fm (sR1 n p (O.getD k 0)) n.2.1.length).getD j 0 ∧ (rows.getD j []).length ≤ (joinF X).length)
  {next' ports' given' : List (List Pc)}
  (o1 : ports'.length = ports.length) (o2 : ∀ j, j < (fm (pT1 n p (O.getD k 0)) n.2.2.1.length).length → ports'.getD ((fm (pT1 n p (O.getD k 0)) n.2.2.1.length).getD j 0).toNat [] = rows.getD j [])
  (o3 : ∀ q : Nat, (∀ j, j < (fm (pT1 n p (O.getD k 0)) n.2.2.1.length).length → (fm (pT1 n p (O.getD k 0)) n.2.2.1.length).getD j 0 ≠ q) → ports'.getD q [] = ports.getD q [])
  (i1 : next'.length = n.2.1.length) (i2 : given'.length = n.2.1.length)
  (i3 : ∀ j, j < (fm (sT1 n p (O.getD k 0)) n.2.1.length).length → ShfN (next.getD ((fm (sT1 n p (O.getD k 0)) n.2.1.length).getD j 0).toNat []) (rows.getD ((fm (pT1 n p (O.getD k 0)) n.2.2.1.length).length + j) []) (next'.getD ((fm (sT1 n p (O.getD k 0)) n.2.1.length).getD j 0).toNat []) (given'.getD ((fm (sT1 n p (O.getD k 0)) n.2.1.length).getD j 0).toNat []))
  (i4 : ∀ i : Nat, (∀ j, j < (fm (sT1 n p (O.getD k 0)) n.2.1.length).length → (fm (sT1 n p (O.getD k 0)) n.2.1.length).getD j 0 ≠ i) → next'.getD i [] = next.getD i [] ∧ given'.getD i [] = given.getD i []) :
  TI n p feeds fills (O.take (k + 1)) next' ports' given' := by
 obtain ⟨c1, c2, c3, c4⟩ := qlt E hk h
 rw [← hX] at c1 c2 c3
 have hn := E.ord.new k hk
 have EP : Enum (fun q => pnode n q = O.getD k 0 ∧ prate p q < 0) (fun q => 0 - prate p q) n.2.2.1.length (fm (pT1 n p (O.getD k 0)) n.2.2.1.length) (fm (pR1 n p (O.getD k 0)) n.2.2.1.length) := qhS (fun q => pnode n q = O.getD k 0 ∧ prate p q < 0) (fun q => 0 - prate p q) n.2.2.1.length
 have ES : Enum (fun i => rate p i ≠ 0 ∧ frm n p i = O.getD k 0) (fun i => amtR (rate p i)) n.2.1.length (fm (sT1 n p (O.getD k 0)) n.2.1.length) (fm (sR1 n p (O.getD k 0)) n.2.1.length) := qhS (fun i => rate p i ≠ 0 ∧ frm n p i = O.getD k 0) (fun i => amtR (rate p i)) n.2.1.length
 have SP : ∀ g : Nat → Int, sumTo (fun j => g ((fm (pT1 n p (O.getD k 0)) n.2.2.1.length).getD j 0).toNat) (fm (pT1 n p (O.getD k 0)) n.2.2.1.length).length = sumTo (fun q => if pnode n q = O.getD k 0 ∧ prate p q < 0 then g q else 0) n.2.2.1.length := fun g => qjn (fun q => pnode n q = O.getD k 0 ∧ prate p q < 0) g n.2.2.1.length
 have SS : ∀ g : Nat → Int, sumTo (fun j => g ((fm (sT1 n p (O.getD k 0)) n.2.1.length).getD j 0).toNat) (fm (sT1 n p (O.getD k 0)) n.2.1.length).length = sumTo (fun i => if rate p i ≠ 0 ∧ frm n p i = O.getD k 0 then g i else 0) n.2.1.length := fun g => qjn (fun i => rate p i ≠ 0 ∧ frm n p i = O.getD k 0) g n.2.1.length
 generalize hT : fm (pT1 n p (O.getD k 0)) n.2.2.1.length = T at *
 generalize hT2 : fm (sT1 n p (O.getD k 0)) n.2.1.length = T2 at *
 generalize hR : fm (pR1 n p (O.getD k 0)) n.2.2.1.length = R at *
 generalize hR2 : fm (sR1 n p (O.getD k 0)) n.2.1.length = R2 at *
 have hl : rows.length = T.length + T2.length := by rw [r1, List.length_append, EP.len, ES.len]
 have hjX : (∀ q ∈ X, 0 ≤ q.2) := fun q hq => by have := (c1.2 q hq).2; omega
 obtain ⟨j1, j2⟩ := qa1 hjX
 have jle := qhJ hjX
 have hrow : ∀ j, j < rows.length → Norm (rows.getD j []) ∧ okc (rows.getD j []) := fun j hj => by
  obtain ⟨a1, a2⟩ := r2 _ (by rw [gD_eq hj]; exact List.getElem_mem hj : rows.getD j [] ∈ rows)
  refine ⟨a1, fun c hc => ?_⟩
  obtain ⟨q, q1, q2⟩ := a2 c hc
  have := qf7 q1 (j1.pos q q1)
  rw [j2] at this
  obtain ⟨x, x1, x2⟩ := qfj this
  have := (c1.2 x x1).1
  omega
 -- what goes into a segment
 have pushed : ∀ j, j < T2.length → ∃ i : Nat, i < n.2.1.length ∧ T2.getD j 0 = (i : Int) ∧ rate p i ≠ 0 ∧ frm n p i = O.getD k 0 ∧ next.getD i [] = fills.getD i [] ∧ given.getD i [] = [] ∧ ShfN (fills.getD i []) (rows.getD (T.length + j) []) (next'.getD i []) (given'.getD i []) ∧ tot (rows.getD (T.length + j) []) = amtR (rate p i) := by
  intro j hj
  obtain ⟨i, b1, b2, b3, b4⟩ := ES.at' j hj
  have hs := i3 j hj
  rw [b3, Int.toNat_natCast] at hs
  have h0 := h.s0 i b1 (.inl (by rw [b2.2]; exact hn))
  rw [h0.1] at hs
  refine ⟨i, b1, b3, b2.1, b2.2, h0.1, h0.2, hs, ?_⟩
  have := (r4 (T.length + j) (by omega)).1
  rw [qjo (hrow (T.length + j) (by omega)).1, this, qeQ, EP.len, if_neg (by omega), Nat.add_sub_cancel_left, b4]
 have notS : ∀ i, ¬ (rate p i ≠ 0 ∧ frm n p i = O.getD k 0) → next'.getD i [] = next.getD i [] ∧ given'.getD i [] = given.getD i [] := fun i hc => i4 i fun j hj e => by
  obtain ⟨i', -, b2, b3, -⟩ := ES.at' j hj
  have : i' = i := by omega
  exact hc (this ▸ b2)
 have notP : ∀ q, ¬ (pnode n q = O.getD k 0 ∧ prate p q < 0) → ports'.getD q [] = ports.getD q [] := fun q hc => o3 q fun j hj e => by
  obtain ⟨q', -, b2, b3, -⟩ := EP.at' j hj
  have : q' = q := by omega
  exact hc (this ▸ b2)
 refine ⟨i1, by rw [o1, h.lp], i2, fun i hi hc => ?_, fun i hi hc hr => ?_, fun q hq hc => ?_, fun q hq => ?_, fun b => ?_⟩
 ·have hno : ¬ (rate p i ≠ 0 ∧ frm n p i = O.getD k 0) := fun e => hc.elim (fun h' => h' ((qbQ hk _).2 (.inr e.2))) (fun h' => e.1 h')
  rw [(notS i hno).1, (notS i hno).2]
  exact h.s0 i hi (hc.imp (fun h h' => h ((qbQ hk _).2 (.inl h'))) id)
 ·by_cases hv : frm n p i = O.getD k 0
  ·obtain ⟨j, hj, e⟩ := ES.all i hi ⟨hr, hv⟩
   obtain ⟨i', b1, b2, b3, b4, b5, b6, b7, b8⟩ := pushed j hj
   have : i' = i := by omega
   subst this
   obtain ⟨f1, f2, f3⟩ := E.fv i' hi
   have hrj := hrow (T.length + j) (by omega)
   have hle := (r4 (T.length + j) (by omega)).2
   refine ⟨⟨b7.nO, Nat.le_trans (b7.kO (by omega)) f2, by rw [b7.lO, b8], fun c hc => ?_⟩, b7.nF, by have := b7.kF; omega, b7.lF, fun c hc => ?_⟩
   ·exact (b7.mO c hc).elim (f1.batch c) (hrj.2 c)
   ·exact (b7.mF c hc).elim (f1.batch c) (hrj.2 c)
  ·have hno : ¬ (rate p i ≠ 0 ∧ frm n p i = O.getD k 0) := fun e => hv e.2
   rw [(notS i hno).1, (notS i hno).2]
   exact h.s1 i hi (((qbQ hk _).1 hc).resolve_right hv) hr
 ·have hno : ¬ (pnode n q = O.getD k 0 ∧ prate p q < 0) := fun e => hc.elim (fun h' => h' ((qbQ hk _).2 (.inr e.1))) (fun h' => by have := e.2; omega)
  rw [notP q hno]
  exact h.p0 q hq (hc.imp (fun h h' => h ((qbQ hk _).2 (.inl h'))) id)
 ·by_cases hv : pnode n q = O.getD k 0 ∧ prate p q < 0
  ·obtain ⟨j, hj, e⟩ := EP.all q hq hv
   have e2 := o2 j hj
   rw [e, Int.toNat_natCast] at e2
   have hrj := hrow j (by omega)
   have h4 := r4 j (by omega)
   obtain ⟨q', -, -, b3, b4⟩ := EP.at' j hj
   have hqq : q' = q := by omega
   subst hqq
   rw [qeQ, EP.len, if_pos hj, b4] at h4
   rw [e2]
   refine ⟨hrj.1, ?_, by have := E.hb.q q'; omega, hrj.2⟩
   have hS0 : fm (pS1 n p feeds (O.getD k 0)) n.2.2.1.length = [] := by
    refine List.eq_nil_iff_forall_not_mem.2 fun x hx => ?_
    obtain ⟨r, hr, hx⟩ := qkk hx
    unfold pS1 at hx
    split at hx
    ·rename_i hc
     have := E.pd r q' hr hq (by rw [hc.1, hv.1])
     subst this
     have := hc.2; have := hv.2; omega
    ·simp at hx
   rw [hS0, List.nil_append] at hX
   have hlen : (X.length : Int) ≤ 12 * cntIn n p (pnode n q') := by
    rw [hX, qoY, hv.1]
    unfold cntIn
    rw [← qoZ]
    refine st_le _ fun i hi => ?_
    unfold sS1
    by_cases hc : tow n p i = O.getD k 0
    ·rw [if_pos hc]
     by_cases h0 : rate p i = 0
     ·rw [if_neg (fun e => e.1 h0)]; simp
     ·rw [if_pos ⟨h0, hc⟩]
      have := (h.s1 i hi (c4 i hi h0 hc) h0).1.2.1
      omega
    ·rw [if_neg (fun e => hc e.2), if_neg hc]; simp
   have := h4.2
   omega
  ·rw [notP q hv]; exact h.p1 q hq
 ·have hs := h.sum b
  have hf := qmu (n := n) (p := p) (feeds := feeds) hk hn b
  have hc := c2 b
  have hrows : amt (pcs rows) b = sumTo (fun j => amt (rows.getD j []) b) T.length + sumTo (fun j => amt (rows.getD (T.length + j) []) b) T2.length := by
   rw [qeB, qls rows (fun r => amt r b) [], hl, qjm]
  rw [r3 b, qgF hjX] at hrows
  have e1 : sumTo (fun j => amt (rows.getD j []) b) T.length = sumTo (fun q => if pnode n q = O.getD k 0 ∧ prate p q < 0 then amt (ports'.getD q []) b else 0) n.2.2.1.length := by
   rw [← SP fun q => amt (ports'.getD q []) b]
   exact qat _ fun j hj => by rw [o2 j hj]
  have e2 : sumTo (fun j => amt (rows.getD (T.length + j) []) b) T2.length = sumTo (fun i => if rate p i ≠ 0 ∧ frm n p i = O.getD k 0 then amt (next'.getD i []) b + amt (given'.getD i []) b - amt (next.getD i []) b else 0) n.2.1.length := by
   rw [← SS fun i => amt (next'.getD i []) b + amt (given'.getD i []) b - amt (next.getD i []) b]
   refine qat _ fun j hj => ?_
   obtain ⟨i, b1, b2, b3, b4, b5, b6, b7, b8⟩ := pushed j hj
   have := b7.amt b
   simp only [b2, Int.toNat_natCast, b5]
   omega
  have g1 := qhQ (a := fun q => amt (ports'.getD q []) b) (b := fun q => amt (ports.getD q []) b) (c := fun q => if pnode n q = O.getD k 0 ∧ prate p q < 0 then amt (ports'.getD q []) b else 0) (d := fun _ => 0) n.2.2.1.length (fun q hq => by
   by_cases hv : pnode n q = O.getD k 0 ∧ prate p q < 0
   ·simp only [if_pos hv]
    rw [h.p0 q hq (.inl (by rw [hv.1]; exact hn))]
    show _ = (0 : Int) + _ - 0; omega
   ·simp only [if_neg hv]; rw [notP q hv]; omega)
  rw [qas (f := fun _ => 0) _ (fun _ _ => rfl)] at g1
  have g2 := qhQ (a := fun i => amt (next'.getD i []) b + if tow n p i ∈ O.take (k + 1) then 0 else amt (given'.getD i []) b) (b := fun i => amt (next.getD i []) b + if tow n p i ∈ O.take k then 0 else amt (given.getD i []) b) (c := fun i => if rate p i ≠ 0 ∧ frm n p i = O.getD k 0 then amt (next'.getD i []) b + amt (given'.getD i []) b - amt (next.getD i []) b else 0) (d := fun i => if tow n p i = O.getD k 0 then amt (given.getD i []) b else 0) n.2.1.length (fun i hi => by
   simp only [qbQ hk]
   by_cases hv : rate p i ≠ 0 ∧ frm n p i = O.getD k 0
   ·obtain ⟨h01, h02⟩ := h.s0 i hi (.inl (by rw [hv.2]; exact hn))
    have t1 : tow n p i ∉ O.take k := fun hc => by
     obtain ⟨m, hm, e⟩ := List.getElem_of_mem hc
     have hmk : m < k := by rw [List.length_take] at hm; omega
     have := E.ord.up m (by omega) i hi hv.1 (by rw [gD_eq (by omega), ← e, List.getElem_take])
     rw [hv.2] at this
     exact hn (List.mem_of_mem_take (i := m) (by rw [List.take_take, Nat.min_eq_left (by omega)]; exact this))
    have t2 : ¬ tow n p i = O.getD k 0 := fun e => hn (hv.2 ▸ c4 i hi hv.1 e)
    rw [if_neg (fun e => e.elim t1 t2), if_neg t1, if_pos hv, if_neg t2, h02]
    show _ = _ + (0 : Int) + _ - 0
    omega
   ·rw [(notS i hv).1, (notS i hv).2, if_neg hv]
    by_cases h1 : tow n p i ∈ O.take k
    ·have h2 : ¬ tow n p i = O.getD k 0 := fun e => hn (e ▸ h1)
     rw [if_pos (.inl h1), if_pos h1, if_neg h2]; omega
    ·by_cases h2 : tow n p i = O.getD k 0
     ·rw [if_pos (.inr h2), if_neg h1, if_pos h2]; omega
     ·rw [if_neg (fun h => h.elim h1 h2), if_neg h1, if_neg h2]; omega)
  have add : ∀ (f g : Nat → Int) (m : Nat), sumTo (fun i => f i + g i) m = sumTo f m + sumTo g m := fun f g m => by
   have := qhQ (a := fun i => f i + g i) (b := f) (c := g) (d := fun _ => 0) m (fun i _ => by show f i + g i = f i + g i - 0; omega)
   rw [qas (f := fun _ => 0) _ (fun _ _ => rfl)] at this
   omega
  rw [add, add] at g2
  omega
end
end Go.Proofs.Ytikmdoopfpnbbaa
namespace Go.Proofs.Ytikmdoopfpnbbaa
open Go Go.Sq
def capI (n : Net) (i : Nat) : Int := (n.2.1.getD i sg0).2.2.2.1
theorem qkl {q : Nat → Bool} {m : Nat} (h : (List.range m).all q = true) {i : Nat} (hi : i < m) : q i = true := List.all_eq_true.1 h i (List.mem_range.2 hi)
theorem tcheck {n : Net} {fills : List (List Pc)} : ∃ e, qdO n fills = some e ∧ (e = 0 → qdD n = 0 ∧ fills.length = n.2.1.length ∧ ∀ i, i < n.2.1.length → VF (fills.getD i []) ∧ tot (fills.getD i []) = capI n i) := by
 unfold qdO
 rw [show (n.1, (n.2.1, (n.2.2.1, (n.2.2.2.1, (n.2.2.2.2.1, n.2.2.2.2.2))))) = n from rfl, qhL]
 simp only [Option.bind_some]
 by_cases h0 : qdD n = 0
 ·rw [dec_t h0]
  simp only [Bool.not_true, cond_false]
  have hS := (VNet.of h0).small.sg
  by_cases hl : fills.length = n.2.1.length
  ·rw [dec_t (show (fills.length : Int) = (n.2.1.length : Int) by omega)]
   simp only [Bool.not_true, cond_false]
   have l0 : iter (fun x => qaX fills x) 0 = some (bif (List.range fills.length).all (fun i => vB (fills.getD i [])) then .inl () else .inr 9) := by
    refine qbb (step := fun x => qaX fills x) fills.length (fun i => (i : Int)) (fun i => vB (fills.getD i [])) (fin := .inl ()) (bad := .inr 9) (fun i hi _ hq => ?_) (fun i hi _ hq => ?_) (fun _ => ?_)
    ·unfold qaX
     rw [dec_t (show (i : Int) < (fills.length : Int) by omega), cond_true, gd_t (inB_t hi), Int.toNat_natCast, (qja _).2, Option.bind_some, hq]
     simp only [Bool.not_true, cond_false]
     rw [w1 hi (by omega)]
    ·unfold qaX
     rw [dec_t (show (i : Int) < (fills.length : Int) by omega), cond_true, gd_t (inB_t hi), Int.toNat_natCast, (qja _).2, Option.bind_some, hq]; rfl
    ·unfold qaX
     rw [dec_f (show ¬ (fills.length : Int) < (fills.length : Int) by omega)]; rfl
   rw [l0]
   simp only [Option.bind_some]
   cases hA : (List.range fills.length).all (fun i => vB (fills.getD i [])) with
   | false => exact ⟨9, rfl, fun h => by cases h⟩
   | true =>
    simp only [cond_true, Sum.elim_inl]
    have hv : ∀ i, i < fills.length → VF (fills.getD i []) := fun i hi => qkc.1 (qkl hA hi)
    have l1 : iter (fun x => qaY n fills x) 0 = some (bif (List.range fills.length).all (fun i => decide (tot (fills.getD i []) = capI n i)) then .inl () else .inr 14) := by
     refine qbb (step := fun x => qaY n fills x) fills.length (fun i => (i : Int)) (fun i => decide (tot (fills.getD i []) = capI n i)) (fin := .inl ()) (bad := .inr 14) (fun i hi _ hq => ?_) (fun i hi _ hq => ?_) (fun _ => ?_)
     ·unfold qaY
      have hvi := hv i hi
      have hq : tot (fills.getD i []) = (n.2.1.getD i ([], (0, (0, (0, (0, (0, []))))))).2.2.2.1 := of_decide_eq_true hq
      rw [dec_t (show (i : Int) < (fills.length : Int) by omega), cond_true, gd_t (inB_t hi), Int.toNat_natCast, (qdU (by have := hvi.len; omega) hvi.vol).2, Option.bind_some, gd_t (inB_t (show i < n.2.1.length by omega)), dec_t hq]
      simp only [Bool.not_true, cond_false]
      rw [w1 hi (by omega)]
     ·unfold qaY
      have hvi := hv i hi
      have hq : ¬ tot (fills.getD i []) = (n.2.1.getD i ([], (0, (0, (0, (0, (0, []))))))).2.2.2.1 := of_decide_eq_false hq
      rw [dec_t (show (i : Int) < (fills.length : Int) by omega), cond_true, gd_t (inB_t hi), Int.toNat_natCast, (qdU (by have := hvi.len; omega) hvi.vol).2, Option.bind_some, gd_t (inB_t (show i < n.2.1.length by omega)), dec_f hq]; rfl
     ·unfold qaY
      rw [dec_f (show ¬ (fills.length : Int) < (fills.length : Int) by omega)]; rfl
    rw [l1]
    simp only [Option.bind_some]
    cases hB : (List.range fills.length).all (fun i => decide (tot (fills.getD i []) = capI n i)) with
    | false => exact ⟨14, rfl, fun h => by cases h⟩
    | true => exact ⟨0, rfl, fun _ => ⟨h0, hl, fun i hi => ⟨hv i (by omega), of_decide_eq_true (qkl hB (show i < fills.length by omega))⟩⟩⟩
  ·rw [dec_f (show ¬ (fills.length : Int) = (n.2.1.length : Int) by omega)]
   exact ⟨9, rfl, fun h => by cases h⟩
 ·rw [dec_f h0]
  exact ⟨qdD n, rfl, fun h => absurd h h0⟩
theorem tready {n : Net} {fills : List (List Pc)} {p : Pl} {feeds : List Int} : ∃ e, qdQ n fills p feeds = some e ∧ (e = 0 → qdX n p = 0 ∧ fills.length = n.2.1.length ∧ (∀ i, i < n.2.1.length → VF (fills.getD i []) ∧ tot (fills.getD i []) = capI n i) ∧ feeds.length = n.2.2.1.length ∧ ∀ q, q < n.2.2.1.length → 0 ≤ feeds.getD q 0 ∧ feeds.getD q 0 ≤ 999) := by
 obtain ⟨e1, c1, c2⟩ := tcheck (n := n) (fills := fills)
 unfold qdQ
 rw [show (n.1, (n.2.1, (n.2.2.1, (n.2.2.2.1, (n.2.2.2.2.1, n.2.2.2.2.2))))) = n from rfl, show (p.1, (p.2.1, p.2.2)) = p from rfl, c1]
 simp only [Option.bind_some]
 by_cases h1 : e1 = 0
 ·rw [dec_t h1]
  simp only [Bool.not_true, cond_false]
  obtain ⟨d1, d2, d3⟩ := c2 h1
  rw [qip]
  simp only [Option.bind_some]
  by_cases h2 : qdX n p = 0
  ·rw [dec_t h2]
   simp only [Bool.not_true, cond_false]
   by_cases h3 : feeds.length = n.2.2.1.length
   ·rw [dec_t (show (feeds.length : Int) = (n.2.2.1.length : Int) by omega)]
    simp only [Bool.not_true, cond_false]
    have hQ := (VNet.of d1).small.po
    let q : Nat → Bool := fun i => bif decide (0 ≤ feeds.getD i 0) then decide (feeds.getD i 0 < 1000) else false
    have hp : ∀ i, qaM (feeds.getD i 0) = some (q i) := fun i => by
     unfold qaM
     show _ = some (bif decide (0 ≤ feeds.getD i 0) then decide (feeds.getD i 0 < 1000) else false)
     cases decide (0 ≤ feeds.getD i 0) <;> rfl
    have l0 : iter (fun x => qaZ feeds x) 0 = some (bif (List.range feeds.length).all q then .inl () else .inr 9) := by
     refine qbb (step := fun x => qaZ feeds x) feeds.length (fun i => (i : Int)) q (fin := .inl ()) (bad := .inr 9) (fun i hi _ hq => ?_) (fun i hi _ hq => ?_) (fun _ => ?_)
     ·unfold qaZ
      rw [dec_t (show (i : Int) < (feeds.length : Int) by omega), cond_true, gd_t (inB_t hi), Int.toNat_natCast, hp, Option.bind_some, hq]
      simp only [Bool.not_true, cond_false]
      rw [w1 hi (by omega)]
     ·unfold qaZ
      rw [dec_t (show (i : Int) < (feeds.length : Int) by omega), cond_true, gd_t (inB_t hi), Int.toNat_natCast, hp, Option.bind_some, hq]; rfl
     ·unfold qaZ
      rw [dec_f (show ¬ (feeds.length : Int) < (feeds.length : Int) by omega)]; rfl
    rw [l0]
    simp only [Option.bind_some]
    cases hA : (List.range feeds.length).all q with
    | false => exact ⟨9, rfl, fun h => by cases h⟩
    | true =>
     refine ⟨0, rfl, fun _ => ⟨h2, d2, d3, h3, fun i hi => ?_⟩⟩
     have hq : (bif decide (0 ≤ feeds.getD i 0) then decide (feeds.getD i 0 < 1000) else false) = true := qkl hA (show i < feeds.length by omega)
     by_cases h0 : 0 ≤ feeds.getD i 0
     ·rw [dec_t h0, cond_true] at hq
      have := of_decide_eq_true hq
      omega
     ·rw [dec_f h0] at hq; cases hq
   ·rw [dec_f (show ¬ (feeds.length : Int) = (n.2.2.1.length : Int) by omega)]
    exact ⟨9, rfl, fun h => by cases h⟩
  ·rw [dec_f h2]
   exact ⟨qdX n p, rfl, fun h => absurd h h2⟩
 ·rw [dec_f h1]
  exact ⟨e1, rfl, fun h => absurd h h1⟩
theorem qo1 {fills : List (List Pc)} (hs : fills.length ≤ 100) (hv : ∀ i, i < fills.length → (fills.getD i []).length ≤ 1000) (ports given : List (List Pc)) :
  iter (fun x : Int × List (List Pc) × List (List Pc) × List (List Pc) => qbO fills x.1 x.2.1 x.2.2.1 x.2.2.2) (0, List.replicate fills.length ([] : List Pc), ports, given) = some (fills, ports, given) := by
 have key := qaB (step := fun x : Int × List (List Pc) × List (List Pc) × List (List Pc) => qbO fills x.1 x.2.1 x.2.2.1 x.2.2.2) (e := (fills, ports, given)) fills.length (fun i => ((i : Int), fills.take i ++ List.replicate (fills.length - i) ([] : List Pc), ports, given)) (fun i hi => ?_) ?_
 ·exact key
 ·unfold qbO
  have hvi := hv i hi
  have hlen : (fills.take i ++ List.replicate (fills.length - i) ([] : List Pc)).length = fills.length := by rw [List.length_append, List.length_take, List.length_replicate]; omega
  simp only [Int.toNat_natCast]
  rw [dec_t (show (i : Int) < (fills.length : Int) by omega), cond_true, gd_t (inB_t hi), gd_t (show fits (0 + (fills.getD i []).length) 16 = true from qaj (by omega)), gd_t (inB_t (show i < (fills.take i ++ List.replicate (fills.length - i) ([] : List Pc)).length by omega)), w1 hi (by omega), List.nil_append]
  have e1 : List.replicate (fills.length - i) ([] : List Pc) = [] :: List.replicate (fills.length - (i + 1)) [] := by
   rw [show fills.length - i = (fills.length - (i + 1)) + 1 by omega, List.replicate_succ]
  have e2 := qml (fills.take i) (List.replicate (fills.length - (i + 1)) ([] : List Pc)) [] (fills.getD i [])
  rw [show (fills.take i).length = i by rw [List.length_take]; omega] at e2
  rw [e1, e2, List.take_succ_eq_append_getElem hi, gD_eq hi, List.append_assoc]; rfl
 ·unfold qbO
  rw [dec_f (show ¬ (fills.length : Int) < (fills.length : Int) by omega), cond_false]
  simp
end Go.Proofs.Ytikmdoopfpnbbaa
namespace Go.Proofs.Ytikmdoopfpnbbaa
open Go Go.Sq
section
variable {n : Net} {p : Pl} {feeds : List Int} {fills : List (List Pc)} {O : List Int} {next ports given : List (List Pc)} {k : Nat}
theorem st_nn {f : Nat → Int} (m : Nat) (h : ∀ i, i < m → 0 ≤ f i) : 0 ≤ sumTo f m := by
 have := st_le (a := fun _ => 0) (b := f) m h
 rwa [qas (f := fun _ => 0) _ (fun _ _ => rfl)] at this
theorem qhT {A : Type} (m i : Nat) (x : A) : (List.replicate m x).getD i x = x := by
 rw [List.getD_eq_getElem?_getD]
 cases hx : (List.replicate m x)[i]? with
 | none => rfl
 | some y => rw [(List.mem_replicate.1 (List.mem_of_getElem? hx)).2]; rfl
theorem qpO (E : TE n p feeds fills O) : TI n p feeds fills (O.take 0) fills (List.replicate n.2.2.1.length []) (List.replicate n.2.1.length []) := by
 refine ⟨E.hl, by simp, by simp, fun i hi _ => ⟨rfl, qhT _ _ _⟩, fun i hi hc => by simp at hc, fun q hq _ => qhT _ _ _, fun q hq => ?_, fun b => ?_⟩
 ·rw [qhT]
  refine ⟨Norm.nil, ?_, by simp [exp], fun c hc => by simp [exp] at hc⟩
  have : 0 ≤ cntIn n p (pnode n q) := st_nn _ fun i _ => by
   by_cases e : tow n p i = pnode n q
   ·rw [if_pos e]; decide
   ·rw [if_neg e]; decide
  simp; omega
 ·rw [qas (f := fun q => amt ((List.replicate n.2.2.1.length ([] : List Pc)).getD q []) b) _ (fun q _ => by rw [qhT]; rfl), qas (f := fun i => if tow n p i ∈ O.take 0 then 0 else amt ((List.replicate n.2.1.length ([] : List Pc)).getD i []) b) _ (fun q _ => by rw [qhT]; split <;> rfl), qas (f := fun q => if pnode n q ∈ O.take 0 then feedB p feeds q b else 0) _ (fun q _ => by simp)]
  omega
theorem qo2 (E : TE n p feeds fills O) (hk : k < O.length) (h : TI n p feeds fills (O.take k) next ports given) (long : Bool) (r0 : Int) :
  ∃ l next' ports' given', qbd n p feeds (r0, O) long (k : Int) next ports given O = some (.inl (l, ((k + 1 : Nat) : Int), next', ports', given', O)) ∧ TI n p feeds fills (O.take (k + 1)) next' ports' given' := by
 have hS := E.s8
 have hQ := E.q6
 have hN := E.ord.len
 obtain ⟨c1, c2, c3, c4⟩ := qlt E hk h
 have hgl : ∀ i, (given.getD i []).length ≤ 1000 := by
  intro i
  by_cases hi : i < n.2.1.length
  ·by_cases hc : frm n p i ∈ O.take k
   ·by_cases h0 : rate p i = 0
    ·rw [(h.s0 i hi (.inr h0)).2]; simp
    ·have := (h.s1 i hi hc h0).1.2.1; omega
   ·rw [(h.s0 i hi (.inl hc)).2]; simp
  ·rw [qfV (by rw [h.lg]; exact hi)]; simp
 have lp : (fm (pS1 n p feeds (O.getD k 0)) n.2.2.1.length).length ≤ 1 * n.2.2.1.length := qdi (fun i => by unfold pS1; split <;> simp) _
 have lr : (fm (pR1 n p (O.getD k 0)) n.2.2.1.length).length ≤ 1 * n.2.2.1.length := qdi (fun i => by unfold pR1; split <;> simp) _
 have t1 := qnd (O := O) E.hb (by omega) E.h2 E.hf k next ports given
 have t2 := qoS (O := O) E.hb (by omega) E.h1 k next ports given h.lg hgl (P := fm (pS1 n p feeds (O.getD k 0)) n.2.2.1.length) (R := fm (pR1 n p (O.getD k 0)) n.2.2.1.length) (T := fm (pT1 n p (O.getD k 0)) n.2.2.1.length) (by omega) (by omega)
 have EP : Enum (fun q => pnode n q = O.getD k 0 ∧ prate p q < 0) (fun q => 0 - prate p q) n.2.2.1.length (fm (pT1 n p (O.getD k 0)) n.2.2.1.length) (fm (pR1 n p (O.getD k 0)) n.2.2.1.length) := qhS (fun q => pnode n q = O.getD k 0 ∧ prate p q < 0) (fun q => 0 - prate p q) n.2.2.1.length
 have ES : Enum (fun i => rate p i ≠ 0 ∧ frm n p i = O.getD k 0) (fun i => amtR (rate p i)) n.2.1.length (fm (sT1 n p (O.getD k 0)) n.2.1.length) (fm (sR1 n p (O.getD k 0)) n.2.1.length) := qhS (fun i => rate p i ≠ 0 ∧ frm n p i = O.getD k 0) (fun i => amtR (rate p i)) n.2.1.length
 have hvol : Vol (fm (pS1 n p feeds (O.getD k 0)) n.2.2.1.length ++ fm (sS1 n p given (O.getD k 0)) n.2.1.length) := ⟨by omega, fun x hx => by have := (c1.2 x hx).2; omega⟩
 have hjX : ∀ x ∈ fm (pS1 n p feeds (O.getD k 0)) n.2.2.1.length ++ fm (sS1 n p given (O.getD k 0)) n.2.1.length, 0 ≤ x.2 := fun x hx => (hvol.2 x hx).1
 obtain ⟨j1, j2⟩ := qa1 hjX
 have jle := qhJ hjX
 have hne := qoX E hk h
 have hso := fun rows next' ports' given' => qo0 (k := k) E hk h (rows := rows) (X := _) rfl (next' := next') (ports' := ports') (given' := given')
 unfold qbd
 simp only
 rw [dec_t (show (k : Int) < (O.length : Int) by omega), cond_true, gd_t (inB_t hk), t1]
 simp only [Option.bind_some]
 rw [t2]
 simp only [Option.bind_some]
 rw [(qey hvol).2]
 simp only [Option.bind_some]
 generalize hXe : fm (pS1 n p feeds (O.getD k 0)) n.2.2.1.length ++ fm (sS1 n p given (O.getD k 0)) n.2.1.length = X at *
 generalize hRe : fm (pR1 n p (O.getD k 0)) n.2.2.1.length = R at *
 generalize hR2e : fm (sR1 n p (O.getD k 0)) n.2.1.length = R2 at *
 generalize hTe : fm (pT1 n p (O.getD k 0)) n.2.2.1.length = T at *
 generalize hT2e : fm (sT1 n p (O.getD k 0)) n.2.1.length = T2 at *
 have hw : wi64 ((k : Int) + 1) = ((k + 1 : Nat) : Int) := w1 hk (by have := E.n24; omega)
 obtain ⟨lb, hlb⟩ : ∃ b : Bool, (bif long then some (true, next, ports, given, joinF X, R ++ R2, T, T2, O) else some (decide (200 < ((joinF X).length : Int)), next, ports, given, joinF X, R ++ R2, T, T2, O)) = some (b, next, ports, given, joinF X, R ++ R2, T, T2, O) := by
  cases long
  ·exact ⟨_, rfl⟩
  ·exact ⟨_, rfl⟩
 rw [hlb]
 simp only [Option.bind_some]
 rw [hw]
 have hexp : ((exp X).length : Int) = tot X := qex hjX
 have hbig := qma (f := X) (B := 1000) (fun x hx => by have := (c1.2 x hx).2; omega)
 have hb2 : (exp X).length ≤ 102000 := Nat.le_trans hbig (by have := c1.1; omega)
 by_cases h0 : joinF X = []
 ·have hX0 : X = [] := by
   cases hX : X with
   | nil => rfl
   | cons x Y =>
    have hx : x ∈ X := by rw [hX]; exact List.mem_cons_self ..
    have := qf7 hx (c1.2 x hx).2.1
    rw [← j2, h0] at this
    simp [exp] at this
  rw [dec_t (show ((joinF X).length : Int) = 0 by rw [h0]; rfl)]
  exact ⟨lb, next, ports, given, rfl, hne hX0⟩
 ·have hlen0 : 1 ≤ (joinF X).length := by
   cases hJ : joinF X with
   | nil => exact absurd hJ h0
   | cons x Y => simp
  have htot : tot (joinF X) = isum (R ++ R2) := by rw [qjo j1, j2, hexp, c3]
  have hnl := ql9 (f := joinF X) (fun x hx => j1.pos x hx)
  have lT := EP.len
  have lT2 := ES.len
  have leP := EP.le
  have leS := ES.le
  have hR : ∀ j, (0 ≤ (R ++ R2).getD j 0 ∧ (R ++ R2).getD j 0 ≤ 1000) ∧ (j < (R ++ R2).length → 1 ≤ (R ++ R2).getD j 0) := by
   intro j
   rw [qeQ]
   by_cases h1 : j < R.length
   ·rw [if_pos h1]
    obtain ⟨q, -, g2, -, g4⟩ := EP.at' j (by omega)
    have := E.hb.q q
    have := g2.2
    rw [g4]
    omega
   ·rw [if_neg h1]
    by_cases h2 : j - R.length < R2.length
    ·obtain ⟨i, -, g2, -, g4⟩ := ES.at' (j - R.length) (by omega)
     have := qoW (E.hb.s i)
     have := qjq g2.1
     rw [g4]; omega
    ·rw [qfV h2, List.length_append]; omega
  have hlR : (R ++ R2).length = R.length + R2.length := List.length_append
  have hp : ∃ i, i < (R ++ R2).length ∧ 0 < (R ++ R2).getD i 0 := by
   by_cases h1 : 0 < (R ++ R2).length
   ·exact ⟨0, h1, by have := (hR 0).2 h1; omega⟩
   ·have : R ++ R2 = [] := List.eq_nil_of_length_eq_zero (by omega)
    rw [this] at htot
    have h2 : isum ([] : List Int) = 0 := rfl
    rw [qjo j1, h2] at htot
    omega
  obtain ⟨rows, q1, q2, q3, q4, q5⟩ := qqI (vin := joinF X) (rates := R ++ R2) (by omega) hp (fun j => (hR j).1) htot ⟨by omega, fun x hx => by have := qjp j1 hx; rw [j2] at this; omega⟩
  rw [dec_f (show ¬ ((joinF X).length : Int) = 0 by omega)]
  simp only [cond_false]
  rw [q1]
  simp only [Option.bind_some]
  obtain ⟨ports', a1, a2, a3, a4⟩ := qpN (s11 := (lb, next, ports, given, joinF X, R ++ R2, T, T2, O)) (T := T) rfl (ports := ports) (by rw [h.lp]; exact EP.idx) next given T2 (dealt := rows) (by omega) (by omega) O
  rw [a1]
  simp only [Option.bind_some]
  obtain ⟨next', given', b1, b2, b3, b4, b5⟩ := qqP (p := p) (s12 := (next, ports', given, T, T2, rows, O)) (T2 := T2) rfl (next := next) (given := given) ports' (S := n.2.1.length) ES.idx E.h1 h.ln h.lg (by omega) (T := T) (dealt := rows) (by omega) (by omega) (by omega) (fun j hj => by
   obtain ⟨i, g1, g2, g3, -⟩ := ES.at' j hj
   have hfi := E.fv i g1
   rw [g3, Int.toNat_natCast, (h.s0 i g1 (.inl (by rw [g2.2]; exact E.ord.new k hk))).1]
   exact ⟨by omega, hfi.1.vol⟩) (fun j hj => by
   have h5 := q5 (T.length + j) (by omega)
   have hRj := (hR (T.length + j)).1
   have hnr := (q3 _ (by rw [gD_eq (by omega)]; exact List.getElem_mem _ : rows.getD (T.length + j) [] ∈ rows)).1
   exact ⟨by omega, fun x hx => by have := qjp hnr hx; omega⟩) O
  rw [b1]
  simp only [Option.bind_some]
  exact ⟨lb, next', ports', given', rfl, hso rows next' ports' given' q2 (fun r hr => ⟨(q3 r hr).1, (q3 r hr).2.1⟩) q4 (fun j hj => q5 j (by omega)) a2 a3 a4 b2 b3 b4 b5⟩
theorem qne (E : TE n p feeds fills O) (r0 : Int) : ∃ l next' ports' given', iter (fun x6 : Bool × Int × List (List Pc) × List (List Pc) × List (List Pc) × List Int => qbd n p feeds (r0, O) x6.1 x6.2.1 x6.2.2.1 x6.2.2.2.1 x6.2.2.2.2.1 x6.2.2.2.2.2) (false, 0, fills, List.replicate n.2.2.1.length [], List.replicate n.2.1.length [], O) = some (l, next', ports', given') ∧ TI n p feeds fills O next' ports' given' := by
 have key : ∃ s, iter (fun x6 : Bool × Int × List (List Pc) × List (List Pc) × List (List Pc) × List Int => qbd n p feeds (r0, O) x6.1 x6.2.1 x6.2.2.1 x6.2.2.2.1 x6.2.2.2.2.1 x6.2.2.2.2.2) (false, 0, fills, List.replicate n.2.2.1.length [], List.replicate n.2.1.length [], O) = some s ∧ ∃ l next' ports' given', s = (l, next', ports', given') ∧ TI n p feeds fills O next' ports' given' := by
  refine qbm (fun x => ∃ (k : Nat) (l : Bool) (a b c : List (List Pc)), x = (l, (k : Int), a, b, c, O) ∧ k ≤ O.length ∧ TI n p feeds fills (O.take k) a b c) (fun x => ((O.length : Int) - x.2.1).toNat) _ ?_ ⟨0, false, _, _, _, rfl, by omega, qpO E⟩
  rintro _ ⟨k, l, a, b, c, rfl, h1, h2⟩
  by_cases hk : k < O.length
  ·right
   obtain ⟨l', a', b', c', g1, g2⟩ := qo2 E hk h2 l r0
   exact ⟨_, g1, ⟨k + 1, l', a', b', c', rfl, by omega, g2⟩, by simp only; omega⟩
  ·left
   have e : k = O.length := by omega
   subst e
   unfold qbd
   simp only
   rw [dec_f (show ¬ (O.length : Int) < (O.length : Int) by omega)]
   rw [List.take_of_length_le (Nat.le_refl _)] at h2
   exact ⟨_, rfl, l, a, b, c, rfl, h2⟩
 obtain ⟨s, q1, l, a, b, c, rfl, q2⟩ := key
 exact ⟨l, a, b, c, q1, q2⟩
end
theorem qqQ {s17 : Bool × List (List Pc) × List (List Pc) × List (List Pc)} {a c : List (List Pc)} (b : List (List Pc)) (h17 : s17.2.1 = a) (hc : c.length = a.length) (hl : a.length ≤ 1000) (l0 : Bool) : ∃ l, iter (fun x7 : Bool × Int × List (List Pc) × List (List Pc) × List (List Pc) => qcL s17 x7.1 x7.2.1 x7.2.2.1 x7.2.2.2.1 x7.2.2.2.2) (l0, 0, a, b, c) = some (l, a, b) := by
 have key : ∃ s, iter (fun x7 : Bool × Int × List (List Pc) × List (List Pc) × List (List Pc) => qcL s17 x7.1 x7.2.1 x7.2.2.1 x7.2.2.2.1 x7.2.2.2.2) (l0, 0, a, b, c) = some s ∧ ∃ l, s = (l, a, b) := by
  refine qbm (fun x => ∃ (i : Nat) (l : Bool), x = (l, (i : Int), a, b, c) ∧ i ≤ a.length) (fun x => ((a.length : Int) - x.2.1).toNat) _ ?_ ⟨0, l0, rfl, by omega⟩
  rintro _ ⟨i, l, rfl, h1⟩
  unfold qcL
  simp only [h17, Int.toNat_natCast]
  by_cases hi : i < a.length
  ·right
   rw [dec_t (show (i : Int) < (a.length : Int) by omega), cond_true, gd_t (inB_t hi), gd_t (inB_t (show i < c.length by omega)), w1 hi (by omega)]
   cases l with
   | true => exact ⟨_, rfl, ⟨i + 1, true, rfl, by omega⟩, by simp only; omega⟩
   | false =>
    by_cases h2 : 200 < ((a.getD i []).length : Int)
    ·rw [dec_t h2]
     exact ⟨_, rfl, ⟨i + 1, true, rfl, by omega⟩, by simp only; omega⟩
    ·rw [dec_f h2]
     exact ⟨_, rfl, ⟨i + 1, _, rfl, by omega⟩, by simp only; omega⟩
  ·left
   have e : i = a.length := by omega
   subst e
   rw [dec_f (show ¬ (a.length : Int) < (a.length : Int) by omega)]
   exact ⟨_, rfl, l, rfl⟩
 obtain ⟨s, q1, l, rfl⟩ := key
 exact ⟨l, q1⟩
theorem qqR {s19 : Bool × List (List Pc) × List (List Pc)} {b : List (List Pc)} (a : List (List Pc)) (h19 : s19.2.2 = b) (hl : b.length ≤ 1000) (l0 : Bool) : ∃ l, iter (fun x8 : Bool × Int × List (List Pc) × List (List Pc) => qcM s19 x8.1 x8.2.1 x8.2.2.1 x8.2.2.2) (l0, 0, a, b) = some (l, a, b) := by
 have key : ∃ s, iter (fun x8 : Bool × Int × List (List Pc) × List (List Pc) => qcM s19 x8.1 x8.2.1 x8.2.2.1 x8.2.2.2) (l0, 0, a, b) = some s ∧ ∃ l, s = (l, a, b) := by
  refine qbm (fun x => ∃ (i : Nat) (l : Bool), x = (l, (i : Int), a, b) ∧ i ≤ b.length) (fun x => ((b.length : Int) - x.2.1).toNat) _ ?_ ⟨0, l0, rfl, by omega⟩
  rintro _ ⟨i, l, rfl, h1⟩
  unfold qcM
  simp only [h19, Int.toNat_natCast]
  by_cases hi : i < b.length
  ·right
   rw [dec_t (show (i : Int) < (b.length : Int) by omega), cond_true, gd_t (inB_t hi), w1 hi (by omega)]
   cases l with
   | true => exact ⟨_, rfl, ⟨i + 1, true, rfl, by omega⟩, by simp only; omega⟩
   | false => exact ⟨_, rfl, ⟨i + 1, _, rfl, by omega⟩, by simp only; omega⟩
  ·left
   have e : i = b.length := by omega
   subst e
   rw [dec_f (show ¬ (b.length : Int) < (b.length : Int) by omega)]
   exact ⟨_, rfl, l, rfl⟩
 obtain ⟨s, q1, l, rfl⟩ := key
 exact ⟨l, q1⟩
end Go.Proofs.Ytikmdoopfpnbbaa
namespace Go.Proofs.Ytikmdoopfpnbbaa
open Go Go.Sq
theorem qpP {n : Net} {p : Pl} (h : qdX n p = 0) : balP n p = true ∧ (ordL n p).length = n.1.length := by
 unfold qdX at h
 by_cases h0 : qdD n = 0
 ·rw [if_neg (fun h => h h0)] at h
  obtain ⟨_, h⟩ := qe7 (by decide) h
  obtain ⟨_, h⟩ := qe7 (by decide) h
  obtain ⟨h3, h⟩ := qe7 (by decide) h
  obtain ⟨h4, _⟩ := qe7 (by decide) h
  exact ⟨h3, Nat.eq_of_beq_eq_true h4⟩
 ·rw [if_pos h0] at h; exact absurd h h0
theorem qqS {n : Net} {p : Pl} {feeds : List Int} {fills : List (List Pc)} (hS : n.2.1.length ≤ 8) (hQ : n.2.2.1.length ≤ 6)
  (hpd : ∀ q r, q < n.2.2.1.length → r < n.2.2.1.length → pnode n q = pnode n r → q = r) (h12 : ∀ i, i < n.2.1.length → (fills.getD i []).length ≤ 12) :
  ∃ e next ports, qeL n fills p feeds = some (e, next, ports) ∧ (e = 0 → KnP n ∧ TE n p feeds fills (ordL n p) ∧ ∃ given, TI n p feeds fills (ordL n p) next ports given) := by
 obtain ⟨e, r1, r2⟩ := tready (n := n) (fills := fills) (p := p) (feeds := feeds)
 unfold qeL
 rw [show (n.1, (n.2.1, (n.2.2.1, (n.2.2.2.1, (n.2.2.2.2.1, n.2.2.2.2.2))))) = n from rfl, show (p.1, (p.2.1, p.2.2)) = p from rfl, r1]
 simp only [Option.bind_some]
 by_cases h0 : e = 0
 ·obtain ⟨a1, a2, a3, a4, a5⟩ := r2 h0
  have hv := VPl.of a1
  have hn := VNet.of hv.net
  obtain ⟨b1, b2⟩ := qpP a1
  obtain ⟨l1, l2, l3⟩ := hv.len
  have E : TE n p feeds fills (ordL n p) := by
   refine ⟨hv.rb, l1, l2, a4, a2, hn.small.no, hS, hQ, fun i hi => ⟨(a3 i hi).1, h12 i hi, ?_⟩, a5, fun k hk0 hk1 => ?_, hpd, qrc hn.kn b2⟩
   ·rw [(a3 i hi).2]
    have := qkl hv.rt hi
    unfold rtB at this
    have := qms.1 this
    unfold amtR capI
    omega
   ·have := of_decide_eq_true (qkl b1 (show k.toNat < n.1.length by omega))
    rwa [Int.toNat_of_nonneg hk0] at this
  rw [dec_t h0]
  simp only [Bool.not_true, cond_false]
  rw [gd_t (qf3 (by omega)), gd_t (qf3 (by omega)), gd_t (qf3 (by omega))]
  simp only [Int.toNat_natCast]
  rw [qo1 (by omega) (fun i hi => by have := h12 i (by omega); omega)]
  simp only [Option.bind_some]
  have hord : qdR n p = some (0, ordL n p) := by
   unfold qdR
   rw [show (n.1, (n.2.1, (n.2.2.1, (n.2.2.2.1, (n.2.2.2.2.1, n.2.2.2.2.2))))) = n from rfl, show (p.1, (p.2.1, p.2.2)) = p from rfl, qip, a1, Option.bind_some, dec_t (rfl : (0 : Int) = 0), qki hn l1]; rfl
  rw [hord, a2]
  simp only [Option.bind_some]
  obtain ⟨l, next', ports', given', g1, g2⟩ := qne E 0
  rw [g1]
  simp only [Option.bind_some]
  obtain ⟨l6, k6⟩ := qqQ (s17 := (l, next', ports', given')) (a := next') (c := given') ports' rfl (by rw [g2.lg, g2.ln]) (by rw [g2.ln]; omega) l
  rw [k6]
  simp only [Option.bind_some]
  obtain ⟨l7, k7⟩ := qqR (s19 := (l6, next', ports')) (b := ports') next' rfl (by rw [g2.lp]; omega) l6
  rw [k7]
  simp only [Option.bind_some]
  cases l7 with
  | true => exact ⟨4, [], [], rfl, fun h => by cases h⟩
  | false => exact ⟨0, next', ports', rfl, fun _ => ⟨hn.kn, E, given', g2⟩⟩
 ·rw [dec_f h0]
  exact ⟨e, [], [], rfl, fun h => absurd h h0⟩
/-! ### What is kept -/
theorem qkm {fs : List (List Pc)} (h1 : fs.length ≤ 32) (h2 : ∀ f ∈ fs, VF f) : errF fs = 0 := by
 unfold errF
 rw [if_neg (by omega), if_pos (List.all_eq_true.2 fun f hf => qkc.2 (h2 f hf))]
theorem qre {a b : List (List Pc)} {v o : List Pc} (h1 : errF a = 0) (h2 : errF b = 0) (h3 : errF [v] = 0) (h4 : errF [o] = 0) (h : ∀ x, amt (pcs a) x + amt (pcs [v]) x = amt (pcs b) x + amt (pcs [o]) x) : keptF a b v o = (true, 0) := by
 unfold keptF
 rw [if_neg (fun e => e h1), if_neg (fun e => e h2), if_neg (fun e => e h3), if_neg (fun e => e h4), (qgE h1 h2 h3 h4).2 h]
theorem qrf {a b : List (List Pc)} {v o : List Pc} (h1 : errF a = 0) (h2 : errF b = 0) (h3 : errF [v] = 0) (h4 : errF [o] = 0) {x : Int} (h : amt (pcs a) x + amt (pcs [v]) x ≠ amt (pcs b) x + amt (pcs [o]) x) : keptF a b v o = (false, 0) := by
 unfold keptF
 rw [if_neg (fun e => e h1), if_neg (fun e => e h2), if_neg (fun e => e h3), if_neg (fun e => e h4)]
 cases hb : balB a b v o with
 | false => rfl
 | true => exact absurd ((qgE h1 h2 h3 h4).1 hb x) h
theorem qlu (v : List Pc) (b : Int) : amt (pcs [v]) b = amt v b := by
 show amt ([v].flatten) b = _
 simp
theorem qo3 {A : List Pc} {q : Pc} (h : Norm A) (hq : 1 ≤ q.2) (hne : ∀ x ∈ A, x.1 ≠ q.1) : Norm (A ++ [q]) := by
 refine ⟨fun x hx => ?_, fun i hi => ?_⟩
 ·rcases List.mem_append.1 hx with hx | hx
  ·exact h.pos x hx
  ·rw [List.mem_singleton.1 hx]; exact hq
 ·rw [List.length_append] at hi
  simp only [List.length_cons, List.length_nil] at hi
  rw [qdr, qdr, if_pos (by omega)]
  by_cases h1 : i + 1 < A.length
  ·rw [if_pos h1]; exact h.ne i h1
  ·rw [if_neg h1, if_pos (by omega)]
   exact hne _ (by rw [gD_eq (by omega)]; exact List.getElem_mem _)
theorem qqk {g : Nat → Int} (x : Int) : ∀ m : Nat, (∀ q r, q < m → r < m → g q = g r → q = r) → sumTo (fun q => if x = g q then 1 else 0) m ≤ 1
 | 0, _ => by show (0 : Int) ≤ 1; decide
 | m + 1, h => by
  have ih := qqk (g := g) x m fun q r hq hr => h q r (by omega) (by omega)
  show sumTo (fun q => if x = g q then 1 else 0) m + (if x = g m then 1 else 0) ≤ 1
  by_cases e : x = g m
  ·rw [if_pos e, qas m (fun q hq => by
    by_cases e2 : x = g q
    ·have := h q m (by omega) (by omega) (by rw [← e2, e]); omega
    ·rw [if_neg e2])]
   decide
  ·rw [if_neg e]; omega
end Go.Proofs.Ytikmdoopfpnbbaa
namespace Go.Proofs.Ytikmdoopfpnbbaa
open Go Go.Sq
theorem qpQ {n : Net} {s : List Int} {p : Int} (h : SrcOk s p) (hq : n.2.2.1.length ≤ 6) : Ok (qb1 n 4 s p) fun r => ∃ (p' : Int) (fs : List Int), r = (s, p', fs) ∧ SrcOk s p' ∧ fs.length = n.2.2.1.length ∧ ∀ x ∈ fs, 0 ≤ x ∧ x < 4 := by
 unfold qb1
 refine Ok.bind (Q := fun r => ∃ (p' : Int) (fs : List Int), r = (s, p', fs) ∧ SrcOk s p' ∧ fs.length = n.2.2.1.length ∧ ∀ x ∈ fs, 0 ≤ x ∧ x < 4) ?_ ?_
 ·refine Ok.loop (fun x => ∃ (i : Nat) (p' : Int) (fs : List Int), x = ((i : Int), s, p', fs) ∧ SrcOk s p' ∧ fs.length = i ∧ i ≤ n.2.2.1.length ∧ ∀ x ∈ fs, 0 ≤ x ∧ x < 4) (fun x => (8 - x.1).toNat) ⟨0, p, [], rfl, h, rfl, by omega, by simp⟩ ?_
  rintro _ ⟨i, p', fs, rfl, k1, k2, k3, k4⟩
  unfold qdy
  refine Ok.bif (fun hi => ?_) (fun hi => Ok.ret ⟨p', fs, rfl, k1, by have := of_decide_eq_false hi; omega, k4⟩)
  have hi : i < n.2.2.1.length := by have := of_decide_eq_true hi; omega
  obtain ⟨r, q, a1, a2, a3, a4⟩ := n_eq (n := 4) k1 (by omega) (by omega)
  refine Ok.eq a1 (Ok.gd (qaj (by simp only; omega)) (Ok.ret ?_))
  rw [wi (by omega)]
  refine ⟨⟨i + 1, q, _, rfl, a4, by simp [k2], by omega, fun x hx => ?_⟩, by simp only; omega⟩
  rcases List.mem_append.1 hx with hx | hx
  ·exact k4 x hx
  ·rw [List.mem_singleton.1 hx]; exact ⟨a2, a3⟩
 ·rintro _ ⟨p', fs, rfl, h1, h2⟩
  exact Ok.ret ⟨p', fs, rfl, h1, h2⟩
theorem qo4 {n : Net} {s : List Int} {p : Int} (h : SrcOk s p) (hn : n.2.1.length ≤ 8) (hc : ∀ i, i < n.2.1.length → 0 ≤ capI n i ∧ capI n i ≤ 1000000) : Ok (qb2 n 4 s p) fun r => ∃ (p' : Int) (fs : List (List Pc)), r = (s, p', fs) ∧ SrcOk s p' ∧ fs.length = n.2.1.length ∧ ∀ f ∈ fs, f.length ≤ 12 := by
 unfold qb2
 refine Ok.bind (Q := fun r => ∃ (p' : Int) (fs : List (List Pc)), r = (s, p', fs) ∧ SrcOk s p' ∧ fs.length = n.2.1.length ∧ ∀ f ∈ fs, f.length ≤ 12) ?_ ?_
 ·refine Ok.loop (fun x => ∃ (i : Nat) (p' : Int) (fs : List (List Pc)), x = ((i : Int), s, p', fs) ∧ SrcOk s p' ∧ fs.length = i ∧ i ≤ n.2.1.length ∧ ∀ f ∈ fs, f.length ≤ 12) (fun x => (8 - x.1).toNat) ⟨0, p, [], rfl, h, rfl, by omega, by simp⟩ ?_
  rintro _ ⟨i, p', fs, rfl, k1, k2, k3, k4⟩
  unfold qdA
  refine Ok.bif (fun hi => ?_) (fun hi => Ok.ret ⟨p', fs, rfl, k1, by have := of_decide_eq_false hi; omega, k4⟩)
  have hi : i < n.2.1.length := by have := of_decide_eq_true hi; omega
  refine Ok.gd (inB_t hi) ?_
  rw [Int.toNat_natCast]
  refine Ok.bind (qqC k1 (hc i hi) (by omega)) ?_
  rintro _ ⟨f, q, rfl, g1, g2, -⟩
  refine Ok.gd (qaj (by simp only; omega)) (Ok.ret ?_)
  rw [wi (by omega)]
  refine ⟨⟨i + 1, q, _, rfl, g1, by simp [k2], by omega, fun f' hf' => ?_⟩, by simp only; omega⟩
  rcases List.mem_append.1 hf' with hf' | hf'
  ·exact k4 f' hf'
  ·rw [List.mem_singleton.1 hf']; exact g2
 ·rintro _ ⟨p', fs, rfl, h1, h2⟩
  exact Ok.ret ⟨p', fs, rfl, h1, h2⟩
def vI (p : Pl) (feeds : List Int) (i : Nat) : List Pc := if 0 < prate p i then [(feeds.getD i 0, prate p i)] else []
theorem qpR {r5 : Pl × List Int × Int} {r6 : List Int × Int × List Int} {Q : Nat} (now : List (List Pc)) {ports : List (List Pc)} (h2 : r5.1.2.1.length = Q) (hf : r6.2.2.length = Q) (hp : ports.length = Q) (hQ : Q ≤ 6) (hl : ∀ i, (ports.getD i []).length ≤ 1000) :
  iter (fun x : Int × List (List Pc) × List (List Pc) × List Pc × List Pc => qaR r5 r6 x.1 x.2.1 x.2.2.1 x.2.2.2.1 x.2.2.2.2) (0, now, ports, [], []) = some (now, fm (vI r5.1 r6.2.2) Q, fm (fun i => ports.getD i []) Q) := by
 have l1 : ∀ i, (fm (vI r5.1 r6.2.2) i).length ≤ 1 * i := qdi fun i => by unfold vI; split <;> simp
 have l2 : ∀ i, (fm (fun i => ports.getD i []) i).length ≤ 1000 * i := qdi hl
 refine qaB Q (fun i => ((i : Int), now, ports, fm (vI r5.1 r6.2.2) i, fm (fun i => ports.getD i []) i)) (fun i hi => ?_) ?_
 ·unfold qaR
  have m1 := l1 i; have m2 := l2 i; have m3 := hl i
  simp only [Int.toNat_natCast, h2]
  rw [dec_t (show (i : Int) < (Q : Int) by omega), cond_true, gd_t (inB_t hi)]
  have e1 : fm (vI r5.1 r6.2.2) (i + 1) = fm (vI r5.1 r6.2.2) i ++ vI r5.1 r6.2.2 i := qdY _ _
  have e2 : fm (fun i => ports.getD i []) (i + 1) = fm (fun i => ports.getD i []) i ++ ports.getD i [] := qdY _ _
  rw [e1, e2]
  generalize fm (vI r5.1 r6.2.2) i = X1 at m1 ⊢
  generalize fm (fun i => ports.getD i []) i = X2 at m2 ⊢
  have hw : wi64 ((i : Int) + 1) = ((i + 1 : Nat) : Int) := w1 hi (by omega)
  by_cases h3 : 0 < r5.1.2.1.getD i 0
  ·rw [dec_t h3]
   simp only [cond_true, gd_t (inB_t (show i < r6.2.2.length by omega)), gd_t (inB_t hi), gd_t (show fits (X1.length + 1) 16 = true from qaj (by omega)), Option.bind_some]
   rw [gd_t (inB_t (show i < ports.length by omega)), gd_t (qaj (by omega)), hw, show vI r5.1 r6.2.2 i = [(r6.2.2.getD i 0, r5.1.2.1.getD i 0)] from if_pos h3]
  ·rw [dec_f h3]
   simp only [cond_false, Option.bind_some]
   rw [gd_t (inB_t (show i < ports.length by omega)), gd_t (qaj (by omega)), hw, show vI r5.1 r6.2.2 i = [] from if_neg h3, List.append_nil]
 ·unfold qaR
  simp only [h2]
  rw [dec_f (show ¬ (Q : Int) < (Q : Int) by omega)]; rfl
theorem qnf {l : List Int} (hl : ∀ x ∈ l, i64P x) {w : Int} (hw : 0 ≤ w ∧ w < 256) : qcq l w = some true := by
 refine Ok.true ?_
 have aw : Ok (qby.bind fun r => some r) (fun b => b = true) := Ok.eq qnb (Ok.ret rfl)
 unfold qcq
 refine Ok.eq (qq4 l) (Ok.bif (fun _ => aw) fun _ => ?_)
 obtain ⟨s, hs, s0⟩ := qq2 hl
 refine Ok.eq hs (Ok.bind (qq9 s0) ?_)
 rintro ⟨n, s', p1⟩ ⟨e, s1, k, hN⟩
 replace e : s' = s := e
 subst e
 replace hN : NetP k n := hN
 replace s1 : SrcOk s' p1 := s1
 refine Ok.bind (qqO (GN.of hN) s1) ?_
 rintro ⟨p, s2, q2⟩ ⟨s2k, hP⟩
 replace s2k : SrcOk s2 q2 := s2k
 replace hP : PlS n p := hP
 have hS := hN.segs.len
 have hQ : n.2.2.1.length ≤ 6 := by have := hN.ports.len; have := hN.k6; omega
 refine Ok.bind (qpQ (n := n) s2k hQ) ?_
 rintro _ ⟨q3, feeds, rfl, s3, f1, f2⟩
 refine Ok.bind (qo4 (n := n) s3 hS (fun i hi => by have := (hN.segs.rng _ (qaL (d := sg0) hi)).cap; unfold capI; omega)) ?_
 rintro _ ⟨q4, fills, rfl, s4, g1, g2⟩
 have hpd : ∀ q r, q < n.2.2.1.length → r < n.2.2.1.length → pnode n q = pnode n r → q = r := by
  intro q r hq hr he
  have h1 : (n.2.2.1.map (·.2.1)).getD q 0 = (n.2.2.1.map (·.2.1)).getD r 0 := by
   rw [gD_map _ _ _ po0 _ hq, gD_map _ _ _ po0 _ hr]; exact he
  rw [gD_eq (by simpa using hq), gD_eq (by simpa using hr)] at h1
  exact (List.getElem_inj hN.ports.dif.1).1 h1
 obtain ⟨e, next, ports, t1, t2⟩ := qqS (n := n) (p := p) (feeds := feeds) (fills := fills) hS hQ hpd (fun i hi => g2 _ (by rw [gD_eq (by omega)]; exact List.getElem_mem _))
 refine Ok.eq t1 (Ok.bif (fun _ => aw) fun he => ?_)
 have he : e = 0 := by
  have : decide (e = 0) = true := by simpa using he
  exact of_decide_eq_true this
 obtain ⟨kn, E, given, T⟩ := t2 he
 have hplen : ∀ q, q < n.2.2.1.length → (ports.getD q []).length ≤ 96 := by
  intro q hq
  have h1 := (T.p1 q hq).2.1
  have h2 : cntIn n p (pnode n q) ≤ sumTo (fun _ => 1) n.2.1.length := st_le _ fun i _ => by
   by_cases e : tow n p i = pnode n q
   ·rw [if_pos e]; decide
   ·rw [if_neg e]; decide
  have h3 : ∀ m : Nat, sumTo (fun _ => (1 : Int)) m = m := fun m => by
   induction m with
   | zero => rfl
   | succ m ih => show sumTo (fun _ => (1 : Int)) m + 1 = _; rw [ih]; omega
  rw [h3] at h2
  omega
 have hpl : ∀ i, (ports.getD i []).length ≤ 1000 := fun i => by
  by_cases hi : i < n.2.2.1.length
  ·have := hplen i hi; omega
  ·rw [qfV (by rw [T.lp]; exact hi)]; simp
 refine Ok.eq (qpR (r5 := (p, s2, q2)) (r6 := (s2, q3, feeds)) (Q := n.2.2.1.length) next E.h2 f1 T.lp hQ hpl) ?_
 simp only
 -- in
 have hvv : ∀ x ∈ fm (vI p feeds) n.2.2.1.length, (0 ≤ x.1 ∧ x.1 < 4) ∧ 1 ≤ x.2 ∧ x.2 ≤ 1000 := by
  intro x hx
  obtain ⟨q, hq, hx⟩ := qkk hx
  unfold vI at hx
  split at hx
  ·rename_i hc
   have := E.hb.q q
   have := f2 _ (by rw [gD_eq (by omega)]; exact List.getElem_mem _ : feeds.getD q 0 ∈ feeds)
   rw [List.mem_singleton.1 hx]
   simp only
   omega
  ·simp at hx
 have hvl : (fm (vI p feeds) n.2.2.1.length).length ≤ 1 * n.2.2.1.length := qdi (fun i => by unfold vI; split <;> simp) _
 have hvn : ∀ x ∈ fm (vI p feeds) n.2.2.1.length, 0 ≤ x.2 := fun x hx => by have := (hvv x hx).2; omega
 -- out
 have hov : ∀ x ∈ fm (fun i => ports.getD i []) n.2.2.1.length, (0 ≤ x.1 ∧ x.1 ≤ 999) ∧ 1 ≤ x.2 ∧ x.2 ≤ 1000 := by
  intro x hx
  obtain ⟨q, hq, hx⟩ := qkk hx
  obtain ⟨a1, a2, a3, a4⟩ := T.p1 q hq
  have := qjp a1 hx
  exact ⟨a4 _ (qf7 hx this.1), by omega⟩
 have hol : ((fm (fun i => ports.getD i []) n.2.2.1.length).length : Int) ≤ 96 := by
  rw [qoY]
  have h1 := st_le (a := fun i => ((ports.getD i []).length : Int)) (b := fun q => 12 * cntIn n p (pnode n q)) n.2.2.1.length (fun q hq => (T.p1 q hq).2.1)
  have h2 : sumTo (fun q => cntIn n p (pnode n q)) n.2.2.1.length ≤ n.2.1.length := by
   unfold cntIn
   rw [qoU (f := fun q i => if tow n p i = pnode n q then 1 else 0)]
   have h3 := st_le (a := fun i => sumTo (fun q => if tow n p i = pnode n q then 1 else 0) n.2.2.1.length) (b := fun _ => 1) n.2.1.length (fun i _ => qqk (tow n p i) _ hpd)
   have h4 : ∀ m : Nat, sumTo (fun _ => (1 : Int)) m = m := fun m => by
    induction m with
    | zero => rfl
    | succ m ih => show sumTo (fun _ => (1 : Int)) m + 1 = _; rw [ih]; omega
   rw [h4] at h3
   exact h3
  rw [qoZ] at h1
  omega
 have hon : ∀ x ∈ fm (fun i => ports.getD i []) n.2.2.1.length, 0 ≤ x.2 := fun x hx => by have := (hov x hx).2; omega
 refine Ok.eq (qme (f := fm (vI p feeds) n.2.2.1.length) (by omega) (fun x hx => by have := hvv x hx; omega)) ?_
 refine Ok.eq (qme (f := fm (fun i => ports.getD i []) n.2.2.1.length) (by omega) (fun x hx => by have := hov x hx; omega)) ?_
 obtain ⟨v1, v2⟩ := qa1 hvn
 obtain ⟨o1, o2⟩ := qa1 hon
 have vl := qhJ hvn
 have ol := qhJ hon
 have ve : (exp (fm (vI p feeds) n.2.2.1.length)).length ≤ 6000 := Nat.le_trans (qma (B := 1000) (fun x hx => (hvv x hx).2.2)) (by omega)
 have oe : (exp (fm (fun i => ports.getD i []) n.2.2.1.length)).length ≤ 96000 := Nat.le_trans (qma (B := 1000) (fun x hx => (hov x hx).2.2)) (by omega)
 have vb : ∀ x ∈ joinF (fm (vI p feeds) n.2.2.1.length), 0 ≤ x.1 ∧ x.1 < 4 := fun x hx => by
  have := qf7 hx (v1.pos x hx)
  rw [v2] at this
  obtain ⟨y, y1, y2⟩ := qfj this
  have := (hvv y y1).1
  omega
 have av : ∀ b, amt (joinF (fm (vI p feeds) n.2.2.1.length)) b = sumTo (fun q => feedB p feeds q b) n.2.2.1.length := fun b => by
  rw [qgF hvn, qkj]
  refine qat _ fun q hq => ?_
  unfold vI feedB
  by_cases h : 0 < prate p q
  ·rw [if_pos h, if_pos h, qfk]
  ·rw [if_neg h, if_neg h]; rfl
 have ao : ∀ b, amt (joinF (fm (fun i => ports.getD i []) n.2.2.1.length)) b = sumTo (fun q => amt (ports.getD q []) b) n.2.2.1.length := fun b => by
  rw [qgF hon, qkj]
 generalize joinF (fm (vI p feeds) n.2.2.1.length) = V at *
 generalize joinF (fm (fun i => ports.getD i []) n.2.2.1.length) = W at *
 -- errors
 have x1 : errF fills = 0 := qkm (by omega) fun f hf => by
  obtain ⟨i, hi, rfl⟩ := List.getElem_of_mem hf
  have := (E.fv i (by omega)).1
  rwa [gD_eq hi] at this
 have x2 : errF next = 0 := qkm (by rw [T.ln]; omega) fun f hf => by
  obtain ⟨i, hi, rfl⟩ := List.getElem_of_mem hf
  have hi2 : i < n.2.1.length := by rw [← T.ln]; exact hi
  have hfv := (E.fv i hi2).1
  have hgo : VF (next.getD i []) := by
   by_cases h0 : rate p i = 0
   ·rw [(T.s0 i hi2 (.inr h0)).1]; exact hfv
   ·by_cases h1 : frm n p i ∈ ordL n p
    ·obtain ⟨-, b1, b2, b3, b4⟩ := T.s1 i hi2 h1 h0
     exact VF.of b2 b1 b4 (by have := hfv.tot; omega)
    ·rw [(T.s0 i hi2 (.inl h1)).1]; exact hfv
  rwa [gD_eq hi] at hgo
 have x3 : errF [V] = 0 := qkm (by simp) fun f hf => by
  rw [List.mem_singleton.1 hf]
  refine VF.of (by omega) v1 (fun c hc => ?_) (by rw [v2]; omega)
  obtain ⟨y, y1, y2⟩ := qfj hc
  have := vb y y1
  omega
 have x4 : errF [W] = 0 := qkm (by simp) fun f hf => by
  rw [List.mem_singleton.1 hf]
  refine VF.of (by omega) o1 (fun c hc => ?_) (by rw [o2]; omega)
  rw [o2] at hc
  obtain ⟨y, y1, y2⟩ := qfj hc
  have := (hov y y1).1
  omega
 have hwm : wi64 (900 + (Int.tmod (wi64 w) 50)) = 900 + w % 50 := by
  rw [wi (n := w) (by omega), Int.tmod_eq_emod_of_nonneg hw.1, wi (by have := Int.emod_nonneg w (show (50 : Int) ≠ 0 by decide); have := Int.emod_lt_of_pos w (show (0 : Int) < 50 by decide); omega)]
 have hm0 := Int.emod_nonneg w (show (50 : Int) ≠ 0 by decide)
 have hm1 := Int.emod_lt_of_pos w (show (0 : Int) < 50 by decide)
 have x5 : errF [V ++ [(900 + w % 50, 1)]] = 0 := qkm (by simp) fun f hf => by
  rw [List.mem_singleton.1 hf]
  have he : exp (V ++ [(900 + w % 50, 1)]) = exp V ++ [900 + w % 50] := by rw [qaS]; rfl
  refine VF.of (by rw [List.length_append]; simp only [List.length_cons, List.length_nil]; omega) (qo3 v1 (Int.le_refl _) (fun x hx => by have := vb x hx; simp only; omega)) (fun c hc => ?_) (by rw [he, v2, List.length_append]; simp only [List.length_cons, List.length_nil]; omega)
  rw [he] at hc
  rcases List.mem_append.1 hc with hc | hc
  ·obtain ⟨y, y1, y2⟩ := qfj hc
   have := vb y y1
   omega
  ·rw [List.mem_singleton.1 hc]; omega
 -- what is kept
 have bal : ∀ x, amt (pcs fills) x + amt (pcs [V]) x = amt (pcs next) x + amt (pcs [W]) x := by
  intro x
  rw [qlu, qlu, av, ao, qeB, qeB, qls fills (fun r => amt r x) [], qls next (fun r => amt r x) [], g1, T.ln]
  have hs := T.sum x
  rw [qas (f := fun i => if tow n p i ∈ ordL n p then 0 else amt (given.getD i []) x) _ (fun i hi => by
   have := qra (p := p) kn hi
   have h3 := E.ord.all (tow n p i).toNat (by omega)
   rw [Int.toNat_of_nonneg this.1] at h3
   exact if_pos h3), qat (f := fun q => if pnode n q ∈ ordL n p then feedB p feeds q x else 0) (g := fun q => feedB p feeds q x) _ (fun q hq => by
   have this : 0 ≤ pnode n q ∧ pnode n q < n.1.length := kn.p q hq
   have h3 := E.ord.all (pnode n q).toNat (by omega)
   rw [Int.toNat_of_nonneg this.1] at h3
   exact if_pos h3)] at hs
  omega
 rw [qlp, qre x1 x2 x3 x4 bal]
 simp only [List.nil_append, hwm]
 have bad : amt (pcs fills) (900 + w % 50) + amt (pcs [V ++ [(900 + w % 50, 1)]]) (900 + w % 50) ≠ amt (pcs next) (900 + w % 50) + amt (pcs [W]) (900 + w % 50) := by
  have := bal (900 + w % 50)
  rw [qlu] at this ⊢
  rw [qdq, qfk, if_pos rfl]
  omega
 refine Ok.eq rfl (Ok.gd (qaj (by omega)) (Ok.gd (qaj (by omega)) ?_))
 rw [qlp, qrf x1 x2 x5 x4 bad]
 exact aw
end Go.Proofs.Ytikmdoopfpnbbaa
