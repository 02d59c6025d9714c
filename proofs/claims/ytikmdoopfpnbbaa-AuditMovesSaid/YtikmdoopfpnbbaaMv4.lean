/- What flows: pieces and their runs. No condition. -/
import Derived.Test.YtikmdoopfpnbbaaAu4
namespace Go.Proofs.Ytikmdoopfpnbbaa
open Go Go.Sq
def rn : List Int → Nat
 | [] => 0
 | x :: l => (if l.head? = some x then 0 else 1) + rn l
theorem qq7 (x : Int) (l : List Int) : 1 ≤ rn (x :: l) := by
 induction l generalizing x with
 | nil => simp [rn]
 | cons y l ih =>
  have := ih y
  unfold rn; omega
theorem qqE (l : List Int) (n : Nat) : rn (l.drop n) ≤ rn l := by
 induction l generalizing n with
 | nil => simp
 | cons x l ih =>
  cases n with
  | zero => exact Nat.le_refl _
  | succ n =>
   rw [List.drop_succ_cons]
   have := ih n
   show _ ≤ (if l.head? = some x then 0 else 1) + rn l
   omega
theorem qqF (l : List Int) (n : Nat) : rn (l.take n) ≤ rn l := by
 induction l generalizing n with
 | nil => simp
 | cons x l ih =>
  cases n with
  | zero => simp [rn]
  | succ n =>
   rw [List.take_succ_cons]
   cases n with
   | zero => exact qq7 x l
   | succ n =>
    have := ih (n + 1)
    have hh : (l.take (n + 1)).head? = l.head? := by cases l <;> rfl
    show (if (l.take (n + 1)).head? = some x then 0 else 1) + rn (l.take (n + 1)) ≤ (if l.head? = some x then 0 else 1) + rn l
    rw [hh]; omega
theorem qq8 (k : Nat) (b : Int) (X : List Int) : rn (List.replicate k b ++ X) ≤ 1 + rn X := by
 induction k with
 | zero => simp
 | succ k ih =>
  rw [List.replicate_succ, List.cons_append]
  cases k with
  | zero => simp only [List.replicate_zero, List.nil_append, rn]; split <;> omega
  | succ k =>
   show (if (List.replicate (k + 1) b ++ X).head? = some b then 0 else 1) + rn (List.replicate (k + 1) b ++ X) ≤ _
   rw [if_pos (by rfl)]; omega
theorem qqG {k : Nat} (hk : 1 ≤ k) {b : Int} {X : List Int} (h : X.head? ≠ some b) : rn (List.replicate k b ++ X) = 1 + rn X := by
 induction k with
 | zero => omega
 | succ k ih =>
  rw [List.replicate_succ, List.cons_append]
  cases k with
  | zero => simp only [List.replicate_zero, List.nil_append, rn]; rw [if_neg h]
  | succ k =>
   show (if (List.replicate (k + 1) b ++ X).head? = some b then 0 else 1) + rn (List.replicate (k + 1) b ++ X) = _
   rw [if_pos (by rfl), ih (by omega)]; omega
theorem qoK (f : List Pc) : rn (exp f) ≤ f.length := by
 induction f with
 | nil => exact Nat.le_refl _
 | cons p f ih =>
  have := qq8 p.2.toNat p.1 (exp f)
  show rn (List.replicate p.2.toNat p.1 ++ exp f) ≤ f.length + 1
  omega
theorem qjf : ∀ {f : List Pc}, Norm f → rn (exp f) = f.length
 | [], _ => rfl
 | p :: f, h => by
  have hp := h.pos p (by simp)
  have ih := qjf h.tail
  show rn (List.replicate p.2.toNat p.1 ++ exp f) = f.length + 1
  rw [qqG (by omega) (by
   rw [qpx h.tail]
   cases f with
   | nil => simp
   | cons q f =>
    have := Norm.head h (q := q) rfl
    simp only [List.head?_cons, Option.map_some, ne_eq, Option.some.injEq]
    exact fun e => this e.symm), ih]
  omega
theorem qez {O f : List Pc} {n : Nat} (h : Norm O) (e : exp O = (exp f).take n) : O.length ≤ f.length := by
 rw [← qjf h, e]; exact Nat.le_trans (qqF _ _) (qoK f)
theorem qeA {O f : List Pc} {n : Nat} (h : Norm O) (e : exp O = (exp f).drop n) : O.length ≤ f.length := by
 rw [← qjf h, e]; exact Nat.le_trans (qqE _ _) (qoK f)
theorem qhJ {f : List Pc} (h : ∀ p ∈ f, 0 ≤ p.2) : (joinF f).length ≤ f.length := by
 obtain ⟨h1, h2⟩ := qa1 h
 rw [← qjf h1, h2]; exact qoK f
end Go.Proofs.Ytikmdoopfpnbbaa
namespace Go.Proofs.Ytikmdoopfpnbbaa
open Go Go.Sq
set_option maxRecDepth 100000 in
theorem qnb : qby = some true := by
 unfold qby
 rw [qlp]
 rw [show keptF [[(1, 100)]] [[(2, 30), (1, 70)]] [(2, 30)] [(1, 30)] = (true, 0) by kernel_rfl, Option.bind_some]
 kernel_rfl
end Go.Proofs.Ytikmdoopfpnbbaa
namespace Go.Proofs.Ytikmdoopfpnbbaa
open Go Go.Sq
theorem qf9 : ∀ {f : List Pc}, (∀ p ∈ f, 0 ≤ p.2) → ∀ b, amt f b = ((exp f).count b : Int)
 | [], _, b => rfl
 | p :: f, h, b => by
  have h0 := h p (by simp)
  have ih := qf9 (f := f) (fun q hq => h q (by simp [hq])) b
  show (if b = p.1 then p.2 else 0) + amt f b = _
  rw [ih]
  simp only [exp, List.count_append, List.count_replicate]
  by_cases hb : b = p.1
  ·subst hb; simp; omega
  ·have hb' : ¬ p.1 = b := fun e => hb e.symm
   simp [hb, hb']
theorem qgF {f : List Pc} (h : ∀ p ∈ f, 0 ≤ p.2) (b : Int) : amt (joinF f) b = amt f b := by
 obtain ⟨h1, h2⟩ := qa1 h
 rw [qf9 h, qf9 (fun p hp => by have := h1.pos p hp; omega), h2]
theorem qpC {a b c d : Int} (hb : 0 ≤ b) (hd : 0 < d) (h1 : a ≤ b) (h2 : c * b < a * d) : c < d := by
 have h3 : a * d ≤ b * d := Int.mul_le_mul_of_nonneg_right h1 (by omega)
 have h4 : c * b < d * b := by rw [Int.mul_comm d b]; omega
 exact Int.lt_of_mul_lt_mul_right h4 hb
theorem mul_step' {a b c d : Int} (hd : 0 < d) (h1 : c ≤ d) (hb : 0 ≤ b) (h2 : a * d ≤ c * b) : a ≤ b := by
 have h3 : c * b ≤ d * b := Int.mul_le_mul_of_nonneg_right h1 hb
 have h4 : a * d ≤ b * d := by rw [Int.mul_comm b d]; omega
 exact Int.le_of_mul_le_mul_right h4 hd
theorem qqg {a b : Int} (ha : 0 ≤ a ∧ a ≤ 1000000000001) (hb : 0 ≤ b ∧ b ≤ 1000) : 0 ≤ a * b ∧ a * b ≤ 1000000000001000 := by
 refine ⟨Int.mul_nonneg ha.1 hb.1, ?_⟩
 have h1 : a * b ≤ 1000000000001 * b := Int.mul_le_mul_of_nonneg_right ha.2 hb.1
 have h2 : 1000000000001 * b ≤ 1000000000001 * 1000 := Int.mul_le_mul_of_nonneg_left hb.2 (by omega)
 omega
theorem qqH {rates got : List Int} (hl : rates.length ≤ 100000) (hg : got.length = rates.length) (hp : ∃ i, i < rates.length ∧ 0 < rates.getD i 0) (hr : ∀ j, 0 ≤ rates.getD j 0 ∧ rates.getD j 0 ≤ 1000) (hb : ∀ j, 0 ≤ got.getD j 0 ∧ got.getD j 0 ≤ 1000000000000) : ∃ r : Nat, qeJ rates got = some (r : Int) ∧ r < rates.length ∧ ((∃ j, j < rates.length ∧ got.getD j 0 < rates.getD j 0) → got.getD r 0 < rates.getD r 0) := by
 unfold qeJ
 have key : ∃ s, iter (fun x : Int × Int => qdS rates got x.1 x.2) ((-1), 0) = some s ∧ ∃ r : Nat, s = (r : Int) ∧ r < rates.length ∧ ((∃ j, j < rates.length ∧ got.getD j 0 < rates.getD j 0) → got.getD r 0 < rates.getD r 0) := by
  refine qbm (fun x => ∃ i : Nat, x.2 = (i : Int) ∧ i ≤ rates.length ∧ ((x.1 = -1 ∧ ∀ j, j < i → ¬ 0 < rates.getD j 0) ∨ ∃ r : Nat, x.1 = (r : Int) ∧ r < rates.length ∧ 0 < rates.getD r 0 ∧ ((∃ j, j < i ∧ got.getD j 0 < rates.getD j 0) → got.getD r 0 < rates.getD r 0))) (fun x => ((rates.length : Int) - x.2).toNat) _ ?_ ⟨0, rfl, by omega, .inl ⟨rfl, fun j hj => by omega⟩⟩
  rintro ⟨best, x⟩ ⟨i, h1, h2, h3⟩
  simp only at h1 h3
  subst h1
  unfold qdS
  simp only
  by_cases hi : i < rates.length
  ·right
   rw [dec_t (show (i : Int) < (rates.length : Int) by omega)]
   simp only [cond_true, gd_t (inB_t hi), Int.toNat_natCast]
   rw [wi (show -9223372036854775808 ≤ (i : Int) + 1 ∧ (i : Int) + 1 ≤ 9223372036854775807 by omega)]
   have hri := hr i
   have hbi := hb i
   by_cases hpi : 0 < rates.getD i 0
   ·rw [dec_t hpi]
    rcases h3 with ⟨h3, h4⟩ | ⟨r, h3, h4, h5, h6⟩
    ·subst h3
     simp only [cond_true, Option.bind_some]
     refine ⟨_, rfl, ⟨i + 1, rfl, by omega, .inr ⟨i, rfl, hi, hpi, fun ⟨j, hj, hjg⟩ => ?_⟩⟩, by simp only; omega⟩
     by_cases e : j = i
     ·rw [← e]; exact hjg
     ·have := h4 j (by omega)
      have := (hb j).1
      omega
    ·subst h3
     have hrr := hr r
     have hbr := hb r
     have m1 := qqg (a := got.getD r 0 + 1) (b := rates.getD i 0) (by omega) hri
     have m2 := qqg (a := got.getD i 0 + 1) (b := rates.getD r 0) (by omega) hrr
     rw [dec_f (show ¬ (r : Int) < 0 by omega)]
     simp only [cond_true, cond_false, gd_t (inB_t (show i < got.length by omega)), gd_t (inB_t h4), gd_t (inB_t (show r < got.length by omega)), Option.bind_some, Int.toNat_natCast]
     have hd : decide (wi64 (wi64 (got.getD i 0 + 1) * rates.getD r 0) < wi64 (wi64 (got.getD r 0 + 1) * rates.getD i 0)) = decide ((got.getD i 0 + 1) * rates.getD r 0 < (got.getD r 0 + 1) * rates.getD i 0) := by
      rw [wi (n := got.getD i 0 + 1) (by omega), wi (n := got.getD r 0 + 1) (by omega), wi (n := (got.getD r 0 + 1) * rates.getD i 0) (by omega), wi (n := (got.getD i 0 + 1) * rates.getD r 0) (by omega)]
     rw [hd]
     by_cases hc : (got.getD i 0 + 1) * rates.getD r 0 < (got.getD r 0 + 1) * rates.getD i 0
     ·rw [dec_t hc]
      refine ⟨_, rfl, ⟨i + 1, rfl, by omega, .inr ⟨i, rfl, hi, hpi, fun ⟨j, hj, hjg⟩ => ?_⟩⟩, by simp only; omega⟩
      by_cases e : j = i
      ·rw [← e]; exact hjg
      ·have h7 := h6 ⟨j, by omega, hjg⟩
       have := qpC (a := got.getD r 0 + 1) (b := rates.getD r 0) (c := got.getD i 0 + 1) (d := rates.getD i 0) (by omega) hpi (by omega) hc
       omega
     ·rw [dec_f hc]
      refine ⟨_, rfl, ⟨i + 1, rfl, by omega, .inr ⟨r, rfl, h4, h5, fun ⟨j, hj, hjg⟩ => ?_⟩⟩, by simp only; omega⟩
      by_cases e : j = i
      ·subst e
       have := mul_step' (a := got.getD r 0 + 1) (b := rates.getD r 0) (c := got.getD j 0 + 1) (d := rates.getD j 0) hpi (by omega) (by omega) (by omega)
       omega
      ·exact h6 ⟨j, by omega, hjg⟩
   ·rw [dec_f hpi]
    simp only [cond_false, Option.bind_some]
    refine ⟨_, rfl, ⟨i + 1, rfl, by omega, ?_⟩, by simp only; omega⟩
    rcases h3 with ⟨h3, h4⟩ | ⟨r, h3, h4, h5, h6⟩
    ·refine .inl ⟨h3, fun j hj => ?_⟩
     by_cases e : j = i
     ·rw [e]; exact hpi
     ·exact h4 j (by omega)
    ·refine .inr ⟨r, h3, h4, h5, fun ⟨j, hj, hjg⟩ => ?_⟩
     by_cases e : j = i
     ·subst e; omega
     ·exact h6 ⟨j, by omega, hjg⟩
  ·left
   rw [dec_f (show ¬ (i : Int) < (rates.length : Int) by omega)]
   rcases h3 with ⟨h3, h4⟩ | ⟨r, h3, h4, h5, h6⟩
   ·obtain ⟨j, hj, hr⟩ := hp
    exact absurd hr (h4 j (by omega))
   ·exact ⟨_, rfl, r, h3, h4, fun ⟨j, hj, hjg⟩ => h6 ⟨j, by omega, hjg⟩⟩
 obtain ⟨s, q1, r, q2, q3⟩ := key
 rw [q1, q2]
 exact ⟨r, rfl, q3⟩
end Go.Proofs.Ytikmdoopfpnbbaa
namespace Go.Proofs.Ytikmdoopfpnbbaa
open Go Go.Sq
theorem qav (x : Int) (l : List Int) : isum (x :: l) = x + isum l := by
 simp [isum]
theorem qjg : ∀ {X Y Z : List Int}, X.length = Y.length → Z.length = X.length → (∀ j, j < X.length → Z.getD j 0 = X.getD j 0 + Y.getD j 0) → isum Z = isum X + isum Y
 | [], [], [], _, _, _ => by simp [isum]
 | x :: X, y :: Y, z :: Z, h1, h2, h => by
  have h0 := h 0 (by simp)
  simp only [List.getD_cons_zero] at h0
  have ih := qjg (X := X) (Y := Y) (Z := Z) (by simpa using h1) (by simpa using h2) (fun j hj => by have := h (j + 1) (by simpa using hj); simpa using this)
  rw [qav, qav, qav, h0, ih]; omega
 | [], _ :: _, _, h, _, _ => by simp at h
 | _ :: _, [], _, h, _, _ => by simp at h
 | [], [], _ :: _, _, h, _ => by simp at h
 | _ :: _, _ :: _, [], _, h, _ => by simp at h
theorem qpD {l : List Int} {i : Nat} (h : i < l.length) (x : Int) : isum (l.set i x) = isum l + (x - l.getD i 0) := by
 induction l generalizing i with
 | nil => simp at h
 | cons a l ih =>
  cases i with
  | zero => simp only [List.set_cons_zero, List.getD_cons_zero, qav]; omega
  | succ i => simp only [List.set_cons_succ, List.getD_cons_succ, qav, ih (by simpa using h)]; omega
theorem isum_le {X Y : List Int} (h : X.length = Y.length) (hx : ∀ j, X.getD j 0 ≤ Y.getD j 0) : isum X ≤ isum Y := by
 induction X generalizing Y with
 | nil => cases Y with | nil => exact Int.le_refl _ | cons y Y => simp at h
 | cons x X ih =>
  cases Y with
  | nil => simp at h
  | cons y Y =>
   have h0 := hx 0
   simp only [List.getD_cons_zero] at h0
   have := ih (Y := Y) (by simpa using h) (fun j => by have := hx (j + 1); simpa using this)
   rw [qav, qav]; omega
theorem qoL {X Y : List Int} (h : X.length = Y.length) (hx : isum X < isum Y) : ∃ j, j < Y.length ∧ X.getD j 0 < Y.getD j 0 := by
 refine Classical.byContradiction fun hn => ?_
 have := isum_le (X := Y) (Y := X) h.symm (fun j => by
  by_cases hj : j < Y.length
  ·have : ¬ X.getD j 0 < Y.getD j 0 := fun e => hn ⟨j, hj, e⟩
   omega
  ·rw [List.getD_eq_getElem?_getD, List.getElem?_eq_none (by omega), List.getD_eq_getElem?_getD, List.getElem?_eq_none (by omega)]; exact Int.le_refl _)
 omega
theorem qpE {X Y : List Int} (h : X.length = Y.length) (hx : ∀ j, X.getD j 0 ≤ Y.getD j 0) (hs : isum X = isum Y) : ∀ j, X.getD j 0 = Y.getD j 0 := by
 induction X generalizing Y with
 | nil => cases Y with | nil => exact fun _ => rfl | cons y Y => simp at h
 | cons x X ih =>
  cases Y with
  | nil => simp at h
  | cons y Y =>
   have h0 := hx 0
   simp only [List.getD_cons_zero] at h0
   have hx' : ∀ j, X.getD j 0 ≤ Y.getD j 0 := fun j => by have := hx (j + 1); simpa using this
   have hle := isum_le (X := X) (Y := Y) (by simpa using h) hx'
   rw [qav, qav] at hs
   have := ih (Y := Y) (by simpa using h) hx' (by omega)
   intro j
   cases j with
   | zero => simp only [List.getD_cons_zero]; omega
   | succ j => simpa using this j
theorem qeB (rows : List (List Pc)) (b : Int) : amt (pcs rows) b = isum (rows.map fun r => amt r b) := by
 induction rows with
 | nil => rfl
 | cons r rows ih => rw [show pcs (r :: rows) = r ++ pcs rows from rfl, qdq, ih, List.map_cons, qav]
theorem qpF (p : Pc) (f : List Pc) : tot (p :: f) = p.2 + tot f := by show isum (p.2 :: f.map (·.2)) = _; rw [qav]; rfl
theorem hand1 {vin : List Pc} {rates : List Int} {v : Nat} (hl : rates.length ≤ 100000) (hp : ∃ i, i < rates.length ∧ 0 < rates.getD i 0) (hv : 0 ≤ (vin.getD v pz).2 ∧ (vin.getD v pz).2 ≤ 10000000) {got was : List Int} (hg : got.length = rates.length) (hr : ∀ j, 0 ≤ rates.getD j 0 ∧ rates.getD j 0 ≤ 1000) (hb : ∀ j, 0 ≤ got.getD j 0 ∧ got.getD j 0 ≤ rates.getD j 0) (ht : isum got + (vin.getD v pz).2 ≤ isum rates) (out : List (List Pc)) :
  ∃ got', iter (fun x : Int × List (List Pc) × List Int × List Int => qcF vin rates (v : Int) x.1 x.2.1 x.2.2.1 x.2.2.2) (0, out, got, was) = some (out, got', was) ∧ got'.length = rates.length ∧ isum got' = isum got + (vin.getD v pz).2 ∧ ∀ j, got.getD j 0 ≤ got'.getD j 0 ∧ got'.getD j 0 ≤ got.getD j 0 + (vin.getD v pz).2 ∧ got'.getD j 0 ≤ rates.getD j 0 := by
 have key : ∃ s, iter (fun x : Int × List (List Pc) × List Int × List Int => qcF vin rates (v : Int) x.1 x.2.1 x.2.2.1 x.2.2.2) (0, out, got, was) = some s ∧ ∃ got', s = (out, got', was) ∧ got'.length = rates.length ∧ isum got' = isum got + (vin.getD v pz).2 ∧ ∀ j, got.getD j 0 ≤ got'.getD j 0 ∧ got'.getD j 0 ≤ got.getD j 0 + (vin.getD v pz).2 ∧ got'.getD j 0 ≤ rates.getD j 0 := by
  refine qbm (fun x => 0 ≤ x.1 ∧ x.1 ≤ (vin.getD v pz).2 ∧ x.2.1 = out ∧ x.2.2.2 = was ∧ x.2.2.1.length = rates.length ∧ isum x.2.2.1 = isum got + x.1 ∧ ∀ j, got.getD j 0 ≤ x.2.2.1.getD j 0 ∧ x.2.2.1.getD j 0 ≤ got.getD j 0 + x.1 ∧ x.2.2.1.getD j 0 ≤ rates.getD j 0) (fun x => ((vin.getD v pz).2 - x.1).toNat) _ ?_ ⟨Int.le_refl _, hv.1, rfl, rfl, hg, by simp, fun j => ⟨Int.le_refl _, by simp, (hb j).2⟩⟩
  rintro ⟨k, o, g, w⟩ ⟨h1, h2, h3, h4, h5, h6, h7⟩
  simp only at h1 h2 h3 h4 h5 h6 h7
  subst h3 h4
  unfold qcF
  simp only [Int.toNat_natCast]
  by_cases hk : k < (vin.getD v pz).2
  ·right
   obtain ⟨r, r1, r2, r3⟩ := qqH hl h5 hp hr (fun j => by have := h7 j; have := hb j; have := hr j; omega)
   have r3 := r3 (qoL h5 (by omega))
   rw [dec_t (show k < (vin.getD v (0, 0)).2 from hk), r1]
   simp only [cond_true, Option.bind_some, gd_t (inB_t (show r < g.length by omega)), Int.toNat_natCast]
   have hr1 := h7 r
   have hr0 := hb r
   have hr2 := hr r
   rw [wi (show -9223372036854775808 ≤ k + 1 ∧ k + 1 ≤ 9223372036854775807 by omega), wi (show -9223372036854775808 ≤ g.getD r 0 + 1 ∧ g.getD r 0 + 1 ≤ 9223372036854775807 by omega)]
   refine ⟨_, rfl, ⟨by simp only; omega, by simp only; omega, rfl, rfl, by simp only [List.length_set]; exact h5, ?_, fun j => ?_⟩, by simp only; omega⟩
   ·simp only
    rw [qpD (by omega)]; omega
   ·simp only
    rw [qqd]
    have hj := h7 j
    split
    ·rename_i e; rw [← e.1]; omega
    ·omega
  ·left
   rw [dec_f (show ¬ k < (vin.getD v (0, 0)).2 from hk)]
   have hke : k = (vin.getD v pz).2 := by omega
   subst hke
   exact ⟨_, rfl, g, rfl, h5, h6, h7⟩
 obtain ⟨s, q1, g, rfl, q2⟩ := key
 exact ⟨g, q1, q2⟩
theorem hand2 {vin : List Pc} {rates : List Int} {v : Nat} (hl : rates.length ≤ 100000) {out : List (List Pc)} {got was : List Int} (ho : out.length = rates.length) (hg : got.length = rates.length) (hw : was.length = rates.length)
  (hb : ∀ j, 0 ≤ was.getD j 0 ∧ was.getD j 0 ≤ got.getD j 0 ∧ got.getD j 0 ≤ 2000000000000) (hlen : ∀ j, (out.getD j []).length ≤ 1000) :
  ∃ out', iter (fun x : Int × List (List Pc) × List Int × List Int => qcG vin rates (v : Int) x.1 x.2.1 x.2.2.1 x.2.2.2) (0, out, got, was) = some (out', got) ∧ out'.length = rates.length ∧ ∀ j, j < rates.length → out'.getD j [] = out.getD j [] ++ [((vin.getD v pz).1, got.getD j 0 - was.getD j 0)] := by
 have key : ∃ s, iter (fun x : Int × List (List Pc) × List Int × List Int => qcG vin rates (v : Int) x.1 x.2.1 x.2.2.1 x.2.2.2) (0, out, got, was) = some s ∧ ∃ out', s = (out', got) ∧ out'.length = rates.length ∧ ∀ j, j < rates.length → out'.getD j [] = out.getD j [] ++ [((vin.getD v pz).1, got.getD j 0 - was.getD j 0)] := by
  refine qbm (fun x => ∃ i : Nat, x.1 = (i : Int) ∧ i ≤ rates.length ∧ x.2.2.1 = got ∧ x.2.2.2 = was ∧ x.2.1.length = rates.length ∧ ∀ j, x.2.1.getD j [] = if j < i then out.getD j [] ++ [((vin.getD v pz).1, got.getD j 0 - was.getD j 0)] else out.getD j []) (fun x => ((rates.length : Int) - x.1).toNat) _ ?_ ⟨0, rfl, by omega, rfl, rfl, ho, fun j => by simp⟩
  rintro ⟨x, o, g, w⟩ ⟨i, h1, h2, h3, h4, h5, h6⟩
  simp only at h1 h3 h4 h5 h6
  subst h1 h3 h4
  unfold qcG
  simp only
  by_cases hi : i < rates.length
  ·right
   have hbi := hb i
   have hoi := h6 i
   rw [if_neg (Nat.lt_irrefl i)] at hoi
   have hli := hlen i
   rw [dec_t (show (i : Int) < (rates.length : Int) by omega)]
   simp only [cond_true, Int.toNat_natCast, gd_t (inB_t (show i < o.length by omega)), gd_t (inB_t (show i < g.length by omega)), gd_t (inB_t (show i < w.length by omega))]
   rw [hoi, gd_t (qaj (by omega)), gd_t (show Nat.beq i i = true by simp)]
   rw [wi (show -9223372036854775808 ≤ (i : Int) + 1 ∧ (i : Int) + 1 ≤ 9223372036854775807 by omega), wi (show -9223372036854775808 ≤ g.getD i 0 - w.getD i 0 ∧ g.getD i 0 - w.getD i 0 ≤ 9223372036854775807 by omega)]
   refine ⟨_, rfl, ⟨i + 1, rfl, by omega, rfl, rfl, by simp only [List.length_set]; exact h5, fun j => ?_⟩, by simp only; omega⟩
   simp only
   rw [qqd]
   by_cases hj : j = i
   ·subst hj
    rw [if_pos ⟨rfl, by omega⟩, if_pos (by omega)]
   ·rw [if_neg (fun e => hj e.1.symm), h6 j]
    by_cases hji : j < i
    ·rw [if_pos hji, if_pos (by omega)]
    ·rw [if_neg hji, if_neg (by omega)]
  ·left
   rw [dec_f (show ¬ (i : Int) < (rates.length : Int) by omega)]
   refine ⟨_, rfl, o, rfl, h5, fun j hj => ?_⟩
   rw [h6 j, if_pos (by omega)]
 obtain ⟨s, q1, o, rfl, q2⟩ := key
 exact ⟨o, q1, q2⟩
end Go.Proofs.Ytikmdoopfpnbbaa
namespace Go.Proofs.Ytikmdoopfpnbbaa
open Go Go.Sq
theorem gD_map {A B : Type} (f : A → B) (l : List A) (j : Nat) (d : A) (e : B) (h : j < l.length) : (l.map f).getD j e = f (l.getD j d) := by
 rw [gD_eq (by simpa using h), gD_eq h, List.getElem_map]
theorem qml {A : Type} (P Q : List A) (x y : A) : (P ++ x :: Q).set P.length y = P ++ y :: Q := by
 induction P with
 | nil => rfl
 | cons a P ih => simp only [List.cons_append, List.length_cons, List.set_cons_succ, ih]
theorem qjh (n : Nat) : isum (List.replicate n (0 : Int)) = 0 := by
 have := qiZ (l := List.replicate n (0 : Int)) (a := 0) (b := 0) (fun x hx => by rw [(List.mem_replicate.1 hx).2]; exact ⟨Int.le_refl _, Int.le_refl _⟩)
 omega
theorem hand3 {out : List (List Pc)} (hl : out.length ≤ 100000) (hv : ∀ r ∈ out, Vol r) : iter (fun x : Int × List (List Pc) => qcH out x.1 x.2) (0, out) = some (out.map joinF) := by
 have key : ∃ s, iter (fun x : Int × List (List Pc) => qcH out x.1 x.2) (0, out) = some s ∧ s = out.map joinF := by
  refine qbm (fun x => ∃ i : Nat, x.1 = (i : Int) ∧ i ≤ out.length ∧ x.2 = (out.take i).map joinF ++ out.drop i) (fun x => ((out.length : Int) - x.1).toNat) _ ?_ ⟨0, rfl, by omega, by simp⟩
  rintro ⟨x, o⟩ ⟨i, h1, h2, h3⟩
  simp only at h1 h3
  subst h1 h3
  unfold qcH
  simp only
  have hti : ((out.take i).map joinF).length = i := by rw [List.length_map, List.length_take]; omega
  have hol : ((out.take i).map joinF ++ out.drop i).length = out.length := by rw [List.length_append, hti, List.length_drop]; omega
  by_cases hi : i < out.length
  ·right
   have hg : ((out.take i).map joinF ++ out.drop i).getD i [] = out.getD i [] := by
    rw [qeQ, hti, if_neg (Nat.lt_irrefl _), Nat.sub_self, gD_eq hi, gD_eq (by simp; omega)]; simp
   rw [dec_t (show (i : Int) < (out.length : Int) by omega)]
   simp only [cond_true, Int.toNat_natCast, gd_t (inB_t (show i < ((out.take i).map joinF ++ out.drop i).length by omega))]
   rw [hg, (qey (hv _ (by rw [gD_eq hi]; exact List.getElem_mem hi))).2]
   simp only [Option.bind_some]
   rw [gd_t (show Nat.beq i i = true by simp), wi (show -9223372036854775808 ≤ (i : Int) + 1 ∧ (i : Int) + 1 ≤ 9223372036854775807 by omega)]
   refine ⟨_, rfl, ⟨i + 1, rfl, by omega, ?_⟩, by simp only; omega⟩
   simp only
   rw [List.drop_eq_getElem_cons hi, List.take_succ_eq_append_getElem hi, List.map_append, List.map_cons, List.map_nil, gD_eq hi]
   have := qml ((out.take i).map joinF) (out.drop (i + 1)) out[i] (joinF out[i])
   rw [hti] at this
   rw [this]; simp
  ·left
   rw [dec_f (show ¬ (i : Int) < (out.length : Int) by omega)]
   refine ⟨_, rfl, ?_⟩
   rw [List.drop_of_length_le (by omega), List.take_of_length_le (by omega), List.append_nil]
 obtain ⟨s, q1, rfl⟩ := key
 exact q1
theorem qpG {vin : List Pc} {i : Nat} (h : i < vin.length) : vin.take (i + 1) = vin.take i ++ [vin.getD i pz] := by rw [List.take_succ_eq_append_getElem h, gD_eq h]
theorem qqI {vin : List Pc} {rates : List Int} (hl : rates.length ≤ 100000) (hp : ∃ i, i < rates.length ∧ 0 < rates.getD i 0) (hr : ∀ j, 0 ≤ rates.getD j 0 ∧ rates.getD j 0 ≤ 1000) (ht : tot vin = isum rates) (hv : vin.length ≤ 1000 ∧ ∀ p ∈ vin, 0 ≤ p.2 ∧ p.2 ≤ 10000000) :
  ∃ rows, qeK vin rates = some rows ∧ rows.length = rates.length ∧ (∀ r ∈ rows, Norm r ∧ (∀ c ∈ exp r, ∃ p ∈ vin, p.1 = c) ∧ ((exp r).length : Int) ≤ tot vin) ∧ (∀ b, amt (pcs rows) b = amt vin b) ∧ ∀ j, j < rates.length → ((exp (rows.getD j [])).length : Int) = rates.getD j 0 ∧ (rows.getD j []).length ≤ vin.length := by
 have hvn : ∀ i, 0 ≤ (vin.getD i pz).2 ∧ (vin.getD i pz).2 ≤ 10000000 := by
  intro i
  by_cases hi : i < vin.length
  ·rw [gD_eq hi]; exact hv.2 _ (List.getElem_mem hi)
  ·rw [List.getD_eq_getElem?_getD, List.getElem?_eq_none (by omega)]; exact ⟨Int.le_refl _, by decide⟩
 have tot_le : ∀ i, tot (vin.take i) ≤ tot vin := by
  intro i
  have h := tot_app' (vin.take i) (vin.drop i)
  rw [List.take_append_drop] at h
  have := qil (f := vin.drop i) (by rw [List.length_drop]; have := hv.1; omega) (fun p hp => hv.2 p (List.mem_of_mem_drop hp))
  omega
 have key : ∃ s, iter (fun x : Int × List (List Pc) × List Int => qdT vin rates x.1 x.2.1 x.2.2) (0, List.replicate (rates.length : Int).toNat ([] : List Pc), List.replicate (rates.length : Int).toNat (0 : Int)) = some s ∧
   s.length = rates.length ∧ (∀ j, j < rates.length → ((s.getD j []).length ≤ 1000 ∧ (s.getD j []).length ≤ vin.length ∧ tot (s.getD j []) = rates.getD j 0) ∧ (∀ p ∈ s.getD j [], (0 ≤ p.2 ∧ p.2 ≤ 10000000) ∧ ∃ q ∈ vin, q.1 = p.1) ∧ tot (s.getD j []) ≤ tot vin) ∧ ∀ b, amt (pcs s) b = amt vin b := by
  refine qbm (fun x => ∃ i : Nat, x.1 = (i : Int) ∧ i ≤ vin.length ∧ x.2.1.length = rates.length ∧ x.2.2.length = rates.length ∧ isum x.2.2 = tot (vin.take i) ∧ (∀ j, 0 ≤ x.2.2.getD j 0 ∧ x.2.2.getD j 0 ≤ rates.getD j 0) ∧
   (∀ j, (x.2.1.getD j []).length ≤ i ∧ (∀ p ∈ x.2.1.getD j [], (0 ≤ p.2 ∧ p.2 ≤ 10000000) ∧ ∃ q ∈ vin, q.1 = p.1) ∧ (j < rates.length → tot (x.2.1.getD j []) = x.2.2.getD j 0)) ∧ ∀ b, amt (pcs x.2.1) b = amt (vin.take i) b) (fun x => ((vin.length : Int) - x.1).toNat) _ ?_ ⟨0, rfl, by omega, by simp, by simp, ?_, ?_, ?_, ?_⟩
  ·rintro ⟨x, out, got⟩ ⟨i, h1, h2, h3, h4, h5, h6, h7, h8⟩
   simp only at h1 h3 h4 h5 h6 h7 h8
   subst h1
   unfold qdT
   simp only
   by_cases hi : i < vin.length
   ·right
    have hvi := hvn i
    have hbig : (10000000 : Int) * i ≤ 10000000000 := by have := hv.1; omega
    obtain ⟨got', a1, a2, a3, a4⟩ := hand1 (vin := vin) (v := i) hl hp hvi (got := got) (was := [] ++ got) h4 hr h6 (by have := qkb vin hi; have := tot_le (i + 1); omega) out
    obtain ⟨out', b1, b2, b3⟩ := hand2 (vin := vin) (rates := rates) (v := i) hl (out := out) (got := got') (was := got) h3 a2 h4 (fun j => by have := h6 j; have := a4 j; have := hr j; omega) (fun j => by have := (h7 j).1; have := hv.1; omega)
    rw [dec_t (show (i : Int) < (vin.length : Int) by omega)]
    simp only [cond_true, gd_t (inB_t hi), gd_t (show fits (0 + got.length) 8 = true from qaj (by omega))]
    rw [a1]
    simp only [Option.bind_some, List.nil_append]
    rw [b1]
    simp only [Option.bind_some]
    rw [wi (show -9223372036854775808 ≤ (i : Int) + 1 ∧ (i : Int) + 1 ≤ 9223372036854775807 by omega)]
    have hout' : ∀ j, ¬ j < rates.length → out'.getD j [] = [] := fun j hj => by rw [List.getD_eq_getElem?_getD, List.getElem?_eq_none (by omega)]; rfl
    have hd : ∀ j, 0 ≤ got'.getD j 0 - got.getD j 0 ∧ got'.getD j 0 - got.getD j 0 ≤ 10000000 := fun j => by have := a4 j; omega
    refine ⟨_, rfl, ⟨i + 1, rfl, by omega, b2, a2, ?_, fun j => ?_, fun j => ?_, fun b => ?_⟩, by simp only; omega⟩
    ·simp only
     rw [a3, h5, qkb vin hi]
    ·simp only
     have := h6 j; have := a4 j
     constructor
     ·omega
     ·omega
    ·simp only
     by_cases hj : j < rates.length
     ·rw [b3 j hj]
      have hj7 := h7 j
      refine ⟨by rw [List.length_append]; simp; exact hj7.1, fun p hpm => ?_, fun _ => ?_⟩
      ·rcases List.mem_append.1 hpm with hpm | hpm
       ·exact hj7.2.1 p hpm
       ·rw [List.mem_singleton.1 hpm]
        exact ⟨hd j, vin.getD i pz, by rw [gD_eq hi]; exact List.getElem_mem hi, rfl⟩
      ·rw [tot_app', hj7.2.2 hj, qf8]; simp only; omega
     ·rw [hout' j hj]
      exact ⟨by simp, fun p hpm => by simp at hpm, fun h => absurd h hj⟩
    ·simp only
     rw [qpG hi, qdq, ← h8 b, qeB, qeB, qfk]
     have hdiff : isum ((List.range rates.length).map fun j => got'.getD j 0 - got.getD j 0) = (vin.getD i pz).2 := by
      have := qjg (X := got) (Y := (List.range rates.length).map fun j => got'.getD j 0 - got.getD j 0) (Z := got') (by simp [h4]) (by omega) (fun j hj => by
       rw [gD_map _ _ _ 0 _ (by simp; omega), gD_eq (l := List.range rates.length) (by simp; omega)]; simp; omega)
      omega
     have hz := qjg (X := out.map fun r => amt r b) (Y := (List.range rates.length).map fun j => if b = (vin.getD i pz).1 then got'.getD j 0 - got.getD j 0 else 0) (Z := out'.map fun r => amt r b) (by simp [h3]) (by simp [h3, b2]) (fun j hj => by
      have hj' : j < rates.length := by simpa [h3] using hj
      rw [gD_map _ _ _ [] _ (by omega), gD_map _ _ _ [] _ (by omega), b3 j hj', qdq, qfk, gD_map _ _ _ 0 _ (by simpa using hj'), gD_eq (l := List.range rates.length) (by simpa using hj')]
      simp)
     rw [hz]
     by_cases hb : b = (vin.getD i pz).1
     ·simp only [if_pos hb]; rw [hdiff]
     ·simp only [if_neg hb]
      have : ∀ n : Nat, isum ((List.range n).map fun _ => (0 : Int)) = 0 := by
       intro n
       have := qiZ (l := (List.range n).map fun _ => (0 : Int)) (a := 0) (b := 0) (fun x hx => by simp at hx; omega)
       omega
      rw [this]
   ·left
    rw [dec_f (show ¬ (i : Int) < (vin.length : Int) by omega)]
    have hie : i = vin.length := by omega
    rw [hie, List.take_of_length_le (Nat.le_refl _)] at h5 h8
    have hgn : ∀ x ∈ got, 0 ≤ x := fun x hx => by
     obtain ⟨j, hj⟩ := List.getElem?_of_mem hx
     have := (h6 j).1
     rwa [List.getD_eq_getElem?_getD, hj] at this
    have hall := qpE h4 (fun j => (h6 j).2) (by rw [h5, ht])
    refine ⟨_, rfl, h3, fun j hj => ⟨⟨by have := (h7 j).1; have := hv.1; omega, by have := (h7 j).1; omega, by rw [(h7 j).2.2 hj, hall j]⟩, (h7 j).2.1, ?_⟩, h8⟩
    rw [(h7 j).2.2 hj, ← h5]
    exact qpv hgn (by rw [gD_eq (by omega)]; exact List.getElem_mem _)
  ·simp only [tot, qjh, List.take_zero, List.map_nil]; rfl
  ·intro j
   rw [List.getD_eq_getElem?_getD]
   cases hx : (List.replicate (rates.length : Int).toNat (0 : Int))[j]? with
   | none => exact ⟨Int.le_refl _, (hr j).1⟩
   | some x => rw [(List.mem_replicate.1 (List.mem_of_getElem? hx)).2]; exact ⟨Int.le_refl _, (hr j).1⟩
  ·intro j
   have : (List.replicate (rates.length : Int).toNat ([] : List Pc)).getD j [] = [] := by
    rw [List.getD_eq_getElem?_getD]
    cases hx : (List.replicate (rates.length : Int).toNat ([] : List Pc))[j]? with
    | none => rfl
    | some x => rw [(List.mem_replicate.1 (List.mem_of_getElem? hx)).2]; rfl
   simp only
   rw [this]
   refine ⟨by simp, fun p hp => by simp at hp, fun hj => ?_⟩
   rw [gD_eq (by simpa using hj), List.getElem_replicate]; rfl
  ·intro b
   simp only
   rw [qeB]
   have := qiZ (l := (List.replicate (rates.length : Int).toNat ([] : List Pc)).map fun r => amt r b) (a := 0) (b := 0) (fun x hx => by
    obtain ⟨r, hr, rfl⟩ := List.mem_map.1 hx
    rw [(List.mem_replicate.1 hr).2]; exact ⟨Int.le_refl _, Int.le_refl _⟩)
   rw [List.take_zero]
   show _ = (0 : Int)
   omega
 obtain ⟨s, q1, q2, q3, q4⟩ := key
 have hvol : ∀ r ∈ s, Vol r ∧ (∀ p ∈ r, ∃ q ∈ vin, q.1 = p.1) ∧ tot r ≤ tot vin := fun r hr => by
  obtain ⟨j, hj⟩ := List.getElem?_of_mem hr
  have hjl : j < s.length := (List.getElem?_eq_some_iff.1 hj).1
  have := q3 j (by omega)
  rw [List.getD_eq_getElem?_getD, hj] at this
  exact ⟨⟨this.1.1, fun p hp => (this.2.1 p hp).1⟩, fun p hp => (this.2.1 p hp).2, this.2.2⟩
 refine ⟨s.map joinF, ?_, by rw [List.length_map, q2], fun r hr => ?_, fun b => ?_, fun j hj => ?_⟩
 ·unfold qeK
  rw [gd_t (show makeG 24 (rates.length : Int) = true by unfold makeG; simp only [Bool.and_eq_true, decide_eq_true_eq]; omega), gd_t (show makeG 8 (rates.length : Int) = true by unfold makeG; simp only [Bool.and_eq_true, decide_eq_true_eq]; omega), q1]
  simp only [Option.bind_some]
  rw [hand3 (by omega) fun r hr => (hvol r hr).1]; rfl
 ·obtain ⟨r0, hr0, rfl⟩ := List.mem_map.1 hr
  obtain ⟨v1, v2, v3⟩ := hvol r0 hr0
  have hnn : ∀ p ∈ r0, 0 ≤ p.2 := fun p hp => (v1.2 p hp).1
  obtain ⟨j1, j2⟩ := qa1 hnn
  refine ⟨j1, fun c hc => ?_, ?_⟩
  ·rw [j2] at hc
   obtain ⟨p, p1, p2⟩ := qfj hc
   obtain ⟨q, k1, k2⟩ := v2 p p1
   exact ⟨q, k1, by rw [k2, p2]⟩
  ·rw [j2, qex hnn]; exact v3
 ·rw [qeB, List.map_map, ← q4 b, qeB]
  congr 1
  apply List.map_congr_left
  intro r hr
  exact qgF (fun p hp => ((hvol r hr).1.2 p hp).1) b
 ·have hnn : ∀ p ∈ s.getD j [], 0 ≤ p.2 := fun p hp => ((q3 j hj).2.1 p hp).1.1
  rw [gD_map joinF s j [] [] (by omega)]
  refine ⟨?_, Nat.le_trans (qhJ hnn) (q3 j hj).1.2.1⟩
  rw [(qa1 hnn).2, qex hnn]
  exact (q3 j hj).1.2.2
end Go.Proofs.Ytikmdoopfpnbbaa
namespace Go.Proofs.Ytikmdoopfpnbbaa
open Go Go.Sq
theorem qkd {f : List Pc} (hl : f.length ≤ 100000) : qcl f = some f.reverse := by
 unfold qcl
 have key : ∃ s, iter (fun x : Int × List Pc => qc7 f x.1 x.2) (wi64 ((f.length : Int) - 1), []) = some s ∧ s = f.reverse := by
  refine qbm (fun x => ∃ i : Nat, x.1 = (i : Int) - 1 ∧ i ≤ f.length ∧ x.2 = (f.drop i).reverse) (fun x => (x.1 + 1).toNat) _ ?_ ⟨f.length, wi (by omega), Nat.le_refl _, by simp⟩
  rintro ⟨x, o⟩ ⟨i, h1, h2, h3⟩
  simp only at h1 h3
  subst h1 h3
  unfold qc7
  simp only
  cases i with
  | zero =>
   left
   rw [dec_f (show ¬ (0 : Int) ≤ ((0 : Nat) : Int) - 1 by omega)]
   exact ⟨_, rfl, by simp⟩
  | succ i =>
   right
   have hi : i < f.length := by omega
   have e1 : ((i + 1 : Nat) : Int) - 1 = (i : Int) := by omega
   rw [e1, dec_t (show (0 : Int) ≤ (i : Int) by omega)]
   have hlen : ((f.drop (i + 1)).reverse).length ≤ 100000 := by simp; omega
   simp only [cond_true, Int.toNat_natCast, gd_t (inB_t hi)]
   rw [gd_t (qaj (by omega)), wi (show -9223372036854775808 ≤ (i : Int) - 1 ∧ (i : Int) - 1 ≤ 9223372036854775807 by omega)]
   refine ⟨_, rfl, ⟨i, rfl, by omega, ?_⟩, by simp only; omega⟩
   simp only
   rw [List.drop_eq_getElem_cons hi, List.reverse_cons, gD_eq hi]
 obtain ⟨s, q1, rfl⟩ := key
 rw [q1]; rfl
theorem qoM (f : List Pc) (b : Int) : amt f.reverse b = amt f b := by
 induction f with
 | nil => rfl
 | cons p f ih =>
  rw [List.reverse_cons, qdq, ih, qfk]
  show _ = (if b = p.1 then p.2 else 0) + amt f b
  omega
theorem qji (f : List Pc) : exp f.reverse = (exp f).reverse := by
 induction f with
 | nil => rfl
 | cons p f ih => rw [List.reverse_cons, qaS, ih, qi9]; simp [exp]
theorem qpH {f : List Pc} (h : Norm f) : Norm f.reverse := by
 refine ⟨fun p hp => h.pos p (by simpa using hp), fun i hi => ?_⟩
 have hi' : i + 1 < f.length := by simpa using hi
 have e : ∀ j, j < f.length → f.reverse.getD j pz = f.getD (f.length - 1 - j) pz := fun j hj => by
  rw [gD_eq (by simpa using hj), gD_eq (by omega), List.getElem_reverse]
 rw [e i (by omega), e (i + 1) hi']
 have := h.ne (f.length - 1 - (i + 1)) (by omega)
 rw [show f.length - 1 - (i + 1) + 1 = f.length - 1 - i by omega] at this
 exact fun e => this e.symm
structure Shf (f v F O : List Pc) : Prop where
 nF : Norm F
 nO : Norm O
 lF : ((exp F).length : Int) = tot f
 lO : ((exp O).length : Int) = tot v
 mF : ∀ c ∈ exp F, c ∈ exp f ∨ c ∈ exp v
 mO : ∀ c ∈ exp O, c ∈ exp f ∨ c ∈ exp v
 amt : ∀ b, Go.Proofs.Ytikmdoopfpnbbaa.amt F b + Go.Proofs.Ytikmdoopfpnbbaa.amt O b = Go.Proofs.Ytikmdoopfpnbbaa.amt f b + Go.Proofs.Ytikmdoopfpnbbaa.amt v b
theorem qqJ {f : List Pc} (h : Norm f) : ∀ p ∈ f, 0 ≤ p.2 := fun p hp => by have := h.pos p hp; omega
theorem qgG {f : List Pc} (h : Norm f) (b : Int) : amt f b = ((exp f).count b : Int) := qf9 (qqJ h) b
theorem qpI {f v : List Pc} {back : Bool} (hf : f.length ≤ 400 ∧ ∀ p ∈ f, 0 ≤ p.2 ∧ p.2 ≤ 10000000) (hv : v.length ≤ 400 ∧ ∀ p ∈ v, 0 ≤ p.2 ∧ p.2 ≤ 10000000) : ∃ F O, qaH f v back = some (F, O) ∧ Shf f v F O := by
 have gen : ∀ {x y : List Pc}, (x.length ≤ 400 ∧ ∀ p ∈ x, 0 ≤ p.2 ∧ p.2 ≤ 10000000) → (y.length ≤ 400 ∧ ∀ p ∈ y, 0 ≤ p.2 ∧ p.2 ≤ 10000000) → ∃ A B, qbz (x ++ y) (tot y) = some (A, B) ∧ Norm A ∧ Norm B ∧ exp A = (exp (x ++ y)).take (tot y).toNat ∧ exp B = (exp (x ++ y)).drop (tot y).toNat := by
  intro x y hx hy
  have hvol : Vol (x ++ y) := ⟨by simp; omega, fun p hp => (List.mem_append.1 hp).elim (hx.2 p) (hy.2 p)⟩
  have ht := qil (f := y) (by omega) hy.2
  have hs := qka (f := x ++ y) ht.1 hvol.2
  obtain ⟨s1, s2⟩ := qll (f := x ++ y) ht.1 (fun p hp => (hvol.2 p hp).1)
  obtain ⟨j1, j2⟩ := qa1 (f := (spl (x ++ y) (tot y)).1) (fun p hp => (hs.2.1 p hp).1)
  obtain ⟨k1, k2⟩ := qa1 (f := (spl (x ++ y) (tot y)).2) (fun p hp => (hs.2.2 p hp).1)
  exact ⟨_, _, (qqf hvol ⟨ht.1, ht.2⟩).2, j1, k1, by rw [j2, s1], by rw [k2, s2]⟩
 have lx : ∀ {x : List Pc}, (∀ p ∈ x, 0 ≤ p.2 ∧ p.2 ≤ 10000000) → ((exp x).length : Int) = tot x := fun hx => qex fun p hp => (hx p hp).1
 have la := lx hf.2
 have lb := lx hv.2
 have cnt : ∀ (A B X : List Int) (n : Nat) (b : Int), A = X.take n → B = X.drop n → (A.count b : Int) + (B.count b : Int) = (X.count b : Int) := by
  intro A B X n b hA hB
  subst hA hB
  rw [← Int.natCast_add, ← List.count_append, List.take_append_drop]
 have ca : ∀ b, amt f b = ((exp f).count b : Int) := qf9 fun p hp => (hf.2 p hp).1
 have cb : ∀ b, amt v b = ((exp v).count b : Int) := qf9 fun p hp => (hv.2 p hp).1
 cases back with
 | true =>
  obtain ⟨A, B, q1, q2, q3, q4, q5⟩ := gen hf hv
  refine ⟨B, A, ?_, q3, q2, ?_, ?_, fun c hc => ?_, fun c hc => ?_, fun b => ?_⟩
  ·unfold qaH
   simp only [cond_true, List.nil_append]
   rw [gd_t (qaj (by omega)), gd_t (qaj (by omega)), (qdU (by omega) hv.2).2]
   simp only [Option.bind_some]
   rw [q1]; rfl
  ·rw [q5, List.length_drop, qaS, List.length_append]; omega
  ·rw [q4, List.length_take, qaS, List.length_append]; omega
  ·rw [q5, qaS] at hc; exact List.mem_append.1 (List.mem_of_mem_drop hc)
  ·rw [q4, qaS] at hc; exact List.mem_append.1 (List.mem_of_mem_take hc)
  ·rw [qgG q3, qgG q2, ca, cb]
   have := cnt _ _ _ _ b q4 q5
   rw [qaS, List.count_append] at this
   omega
 | false =>
  obtain ⟨A, B, q1, q2, q3, q4, q5⟩ := gen hv hf
  refine ⟨A, B, ?_, q2, q3, ?_, ?_, fun c hc => ?_, fun c hc => ?_, fun b => ?_⟩
  ·unfold qaH
   simp only [cond_false, List.nil_append]
   rw [gd_t (qaj (by omega)), gd_t (qaj (by omega)), (qdU (by omega) hf.2).2]
   simp only [Option.bind_some]
   rw [q1]; rfl
  ·rw [q4, List.length_take, qaS, List.length_append]; omega
  ·rw [q5, List.length_drop, qaS, List.length_append]; omega
  ·rw [q4, qaS] at hc; exact (List.mem_append.1 (List.mem_of_mem_take hc)).symm
  ·rw [q5, qaS] at hc; exact (List.mem_append.1 (List.mem_of_mem_drop hc)).symm
  ·rw [qgG q2, qgG q3, ca, cb]
   have := cnt _ _ _ _ b q4 q5
   rw [qaS, List.count_append] at this
   omega
end Go.Proofs.Ytikmdoopfpnbbaa
