/- Files: frames are written, lost in part, and read again. No condition. -/
import Derived.Test.YtnkfkceghbkkkaaGreatWi9
namespace Go.Proofs.YtnkfkceghbkkkaaGreat
open Go Go.Sq Wi
set_option linter.unusedVariables false
def frmB (b : List Int) : List Int := encZ (b.length : Int) ++ b
def fileB (bs : List (List Int)) : List Int := (bs.map frmB).flatten
theorem qj5 (a b : List (List Int)) : fileB (a ++ b) = fileB a ++ fileB b := by unfold fileB; rw [List.map_append, List.flatten_append]
theorem qmI (b : List Int) : fileB [b] = frmB b := by unfold fileB; simp
theorem qpq (l : List Int) (h : l.length ≤ 1000000) : qaI l = some l := by
 unfold qaI
 rw [gd_t (qaz (by omega)), List.nil_append]
theorem qj6 (ps : List (List Int)) (h1 : ps.length ≤ 1000) (h : ps.flatten.length ≤ 1000000) : qbc ps = some ps.flatten := by
 unfold qbc
 have hle : ∀ i, (ps.take i).flatten.length ≤ ps.flatten.length := fun i => by
  conv => rhs; rw [← List.take_append_drop i ps, List.flatten_append, List.length_append]
  omega
 have k1 := qbe (step := fun x : Int × List Int => qdp ps x.1 x.2) ps.length (fun i => ((i : Int), (ps.take i).flatten)) (e := ps.flatten) (fun i hi => by
  unfold qdp
  simp only [dec_t (show (i : Int) < (ps.length : Int) by omega), cond_true, gd_t (inB_t hi), Int.toNat_natCast]
  have e : (ps.take (i + 1)).flatten = (ps.take i).flatten ++ ps.getD i [] := by
   rw [List.take_succ_eq_append_getElem hi, List.flatten_append, List.getD_eq_getElem?_getD, List.getElem?_eq_getElem hi]; simp
  have hn := hle (i + 1)
  rw [e, List.length_append] at hn
  rw [gd_t (qaz (by omega)), w1 hi (by omega), e]) (by
  unfold qdp
  simp only [dec_f (show ¬ (ps.length : Int) < (ps.length : Int) by omega), cond_false, List.take_length])
 rw [show ((((0 : Nat) : Int), (ps.take 0).flatten) : Int × List Int) = (0, []) from rfl] at k1
 rw [k1]; rfl
theorem qwZ : @qiq = @qgv := rfl
theorem qj7 {b : List Int} (h : b.length ≤ 4000) : -9223372036854775808 ≤ (b.length : Int) ∧ (b.length : Int) ≤ 9223372036854775807 := by omega
theorem qhD {b : List Int} (h : b.length ≤ 4000) : (frmB b).length ≤ 4010 ∧ b.length < (frmB b).length := by
 have h1 := qho (qj7 h)
 have h2 : 0 < (encZ (b.length : Int)).length := qq7 _
 unfold frmB; rw [List.length_append]; omega
theorem qx9 {b : List Int} (h : b.length ≤ 4000) : qf2 b = some (0, frmB b) := by
 unfold qf2
 have h1 := qho (qj7 h)
 rw [dec_f (show ¬ (4000 : Int) < (b.length : Int) by omega), qwZ, qwR (qj7 h) (by simp), cond_false, Option.bind_some, qj6 _ (by simp) (by simp; omega)]
 unfold frmB; simp
theorem qw0 {b : List Int} (h : b.length ≤ 4000) : qiz b = some (0, frmB b) := by
 unfold qiz
 have h1 := qho (qj7 h)
 rw [dec_f (show ¬ (4000 : Int) < (b.length : Int) by omega), qzC (qj7 h) (by simp), cond_false, Option.bind_some, gd_t (qaz (by simp; omega))]
 unfold frmB; simp
/-! ### Reading -/
theorem qw1 : ∀ (f k v u p j : Nat) (b pre : List Int), f + k = 10 → p = pre.length → b = pre ++ (enc v).take j → j < (enc v).length → (rdI b p k u f).2.2 ≠ 0
 | 0, k, v, u, p, j, b, pre, hf, hp, e, hj => by unfold rdI; simp
 | f + 1, k, v, u, p, 0, b, pre, hf, hp, e, hj => by
  unfold rdI
  rw [if_pos (by rw [e, hp]; simp)]; simp
 | f + 1, k, v, u, p, j + 1, b, pre, hf, hp, e, hj => by
  by_cases h1 : v < 128
  ·rw [qny h1] at hj; simp at hj
  ·rw [qpp (by omega)] at e hj
   rw [List.take_succ_cons] at e
   obtain ⟨g1, g2⟩ := bN_at hp e
   unfold rdI
   rw [if_neg g2, g1, if_pos (by omega)]
   exact qw1 f (k + 1) (v / 128) _ (p + 1) j b (pre ++ [((v % 128 + 128 : Nat) : Int)]) (by omega) (by rw [hp]; simp) (by rw [e]; simp) (by simpa using hj)
theorem qyM {b pre post : List Int} {n : Int} (h : -9223372036854775808 ≤ n ∧ n ≤ 9223372036854775807) (e : b = pre ++ encZ n ++ post) : rdI b pre.length 0 0 10 = (n, ((pre.length + (encZ n).length : Nat) : Int), 0) := by
 have := qzA h e
 unfold rdZ at this
 rw [if_neg (by rw [e]; simp; omega), Int.toNat_natCast] at this
 exact this
def Torn (t : List Int) : Prop := ∃ b k, b.length ≤ 4000 ∧ qeP b ∧ k < (frmB b).length ∧ t = (frmB b).take k
theorem qn7 : Torn [] := ⟨[], 0, by simp, fun x hx => (by cases hx), (qhD (b := []) (by simp)).2, by simp⟩
theorem qzH {A : Type} (X b Y : List A) {n m : Nat} (hn : n = X.length + b.length) (hm : m = X.length) : ((X ++ b ++ Y).take n).drop m = b := by
 subst hn hm
 rw [show X.length + b.length = (X ++ b).length by rw [List.length_append], List.take_left, List.drop_left]
structure FilP (bs : List (List Int)) (t : List Int) : Prop where
 fb : ∀ x ∈ bs, x.length ≤ 4000 ∧ qeP x
 ft : Torn t
 n : (fileB bs ++ t).length ≤ 1000000
theorem qsl {b : List Int} (h : qeP b) : qeP (frmB b) := fun x hx => (List.mem_append.1 hx).elim (qp3 _ x) (h x)
theorem FilP.bytes {bs : List (List Int)} {t : List Int} (h : FilP bs t) : qeP (fileB bs ++ t) := fun x hx => by
 rcases List.mem_append.1 hx with hx | hx
 ·obtain ⟨l, hl, hx⟩ := List.mem_flatten.1 hx
  obtain ⟨b, hb, rfl⟩ := List.mem_map.1 hl
  exact qsl (h.fb b hb).2 x hx
 ·obtain ⟨b, k, _, h2, _, rfl⟩ := h.ft
  exact qsl h2 x (List.mem_of_mem_take hx)
theorem qtm {bs : List (List Int)} {i : Nat} (hi : i < bs.length) : fileB bs = fileB (bs.take i) ++ frmB (bs.getD i []) ++ fileB (bs.drop (i + 1)) := by
 conv => lhs; rw [← List.take_append_drop i bs, List.drop_eq_getElem_cons hi]
 rw [show bs[i] :: bs.drop (i + 1) = [bs[i]] ++ bs.drop (i + 1) from rfl, qj5, qj5, qmI, List.append_assoc, List.getD_eq_getElem?_getD, List.getElem?_eq_getElem hi]; rfl
theorem qsm {bs : List (List Int)} {t : List Int} (h : FilP bs t) {i : Nat} (hi : i < bs.length) : (fileB (bs.take i)).length < (fileB bs ++ t).length ∧ (bs.getD i []).length ≤ 4000 ∧
  rdI (fileB bs ++ t) (fileB (bs.take i)).length 0 0 10 = (((bs.getD i []).length : Int), (((fileB (bs.take i)).length + (encZ ((bs.getD i []).length : Int)).length : Nat) : Int), 0) ∧
  (fileB (bs.take i)).length + (encZ ((bs.getD i []).length : Int)).length + (bs.getD i []).length = (fileB (bs.take (i + 1))).length ∧ (fileB (bs.take (i + 1))).length ≤ (fileB bs ++ t).length ∧
  ((fileB bs ++ t).take (fileB (bs.take (i + 1))).length).drop ((fileB (bs.take i)).length + (encZ ((bs.getD i []).length : Int)).length) = bs.getD i [] := by
 have hb := h.fb _ (gmem (d := []) hi)
 have hs := qtm hi
 have hf := qhD hb.1
 have hB : fileB bs ++ t = fileB (bs.take i) ++ encZ ((bs.getD i []).length : Int) ++ (bs.getD i [] ++ (fileB (bs.drop (i + 1)) ++ t)) := by rw [hs]; unfold frmB; simp only [List.append_assoc]
 have hn : fileB (bs.take (i + 1)) = fileB (bs.take i) ++ encZ ((bs.getD i []).length : Int) ++ bs.getD i [] := by
  rw [List.take_succ_eq_append_getElem hi, qj5, qmI, List.getD_eq_getElem?_getD, List.getElem?_eq_getElem hi]
  unfold frmB; simp
 have hl : (fileB (bs.take (i + 1))).length = (fileB (bs.take i)).length + (encZ ((bs.getD i []).length : Int)).length + (bs.getD i []).length := by rw [hn, List.length_append, List.length_append]
 have hfl : (frmB (bs.getD i [])).length = (encZ ((bs.getD i []).length : Int)).length + (bs.getD i []).length := by unfold frmB; rw [List.length_append]
 refine ⟨by rw [hB]; simp only [List.length_append]; omega, hb.1, qyM (qj7 hb.1) hB, by omega, by rw [hB, hn]; simp only [List.length_append]; omega, ?_⟩
 have hB2 : fileB bs ++ t = (fileB (bs.take i) ++ encZ ((bs.getD i []).length : Int)) ++ bs.getD i [] ++ (fileB (bs.drop (i + 1)) ++ t) := by rw [hB]; simp only [List.append_assoc]
 rw [hB2]
 exact qzH _ _ _ (by rw [hl, List.length_append]) (by rw [List.length_append])
theorem qul {bs : List (List Int)} {t : List Int} (h : FilP bs t) : (fileB bs ++ t).length ≤ (fileB bs).length ∨ ((fileB bs).length < (fileB bs ++ t).length ∧
  ((rdI (fileB bs ++ t) (fileB bs).length 0 0 10).2.2 ≠ 0 ∨ ∃ (n q : Nat), rdI (fileB bs ++ t) (fileB bs).length 0 0 10 = ((n : Int), (q : Int), 0) ∧ n ≤ 4000 ∧ q ≤ (fileB bs ++ t).length ∧ (fileB bs ++ t).length - q < n)) := by
 obtain ⟨b, k, h1, h2, h3, rfl⟩ := h.ft
 have hf := qhD h1
 by_cases hk : k = 0
 ·subst hk; left; simp
 right
 have hfl : (frmB b).length = (encZ (b.length : Int)).length + b.length := by unfold frmB; rw [List.length_append]
 refine ⟨by rw [List.length_append, List.length_take]; omega, ?_⟩
 by_cases hc : k < (encZ (b.length : Int)).length
 ·left
  refine qw1 10 0 (zg (b.length : Int)) 0 _ k _ (fileB bs) rfl rfl ?_ hc
  unfold frmB
  rw [List.take_append_of_le_length (by omega)]; rfl
 ·right
  have e : (frmB b).take k = encZ (b.length : Int) ++ b.take (k - (encZ (b.length : Int)).length) := by
   unfold frmB
   rw [List.take_append, List.take_of_length_le (by omega)]
  refine ⟨b.length, (fileB bs).length + (encZ (b.length : Int)).length, qyM (post := b.take (k - (encZ (b.length : Int)).length)) (qj7 h1) (by rw [e, List.append_assoc]), h1, ?_, ?_⟩
  ·rw [List.length_append, List.length_take]; omega
  ·rw [List.length_append, List.length_take]; omega
theorem qw2 {bs : List (List Int)} {t : List Int} (h : FilP bs t) : qfC (fileB bs ++ t) = some (((fileB bs).length : Int), bs) := by
 unfold qfC
 have hbn : bs.length ≤ 1000000 := by
  have h1 : bs.length ≤ (fileB bs).length := by
   have : ∀ l : List (List Int), (∀ x ∈ l, x.length ≤ 4000) → l.length ≤ (fileB l).length := by
    intro l
    induction l with
    | nil => intro _; simp
    | cons x r ih =>
     intro hx
     have := ih fun y hy => hx y (List.mem_cons_of_mem _ hy)
     have h2 := (qhD (hx x List.mem_cons_self)).2
     show r.length + 1 ≤ (frmB x ++ fileB r).length
     rw [List.length_append]; omega
   exact this bs fun x hx => (h.fb x hx).1
  have := h.n
  rw [List.length_append] at this; omega
 have hB := h.bytes
 have hN := h.n
 have k1 := qbe (step := fun x : Int × List (List Int) => qcw (fileB bs ++ t) x.1 x.2) bs.length (fun i => (((fileB (bs.take i)).length : Int), bs.take i)) (e := (((fileB bs).length : Int), bs)) (fun i hi => by
  obtain ⟨g1, g2, g3, g4, g5, g6⟩ := qsm h hi
  show qcw (fileB bs ++ t) ((fileB (bs.take i)).length : Int) (bs.take i) = _
  unfold qcw
  rw [dec_t (show ((fileB (bs.take i)).length : Int) < ((fileB bs ++ t).length : Int) by omega), cond_true, qtl hB hN (by omega), g3, Option.bind_some]
  simp only [decide_true, Bool.not_true, cond_false]
  rw [dec_f (show ¬ ((bs.getD i []).length : Int) < 0 by omega), dec_f (show ¬ (4000 : Int) < ((bs.getD i []).length : Int) by omega)]
  simp only [cond_false, Option.bind_some]
  rw [wi (by omega), dec_f (by omega), cond_false, wi (by omega)]
  rw [show (((fileB (bs.take i)).length + (encZ ((bs.getD i []).length : Int)).length : Nat) : Int) + ((bs.getD i []).length : Int) = ((fileB (bs.take (i + 1))).length : Int) by omega, gd_t (inR_t (by omega) g5), Int.toNat_natCast, Int.toNat_natCast, g6, qpq _ (by omega), Option.bind_some, gd_t (qaz (by rw [List.length_take]; omega))]
  rw [List.take_succ_eq_append_getElem hi, List.getD_eq_getElem?_getD, List.getElem?_eq_getElem hi]; rfl) (by
  show qcw (fileB bs ++ t) ((fileB (bs.take bs.length)).length : Int) (bs.take bs.length) = _
  rw [List.take_length]
  unfold qcw
  rcases qul h with h1 | ⟨h1, h2⟩
  ·rw [dec_f (by omega)]; rfl
  rw [dec_t (by omega), cond_true, qtl hB hN (by omega), Option.bind_some]
  rcases h2 with h2 | ⟨n, q, h2, h3, h4, h5⟩
  ·rw [dec_f h2]; rfl
  ·rw [h2]
   simp only [decide_true, Bool.not_true, cond_false]
   rw [dec_f (show ¬ (n : Int) < 0 by omega), dec_f (show ¬ (4000 : Int) < (n : Int) by omega)]
   simp only [cond_false, Option.bind_some]
   rw [wi (by omega), dec_t (by omega)]; rfl)
 refine (congrArg (fun o => Option.bind o _) k1).trans ?_
 rfl
theorem qya {bs : List (List Int)} {t : List Int} (h : FilP bs t) : qkt (fileB bs ++ t) = some (((fileB bs).length : Int), bs) := by
 unfold qkt
 have hbn : bs.length ≤ 1000000 := by
  have h1 : bs.length ≤ (fileB bs).length := by
   have : ∀ l : List (List Int), (∀ x ∈ l, x.length ≤ 4000) → l.length ≤ (fileB l).length := by
    intro l
    induction l with
    | nil => intro _; simp
    | cons x r ih =>
     intro hx
     have := ih fun y hy => hx y (List.mem_cons_of_mem _ hy)
     have h2 := (qhD (hx x List.mem_cons_self)).2
     show r.length + 1 ≤ (frmB x ++ fileB r).length
     rw [List.length_append]; omega
   exact this bs fun x hx => (h.fb x hx).1
  have := h.n
  rw [List.length_append] at this; omega
 have hB := h.bytes
 have hN := h.n
 have k1 := qbe (step := fun x : Int × List (List Int) => qdw (fileB bs ++ t) x.1 x.2) bs.length (fun i => (((fileB (bs.take i)).length : Int), bs.take i)) (e := (((fileB bs).length : Int), bs)) (fun i hi => by
  obtain ⟨g1, g2, g3, g4, g5, g6⟩ := qsm h hi
  show qdw (fileB bs ++ t) ((fileB (bs.take i)).length : Int) (bs.take i) = _
  unfold qdw
  rw [dec_t (show ((fileB (bs.take i)).length : Int) < ((fileB bs ++ t).length : Int) by omega), cond_true, qwT hB hN (by omega), g3, Option.bind_some]
  simp only [decide_true, Bool.not_true, cond_false]
  rw [dec_f (show ¬ ((bs.getD i []).length : Int) < 0 by omega), dec_f (show ¬ (4000 : Int) < ((bs.getD i []).length : Int) by omega)]
  simp only [cond_false, Option.bind_some]
  rw [wi (by omega), dec_f (by omega), cond_false, wi (by omega)]
  rw [show (((fileB (bs.take i)).length + (encZ ((bs.getD i []).length : Int)).length : Nat) : Int) + ((bs.getD i []).length : Int) = ((fileB (bs.take (i + 1))).length : Int) by omega, gd_t (inR_t (by omega) g5), Int.toNat_natCast, Int.toNat_natCast, g6, gd_t (qaz (by omega)), gd_t (qaz (by rw [List.length_take]; omega))]
  rw [List.take_succ_eq_append_getElem hi, List.getD_eq_getElem?_getD, List.getElem?_eq_getElem hi]; rfl) (by
  show qdw (fileB bs ++ t) ((fileB (bs.take bs.length)).length : Int) (bs.take bs.length) = _
  rw [List.take_length]
  unfold qdw
  rcases qul h with h1 | ⟨h1, h2⟩
  ·rw [dec_f (by omega)]; rfl
  rw [dec_t (by omega), cond_true, qwT hB hN (by omega), Option.bind_some]
  rcases h2 with h2 | ⟨n, q, h2, h3, h4, h5⟩
  ·rw [dec_f h2]; rfl
  ·rw [h2]
   simp only [decide_true, Bool.not_true, cond_false]
   rw [dec_f (show ¬ (n : Int) < 0 by omega), dec_f (show ¬ (4000 : Int) < (n : Int) by omega)]
   simp only [cond_false, Option.bind_some]
   rw [wi (by omega), dec_t (by omega)]; rfl)
 refine (congrArg (fun o => Option.bind o _) k1).trans ?_
 rfl
/-! ### Writing -/
theorem qw3 {bs : List (List Int)} (h : FilP bs []) {b : List Int} (hb : b.length ≤ 4000) (hn : (fileB bs).length + (frmB b).length ≤ 65536) : qfb (fileB bs, []) b = some ((fileB bs, frmB b), 0) := by
 unfold qfb
 have hr := qw2 h
 rw [List.append_nil] at hr
 rw [qx9 hb, Option.bind_some]
 simp only [decide_true, Bool.not_true, cond_false]
 rw [hr, Option.bind_some]
 simp only [decide_true, Bool.not_true, cond_false]
 have hf := qhD hb
 have e1 : wi64 ((fileB bs).length + (([] : List Int).length : Int)) = ((fileB bs).length : Int) := by rw [wi (by simp; omega)]; simp
 rw [e1, wi (by omega), dec_f (by omega), cond_false, qj6 _ (by simp) (by simp; omega), Option.bind_some, qj6 _ (by simp) (by simp; omega)]
 simp
theorem quY {bs : List (List Int)} (h : FilP bs []) {b : List Int} (hb : b.length ≤ 4000) (hn : (fileB bs).length + (frmB b).length ≤ 65536) : qhj (fileB bs, []) b = some ((fileB bs, frmB b), 0) := by
 unfold qhj
 have hr := qya h
 rw [List.append_nil] at hr
 rw [qw0 hb, Option.bind_some]
 simp only [decide_true, Bool.not_true, cond_false]
 rw [hr, Option.bind_some]
 simp only [decide_true, Bool.not_true, cond_false]
 have hf := qhD hb
 have e1 : wi64 ((fileB bs).length + (([] : List Int).length : Int)) = ((fileB bs).length : Int) := by rw [wi (by simp; omega)]; simp
 rw [e1, wi (by omega), dec_f (by omega), cond_false, gd_t (qaz (by omega)), gd_t (qaz (by simp)), gd_t (qaz (by simp; omega))]
 simp
theorem qzI {F p : List Int} (h : F.length + p.length ≤ 1000000) : qg9 (F, p) = some (F ++ p, []) := by
 unfold qg9 qir
 simp only
 rw [show min (max (0 : Int) (p.length : Int)) (p.length : Int) = (p.length : Int) by omega, gd_t (by unfold cutG; simp), Int.toNat_natCast, List.take_length, qj6 _ (by simp) (by simp; omega)]
 simp
theorem qsn {F p : List Int} (h : F.length + p.length ≤ 1000000) {k : Nat} (hk : k ≤ p.length) : qeZ (F, p) (k : Int) = some (F ++ p.take k, []) := by
 unfold qeZ
 simp only
 rw [show max (0 : Int) (min (k : Int) (p.length : Int)) = (k : Int) by omega, gd_t (qaz (by omega)), gd_t (by unfold cutG; simp; omega), Int.toNat_natCast, gd_t (qaz (by simp; omega))]
 simp
theorem qyb {F p : List Int} (h : F.length + p.length ≤ 1000000) : qku (F, p) = some (F ++ p, []) := by
 unfold qku
 rw [qsn h (Nat.le_refl _), List.take_length]; rfl
theorem quZ {bs : List (List Int)} {t : List Int} (h : FilP bs t) : qeI (fileB bs ++ t, []) = some ((fileB bs, []), bs) := by
 unfold qeI
 have hN := h.n
 rw [List.length_append] at hN
 rw [qw2 h, Option.bind_some]
 simp only
 rw [gd_t (by unfold cutG; simp; omega), Int.toNat_natCast, List.take_append_of_le_length (Nat.le_refl _), List.take_length, qj6 _ (by simp) (by simp; omega)]
 simp
theorem fsame (f : List Int × List Int) : qh0 f f = some true := by
 unfold qh0
 rw [dec_t rfl, dec_t rfl]; rfl
end Go.Proofs.YtnkfkceghbkkkaaGreat
