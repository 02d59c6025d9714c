/- Rows of nominations: how they are ordered, in both texts. No condition. -/
import Derived.Test.YtiojagjejddocaaGreatDoorNk4
import Derived.Test.YtiojagjejddocaaGreatDoorLm1
import Derived.Test.YtiojagjejddocaaGreatDoorLm2
import Derived.Test.YtiojagjejddocaaGreatDoorPd
namespace Go.Proofs.YtiojagjejddocaaGreatDoor
open Go Go.Sq
set_option linter.unusedVariables false
abbrev Bat := Int × List UInt8 × Int × Int
abbrev Lot := Int × Int × Int
abbrev RRow := Nom × Int × Int × List UInt8 × Int × Int
def m0 : Made := (n0, ((0, ([], (0, 0))), 0))
def ptI (n : Net) (x : Str) : Int := if n.2.2.1.findIdx (fun p => decide (p.1 = x)) < n.2.2.1.length then ((n.2.2.1.findIdx (fun p => decide (p.1 = x)) : Nat) : Int) else -1
theorem nport_eq {n : Net} (h : Small n) (x : Str) : network_Port n x = some (ptI n x) := by
  unfold network_Port
  rw [idx_api_Port_api_Port n.2.2.1 (fun p => decide (p.1 = x)) _ (fun p _ => rfl) (by have := h.po; omega)]; rfl
theorem rport_eq {n : Net} (h : Small n) (x : Str) : ref12_Port n x = some (ptI n x) := by
  unfold ref12_Port
  rw [rnames_same]
  show (network_names n).bind _ = _
  rw [names_eq (by have := h.sg; omega) (by have := h.po; omega) (by have := h.st; omega), Option.bind_some, gd_t (show inB 2 4 = true from rfl)]
  show (ref12_find (n.2.2.1.map (·.1)) x).bind _ = _
  unfold ref12_find
  have e : (n.2.2.1.map (·.1)).findIdx (fun y => decide (y = x)) = n.2.2.1.findIdx (fun p => decide (p.1 = x)) := by rw [List.findIdx_map]; rfl
  have k := iter_find (ε := Unit ⊕ Int) (step := fun v => ref12_find_L0 (n.2.2.1.map (·.1)) x v) (n.2.2.1.map (·.1)) [] (fun y => decide (y = x)) (fin := .inl ()) (fun i => .inr (i : Int)) (fun i hi hq => by
    unfold ref12_find_L0
    rw [dec_t (show (i : Int) < ((n.2.2.1.map (·.1)).length : Int) by omega), cond_true, gd_t (inB_t hi), Int.toNat_natCast, hq, cond_false, w1 hi (by have := h.po; simp; omega)]) (fun i hi hq => by
    unfold ref12_find_L0
    rw [dec_t (show (i : Int) < ((n.2.2.1.map (·.1)).length : Int) by omega), cond_true, gd_t (inB_t hi), Int.toNat_natCast, hq, cond_true]) (by
    unfold ref12_find_L0
    rw [dec_f (by omega)]; rfl)
  rw [k, Option.bind_some, e, List.length_map]
  unfold ptI
  by_cases hf : n.2.2.1.findIdx (fun p => decide (p.1 = x)) < n.2.2.1.length
  · rw [if_pos hf, if_pos hf]; rfl
  · rw [if_neg hf, if_neg hf]; rfl
def rkN (ps : List Pro) (order : List Str) (a : Nat) : Nat := order.findIdx fun y => decide ((ps.getD a P0).1 = y)
def rkI (ps : List Pro) (order : List Str) (a : Nat) : Int := if rkN ps order a < order.length then ((rkN ps order a : Nat) : Int) else (order.length : Int) + (a : Int)
theorem lrank_eq {ps : List Pro} {order : List Str} {a : Nat} (ha : a < ps.length) (hp : ps.length ≤ 1000) (ho : order.length ≤ 1000) : lots_rank ps order (a : Int) = some (rkI ps order a) := by
  unfold lots_rank rkI
  rw [gd_t (inB_t ha), Int.toNat_natCast, sidx _ _ (by omega), Option.bind_some]
  show (bif decide (0 ≤ (if rkN ps order a < order.length then ((rkN ps order a : Nat) : Int) else -1)) then _ else _) = _
  by_cases hf : rkN ps order a < order.length
  · rw [if_pos hf, if_pos hf, dec_t (by omega)]; simp only [cond_true]; show some (if rkN ps order a < order.length then ((rkN ps order a : Nat) : Int) else -1) = _; rw [if_pos hf]
  · rw [if_neg hf, if_neg hf, dec_f (by omega), cond_false, wi (by omega)]
theorem rrank_eq {ps : List Pro} {order : List Str} {a : Nat} (ha : a < ps.length) (hp : ps.length ≤ 1000) (ho : order.length ≤ 1000) : ref29_rank ps order (a : Int) = some (rkI ps order a) := by
  unfold ref29_rank rkI
  have k := iter_find (ε := Unit ⊕ Int) (step := fun v => ref29_rank_L0 ps order (a : Int) v) order [] (fun y => decide ((ps.getD a P0).1 = y)) (fin := .inl ()) (fun i => .inr (i : Int)) (fun i hi hq => by
    unfold ref29_rank_L0
    rw [dec_t (show (i : Int) < (order.length : Int) by omega), cond_true, gd_t (inB_t hi), gd_t (inB_t ha), Int.toNat_natCast, Int.toNat_natCast, dec_f (fun e => of_decide_eq_false hq e.symm), cond_false, w1 hi (by omega)]) (fun i hi hq => by
    unfold ref29_rank_L0
    rw [dec_t (show (i : Int) < (order.length : Int) by omega), cond_true, gd_t (inB_t hi), gd_t (inB_t ha), Int.toNat_natCast, Int.toNat_natCast, dec_t (of_decide_eq_true hq).symm, cond_true]) (by
    unfold ref29_rank_L0
    rw [dec_f (by omega)]; rfl)
  rw [k, Option.bind_some]
  show Sum.elim _ _ (if rkN ps order a < order.length then _ else _) = _
  by_cases hf : rkN ps order a < order.length
  · rw [if_pos hf, if_pos hf]; rfl
  · rw [if_neg hf, if_neg hf]
    show some (wi64 ((order.length : Int) + (a : Int))) = _
    rw [wi (by omega)]
theorem rk_inj {ps : List Pro} {order : List Str} {a b : Nat} (h : rkI ps order a = rkI ps order b) : (ps.getD a P0).1 = (ps.getD b P0).1 := by
  unfold rkI at h
  by_cases ha : rkN ps order a < order.length
  · have pa : decide ((ps.getD a P0).1 = order[rkN ps order a]) = true := List.findIdx_getElem (p := fun y => decide ((ps.getD a P0).1 = y)) (w := ha)
    rw [if_pos ha] at h
    by_cases hb : rkN ps order b < order.length
    · have pb : decide ((ps.getD b P0).1 = order[rkN ps order b]) = true := List.findIdx_getElem (p := fun y => decide ((ps.getD b P0).1 = y)) (w := hb)
      rw [if_pos hb] at h
      have e : rkN ps order a = rkN ps order b := by omega
      rw [of_decide_eq_true pa, of_decide_eq_true pb]
      simp only [e]
    · rw [if_neg hb] at h; omega
  · rw [if_neg ha] at h
    by_cases hb : rkN ps order b < order.length
    · rw [if_pos hb] at h; omega
    · rw [if_neg hb] at h
      rw [show a = b by omega]
def mk (n : Net) (ps : List Pro) (order : List Str) (x : Nom) : Made := (x, ((fndI ps x.2.1, (x.1, (ptI n x.2.2.1, ptI n x.2.2.2.1))), rkI ps order (fnd ps x.2.1)))
def badN (n : Net) (ps : List Pro) (x : Nom) : Bool := decide (fndI ps x.2.1 < 0) || (decide (ptI n x.2.2.1 < 0) || decide (ptI n x.2.2.2.1 < 0))
theorem fnd_ok {ps : List Pro} {x : Str} (h : ¬ fndI ps x < 0) : fnd ps x < ps.length ∧ fndI ps x = ((fnd ps x : Nat) : Int) ∧ (ps.getD (fnd ps x) P0).1 = x := by
  unfold fndI at h ⊢
  by_cases hf : fnd ps x < ps.length
  · rw [if_pos hf]
    refine ⟨hf, rfl, ?_⟩
    rw [gD_eq hf]
    exact of_decide_eq_true (List.findIdx_getElem (p := fun p : Pro => decide (p.1 = x)) (w := hf))
  · rw [if_neg hf] at h; omega
theorem mcmp_zero {x y : Made} (h : mcmp x y = 0) : x.1.2.2.2.2.1 = y.1.2.2.2.2.1 ∧ x.2.2 = y.2.2 ∧ x.1.1 = y.1.1 ∧ x.1.2.2.1 = y.1.2.2.1 ∧ x.1.2.2.2.1 = y.1.2.2.2.1 := by
  have ciz : ∀ a b : Int, ci a b = 0 → a = b := by
    intro a b h; unfold ci at h; split at h
    · cases h
    · split at h
      · cases h
      · omega
  have lz : ∀ {E : Type} {c d : E → E → Int} {u v : E}, lex c d u v = 0 → c u v = 0 ∧ d u v = 0 := by
    intro E c d u v h; unfold lex at h
    split at h
    · rename_i h1; exact absurd h h1
    · rename_i h1; exact ⟨by simpa using h1, h⟩
  obtain ⟨h1, h⟩ := lz h
  obtain ⟨h2, h⟩ := lz h
  obtain ⟨h3, h⟩ := lz h
  obtain ⟨h4, h⟩ := lz h
  exact ⟨ciz _ _ h1, ciz _ _ h2, cs_zero h3, cs_zero h4, cs_zero h⟩
theorem mk_inj {n : Net} {ps : List Pro} {order : List Str} {x y : Nom} (hx : badN n ps x = false) (hy : badN n ps y = false) (h : mcmp (mk n ps order x) (mk n ps order y) = 0) : nkey x = nkey y := by
  obtain ⟨h1, h2, h3, h4, h5⟩ := mcmp_zero h
  unfold badN at hx hy
  simp only [Bool.or_eq_false_iff, decide_eq_false_iff_not] at hx hy
  obtain ⟨_, _, ex⟩ := fnd_ok hx.1
  obtain ⟨_, _, ey⟩ := fnd_ok hy.1
  have h2' : x.2.1 = y.2.1 := by rw [← ex, ← ey]; exact rk_inj h2
  obtain ⟨a1, a2, a3, a4, a5, a6⟩ := x
  obtain ⟨b1, b2, b3, b4, b5, b6⟩ := y
  replace h1 : a5 = b5 := h1
  replace h2' : a2 = b2 := h2'
  replace h3 : a1 = b1 := h3
  replace h4 : a3 = b3 := h4
  replace h5 : a4 = b4 := h5
  subst h1 h2' h3 h4 h5; rfl
def conv (m : Made) : RRow := (m.1, (m.2.2, m.2.1))
theorem bef_ok (a b : Made) : ref29_before (conv a) (conv b) = some (decide (mcmp a b < 0)) := by
  have cin : ∀ a b : Int, ¬ a = b → ci a b ≠ 0 ∧ decide (ci a b < 0) = decide (a < b) := by
    intro a b h; unfold ci
    by_cases h1 : a < b
    · rw [if_pos h1]; exact ⟨by omega, by rw [dec_t h1]; rfl⟩
    · rw [if_neg h1, if_pos (by omega)]; exact ⟨by omega, by rw [dec_f h1]; rfl⟩
  have csn : ∀ a b : Str, ¬ a = b → cs a b ≠ 0 := fun a b h e => h (cs_zero e)
  have csd : ∀ a b : Str, decide (cs a b < 0) = Op.bytesLess a b := by
    intro a b; rw [Bool.eq_iff_iff, decide_eq_true_iff]; exact cs_lt
  have ciz : ∀ a : Int, ci a a = 0 := by intro a; unfold ci; rw [if_neg (by omega), if_neg (by omega)]
  have csz : ∀ a : Str, cs a a = 0 := by intro a; unfold cs; rw [bl_irrefl]; rfl
  have lx : ∀ {E : Type} {c d : E → E → Int} {u v : E}, c u v = 0 → lex c d u v = d u v := by intro E c d u v h; unfold lex; rw [if_neg (by simpa using h)]
  have ly : ∀ {E : Type} {c d : E → E → Int} {u v : E}, c u v ≠ 0 → lex c d u v = c u v := by intro E c d u v h; unfold lex; rw [if_pos h]
  unfold ref29_before conv
  simp only
  by_cases e1 : a.1.2.2.2.2.1 = b.1.2.2.2.2.1
  · rw [dec_t e1]; simp only [Bool.not_true, cond_false]
    have f1 : mcmp a b = _ := lx (by show ci _ _ = 0; rw [e1]; exact ciz _)
    rw [f1]
    by_cases e2 : a.2.2 = b.2.2
    · rw [dec_t e2]; simp only [Bool.not_true, cond_false]
      rw [lx (by show ci _ _ = 0; rw [e2]; exact ciz _)]
      by_cases e3 : a.1.1 = b.1.1
      · rw [dec_t e3]; simp only [Bool.not_true, cond_false]
        rw [lx (by show cs _ _ = 0; rw [e3]; exact csz _)]
        by_cases e4 : a.1.2.2.1 = b.1.2.2.1
        · rw [dec_t e4]; simp only [Bool.not_true, cond_false]
          rw [lx (by show cs _ _ = 0; rw [e4]; exact csz _), csd]
        · rw [dec_f e4]; simp only [Bool.not_false, cond_true]
          rw [ly (by exact csn _ _ e4), csd]
      · rw [dec_f e3]; simp only [Bool.not_false, cond_true]
        rw [ly (by exact csn _ _ e3), csd]
    · rw [dec_f e2]; simp only [Bool.not_false, cond_true]
      rw [ly (by exact (cin _ _ e2).1), (cin _ _ e2).2]
  · rw [dec_f e1]; simp only [Bool.not_false, cond_true]
    have f1 : mcmp a b = _ := ly (by exact (cin _ _ e1).1)
    rw [f1, (cin _ _ e1).2]
end Go.Proofs.YtiojagjejddocaaGreatDoor
