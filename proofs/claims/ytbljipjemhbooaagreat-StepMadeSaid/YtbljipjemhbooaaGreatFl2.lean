/- Flows: the reference's sums; the order of nodes. No condition. -/
import Derived.Test.YtbljipjemhbooaaGreatFl1
namespace Go.Proofs.YtbljipjemhbooaaGreat
open Go Go.Sq
set_option linter.unusedVariables false
section
variable {n : Net} {p : Pl}
theorem ends_eq (s : Seg) (r : Int) : flow_Ends s r = some (if r < 0 then s.2.2.1 else s.2.1, if r < 0 then s.2.1 else s.2.2.1) := by
 unfold flow_Ends
 by_cases h : r < 0
 ·rw [dec_t h, cond_true, if_pos h, if_pos h]
 ·rw [dec_f h, cond_false, if_neg h, if_neg h]
theorem rends_eq (s : Seg) (r : Int) : ref16_Ends s r = some (if r < 0 then s.2.2.1 else s.2.1, if r < 0 then s.2.1 else s.2.2.1) := ends_eq s r
theorem rabs_eq {r : Int} (h : -1000 ≤ r ∧ r ≤ 1000) : ref16_Abs r = some (amt r) := by
 unfold ref16_Abs amt; rw [wi (by omega)]
theorem rsums_eq (hp : RB p) (hs : n.2.1.length ≤ 32) (hq : n.2.2.1.length ≤ 24) (h1 : p.1.length = n.2.1.length) (h2 : p.2.1.length = n.2.2.1.length) (k : Int) : ref16_sums n p k = some (comeF n p k, leaveF n p k) := by
 unfold ref16_sums
 have e1 : iter (fun x => ref16_sums_L0 n p k x.1 x.2.1 x.2.2) (0, 0, 0) = some (sumTo (segIn n p k) n.2.1.length, sumTo (segOut n p k) n.2.1.length) := by
  refine iter_for (step := fun x : Int × Int × Int => ref16_sums_L0 n p k x.1 x.2.1 x.2.2) n.2.1.length (fun i => (sumTo (segIn n p k) i, sumTo (segOut n p k) i, (i : Int))) (fun i hi => ?_) ?_
  ·show ref16_sums_L0 n p k (sumTo (segIn n p k) i) (sumTo (segOut n p k) i) (i : Int) = some (.inl (sumTo (segIn n p k) i + segIn n p k i, sumTo (segOut n p k) i + segOut n p k i, ((i + 1 : Nat) : Int)))
   have b1 := sumTo_bd (segIn_bd (n := n) hp k) i
   have b2 := sumTo_bd (segOut_bd (n := n) hp k) i
   have b3 := segIn_bd (n := n) hp k i
   have b4 := segOut_bd (n := n) hp k i
   have hr := hp.s i
   unfold ref16_sums_L0
   rw [dec_t (show (i : Int) < (n.2.1.length : Int) by omega), cond_true, gd_t (inB_t hi), gd_t (inB_t (show i < p.1.length by omega)), Int.toNat_natCast, rends_eq]
   have ef : frm n p i = if p.1.getD i 0 < 0 then (n.2.1.getD i ([], (0, (0, (0, (0, (0, []))))))).2.2.1 else (n.2.1.getD i ([], (0, (0, (0, (0, (0, []))))))).2.1 := rfl
   have et : tow n p i = if p.1.getD i 0 < 0 then (n.2.1.getD i ([], (0, (0, (0, (0, (0, []))))))).2.1 else (n.2.1.getD i ([], (0, (0, (0, (0, (0, []))))))).2.2.1 := rfl
   have er : rate p i = p.1.getD i 0 := rfl
   simp only [Option.bind_some]
   have hB : inB (i : Int) p.1.length = true := inB_t (by omega)
   rw [← ef, ← et, ← er, rabs_eq hr]
   simp only [Option.bind_some, gd_t hB]
   by_cases h0 : rate p i = 0
   ·have z1 : segIn n p k i = 0 := by unfold segIn amt; split <;> omega
    have z2 : segOut n p k i = 0 := by unfold segOut amt; split <;> omega
    rw [dec_t h0, cond_true, Option.bind_some, z1, z2, w1 hi (by omega), Int.add_zero, Int.add_zero]
   ·rw [dec_f h0, cond_false]
    have s1 : (bif decide (frm n p i = k) then some (wi64 (sumTo (segOut n p k) i + amt (rate p i))) else some (sumTo (segOut n p k) i)) = some (sumTo (segOut n p k) i + segOut n p k i) := by
     by_cases hc : frm n p i = k
     ·have : segOut n p k i = amt (rate p i) := if_pos hc
      rw [dec_t hc, cond_true, ← this, wi (by omega)]
     ·have : segOut n p k i = 0 := if_neg hc
      rw [dec_f hc, cond_false, this, Int.add_zero]
    have s2 : (bif decide (tow n p i = k) then some (wi64 (sumTo (segIn n p k) i + amt (rate p i))) else some (sumTo (segIn n p k) i)) = some (sumTo (segIn n p k) i + segIn n p k i) := by
     by_cases hc : tow n p i = k
     ·have : segIn n p k i = amt (rate p i) := if_pos hc
      rw [dec_t hc, cond_true, ← this, wi (by omega)]
     ·have : segIn n p k i = 0 := if_neg hc
      rw [dec_f hc, cond_false, this, Int.add_zero]
    rw [s1, Option.bind_some, s2, Option.bind_some, Option.bind_some, w1 hi (by omega)]
  ·show ref16_sums_L0 n p k _ _ ((n.2.1.length : Nat) : Int) = _
   unfold ref16_sums_L0
   rw [dec_f (by omega)]; rfl
 rw [e1, Option.bind_some]
 have e2 : iter (fun x2 => ref16_sums_L1 n p k x2.1 x2.2.1 x2.2.2) (sumTo (segIn n p k) n.2.1.length, sumTo (segOut n p k) n.2.1.length, 0) = some (comeF n p k, leaveF n p k) := by
  have := iter_for (step := fun x2 : Int × Int × Int => ref16_sums_L1 n p k x2.1 x2.2.1 x2.2.2) (e := (comeF n p k, leaveF n p k)) n.2.2.1.length (fun i => (sumTo (segIn n p k) n.2.1.length + sumTo (portIn n p k) i, sumTo (segOut n p k) n.2.1.length + sumTo (portOut n p k) i, (i : Int))) (fun i hi => ?_) ?_
  ·refine Eq.trans ?_ this
   simp only [sumTo, Int.add_zero]; rfl
  ·have b1 := sumTo_bd (segIn_bd (n := n) hp k) n.2.1.length
   have b2 := sumTo_bd (segOut_bd (n := n) hp k) n.2.1.length
   have b3 := sumTo_bd (portIn_bd (n := n) hp k) i
   have b4 := sumTo_bd (portOut_bd (n := n) hp k) i
   have b5 := portIn_bd (n := n) hp k i
   have b6 := portOut_bd (n := n) hp k i
   show ref16_sums_L1 n p k (sumTo (segIn n p k) n.2.1.length + sumTo (portIn n p k) i) (sumTo (segOut n p k) n.2.1.length + sumTo (portOut n p k) i) (i : Int) = some (.inl (sumTo (segIn n p k) n.2.1.length + (sumTo (portIn n p k) i + portIn n p k i), sumTo (segOut n p k) n.2.1.length + (sumTo (portOut n p k) i + portOut n p k i), ((i + 1 : Nat) : Int)))
   have hr := hp.q i
   unfold ref16_sums_L1
   have hB : inB (i : Int) p.2.1.length = true := inB_t (by omega)
   have eq : prate p i = p.2.1.getD i 0 := rfl
   rw [dec_t (show (i : Int) < (n.2.2.1.length : Int) by omega), cond_true, gd_t (inB_t hi), Int.toNat_natCast, gd_t hB, gd_t hB, ← eq, w1 hi (by omega)]
   by_cases hc : (n.2.2.1.getD i po0).2.1 = k
   ·have z1 : portIn n p k i = max 0 (prate p i) := if_pos hc
    have z2 : portOut n p k i = max 0 (0 - prate p i) := if_pos hc
    have hc' : ((n.2.2.1.getD i ([], (0, 0))).2).1 = k := hc
    rw [dec_t hc', cond_true, Option.bind_some, wi (show -9223372036854775808 ≤ 0 - prate p i ∧ 0 - prate p i ≤ 9223372036854775807 by omega), ← z1, ← z2, wi (by omega), wi (by omega), Int.add_assoc, Int.add_assoc]
   ·have z1 : portIn n p k i = 0 := if_neg hc
    have z2 : portOut n p k i = 0 := if_neg hc
    have hc' : ¬ ((n.2.2.1.getD i ([], (0, 0))).2).1 = k := hc
    rw [dec_f hc', cond_false, Option.bind_some, z1, z2, Int.add_zero, Int.add_zero]
  ·show ref16_sums_L1 n p k _ _ ((n.2.2.1.length : Nat) : Int) = _
   unfold ref16_sums_L1
   rw [dec_f (by omega)]; rfl
 rw [e2]; rfl

/-! ### The order -/
def blk (n : Net) (p : Pl) (there : List Bool) (k : Nat) (i : Nat) : Bool := !decide (rate p i = 0) && (decide (tow n p i = (k : Int)) && !there.getD (frm n p i).toNat false)
def freeB (n : Net) (p : Pl) (there : List Bool) (k : Nat) : Bool := !there.getD k false && !(List.range n.2.1.length).any (blk n p there k)
def nextF (n : Net) (p : Pl) (there : List Bool) : Option Nat := (List.range n.1.length).find? (freeB n p there)
def topo (n : Net) (p : Pl) : Nat → List Bool → List Int
 | 0, _ => []
 | f + 1, there => match nextF n p there with
  | none => []
  | some k => (k : Int) :: topo n p f (there.set k true)
def ordL (n : Net) (p : Pl) : List Int := topo n p n.1.length (List.replicate n.1.length false)
theorem topo_len (f : Nat) : ∀ there, (topo n p f there).length ≤ f := by
 induction f with
 | zero => intro _; exact Nat.le_refl _
 | succ f ih =>
  intro there
  unfold topo
  split
  ·exact Nat.zero_le _
  ·rw [List.length_cons]; have := ih (there.set (by assumption) true); omega
theorem next_none {there : List Bool} (h : ∀ j, j < n.1.length → freeB n p there j = false) : nextF n p there = none := by
 unfold nextF
 rw [List.find?_eq_none]
 intro x hx
 rw [h x (List.mem_range.1 hx)]; simp
theorem find_first {q : Nat → Bool} {k m : Nat} (hk : k < m) (h : ∀ j, j < k → q j = false) (hq : q k = true) : (List.range m).find? q = some k := by
 rw [List.find?_range_eq_some]
 refine ⟨hq, List.mem_range.2 hk, fun j hj => ?_⟩
 rw [h j hj]; rfl
theorem next_some {there : List Bool} {k : Nat} (hk : k < n.1.length) (h : ∀ j, j < k → freeB n p there j = false) (hq : freeB n p there k = true) : nextF n p there = some k := find_first hk h hq
theorem topo_none {there : List Bool} (h : nextF n p there = none) : ∀ f, topo n p f there = []
 | 0 => rfl
 | f + 1 => by unfold topo; rw [h]
theorem count_set {l : List Bool} {k : Nat} (hk : k < l.length) (h : l.getD k false = false) : (l.set k true).count false + 1 = l.count false := by
 rw [gD_eq hk] at h
 have := List.count_set (l := l) (a := true) (b := false) hk
 rw [this, h]
 have : 0 < l.count false := List.count_pos_iff.2 (h ▸ List.getElem_mem hk)
 simp; omega
theorem count_pos {l : List Bool} {k : Nat} (hk : k < l.length) (h : l.getD k false = false) : 0 < l.count false := by
 have := count_set hk h; omega
theorem order_in (hn : VNet n) (h1 : p.1.length = n.2.1.length) {there : List Bool} (ht : there.length = n.1.length) (k : Nat) (out : List Int) :
  iter (fun x => flow_order_L1 n p (k : Int) x.1 x.2.1 x.2.2) (0, out, there) = some (bif (List.range n.2.1.length).any (blk n p there k) then .inl (out, there) else .inr (out, there)) := by
 have hs := hn.small.sg
 have := iter_all (step := fun x : Int × List Int × List Bool => flow_order_L1 n p (k : Int) x.1 x.2.1 x.2.2) n.2.1.length (fun i => ((i : Int), out, there)) (fun i => !blk n p there k i) (fin := .inr (out, there)) (bad := .inl (out, there)) (fun i hi _ hq => ?_) (fun i hi _ hq => ?_) (fun _ => ?_)
 ·have e : (List.range n.2.1.length).all (fun i => !blk n p there k i) = !(List.range n.2.1.length).any (blk n p there k) := by simp [List.all_eq_not_any_not]
  rw [e] at this
  refine Eq.trans this ?_
  cases (List.range n.2.1.length).any (blk n p there k) <;> rfl
 ·show flow_order_L1 n p (k : Int) (i : Int) out there = _
  unfold flow_order_L1
  have hf := frm_kn (p := p) hn.kn hi
  have ef : frm n p i = if p.1.getD i 0 < 0 then (n.2.1.getD i ([], (0, (0, (0, (0, (0, []))))))).2.2.1 else (n.2.1.getD i ([], (0, (0, (0, (0, (0, []))))))).2.1 := rfl
  have et : tow n p i = if p.1.getD i 0 < 0 then (n.2.1.getD i ([], (0, (0, (0, (0, (0, []))))))).2.1 else (n.2.1.getD i ([], (0, (0, (0, (0, (0, []))))))).2.2.1 := rfl
  have er : rate p i = p.1.getD i 0 := rfl
  have hB : inB (i : Int) p.1.length = true := inB_t (by omega)
  rw [dec_t (show (i : Int) < (n.2.1.length : Int) by omega), cond_true, gd_t (inB_t hi), gd_t hB, Int.toNat_natCast, ends_eq, Option.bind_some, gd_t hB, ← ef, ← et, ← er, w1 hi (by omega), gd_t (inB_iff.2 (by omega))]
  unfold blk at hq
  simp only [Bool.not_and, Bool.not_not] at hq
  cases hr : decide (rate p i = 0) with
  | true => simp only [Bool.not_true, cond_false, Option.bind_some]
  | false =>
   rw [hr] at hq
   simp only [Bool.not_false, cond_true]
   cases ht2 : decide (tow n p i = (k : Int)) with
   | false => simp only [cond_false, Option.bind_some]
   | true =>
    rw [ht2] at hq
    simp only [Bool.false_or, Bool.not_true] at hq
    simp only [cond_true, hq, Bool.not_true, Option.bind_some, cond_false]
 ·show flow_order_L1 n p (k : Int) (i : Int) out there = _
  unfold flow_order_L1
  have hf := frm_kn (p := p) hn.kn hi
  have ef : frm n p i = if p.1.getD i 0 < 0 then (n.2.1.getD i ([], (0, (0, (0, (0, (0, []))))))).2.2.1 else (n.2.1.getD i ([], (0, (0, (0, (0, (0, []))))))).2.1 := rfl
  have et : tow n p i = if p.1.getD i 0 < 0 then (n.2.1.getD i ([], (0, (0, (0, (0, (0, []))))))).2.1 else (n.2.1.getD i ([], (0, (0, (0, (0, (0, []))))))).2.2.1 := rfl
  have er : rate p i = p.1.getD i 0 := rfl
  have hB : inB (i : Int) p.1.length = true := inB_t (by omega)
  rw [dec_t (show (i : Int) < (n.2.1.length : Int) by omega), cond_true, gd_t (inB_t hi), gd_t hB, Int.toNat_natCast, ends_eq, Option.bind_some, gd_t hB, ← ef, ← et, ← er, gd_t (inB_iff.2 (by omega))]
  have hq' : blk n p there k i = true := by revert hq; cases blk n p there k i <;> simp
  unfold blk at hq'
  rw [Bool.and_eq_true, Bool.and_eq_true] at hq'
  obtain ⟨a, b, c⟩ := hq'
  rw [a, b, c]; rfl
 ·show flow_order_L1 n p (k : Int) ((n.2.1.length : Nat) : Int) out there = _
  unfold flow_order_L1
  rw [dec_f (by omega)]; rfl
theorem order_eq (hn : VNet n) (h1 : p.1.length = n.2.1.length) : ∀ (f : Nat) (there : List Bool) (out : List Int), there.length = n.1.length → there.count false ≤ f → out.length + f ≤ 100 → ∀ m k : Nat, k + m = n.1.length → (∀ j, j < k → freeB n p there j = false) →
  iter (fun x => flow_order_L0 n p x.1 x.2.1 x.2.2) ((k : Int), out, there) = some (out ++ topo n p f there) := by
 have hN := hn.small.no
 intro f
 induction f with
 | zero =>
  intro there out ht hc ho m
  induction m with
  | zero =>
   intro k hk hf
   rw [iter_inr (e := out) (by show flow_order_L0 n p ((k : Nat) : Int) out there = _; unfold flow_order_L0; rw [dec_f (by omega)]; rfl), topo_none (next_none fun j hj => hf j (by omega)), List.append_nil]
  | succ m ih =>
   intro k hk hf
   have hk' : k < n.1.length := by omega
   have hth : there.getD k false = true := by
    cases hg : there.getD k false with
    | true => rfl
    | false => have := count_pos (by omega) hg; omega
   have hfk : freeB n p there k = false := by unfold freeB; rw [hth]; rfl
   rw [iter_inl (y := (((k + 1 : Nat) : Int), out, there)) (by
    show flow_order_L0 n p ((k : Nat) : Int) out there = _; unfold flow_order_L0
    rw [dec_t (by omega), cond_true, gd_t (inB_t (by omega)), Int.toNat_natCast, hth, cond_true, Option.bind_some, w1 hk' (by omega)])]
   refine ih (k + 1) (by omega) fun j hj => ?_
   rcases Nat.lt_or_ge j k with h | h
   ·exact hf j h
   ·rw [show j = k by omega]; exact hfk
 | succ f ihf =>
  intro there out ht hc ho m
  induction m with
  | zero =>
   intro k hk hf
   rw [iter_inr (e := out) (by show flow_order_L0 n p ((k : Nat) : Int) out there = _; unfold flow_order_L0; rw [dec_f (by omega)]; rfl), topo_none (next_none fun j hj => hf j (by omega)), List.append_nil]
  | succ m ih =>
   intro k hk hf
   have hk' : k < n.1.length := by omega
   have go : freeB n p there k = false → ∀ j, j < k + 1 → freeB n p there j = false := fun hfk j hj => by
    rcases Nat.lt_or_ge j k with h | h
    ·exact hf j h
    ·rw [show j = k by omega]; exact hfk
   cases hth : there.getD k false with
   | true =>
    have hfk : freeB n p there k = false := by unfold freeB; rw [hth]; rfl
    rw [iter_inl (y := (((k + 1 : Nat) : Int), out, there)) (by
     show flow_order_L0 n p ((k : Nat) : Int) out there = _; unfold flow_order_L0
     rw [dec_t (by omega), cond_true, gd_t (inB_t (by omega)), Int.toNat_natCast, hth, cond_true, Option.bind_some, w1 hk' (by omega)])]
    exact ih (k + 1) (by omega) (go hfk)
   | false =>
    cases hb : (List.range n.2.1.length).any (blk n p there k) with
    | true =>
     have hfk : freeB n p there k = false := by unfold freeB; rw [hth, hb]; rfl
     rw [iter_inl (y := (((k + 1 : Nat) : Int), out, there)) (by
      show flow_order_L0 n p ((k : Nat) : Int) out there = _; unfold flow_order_L0
      rw [dec_t (by omega), cond_true, gd_t (inB_t (by omega)), Int.toNat_natCast, hth, cond_false, order_in hn h1 ht k out, hb, Option.bind_some, cond_true, Sum.elim_inl, Option.bind_some, w1 hk' (by omega)])]
     exact ih (k + 1) (by omega) (go hfk)
    | false =>
     have hfk : freeB n p there k = true := by unfold freeB; rw [hth, hb]; rfl
     rw [iter_inl (y := ((0 : Int), out ++ [(k : Int)], there.set k true)) (by
      show flow_order_L0 n p ((k : Nat) : Int) out there = _; unfold flow_order_L0
      rw [dec_t (by omega), cond_true, gd_t (inB_t (by omega)), Int.toNat_natCast, hth, cond_false, order_in hn h1 ht k out, hb, Option.bind_some, cond_false, Sum.elim_inr, gd_t (inB_t (by show k < there.length; omega)), gd_t (fits_t (by show (out.length + 1) * 8 ≤ _; omega))]; rfl)]
     have hcs := count_set (l := there) (k := k) (by omega) hth
     have := ihf (there.set k true) (out ++ [(k : Int)]) (by rw [List.length_set]; exact ht) (by omega) (by rw [List.length_append]; simp only [List.length_cons, List.length_nil]; omega) n.1.length 0 (by omega) (fun j hj => by omega)
     refine Eq.trans this ?_
     rw [topo, next_some hk' hf hfk, List.append_assoc]; rfl
theorem forder_eq (hn : VNet n) (h1 : p.1.length = n.2.1.length) : flow_order n p = some (ordL n p) := by
 have hN := hn.small.no
 unfold flow_order
 rw [gd_t (makeG_t (by omega)), Int.toNat_natCast]
 have := order_eq hn h1 n.1.length (List.replicate n.1.length false) [] (by simp) (by simp) (by simp; omega) n.1.length 0 (by omega) (fun j hj => by omega)
 have this : iter (fun x => flow_order_L0 n p x.1 x.2.1 x.2.2) ((0 : Int), [], List.replicate n.1.length false) = some (ordL n p) := this
 rw [this]; rfl
end
end Go.Proofs.YtbljipjemhbooaaGreat
