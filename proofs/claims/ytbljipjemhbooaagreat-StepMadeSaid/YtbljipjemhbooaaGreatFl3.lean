/- Flows: the reference's order; both checks are one. No condition. -/
import Derived.Test.YtbljipjemhbooaaGreatFl2
namespace Go.Proofs.YtbljipjemhbooaaGreat
open Go Go.Sq
set_option linter.unusedVariables false
section
variable {n : Net} {p : Pl}
theorem rorder_in (hn : VNet n) (h1 : p.1.length = n.2.1.length) {there : List Bool} (ht : there.length = n.1.length) (k : Nat) (out : List Int) :
  iter (fun x => ref16_order_L2 n p (k : Int) x.1 x.2.1 x.2.2.1 x.2.2.2) (!there.getD k false, 0, out, there) = some (freeB n p there k, out, there) := by
 have hs := hn.small.sg
 have := iter_for (step := fun x : Bool × Int × List Int × List Bool => ref16_order_L2 n p (k : Int) x.1 x.2.1 x.2.2.1 x.2.2.2) (e := (freeB n p there k, out, there)) n.2.1.length (fun i => (!there.getD k false && !(List.range i).any (blk n p there k), (i : Int), out, there)) (fun i hi => ?_) ?_
 ·refine Eq.trans ?_ this
  simp only [List.range_zero, List.any_nil, Bool.not_false, Bool.and_true]; rfl
 ·show ref16_order_L2 n p (k : Int) (!there.getD k false && !(List.range i).any (blk n p there k)) (i : Int) out there = some (.inl (!there.getD k false && !(List.range (i + 1)).any (blk n p there k), ((i + 1 : Nat) : Int), out, there))
  unfold ref16_order_L2
  have hf := frm_kn (p := p) hn.kn hi
  have ef : frm n p i = if p.1.getD i 0 < 0 then (n.2.1.getD i ([], (0, (0, (0, (0, (0, []))))))).2.2.1 else (n.2.1.getD i ([], (0, (0, (0, (0, (0, []))))))).2.1 := rfl
  have et : tow n p i = if p.1.getD i 0 < 0 then (n.2.1.getD i ([], (0, (0, (0, (0, (0, []))))))).2.1 else (n.2.1.getD i ([], (0, (0, (0, (0, (0, []))))))).2.2.1 := rfl
  have er : rate p i = p.1.getD i 0 := rfl
  have hB : inB (i : Int) p.1.length = true := inB_t (by omega)
  have hT : inB (frm n p i) there.length = true := inB_iff.2 (by omega)
  rw [dec_t (show (i : Int) < (n.2.1.length : Int) by omega), cond_true, gd_t (inB_t hi), gd_t hB, Int.toNat_natCast, rends_eq, w1 hi (by omega), List.range_succ, List.any_append]
  simp only [Option.bind_some, gd_t hB]
  rw [← ef, ← et, ← er]
  simp only [gd_t hT, List.any_cons, List.any_nil, Bool.or_false]
  generalize hz : (List.range i).any (blk n p there k) = Z
  rw [show blk n p there k i = (!decide (rate p i = 0) && (decide (tow n p i = (k : Int)) && !there.getD (frm n p i).toNat false)) from rfl]
  cases there.getD k false <;> cases Z <;> cases decide (rate p i = 0) <;> cases decide (tow n p i = (k : Int)) <;> cases there.getD (frm n p i).toNat false <;> rfl
 ·show ref16_order_L2 n p (k : Int) _ ((n.2.1.length : Nat) : Int) out there = _
  unfold ref16_order_L2
  rw [dec_f (by omega)]; rfl
def nx (n : Net) (p : Pl) (there : List Bool) (v : Nat) : Int := match (List.range v).find? (freeB n p there) with
 | none => -1
 | some k => (k : Int)
theorem nx_next {there : List Bool} {v : Nat} : nx n p there (v + 1) = if nx n p there v < 0 ∧ freeB n p there v = true then (v : Int) else nx n p there v := by
 unfold nx
 rw [List.range_succ, List.find?_append]
 cases h : (List.range v).find? (freeB n p there) with
 | some k => simp only [Option.some_or]; rw [if_neg (by omega)]
 | none =>
  simp only [Option.none_or]
  cases hf : freeB n p there v with
  | true => simp [List.find?_cons, hf]
  | false => simp [List.find?_cons, hf]
theorem rorder_mid (hn : VNet n) (h1 : p.1.length = n.2.1.length) {there : List Bool} (ht : there.length = n.1.length) (out : List Int) :
  iter (fun x => ref16_order_L1 n p x.1 x.2.1 x.2.2.1 x.2.2.2) (-1, 0, out, there) = some (nx n p there n.1.length, out, there) := by
 have hs := hn.small.no
 refine iter_for (step := fun x : Int × Int × List Int × List Bool => ref16_order_L1 n p x.1 x.2.1 x.2.2.1 x.2.2.2) n.1.length (fun i => (nx n p there i, (i : Int), out, there)) (fun i hi => ?_) ?_
 ·show ref16_order_L1 n p (nx n p there i) (i : Int) out there = some (.inl (nx n p there (i + 1), ((i + 1 : Nat) : Int), out, there))
  unfold ref16_order_L1
  rw [dec_t (show (i : Int) < (n.1.length : Int) by omega), cond_true, gd_t (inB_t (by omega)), Int.toNat_natCast, rorder_in hn h1 ht i out, Option.bind_some, w1 hi (by omega), nx_next]
  simp only
  cases hf : freeB n p there i with
  | false => rw [if_neg (by simp)]; rfl
  | true =>
   simp only [cond_true, Option.bind_some]
   by_cases h : nx n p there i < 0
   ·rw [dec_t h, if_pos ⟨h, trivial⟩]; rfl
   ·rw [dec_f h, if_neg (fun hh => h hh.1)]; rfl
 ·show ref16_order_L1 n p (nx n p there n.1.length) ((n.1.length : Nat) : Int) out there = _
  unfold ref16_order_L1
  rw [dec_f (by omega)]; rfl
theorem next_free {there : List Bool} {k : Nat} (h : nextF n p there = some k) : k < n.1.length ∧ there.getD k false = false := by
 unfold nextF at h
 have h1 := List.mem_of_find?_eq_some h
 have h2 := List.find?_some h
 refine ⟨List.mem_range.1 h1, ?_⟩
 unfold freeB at h2
 cases hg : there.getD k false with
 | false => rfl
 | true => rw [hg] at h2; cases h2
theorem rorder_all (hn : VNet n) (h1 : p.1.length = n.2.1.length) : ∀ (f : Nat) (there : List Bool) (out : List Int), there.length = n.1.length → there.count false ≤ f → out.length + f ≤ 100 →
  iter (fun x => ref16_order_L0 n p x.1 x.2) (out, there) = some (out ++ topo n p f there) := by
 intro f
 induction f with
 | zero =>
  intro there out ht hc ho
  have hnone : nextF n p there = none := by
   cases h : nextF n p there with
   | none => rfl
   | some k => have := next_free h; have := count_pos (by omega) this.2; omega
  rw [iter_inr (e := out) (by
   show ref16_order_L0 n p out there = _; unfold ref16_order_L0
   rw [rorder_mid hn h1 ht out, Option.bind_some, show nx n p there n.1.length = -1 by unfold nx; unfold nextF at hnone; rw [hnone]]; rfl), topo_none hnone, List.append_nil]
 | succ f ih =>
  intro there out ht hc ho
  cases h : nextF n p there with
  | none =>
   rw [iter_inr (e := out) (by
    show ref16_order_L0 n p out there = _; unfold ref16_order_L0
    rw [rorder_mid hn h1 ht out, Option.bind_some, show nx n p there n.1.length = -1 by unfold nx; unfold nextF at h; rw [h]]; rfl), topo_none h, List.append_nil]
  | some k =>
   have hk := next_free h
   rw [iter_inl (y := (out ++ [(k : Int)], there.set k true)) (by
    show ref16_order_L0 n p out there = _; unfold ref16_order_L0
    rw [rorder_mid hn h1 ht out, Option.bind_some, show nx n p there n.1.length = (k : Int) by unfold nx; unfold nextF at h; rw [h]]
    simp only
    rw [dec_f (by omega), cond_false, gd_t (fits_t (by omega)), gd_t (inB_t (by omega)), Int.toNat_natCast])]
   have hcs := count_set (l := there) (k := k) (by omega) hk.2
   rw [ih (there.set k true) (out ++ [(k : Int)]) (by rw [List.length_set]; exact ht) (by omega) (by rw [List.length_append]; simp only [List.length_cons, List.length_nil]; omega), topo, h, List.append_assoc]; rfl
theorem rorder_eq (hn : VNet n) (h1 : p.1.length = n.2.1.length) : ref16_order n p = some (ordL n p) := by
 have hN := hn.small.no
 unfold ref16_order
 rw [gd_t (makeG_t (by omega)), Int.toNat_natCast]
 have := rorder_all hn h1 n.1.length (List.replicate n.1.length false) [] (by simp) (by simp) (by simp; omega)
 rw [this]; rfl

/-! ### Checks -/
def szB (n : Net) (p : Pl) : Bool := decide (p.1.length = n.2.1.length) && (decide (p.2.1.length = n.2.2.1.length) && decide (p.2.2.length = n.2.2.2.1.length))
def rtB (n : Net) (p : Pl) (i : Nat) : Bool := rg (0 - min 1000 (n.2.1.getD i sg0).2.2.2.1) (min 1000 (n.2.1.getD i sg0).2.2.2.1) (rate p i)
def ratesB (n : Net) (p : Pl) : Bool := (List.range n.2.1.length).all (rtB n p)
def pratesB (p : Pl) : Bool := p.2.1.all (rg (-1000) 1000)
def balB (n : Net) (p : Pl) : Bool := (List.range n.1.length).all fun k => decide (comeF n p (k : Int) = leaveF n p (k : Int))
def chkPlan (n : Net) (p : Pl) : Int := if chkNet n ≠ 0 then chkNet n else
 bif szB n p then (bif ratesB n p && pratesB p then (bif balB n p then (bif Nat.beq (ordL n p).length n.1.length then 0 else 13) else 12) else 1) else 9
theorem szB_iff : szB n p = true ↔ p.1.length = n.2.1.length ∧ p.2.1.length = n.2.2.1.length ∧ p.2.2.length = n.2.2.2.1.length := by
 unfold szB; simp only [Bool.and_eq_true, decide_eq_true_iff]
theorem rg_iff {a b x : Int} : rg a b x = true ↔ a ≤ x ∧ x ≤ b := by unfold rg; rw [Bool.and_eq_true, decide_eq_true_iff, decide_eq_true_iff]
theorem cap_pos (hn : VNet n) {i : Nat} (hi : i < n.2.1.length) : 1 ≤ (n.2.1.getD i sg0).2.2.2.1 ∧ (n.2.1.getD i sg0).2.2.2.1 ≤ 1000000 := by
 have h := hn.pr
 unfold prB at h
 rw [Bool.and_eq_true, List.all_eq_true] at h
 have := h.1 _ (gD_mem (d := sg0) hi)
 unfold pipeB at this
 simp only [Bool.and_eq_true] at this
 exact rg_iff.1 this.1.2.1
theorem RB.of (hs : szB n p = true) (h1 : ratesB n p = true) (h2 : pratesB p = true) : RB p := by
 obtain ⟨s1, s2, s3⟩ := szB_iff.1 hs
 refine ⟨fun i => ?_, fun i => ?_⟩
 ·rcases Nat.lt_or_ge i p.1.length with h | h
  ·have := List.all_eq_true.1 h1 i (List.mem_range.2 (by omega))
   unfold rtB at this
   rw [rg_iff] at this; omega
  ·unfold rate; rw [gD_out h]; omega
 ·rcases Nat.lt_or_ge i p.2.1.length with h | h
  ·have := List.all_eq_true.1 h2 _ (gD_mem (d := 0) h)
   rw [rg_iff] at this; unfold prate; omega
  ·unfold prate; rw [gD_out h]; omega
theorem within_eq (r m : Int) (h : 0 ≤ m ∧ m ≤ 1000000) : flow_within r m = some (rg (0 - m) m r) := by
 unfold flow_within rg
 rw [wi (by omega)]
 cases decide (0 - m ≤ r) <;> rfl
theorem come_out (hn : VNet n) {k : Int} (h : ¬ (0 ≤ k ∧ k < n.1.length)) : comeF n p k = 0 ∧ leaveF n p k = 0 := by
 have a1 : sumTo (segIn n p k) n.2.1.length = 0 := sumTo_zero _ fun i hi => if_neg fun (e : tow n p i = k) => h (e ▸ tow_kn (p := p) hn.kn hi)
 have a2 : sumTo (segOut n p k) n.2.1.length = 0 := sumTo_zero _ fun i hi => if_neg fun (e : frm n p i = k) => h (e ▸ frm_kn (p := p) hn.kn hi)
 have a3 : sumTo (portIn n p k) n.2.2.1.length = 0 := sumTo_zero _ fun i hi => if_neg fun (e : (n.2.2.1.getD i po0).2.1 = k) => h (e ▸ hn.kn.p i hi)
 have a4 : sumTo (portOut n p k) n.2.2.1.length = 0 := sumTo_zero _ fun i hi => if_neg fun (e : (n.2.2.1.getD i po0).2.1 = k) => h (e ▸ hn.kn.p i hi)
 unfold comeF leaveF
 rw [a1, a2, a3, a4]; exact ⟨rfl, rfl⟩
theorem bal24 (hn : VNet n) : ((List.range 24).all fun i => decide (((m24 fun k => comeF n p k).getD i 0) = ((m24 fun k => leaveF n p k).getD i 0))) = balB n p := by
 unfold balB
 rw [Bool.eq_iff_iff, List.all_eq_true, List.all_eq_true]
 constructor
 ·intro h k hk
  have hk := List.mem_range.1 hk
  have := h k (List.mem_range.2 (by have := hn.small.no; omega))
  rwa [m24_get _ (by have := hn.small.no; omega), m24_get _ (by have := hn.small.no; omega)] at this
 ·intro h k hk
  have hk := List.mem_range.1 hk
  rw [m24_get _ hk, m24_get _ hk]
  by_cases hl : k < n.1.length
  ·exact h k (List.mem_range.2 hl)
  ·have := come_out (p := p) hn (k := (k : Int)) (by omega)
   rw [this.1, this.2]; rfl
theorem net_eta (n : Net) : (n.1, (n.2.1, (n.2.2.1, (n.2.2.2.1, (n.2.2.2.2.1, n.2.2.2.2.2))))) = n := rfl
theorem ord_le : (ordL n p).length ≤ n.1.length := topo_len _ _
theorem flowcheck_eq (n : Net) (p : Pl) : flow_Check n p = some (chkPlan n p) := by
 unfold flow_Check chkPlan
 rw [netcheck_eq, Option.bind_some]
 by_cases h0 : chkNet n = 0
 ·rw [if_neg (fun h => h h0), dec_t h0, Bool.not_true, cond_false]
  have hn := VNet.of h0
  have es : (
    bif !decide ((p.1.length : Int) = (n.2.1.length : Int)) then some true
    else bif !decide ((p.2.1.length : Int) = (n.2.2.1.length : Int)) then some true
    else some (!decide ((p.2.2.length : Int) = (n.2.2.2.1.length : Int)))) = some (!szB n p) := by
   unfold szB
   rw [show decide ((p.1.length : Int) = (n.2.1.length : Int)) = decide (p.1.length = n.2.1.length) by congr 1; rw [Int.natCast_inj],
    show decide ((p.2.1.length : Int) = (n.2.2.1.length : Int)) = decide (p.2.1.length = n.2.2.1.length) by congr 1; rw [Int.natCast_inj],
    show decide ((p.2.2.length : Int) = (n.2.2.2.1.length : Int)) = decide (p.2.2.length = n.2.2.2.1.length) by congr 1; rw [Int.natCast_inj]]
   cases decide (p.1.length = n.2.1.length) <;> cases decide (p.2.1.length = n.2.2.1.length) <;> cases decide (p.2.2.length = n.2.2.2.1.length) <;> rfl
  rw [es, Option.bind_some]
  cases hz : szB n p with
  | false => rfl
  | true =>
   obtain ⟨s1, s2, s3⟩ := szB_iff.1 hz
   have m1 := hn.small.sg
   have m2 := hn.small.po
   simp only [Bool.not_true, cond_false, cond_true]
   have e1 : iter (fun x => flow_Check_L0 n p x) 0 = some (bif ratesB n p then .inl () else .inr 1) := by
    refine iter_all (step := fun x => flow_Check_L0 n p x) n.2.1.length (fun i => (i : Int)) (rtB n p) (fin := .inl ()) (bad := .inr 1) (fun i hi _ hq => ?_) (fun i hi _ hq => ?_) (fun _ => ?_)
    all_goals unfold flow_Check_L0
    ·have hc := cap_pos hn hi
     have e : ((((n.2.1.getD i ([], (0, (0, (0, (0, (0, []))))))).2).2).2).1 = (n.2.1.getD i sg0).2.2.2.1 := rfl
     have e' : p.1.getD i 0 = rate p i := rfl
     rw [dec_t (show (i : Int) < (n.2.1.length : Int) by omega), cond_true, gd_t (inB_t hi), gd_t (inB_t (show i < p.1.length by omega)), Int.toNat_natCast, e, e', within_eq _ _ (by omega), Option.bind_some]
     unfold rtB at hq
     rw [hq, w1 hi (by omega)]; rfl
    ·have hc := cap_pos hn hi
     have e : ((((n.2.1.getD i ([], (0, (0, (0, (0, (0, []))))))).2).2).2).1 = (n.2.1.getD i sg0).2.2.2.1 := rfl
     have e' : p.1.getD i 0 = rate p i := rfl
     rw [dec_t (show (i : Int) < (n.2.1.length : Int) by omega), cond_true, gd_t (inB_t hi), gd_t (inB_t (show i < p.1.length by omega)), Int.toNat_natCast, e, e', within_eq _ _ (by omega), Option.bind_some]
     unfold rtB at hq
     rw [hq]; rfl
    ·rw [dec_f (by omega)]; rfl
   rw [e1, Option.bind_some]
   cases hr : ratesB n p with
   | false => rfl
   | true =>
    simp only [cond_true, Sum.elim_inl, Bool.true_and]
    rw [any_int_int p.2.1 (fun x => !rg (-1000) 1000 x) _ (fun x _ => by
     show (flow_Check_1 x).bind _ = _
     unfold flow_Check_1
     rw [within_eq _ _ (by omega)]; rfl) (by omega), Option.bind_some]
    have ep : (p.2.1.any fun x => !rg (-1000) 1000 x) = !pratesB p := by unfold pratesB; simp [List.all_eq_not_any_not]
    rw [ep]
    cases hq : pratesB p with
    | false => rfl
    | true =>
     simp only [Bool.not_true, cond_false, cond_true]
     rw [show ((p.1, (p.2.1, p.2.2)) : Pl) = p from rfl, net_eta, fsums_eq hn (RB.of hz hr hq) s1 s2, Option.bind_some, bal24 hn]
     cases hb : balB n p with
     | false => rfl
     | true =>
      simp only [Bool.not_true, cond_false, cond_true]
      rw [forder_eq hn s1, Option.bind_some]
      have := ord_le (n := n) (p := p)
      cases ho : Nat.beq (ordL n p).length n.1.length with
      | true => have := Nat.eq_of_beq_eq_true ho; rw [dec_f (by omega)]; rfl
      | false =>
       have : (ordL n p).length ≠ n.1.length := fun e => by rw [e, Nat.beq_refl] at ho; cases ho
       rw [dec_t (by omega)]; rfl
 ·rw [if_pos h0, dec_f h0]; rfl
end
end Go.Proofs.YtbljipjemhbooaaGreat
