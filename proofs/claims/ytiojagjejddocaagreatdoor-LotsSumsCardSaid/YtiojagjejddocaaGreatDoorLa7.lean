/- Lots: the batches of nominations. No condition. -/
import Derived.Test.YtiojagjejddocaaGreatDoorLa6
import Derived.Test.YtiojagjejddocaaGreatDoorPm4
namespace Go.Proofs.YtiojagjejddocaaGreatDoor
open Go Go.Sq

theorem idxS_ok (l : List (List UInt8)) (v : List UInt8) (hl : l.length ≤ 1000) : Ok (slices_Index_string_string l v) fun r => -1 ≤ r ∧ r < (l.length : Int) := by
  unfold slices_Index_string_string
  refine Ok.bind (Q := fun e : Unit ⊕ Int => (match e with | .inl _ => -1 | .inr x => x) < (l.length : Int) ∧ -1 ≤ (match e with | .inl _ => -1 | .inr x => x)) ?_ fun e he => ?_
  · refine Ok.loop (fun v : Int => ∃ k : Nat, v = (k : Int) ∧ k ≤ l.length) (fun v => l.length - v.toNat) ⟨0, rfl, by omega⟩ ?_
    rintro _ ⟨k, rfl, hk⟩
    unfold slices_Index_string_string_L0
    refine Ok.bif (fun hc => ?_) fun hc => ?_
    · have hc := of_decide_eq_true hc
      have hk : k < l.length := by omega
      refine Ok.gd (inB_t hk) (Ok.bif (fun _ => .ret ⟨by (try simp only); omega, by (try simp only); omega⟩) fun _ => ?_)
      rw [wi_next k (by omega)]
      exact .ret ⟨⟨k + 1, rfl, by omega⟩, by simp only [Int.toNat_natCast]; omega⟩
    · exact .ret ⟨by (try simp only); omega, by (try simp only); omega⟩
  · cases e with
    | inl u => exact .ret ⟨by omega, by (try simp only at he); omega⟩
    | inr x => exact .ret ⟨he.2, he.1⟩
def m0 : Made := (n0, ((0, ([], (0, 0))), 0))
theorem mlt_cmp : Plots_made.CmpLt (fun h => (lots_Batches_1 h.1 h.2.1).bind fun y => some y) (fun x y => decide (mcmp x y < 0)) := fun x y => ⟨mcmp x y, by show (lots_Batches_1 x y).bind _ = _; rw [mcmp_ok]; rfl, rfl⟩
theorem rows_ok {k : Nat} {n : Net} {ps : List Prod'} (hn : NetP k n) (hp : ProdsP ps) {l T : List Nom} (h : ∀ x ∈ l, NomP ps.length n.2.2.1.length x) (hT : T.length ≤ 14) (ht : ∀ t ∈ T, ∃ x ∈ l, nkey t = nkey x) {order : List (List UInt8)} (ho : order.length ≤ 100) :
    Ok (iter (fun x : Int × List Made => lots_Batches_L0 n ps order (T, 0) x.1 x.2) (0, [])) fun e => ∃ all : List Made, e = .inl all ∧ all.map (·.1) = T ∧ ∀ m ∈ all, (0 ≤ m.2.1.2.2.1 ∧ m.2.1.2.2.1 < (n.2.2.1.length : Int)) ∧ ∃ a, a < ps.length ∧ m.1.2.1 = nm 112 a ∧ m.2.1.1 = (a : Int) := by
  have b4 := hp.l4
  refine Ok.loop (fun x : Int × List Made => ∃ i : Nat, x.1 = (i : Int) ∧ i ≤ T.length ∧ x.2.map (·.1) = T.take i ∧ ∀ m ∈ x.2, (0 ≤ m.2.1.2.2.1 ∧ m.2.1.2.2.1 < (n.2.2.1.length : Int)) ∧ ∃ a, a < ps.length ∧ m.1.2.1 = nm 112 a ∧ m.2.1.1 = (a : Int)) (fun x => T.length - x.1.toNat) ⟨0, rfl, by omega, rfl, fun m hm => by cases hm⟩ ?_
  rintro ⟨i', all⟩ ⟨i, ei, hi, hl, hm⟩
  replace ei : i' = (i : Int) := ei
  subst ei
  try simp only at hl hm
  have hlen : all.length = i := by have := congrArg List.length hl; simp at this; omega
  unfold lots_Batches_L0
  refine Ok.bif (fun hc => ?_) fun hc => ?_
  · have hc := of_decide_eq_true hc
    have hi : i < T.length := by (try simp only at hc); omega
    refine Ok.gd (inB_t hi) ?_
    rw [Int.toNat_natCast]
    obtain ⟨x, hx, he⟩ := ht _ (gD_mem (d := n0) hi)
    have hx := h x hx
    obtain ⟨a, ha, ea⟩ := hx.pro
    obtain ⟨b, hb, eb⟩ := hx.frm
    obtain ⟨c, hc', ec⟩ := hx.to
    have e1 : (((T.getD i ([], ([], ([], ([], (0, 0)))))).2).1) = nm 112 a := (congrArg (fun z : Nom => z.2.1) he).trans ea
    have e2 : ((((T.getD i ([], ([], ([], ([], (0, 0)))))).2).2).1) = nm 113 b := (congrArg (fun z : Nom => z.2.2.1) he).trans eb
    have e3 : (((((T.getD i ([], ([], ([], ([], (0, 0)))))).2).2).2).1) = nm 113 c := (congrArg (fun z : Nom => z.2.2.2.1) he).trans ec
    simp only [e1, e2, e3]
    refine Ok.eq (pfind_ok hp.nam (by omega) ha) ?_
    refine Ok.eq (show network_Port (n.1, (n.2.1, (n.2.2.1, (n.2.2.2.1, (n.2.2.2.2.1, n.2.2.2.2.2))))) (nm 113 b) = _ from qfind_ok hn hb) ?_
    refine Ok.eq (show network_Port (n.1, (n.2.1, (n.2.2.1, (n.2.2.2.1, (n.2.2.2.2.1, n.2.2.2.2.2))))) (nm 113 c) = _ from qfind_ok hn hc') ?_
    rw [dec_f (show ¬ (a : Int) < 0 by omega), dec_f (show ¬ (b : Int) < 0 by omega), dec_f (show ¬ (c : Int) < 0 by omega)]
    simp only [cond_false, Option.bind_some]
    refine Ok.bind (Q := fun _ => True) ?_ fun r8 _ => ?_
    · unfold lots_rank
      refine Ok.gd (inB_t ha) ?_
      refine Ok.bind (idxS_ok order _ (by omega)) fun r hr => ?_
      exact Ok.bif (fun _ => .ret trivial) fun _ => .ret trivial
    · refine Ok.gd (fits_t (by omega)) ?_
      rw [wi_next i (by omega)]
      have hrow : (((T.getD i ([], ([], ([], ([], (0, 0)))))).1, (nm 112 a, (nm 113 b, (nm 113 c, ((((((T.getD i ([], ([], ([], ([], (0, 0)))))).2).2).2).2).1, (((((T.getD i ([], ([], ([], ([], (0, 0)))))).2).2).2).2).2))))) : Nom) = T.getD i n0 := by rw [← e1, ← e2, ← e3]; rfl
      refine .ret ⟨⟨i + 1, rfl, hi, ?_, fun m hm' => ?_⟩, by simp only [Int.toNat_natCast]; omega⟩
      · simp only [List.map_append, hl, List.map_cons, List.map_nil]
        rw [take_next n0 hi]
        exact congrArg (fun z => T.take i ++ [z]) hrow
      rcases List.mem_append.1 hm' with hm' | hm'
      · exact hm m hm'
      · rw [List.mem_singleton.1 hm']
        exact ⟨⟨by (try simp only); omega, by (try simp only); omega⟩, a, ha, rfl, rfl⟩
  · have hc := of_decide_eq_false hc
    exact .ret ⟨all, rfl, by rw [hl, List.take_of_length_le (by (try simp only at hc); omega)], hm⟩
def vol' (x : Nom) : Int := x.2.2.2.2.2
/-- The lots of rows. -/
def lotsOf (T : List Made) : List (Int × Int × Int) := (List.range T.length).map fun (i : Nat) => ((i : Int), ((T.getD i m0).1.2.2.2.2.2, (0 : Int)))
def lotAt' (T : List Made) (b : Nat) : Int × Int × Int := ((b : Int), (vol' (T.getD b m0).1, (0 : Int)))
theorem lotsOf_len' (T : List Made) : (lotsOf T).length = T.length := by simp [lotsOf]
theorem lotsOf_get' {T : List Made} {b : Nat} (h : b < T.length) : (lotsOf T).getD b (0, (0, 0)) = lotAt' T b := by
  unfold lotsOf
  rw [gD_eq (by simpa using h)]; simp [lotAt', vol']
theorem lots_L1 {T : List Made} (hT : T.length ≤ 1000) : iter (fun x2 : Int × List (Int × List UInt8 × Int × Int) × List (Int × Int × Int) × List Made => lots_Batches_L1 T x2.1 x2.2.1 x2.2.2.1 x2.2.2.2) (0, [], [], T) = some (T.map (·.2.1), lotsOf T) := by
  have hlen : (lotsOf T).length = T.length := by simp [lotsOf]
  refine iter_for (step := fun x2 : Int × List (Int × List UInt8 × Int × Int) × List (Int × Int × Int) × List Made => lots_Batches_L1 T x2.1 x2.2.1 x2.2.2.1 x2.2.2.2) T.length (fun i => ((i : Int), (T.map (·.2.1)).take i, (lotsOf T).take i, T)) (fun i hi => ?_) ?_
  · unfold lots_Batches_L1
    simp only [dec_t (show (i : Int) < (T.length : Int) by omega), cond_true, gd_t (inB_t hi), Int.toNat_natCast]
    rw [gd_t (fits_t (by rw [List.length_take]; omega)), gd_t (fits_t (by rw [List.length_take]; omega)), wi_next i (by omega), take_next (l := T.map (·.2.1)) (m0.2.1) (by simpa using hi), gD_map (·.2.1) T i m0 m0.2.1 hi, take_next (l := lotsOf T) (0, (0, 0)) (by rw [hlen]; exact hi)]
    have e : (lotsOf T).getD i (0, (0, 0)) = ((i : Int), ((T.getD i m0).1.2.2.2.2.2, 0)) := by
      unfold lotsOf
      rw [gD_eq (by simpa using hi)]; simp
    rw [e]; rfl
  · unfold lots_Batches_L1
    simp only [dec_f (show ¬ (T.length : Int) < (T.length : Int) by omega), cond_false]
    rw [List.take_of_length_le (by simp), List.take_of_length_le (by omega)]
theorem batches_of {k : Nat} {n : Net} {ps : List Prod'} (hn : NetP k n) (hp : ProdsP ps) {l T : List Nom} (hl : l.length ≤ 14) (h : ∀ x ∈ l, NomP ps.length n.2.2.1.length x) (t1 : nomination_Totals l = some (T, 0)) (t2 : T.length ≤ 14) (t3 : ∀ t ∈ T, ∃ x ∈ l, nkey t = nkey x) {order : List (List UInt8)} (ho : order.length ≤ 100) :
    ∃ S : List Made, lots_Batches n ps l order = some (S.map (·.2.1), lotsOf S, 0) ∧ (S.map (·.1)).Perm T ∧ ∀ m ∈ S, (0 ≤ m.2.1.2.2.1 ∧ m.2.1.2.2.1 < (n.2.2.1.length : Int)) ∧ ∃ a, a < ps.length ∧ m.1.2.1 = nm 112 a ∧ m.2.1.1 = (a : Int) := by
  have b4 := hp.l4; have a6 := hn.k6; have a4 := hn.ports.len
  obtain ⟨e, r1, all, rfl, r2, r3⟩ := rows_ok hn hp h t2 t3 ho
  have hal : all.length = T.length := by have := congrArg List.length r2; simpa using this
  obtain ⟨S, s1, s2, _⟩ := Plots_made.sort_ok mlt_cmp mcmp_good.swo all (by omega)
  have hSl : S.length = all.length := s2.length_eq
  refine ⟨S, ?_, by rw [← r2]; exact s2.map _, fun t ht => r3 t (s2.mem_iff.1 ht)⟩
  unfold lots_Batches
  rw [show network_Check (n.1, (n.2.1, (n.2.2.1, (n.2.2.2.1, (n.2.2.2.2.1, n.2.2.2.2.2))))) = _ from net_check hn, prod_check hp, ncheck_ok (m := ps.length) (q := n.2.2.1.length) (by omega) (by omega) hl h, t1]
  simp only [Option.bind_some, decide_true, Bool.not_true, cond_false]
  rw [dec_f (show ¬ (200 : Int) < (T.length : Int) by omega)]
  simp only [cond_false]
  rw [show iter (fun x => lots_Batches_L0 n ps order (T, 0) x.1 x.2) (0, []) = _ from r1]
  show ((slices_SortFunc_lots_made_lots_made (fun h => (lots_Batches_1 h.1 h.2.1).bind fun y => some y) all).bind _) = _
  rw [s1, Option.bind_some]
  show ((iter (fun x2 : Int × List (Int × List UInt8 × Int × Int) × List (Int × Int × Int) × List Made => lots_Batches_L1 S x2.1 x2.2.1 x2.2.2.1 x2.2.2.2) (0, [], [], S)).bind _) = _
  rw [lots_L1 (by omega)]; rfl
theorem batches_ok {k : Nat} {n : Net} {ps : List Prod'} (hn : NetP k n) (hp : ProdsP ps) {l : List Nom} (hl : l.length ≤ 14) (h : ∀ x ∈ l, NomP ps.length n.2.2.1.length x) {order : List (List UInt8)} (ho : order.length ≤ 100) :
    ∃ T : List Made, lots_Batches n ps l order = some (T.map (·.2.1), lotsOf T, 0) ∧ T.length ≤ 14 ∧ ∀ t ∈ T, 0 ≤ t.2.1.2.2.1 ∧ t.2.1.2.2.1 < (n.2.2.1.length : Int) := by
  have b4 := hp.l4; have a6 := hn.k6; have a4 := hn.ports.len
  obtain ⟨T, t1, t2, t3⟩ := totals_ok (m := ps.length) (q := n.2.2.1.length) (by omega) (by omega) hl h
  obtain ⟨S, s1, s2, s3⟩ := batches_of hn hp hl h t1 t2 t3 ho
  have := s2.length_eq
  exact ⟨S, s1, by simp at this; omega, fun t ht => (s3 t ht).1⟩
/-- The batches depend on the totals alone. -/
theorem batches_same {n : Net} {ps : List Prod'} {l l' : List Nom} (h1 : nomination_Check l = some 0) (h1' : nomination_Check l' = some 0) (h2 : nomination_Totals l = nomination_Totals l') {order : List (List UInt8)} : lots_Batches n ps l order = lots_Batches n ps l' order := by
  unfold lots_Batches
  rw [h1, h1', h2]
end Go.Proofs.YtiojagjejddocaaGreatDoor
