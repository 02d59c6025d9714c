/- Twins that compute. No condition. -/
import Derived.Test.YtnkfkceghbkkkaaGreatQu
namespace Go.Proofs.YtnkfkceghbkkkaaGreat
open Go Go.Sq
set_option linter.unusedVariables false
set_option maxHeartbeats 4000000
set_option synthInstance.maxHeartbeats 400000
set_option synthInstance.maxSize 1000
set_option maxRecDepth 100000
abbrev qB := @LeO.bif
abbrev qD := @LeO.bind
abbrev qG := @LeO.gd
abbrev qE := @LeO.elim
abbrev qI := @LeO.iter
abbrev qO := @LeO.both
abbrev qL := @LeL.bif
abbrev qM := @LeL.map
abbrev qN := @LeL.one
abbrev qK := @LeO.iterK

instance decSum {α β : Type} [DecidableEq α] [DecidableEq β] : DecidableEq (α ⊕ β)
 | .inl a, .inl b => decidable_of_iff (a = b) ⟨fun h => by rw [h], fun h => by injection h⟩
 | .inr a, .inr b => decidable_of_iff (a = b) ⟨fun h => by rw [h], fun h => by injection h⟩
 | .inl _, .inr _ => isFalse (fun h => by cases h)
 | .inr _, .inl _ => isFalse (fun h => by cases h)

noncomputable def slices_IndexFunc_api_Segment_api_Segment_L0_c (s : List yT0) (f : yT0 × Unit → Option Bool) (v : Int) : Option (Int ⊕ (Unit ⊕ Int)) :=
 bif decide (v < (s.length : Int)) then (
 gd (inB v s.length) <|
 (f (s.getD v.toNat ([], (0, (0, (0, (0, (0, [])))))), ())).bind fun r =>
 bif r then (
 some (.inr (.inr v)))
 else (
 some (.inl (wi64 (v + 1)))))
 else (
 some (.inr (.inl ())))

theorem le_slices_IndexFunc_api_Segment_api_Segment_L0 (s : List yT0) (f f' : yT0 × Unit → Option Bool) (hf : ∀ q, LeO (f q) (f' q)) (v : Int) : LeO (slices_IndexFunc_api_Segment_api_Segment_L0_c s f v) (slices_IndexFunc_api_Segment_api_Segment_L0 s f' v) := by
 unfold slices_IndexFunc_api_Segment_api_Segment_L0_c slices_IndexFunc_api_Segment_api_Segment_L0
 with_reducible repeat' (first | exact LeO.refl _ | exact LeL.refl _ | exact hf _ | refine qB ?_ ?_ | refine qD ?_ (fun _ => ?_) | refine qG ?_ | refine qE (fun _ => ?_) (fun _ => ?_) | refine qI (fun _ => ?_) | refine qO ?_ ?_ | refine qL ?_ ?_ | refine qM (fun _ => ?_) | refine qN ?_ | refine qK (fun _ => ?_) (fun _ => ?_))

noncomputable def slices_IndexFunc_api_Segment_api_Segment_c (s : List yT0) (f : yT0 × Unit → Option Bool) : Option (Int) :=
 (iterN (fun x => slices_IndexFunc_api_Segment_api_Segment_L0_c s f x) 100000 0).bind fun s2 =>
 s2.elim (fun s3 =>
 some (-1))
 (fun s4 =>
 some s4)

theorem le_slices_IndexFunc_api_Segment_api_Segment (s : List yT0) (f f' : yT0 × Unit → Option Bool) (hf : ∀ q, LeO (f q) (f' q)) : LeO (slices_IndexFunc_api_Segment_api_Segment_c s f) (slices_IndexFunc_api_Segment_api_Segment s f') := by
 unfold slices_IndexFunc_api_Segment_api_Segment_c slices_IndexFunc_api_Segment_api_Segment
 with_reducible repeat' (first | exact LeO.refl _ | exact LeL.refl _ | exact hf _ | refine le_slices_IndexFunc_api_Segment_api_Segment_L0 _ _ _ (fun _ => ?_) _ | refine qB ?_ ?_ | refine qD ?_ (fun _ => ?_) | refine qG ?_ | refine qE (fun _ => ?_) (fun _ => ?_) | refine qI (fun _ => ?_) | refine qO ?_ ?_ | refine qL ?_ ?_ | refine qM (fun _ => ?_) | refine qN ?_ | refine qK (fun _ => ?_) (fun _ => ?_))

noncomputable def slices_ContainsFunc_api_Segment_api_Segment_c (s : List yT0) (f : yT0 × Unit → Option Bool) : Option (Bool) :=
 (slices_IndexFunc_api_Segment_api_Segment_c s f).bind fun r =>
 some (decide (0 ≤ r))

theorem le_slices_ContainsFunc_api_Segment_api_Segment (s : List yT0) (f f' : yT0 × Unit → Option Bool) (hf : ∀ q, LeO (f q) (f' q)) : LeO (slices_ContainsFunc_api_Segment_api_Segment_c s f) (slices_ContainsFunc_api_Segment_api_Segment s f') := by
 unfold slices_ContainsFunc_api_Segment_api_Segment_c slices_ContainsFunc_api_Segment_api_Segment
 with_reducible repeat' (first | exact LeO.refl _ | exact LeL.refl _ | exact hf _ | refine le_slices_IndexFunc_api_Segment_api_Segment _ _ _ (fun _ => ?_) | refine qB ?_ ?_ | refine qD ?_ (fun _ => ?_) | refine qG ?_ | refine qE (fun _ => ?_) (fun _ => ?_) | refine qI (fun _ => ?_) | refine qO ?_ ?_ | refine qL ?_ ?_ | refine qM (fun _ => ?_) | refine qN ?_ | refine qK (fun _ => ?_) (fun _ => ?_))

noncomputable def network_limits_c (n : List (List UInt8) × List yT0 × List (List UInt8 × Int × Int) × List (List UInt8 × Int × Int × Int × Int) × Int × Int) : Option (Bool) :=
 Option.bind (α := Bool) (
 bif decide ((n.1.length : Int) < 1) then (
 some true)
 else (
 bif decide (24 < (n.1.length : Int)) then (
 some true)
 else (
 bif decide (32 < (n.2.1.length : Int)) then (
 some true)
 else (
 bif decide (24 < (n.2.2.1.length : Int)) then (
 some true)
 else (
 some (decide (12 < (n.2.2.2.1.length : Int)))))))) fun s =>
 bif s then (
 some false)
 else (
 (slices_ContainsFunc_api_Segment_api_Segment_c n.2.1 (fun h => (network_limits_1 h.1).bind fun y => some y)).bind fun r =>
 some (!r))

theorem le_network_limits (n : List (List UInt8) × List yT0 × List (List UInt8 × Int × Int) × List (List UInt8 × Int × Int × Int × Int) × Int × Int) : LeO (network_limits_c n) (network_limits n) := by
 unfold network_limits_c network_limits
 with_reducible repeat' (first | exact LeO.refl _ | exact LeL.refl _ | refine le_slices_ContainsFunc_api_Segment_api_Segment _ _ _ (fun _ => ?_) | refine qB ?_ ?_ | refine qD ?_ (fun _ => ?_) | refine qG ?_ | refine qE (fun _ => ?_) (fun _ => ?_) | refine qI (fun _ => ?_) | refine qO ?_ ?_ | refine qL ?_ ?_ | refine qM (fun _ => ?_) | refine qN ?_ | refine qK (fun _ => ?_) (fun _ => ?_))

noncomputable def network_names_c (n : List (List UInt8) × List yT0 × List (List UInt8 × Int × Int) × List (List UInt8 × Int × Int × Int × Int) × Int × Int) : Option (List (List UInt8) × List (List UInt8) × List (List UInt8) × List (List UInt8)) :=
 (iterN (fun x => network_names_L0 n x.1 x.2) 100000 (0, [])).bind fun s =>
 (iterN (fun x2 => network_names_L1 n x2.1 x2.2.1 x2.2.2) 100000 (0, s, [])).bind fun s2 =>
 (iterN (fun x3 => network_names_L2 n x3.1 x3.2.1 x3.2.2.1 x3.2.2.2) 100000 (0, s2.1, s2.2, [])).bind fun s3 =>
 some (n.1, (s3.1, (s3.2.1, s3.2.2)))

theorem le_network_names (n : List (List UInt8) × List yT0 × List (List UInt8 × Int × Int) × List (List UInt8 × Int × Int × Int × Int) × Int × Int) : LeO (network_names_c n) (network_names n) := by
 unfold network_names_c network_names
 with_reducible repeat' (first | exact LeO.refl _ | exact LeL.refl _ | refine qB ?_ ?_ | refine qD ?_ (fun _ => ?_) | refine qG ?_ | refine qE (fun _ => ?_) (fun _ => ?_) | refine qI (fun _ => ?_) | refine qO ?_ ?_ | refine qL ?_ ?_ | refine qM (fun _ => ?_) | refine qN ?_ | refine qK (fun _ => ?_) (fun _ => ?_))

noncomputable def slices_IndexFunc_string_string_L0_c (s : List (List UInt8)) (f : List UInt8 × Unit → Option Bool) (v : Int) : Option (Int ⊕ (Unit ⊕ Int)) :=
 bif decide (v < (s.length : Int)) then (
 gd (inB v s.length) <|
 (f (s.getD v.toNat [], ())).bind fun r =>
 bif r then (
 some (.inr (.inr v)))
 else (
 some (.inl (wi64 (v + 1)))))
 else (
 some (.inr (.inl ())))

theorem le_slices_IndexFunc_string_string_L0 (s : List (List UInt8)) (f f' : List UInt8 × Unit → Option Bool) (hf : ∀ q, LeO (f q) (f' q)) (v : Int) : LeO (slices_IndexFunc_string_string_L0_c s f v) (slices_IndexFunc_string_string_L0 s f' v) := by
 unfold slices_IndexFunc_string_string_L0_c slices_IndexFunc_string_string_L0
 with_reducible repeat' (first | exact LeO.refl _ | exact LeL.refl _ | exact hf _ | refine qB ?_ ?_ | refine qD ?_ (fun _ => ?_) | refine qG ?_ | refine qE (fun _ => ?_) (fun _ => ?_) | refine qI (fun _ => ?_) | refine qO ?_ ?_ | refine qL ?_ ?_ | refine qM (fun _ => ?_) | refine qN ?_ | refine qK (fun _ => ?_) (fun _ => ?_))

noncomputable def slices_IndexFunc_string_string_c (s : List (List UInt8)) (f : List UInt8 × Unit → Option Bool) : Option (Int) :=
 (iterN (fun x => slices_IndexFunc_string_string_L0_c s f x) 100000 0).bind fun s2 =>
 s2.elim (fun s3 =>
 some (-1))
 (fun s4 =>
 some s4)

theorem le_slices_IndexFunc_string_string (s : List (List UInt8)) (f f' : List UInt8 × Unit → Option Bool) (hf : ∀ q, LeO (f q) (f' q)) : LeO (slices_IndexFunc_string_string_c s f) (slices_IndexFunc_string_string s f') := by
 unfold slices_IndexFunc_string_string_c slices_IndexFunc_string_string
 with_reducible repeat' (first | exact LeO.refl _ | exact LeL.refl _ | exact hf _ | refine le_slices_IndexFunc_string_string_L0 _ _ _ (fun _ => ?_) _ | refine qB ?_ ?_ | refine qD ?_ (fun _ => ?_) | refine qG ?_ | refine qE (fun _ => ?_) (fun _ => ?_) | refine qI (fun _ => ?_) | refine qO ?_ ?_ | refine qL ?_ ?_ | refine qM (fun _ => ?_) | refine qN ?_ | refine qK (fun _ => ?_) (fun _ => ?_))

noncomputable def slices_ContainsFunc_string_string_c (s : List (List UInt8)) (f : List UInt8 × Unit → Option Bool) : Option (Bool) :=
 (slices_IndexFunc_string_string_c s f).bind fun r =>
 some (decide (0 ≤ r))

theorem le_slices_ContainsFunc_string_string (s : List (List UInt8)) (f f' : List UInt8 × Unit → Option Bool) (hf : ∀ q, LeO (f q) (f' q)) : LeO (slices_ContainsFunc_string_string_c s f) (slices_ContainsFunc_string_string s f') := by
 unfold slices_ContainsFunc_string_string_c slices_ContainsFunc_string_string
 with_reducible repeat' (first | exact LeO.refl _ | exact LeL.refl _ | exact hf _ | refine le_slices_IndexFunc_string_string _ _ _ (fun _ => ?_) | refine qB ?_ ?_ | refine qD ?_ (fun _ => ?_) | refine qG ?_ | refine qE (fun _ => ?_) (fun _ => ?_) | refine qI (fun _ => ?_) | refine qO ?_ ?_ | refine qL ?_ ?_ | refine qM (fun _ => ?_) | refine qN ?_ | refine qK (fun _ => ?_) (fun _ => ?_))

noncomputable def lines_Name_c (s : List UInt8) : Option (Bool) :=
 Option.bind (α := Bool) (
 bif decide ((s.length : Int) < 1) then (
 some true)
 else (
 bif decide (12 < (s.length : Int)) then (
 some true)
 else (
 gd (inB 0 s.length) <|
 (lines_place (Int.ofNat (s.getD 0 0).toNat)).bind fun r =>
 some (!decide (r = 1))))) fun s2 =>
 bif s2 then (
 some false)
 else (
 (iterN (fun x => lines_Name_L0 s x) 100000 0).bind fun s3 =>
 s3.elim (fun s4 =>
 some true)
 (fun s5 =>
 some s5))

theorem le_lines_Name (s : List UInt8) : LeO (lines_Name_c s) (lines_Name s) := by
 unfold lines_Name_c lines_Name
 with_reducible repeat' (first | exact LeO.refl _ | exact LeL.refl _ | refine qB ?_ ?_ | refine qD ?_ (fun _ => ?_) | refine qG ?_ | refine qE (fun _ => ?_) (fun _ => ?_) | refine qI (fun _ => ?_) | refine qO ?_ ?_ | refine qL ?_ ?_ | refine qM (fun _ => ?_) | refine qN ?_ | refine qK (fun _ => ?_) (fun _ => ?_))

noncomputable def network_Check_1_c (s : List UInt8) : Option (Bool) :=
 (lines_Name_c s).bind fun r =>
 some (!r)

theorem le_network_Check_1 (s : List UInt8) : LeO (network_Check_1_c s) (network_Check_1 s) := by
 unfold network_Check_1_c network_Check_1
 with_reducible repeat' (first | exact LeO.refl _ | exact LeL.refl _ | refine le_lines_Name _ | refine qB ?_ ?_ | refine qD ?_ (fun _ => ?_) | refine qG ?_ | refine qE (fun _ => ?_) (fun _ => ?_) | refine qI (fun _ => ?_) | refine qO ?_ ?_ | refine qL ?_ ?_ | refine qM (fun _ => ?_) | refine qN ?_ | refine qK (fun _ => ?_) (fun _ => ?_))

noncomputable def network_Check_L0_c (r2 : List (List UInt8) × List (List UInt8) × List (List UInt8) × List (List UInt8)) (v : Int) : Option (Int ⊕ (Unit ⊕ Int)) :=
 bif decide (v < 4) then (
 gd (inB v 4) <|
 (slices_ContainsFunc_string_string_c ([r2.1, r2.2.1, r2.2.2.1, r2.2.2.2].getD v.toNat []) (fun h => (network_Check_1_c h.1).bind fun y => some y)).bind fun r3 =>
 bif r3 then (
 some (.inr (.inr 3)))
 else (
 some (.inl (wi64 (v + 1)))))
 else (
 some (.inr (.inl ())))

theorem le_network_Check_L0 (r2 : List (List UInt8) × List (List UInt8) × List (List UInt8) × List (List UInt8)) (v : Int) : LeO (network_Check_L0_c r2 v) (network_Check_L0 r2 v) := by
 unfold network_Check_L0_c network_Check_L0
 with_reducible repeat' (first | exact LeO.refl _ | exact LeL.refl _ | refine le_network_Check_1 _ | refine le_slices_ContainsFunc_string_string _ _ _ (fun _ => ?_) | refine qB ?_ ?_ | refine qD ?_ (fun _ => ?_) | refine qG ?_ | refine qE (fun _ => ?_) (fun _ => ?_) | refine qI (fun _ => ?_) | refine qO ?_ ?_ | refine qL ?_ ?_ | refine qM (fun _ => ?_) | refine qN ?_ | refine qK (fun _ => ?_) (fun _ => ?_))

noncomputable def slices_Index_string_string_c (s : List (List UInt8)) (v : List UInt8) : Option (Int) :=
 (iterN (fun x => slices_Index_string_string_L0 s v x) 100000 0).bind fun s2 =>
 s2.elim (fun s3 =>
 some (-1))
 (fun s4 =>
 some s4)

theorem le_slices_Index_string_string (s : List (List UInt8)) (v : List UInt8) : LeO (slices_Index_string_string_c s v) (slices_Index_string_string s v) := by
 unfold slices_Index_string_string_c slices_Index_string_string
 with_reducible repeat' (first | exact LeO.refl _ | exact LeL.refl _ | refine qB ?_ ?_ | refine qD ?_ (fun _ => ?_) | refine qG ?_ | refine qE (fun _ => ?_) (fun _ => ?_) | refine qI (fun _ => ?_) | refine qO ?_ ?_ | refine qL ?_ ?_ | refine qM (fun _ => ?_) | refine qN ?_ | refine qK (fun _ => ?_) (fun _ => ?_))

noncomputable def network_twice_L1_c (r : List (List UInt8) × List (List UInt8) × List (List UInt8) × List (List UInt8)) (v : Int) (v2 : Int) : Option (Int ⊕ (Unit ⊕ Bool)) :=
 bif decide (v2 < (([r.1, r.2.1, r.2.2.1, r.2.2.2].getD v.toNat []).length : Int)) then (
 gd (inB v2 ([r.1, r.2.1, r.2.2.1, r.2.2.2].getD v.toNat []).length) <|
 (slices_Index_string_string_c ([r.1, r.2.1, r.2.2.1, r.2.2.2].getD v.toNat []) (([r.1, r.2.1, r.2.2.1, r.2.2.2].getD v.toNat []).getD v2.toNat [])).bind fun r2 =>
 bif decide (r2 < v2) then (
 some (.inr (.inr true)))
 else (
 some (.inl (wi64 (v2 + 1)))))
 else (
 some (.inr (.inl ())))

theorem le_network_twice_L1 (r : List (List UInt8) × List (List UInt8) × List (List UInt8) × List (List UInt8)) (v : Int) (v2 : Int) : LeO (network_twice_L1_c r v v2) (network_twice_L1 r v v2) := by
 unfold network_twice_L1_c network_twice_L1
 with_reducible repeat' (first | exact LeO.refl _ | exact LeL.refl _ | refine le_slices_Index_string_string _ _ | refine qB ?_ ?_ | refine qD ?_ (fun _ => ?_) | refine qG ?_ | refine qE (fun _ => ?_) (fun _ => ?_) | refine qI (fun _ => ?_) | refine qO ?_ ?_ | refine qL ?_ ?_ | refine qM (fun _ => ?_) | refine qN ?_ | refine qK (fun _ => ?_) (fun _ => ?_))

noncomputable def network_twice_L0_c (r : List (List UInt8) × List (List UInt8) × List (List UInt8) × List (List UInt8)) (v : Int) : Option (Int ⊕ (Unit ⊕ Bool)) :=
 bif decide (v < 4) then (
 gd (inB v 4) <|
 (iterN (fun x => network_twice_L1_c r v x) 100000 0).bind fun s =>
 s.elim (fun s2 =>
 some (.inl (wi64 (v + 1))))
 (fun s3 =>
 some (.inr (.inr s3))))
 else (
 some (.inr (.inl ())))

theorem le_network_twice_L0 (r : List (List UInt8) × List (List UInt8) × List (List UInt8) × List (List UInt8)) (v : Int) : LeO (network_twice_L0_c r v) (network_twice_L0 r v) := by
 unfold network_twice_L0_c network_twice_L0
 with_reducible repeat' (first | exact LeO.refl _ | exact LeL.refl _ | refine le_network_twice_L1 _ _ _ | refine qB ?_ ?_ | refine qD ?_ (fun _ => ?_) | refine qG ?_ | refine qE (fun _ => ?_) (fun _ => ?_) | refine qI (fun _ => ?_) | refine qO ?_ ?_ | refine qL ?_ ?_ | refine qM (fun _ => ?_) | refine qN ?_ | refine qK (fun _ => ?_) (fun _ => ?_))

noncomputable def slices_IndexFunc_api_Station_api_Station_L0_c (s : List (List UInt8 × Int × Int × Int × Int)) (f : (List UInt8 × Int × Int × Int × Int) × Unit → Option Bool) (v : Int) : Option (Int ⊕ (Unit ⊕ Int)) :=
 bif decide (v < (s.length : Int)) then (
 gd (inB v s.length) <|
 (f (s.getD v.toNat ([], (0, (0, (0, 0)))), ())).bind fun r =>
 bif r then (
 some (.inr (.inr v)))
 else (
 some (.inl (wi64 (v + 1)))))
 else (
 some (.inr (.inl ())))

theorem le_slices_IndexFunc_api_Station_api_Station_L0 (s : List (List UInt8 × Int × Int × Int × Int)) (f f' : (List UInt8 × Int × Int × Int × Int) × Unit → Option Bool) (hf : ∀ q, LeO (f q) (f' q)) (v : Int) : LeO (slices_IndexFunc_api_Station_api_Station_L0_c s f v) (slices_IndexFunc_api_Station_api_Station_L0 s f' v) := by
 unfold slices_IndexFunc_api_Station_api_Station_L0_c slices_IndexFunc_api_Station_api_Station_L0
 with_reducible repeat' (first | exact LeO.refl _ | exact LeL.refl _ | exact hf _ | refine qB ?_ ?_ | refine qD ?_ (fun _ => ?_) | refine qG ?_ | refine qE (fun _ => ?_) (fun _ => ?_) | refine qI (fun _ => ?_) | refine qO ?_ ?_ | refine qL ?_ ?_ | refine qM (fun _ => ?_) | refine qN ?_ | refine qK (fun _ => ?_) (fun _ => ?_))

noncomputable def slices_IndexFunc_api_Station_api_Station_c (s : List (List UInt8 × Int × Int × Int × Int)) (f : (List UInt8 × Int × Int × Int × Int) × Unit → Option Bool) : Option (Int) :=
 (iterN (fun x => slices_IndexFunc_api_Station_api_Station_L0_c s f x) 100000 0).bind fun s2 =>
 s2.elim (fun s3 =>
 some (-1))
 (fun s4 =>
 some s4)

theorem le_slices_IndexFunc_api_Station_api_Station (s : List (List UInt8 × Int × Int × Int × Int)) (f f' : (List UInt8 × Int × Int × Int × Int) × Unit → Option Bool) (hf : ∀ q, LeO (f q) (f' q)) : LeO (slices_IndexFunc_api_Station_api_Station_c s f) (slices_IndexFunc_api_Station_api_Station s f') := by
 unfold slices_IndexFunc_api_Station_api_Station_c slices_IndexFunc_api_Station_api_Station
 with_reducible repeat' (first | exact LeO.refl _ | exact LeL.refl _ | exact hf _ | refine le_slices_IndexFunc_api_Station_api_Station_L0 _ _ _ (fun _ => ?_) _ | refine qB ?_ ?_ | refine qD ?_ (fun _ => ?_) | refine qG ?_ | refine qE (fun _ => ?_) (fun _ => ?_) | refine qI (fun _ => ?_) | refine qO ?_ ?_ | refine qL ?_ ?_ | refine qM (fun _ => ?_) | refine qN ?_ | refine qK (fun _ => ?_) (fun _ => ?_))

noncomputable def network_twice_L2_c (n : List (List UInt8) × List yT0 × List (List UInt8 × Int × Int) × List (List UInt8 × Int × Int × Int × Int) × Int × Int) (v3 : Int) : Option (Int ⊕ (Unit ⊕ Bool)) :=
 bif decide (v3 < (n.2.2.2.1.length : Int)) then (
 gd (inB v3 n.2.2.2.1.length) <|
 (slices_IndexFunc_api_Station_api_Station_c n.2.2.2.1 (fun h => (network_twice_1 h.1 ((n.2.2.2.1.getD v3.toNat ([], (0, (0, (0, 0))))).1, (((n.2.2.2.1.getD v3.toNat ([], (0, (0, (0, 0))))).2).1, ((((n.2.2.2.1.getD v3.toNat ([], (0, (0, (0, 0))))).2).2).1, (((((n.2.2.2.1.getD v3.toNat ([], (0, (0, (0, 0))))).2).2).2).1, ((((n.2.2.2.1.getD v3.toNat ([], (0, (0, (0, 0))))).2).2).2).2))))).bind fun y => some y)).bind fun r3 =>
 bif decide (r3 < v3) then (
 some (.inr (.inr true)))
 else (
 some (.inl (wi64 (v3 + 1)))))
 else (
 some (.inr (.inl ())))

theorem le_network_twice_L2 (n : List (List UInt8) × List yT0 × List (List UInt8 × Int × Int) × List (List UInt8 × Int × Int × Int × Int) × Int × Int) (v3 : Int) : LeO (network_twice_L2_c n v3) (network_twice_L2 n v3) := by
 unfold network_twice_L2_c network_twice_L2
 with_reducible repeat' (first | exact LeO.refl _ | exact LeL.refl _ | refine le_slices_IndexFunc_api_Station_api_Station _ _ _ (fun _ => ?_) | refine qB ?_ ?_ | refine qD ?_ (fun _ => ?_) | refine qG ?_ | refine qE (fun _ => ?_) (fun _ => ?_) | refine qI (fun _ => ?_) | refine qO ?_ ?_ | refine qL ?_ ?_ | refine qM (fun _ => ?_) | refine qN ?_ | refine qK (fun _ => ?_) (fun _ => ?_))

noncomputable def network_twice_c (n : List (List UInt8) × List yT0 × List (List UInt8 × Int × Int) × List (List UInt8 × Int × Int × Int × Int) × Int × Int) : Option (Bool) :=
 (network_names_c (n.1, (n.2.1, (n.2.2.1, (n.2.2.2.1, (n.2.2.2.2.1, n.2.2.2.2.2)))))).bind fun r =>
 (iterN (fun x2 => network_twice_L0_c r x2) 100000 0).bind fun s4 =>
 s4.elim (fun s5 =>
 (iterN (fun x3 => network_twice_L2_c n x3) 100000 0).bind fun s7 =>
 s7.elim (fun s8 =>
 some false)
 (fun s9 =>
 some s9))
 (fun s6 =>
 some s6)

theorem le_network_twice (n : List (List UInt8) × List yT0 × List (List UInt8 × Int × Int) × List (List UInt8 × Int × Int × Int × Int) × Int × Int) : LeO (network_twice_c n) (network_twice n) := by
 unfold network_twice_c network_twice
 with_reducible repeat' (first | exact LeO.refl _ | exact LeL.refl _ | refine le_network_names _ | refine le_network_twice_L2 _ _ | refine le_network_twice_L0 _ _ | refine qB ?_ ?_ | refine qD ?_ (fun _ => ?_) | refine qG ?_ | refine qE (fun _ => ?_) (fun _ => ?_) | refine qI (fun _ => ?_) | refine qO ?_ ?_ | refine qL ?_ ?_ | refine qM (fun _ => ?_) | refine qN ?_ | refine qK (fun _ => ?_) (fun _ => ?_))

noncomputable def slices_IndexFunc_int_int_L0_c (s : List Int) (f : Int × Unit → Option Bool) (v : Int) : Option (Int ⊕ (Unit ⊕ Int)) :=
 bif decide (v < (s.length : Int)) then (
 gd (inB v s.length) <|
 (f (s.getD v.toNat 0, ())).bind fun r =>
 bif r then (
 some (.inr (.inr v)))
 else (
 some (.inl (wi64 (v + 1)))))
 else (
 some (.inr (.inl ())))

theorem le_slices_IndexFunc_int_int_L0 (s : List Int) (f f' : Int × Unit → Option Bool) (hf : ∀ q, LeO (f q) (f' q)) (v : Int) : LeO (slices_IndexFunc_int_int_L0_c s f v) (slices_IndexFunc_int_int_L0 s f' v) := by
 unfold slices_IndexFunc_int_int_L0_c slices_IndexFunc_int_int_L0
 with_reducible repeat' (first | exact LeO.refl _ | exact LeL.refl _ | exact hf _ | refine qB ?_ ?_ | refine qD ?_ (fun _ => ?_) | refine qG ?_ | refine qE (fun _ => ?_) (fun _ => ?_) | refine qI (fun _ => ?_) | refine qO ?_ ?_ | refine qL ?_ ?_ | refine qM (fun _ => ?_) | refine qN ?_ | refine qK (fun _ => ?_) (fun _ => ?_))

noncomputable def slices_IndexFunc_int_int_c (s : List Int) (f : Int × Unit → Option Bool) : Option (Int) :=
 (iterN (fun x => slices_IndexFunc_int_int_L0_c s f x) 100000 0).bind fun s2 =>
 s2.elim (fun s3 =>
 some (-1))
 (fun s4 =>
 some s4)

theorem le_slices_IndexFunc_int_int (s : List Int) (f f' : Int × Unit → Option Bool) (hf : ∀ q, LeO (f q) (f' q)) : LeO (slices_IndexFunc_int_int_c s f) (slices_IndexFunc_int_int s f') := by
 unfold slices_IndexFunc_int_int_c slices_IndexFunc_int_int
 with_reducible repeat' (first | exact LeO.refl _ | exact LeL.refl _ | exact hf _ | refine le_slices_IndexFunc_int_int_L0 _ _ _ (fun _ => ?_) _ | refine qB ?_ ?_ | refine qD ?_ (fun _ => ?_) | refine qG ?_ | refine qE (fun _ => ?_) (fun _ => ?_) | refine qI (fun _ => ?_) | refine qO ?_ ?_ | refine qL ?_ ?_ | refine qM (fun _ => ?_) | refine qN ?_ | refine qK (fun _ => ?_) (fun _ => ?_))

noncomputable def slices_ContainsFunc_int_int_c (s : List Int) (f : Int × Unit → Option Bool) : Option (Bool) :=
 (slices_IndexFunc_int_int_c s f).bind fun r =>
 some (decide (0 ≤ r))

theorem le_slices_ContainsFunc_int_int (s : List Int) (f f' : Int × Unit → Option Bool) (hf : ∀ q, LeO (f q) (f' q)) : LeO (slices_ContainsFunc_int_int_c s f) (slices_ContainsFunc_int_int s f') := by
 unfold slices_ContainsFunc_int_int_c slices_ContainsFunc_int_int
 with_reducible repeat' (first | exact LeO.refl _ | exact LeL.refl _ | exact hf _ | refine le_slices_IndexFunc_int_int _ _ _ (fun _ => ?_) | refine qB ?_ ?_ | refine qD ?_ (fun _ => ?_) | refine qG ?_ | refine qE (fun _ => ?_) (fun _ => ?_) | refine qI (fun _ => ?_) | refine qO ?_ ?_ | refine qL ?_ ?_ | refine qM (fun _ => ?_) | refine qN ?_ | refine qK (fun _ => ?_) (fun _ => ?_))

noncomputable def network_known_c (n : List (List UInt8) × List yT0 × List (List UInt8 × Int × Int) × List (List UInt8 × Int × Int × Int × Int) × Int × Int) : Option (Bool) :=
 (iterN (fun x => network_known_L0 n x.1 x.2) 100000 (0, [])).bind fun s =>
 (iterN (fun x2 => network_known_L1 n x2.1 x2.2) 100000 (0, s)).bind fun s2 =>
 (iterN (fun x3 => network_known_L2 n x3.1 x3.2) 100000 (0, s2)).bind fun s3 =>
 (slices_ContainsFunc_int_int_c s3 (fun h => (network_known_1 h.1 (n.1, (n.2.1, (n.2.2.1, (n.2.2.2.1, (n.2.2.2.2.1, n.2.2.2.2.2)))))).bind fun y => some y)).bind fun r =>
 some (!r)

theorem le_network_known (n : List (List UInt8) × List yT0 × List (List UInt8 × Int × Int) × List (List UInt8 × Int × Int × Int × Int) × Int × Int) : LeO (network_known_c n) (network_known n) := by
 unfold network_known_c network_known
 with_reducible repeat' (first | exact LeO.refl _ | exact LeL.refl _ | refine le_slices_ContainsFunc_int_int _ _ _ (fun _ => ?_) | refine qB ?_ ?_ | refine qD ?_ (fun _ => ?_) | refine qG ?_ | refine qE (fun _ => ?_) (fun _ => ?_) | refine qI (fun _ => ?_) | refine qO ?_ ?_ | refine qL ?_ ?_ | refine qM (fun _ => ?_) | refine qN ?_ | refine qK (fun _ => ?_) (fun _ => ?_))

noncomputable def network_pipe_c (s : List UInt8 × Int × Int × Int × Int × Int × List (Int × Int × Int)) : Option (Bool) :=
 Option.bind (α := Bool) (
 bif decide (s.2.1 = s.2.2.1) then (
 some true)
 else (
 (network_in s.2.2.2.1 1 1000000).bind fun r =>
 bif !r then (
 some true)
 else (
 (network_in s.2.2.2.2.1 0 1000).bind fun r2 =>
 bif !r2 then (
 some true)
 else (
 (network_in s.2.2.2.2.2.1 0 100000).bind fun r3 =>
 some (!r3))))) fun s2 =>
 bif s2 then (
 some false)
 else (
 (iterN (fun x => network_pipe_L0 s x) 100000 0).bind fun s4 =>
 s4.elim (fun s5 =>
 gd (inB 0 s.2.2.2.2.2.2.length) <|
 bif decide ((s.2.2.2.2.2.2.getD 0 (0, (0, 0))).1 = 0) then (
 gd (inB (wi64 ((s.2.2.2.2.2.2.length : Int) - 1)) s.2.2.2.2.2.2.length) <|
 some (decide ((s.2.2.2.2.2.2.getD (wi64 ((s.2.2.2.2.2.2.length : Int) - 1)).toNat (0, (0, 0))).1 = s.2.2.2.1)))
 else (
 some false))
 (fun s6 =>
 some s6))

theorem le_network_pipe (s : List UInt8 × Int × Int × Int × Int × Int × List (Int × Int × Int)) : LeO (network_pipe_c s) (network_pipe s) := by
 unfold network_pipe_c network_pipe
 with_reducible repeat' (first | exact LeO.refl _ | exact LeL.refl _ | refine qB ?_ ?_ | refine qD ?_ (fun _ => ?_) | refine qG ?_ | refine qE (fun _ => ?_) (fun _ => ?_) | refine qI (fun _ => ?_) | refine qO ?_ ?_ | refine qL ?_ ?_ | refine qM (fun _ => ?_) | refine qN ?_ | refine qK (fun _ => ?_) (fun _ => ?_))

noncomputable def network_proper_1_c (s : List UInt8 × Int × Int × Int × Int × Int × List (Int × Int × Int)) : Option (Bool) :=
 (network_pipe_c (s.1, (s.2.1, (s.2.2.1, (s.2.2.2.1, (s.2.2.2.2.1, (s.2.2.2.2.2.1, s.2.2.2.2.2.2))))))).bind fun r =>
 some (!r)

theorem le_network_proper_1 (s : List UInt8 × Int × Int × Int × Int × Int × List (Int × Int × Int)) : LeO (network_proper_1_c s) (network_proper_1 s) := by
 unfold network_proper_1_c network_proper_1
 with_reducible repeat' (first | exact LeO.refl _ | exact LeL.refl _ | refine le_network_pipe _ | refine qB ?_ ?_ | refine qD ?_ (fun _ => ?_) | refine qG ?_ | refine qE (fun _ => ?_) (fun _ => ?_) | refine qI (fun _ => ?_) | refine qO ?_ ?_ | refine qL ?_ ?_ | refine qM (fun _ => ?_) | refine qN ?_ | refine qK (fun _ => ?_) (fun _ => ?_))

noncomputable def slices_IndexFunc_api_Port_api_Port_L0_c (s : List (List UInt8 × Int × Int)) (f : (List UInt8 × Int × Int) × Unit → Option Bool) (v : Int) : Option (Int ⊕ (Unit ⊕ Int)) :=
 bif decide (v < (s.length : Int)) then (
 gd (inB v s.length) <|
 (f (s.getD v.toNat ([], (0, 0)), ())).bind fun r =>
 bif r then (
 some (.inr (.inr v)))
 else (
 some (.inl (wi64 (v + 1)))))
 else (
 some (.inr (.inl ())))

theorem le_slices_IndexFunc_api_Port_api_Port_L0 (s : List (List UInt8 × Int × Int)) (f f' : (List UInt8 × Int × Int) × Unit → Option Bool) (hf : ∀ q, LeO (f q) (f' q)) (v : Int) : LeO (slices_IndexFunc_api_Port_api_Port_L0_c s f v) (slices_IndexFunc_api_Port_api_Port_L0 s f' v) := by
 unfold slices_IndexFunc_api_Port_api_Port_L0_c slices_IndexFunc_api_Port_api_Port_L0
 with_reducible repeat' (first | exact LeO.refl _ | exact LeL.refl _ | exact hf _ | refine qB ?_ ?_ | refine qD ?_ (fun _ => ?_) | refine qG ?_ | refine qE (fun _ => ?_) (fun _ => ?_) | refine qI (fun _ => ?_) | refine qO ?_ ?_ | refine qL ?_ ?_ | refine qM (fun _ => ?_) | refine qN ?_ | refine qK (fun _ => ?_) (fun _ => ?_))

noncomputable def slices_IndexFunc_api_Port_api_Port_c (s : List (List UInt8 × Int × Int)) (f : (List UInt8 × Int × Int) × Unit → Option Bool) : Option (Int) :=
 (iterN (fun x => slices_IndexFunc_api_Port_api_Port_L0_c s f x) 100000 0).bind fun s2 =>
 s2.elim (fun s3 =>
 some (-1))
 (fun s4 =>
 some s4)

theorem le_slices_IndexFunc_api_Port_api_Port (s : List (List UInt8 × Int × Int)) (f f' : (List UInt8 × Int × Int) × Unit → Option Bool) (hf : ∀ q, LeO (f q) (f' q)) : LeO (slices_IndexFunc_api_Port_api_Port_c s f) (slices_IndexFunc_api_Port_api_Port s f') := by
 unfold slices_IndexFunc_api_Port_api_Port_c slices_IndexFunc_api_Port_api_Port
 with_reducible repeat' (first | exact LeO.refl _ | exact LeL.refl _ | exact hf _ | refine le_slices_IndexFunc_api_Port_api_Port_L0 _ _ _ (fun _ => ?_) _ | refine qB ?_ ?_ | refine qD ?_ (fun _ => ?_) | refine qG ?_ | refine qE (fun _ => ?_) (fun _ => ?_) | refine qI (fun _ => ?_) | refine qO ?_ ?_ | refine qL ?_ ?_ | refine qM (fun _ => ?_) | refine qN ?_ | refine qK (fun _ => ?_) (fun _ => ?_))

noncomputable def slices_ContainsFunc_api_Port_api_Port_c (s : List (List UInt8 × Int × Int)) (f : (List UInt8 × Int × Int) × Unit → Option Bool) : Option (Bool) :=
 (slices_IndexFunc_api_Port_api_Port_c s f).bind fun r =>
 some (decide (0 ≤ r))

theorem le_slices_ContainsFunc_api_Port_api_Port (s : List (List UInt8 × Int × Int)) (f f' : (List UInt8 × Int × Int) × Unit → Option Bool) (hf : ∀ q, LeO (f q) (f' q)) : LeO (slices_ContainsFunc_api_Port_api_Port_c s f) (slices_ContainsFunc_api_Port_api_Port s f') := by
 unfold slices_ContainsFunc_api_Port_api_Port_c slices_ContainsFunc_api_Port_api_Port
 with_reducible repeat' (first | exact LeO.refl _ | exact LeL.refl _ | exact hf _ | refine le_slices_IndexFunc_api_Port_api_Port _ _ _ (fun _ => ?_) | refine qB ?_ ?_ | refine qD ?_ (fun _ => ?_) | refine qG ?_ | refine qE (fun _ => ?_) (fun _ => ?_) | refine qI (fun _ => ?_) | refine qO ?_ ?_ | refine qL ?_ ?_ | refine qM (fun _ => ?_) | refine qN ?_ | refine qK (fun _ => ?_) (fun _ => ?_))

noncomputable def slices_ContainsFunc_api_Station_api_Station_c (s : List (List UInt8 × Int × Int × Int × Int)) (f : (List UInt8 × Int × Int × Int × Int) × Unit → Option Bool) : Option (Bool) :=
 (slices_IndexFunc_api_Station_api_Station_c s f).bind fun r =>
 some (decide (0 ≤ r))

theorem le_slices_ContainsFunc_api_Station_api_Station (s : List (List UInt8 × Int × Int × Int × Int)) (f f' : (List UInt8 × Int × Int × Int × Int) × Unit → Option Bool) (hf : ∀ q, LeO (f q) (f' q)) : LeO (slices_ContainsFunc_api_Station_api_Station_c s f) (slices_ContainsFunc_api_Station_api_Station s f') := by
 unfold slices_ContainsFunc_api_Station_api_Station_c slices_ContainsFunc_api_Station_api_Station
 with_reducible repeat' (first | exact LeO.refl _ | exact LeL.refl _ | exact hf _ | refine le_slices_IndexFunc_api_Station_api_Station _ _ _ (fun _ => ?_) | refine qB ?_ ?_ | refine qD ?_ (fun _ => ?_) | refine qG ?_ | refine qE (fun _ => ?_) (fun _ => ?_) | refine qI (fun _ => ?_) | refine qO ?_ ?_ | refine qL ?_ ?_ | refine qM (fun _ => ?_) | refine qN ?_ | refine qK (fun _ => ?_) (fun _ => ?_))

noncomputable def network_proper_c (n : List (List UInt8) × List yT0 × List (List UInt8 × Int × Int) × List (List UInt8 × Int × Int × Int × Int) × Int × Int) : Option (Bool) :=
 (slices_ContainsFunc_api_Segment_api_Segment_c n.2.1 (fun h => (network_proper_1_c h.1).bind fun y => some y)).bind fun r =>
 bif r then (
 some false)
 else (
 (slices_ContainsFunc_api_Port_api_Port_c n.2.2.1 (fun h2 => (network_proper_2 h2.1).bind fun y => some y)).bind fun r2 =>
 bif r2 then (
 some false)
 else (
 (slices_ContainsFunc_api_Station_api_Station_c n.2.2.2.1 (fun h3 => (network_proper_3 h3.1).bind fun y => some y)).bind fun r3 =>
 bif r3 then (
 some false)
 else (
 (network_in n.2.2.2.2.1 (-100000) 100000000).bind fun r4 =>
 bif r4 then (
 (network_in n.2.2.2.2.2 0 100).bind fun r5 =>
 some r5)
 else (
 some false))))

theorem le_network_proper (n : List (List UInt8) × List yT0 × List (List UInt8 × Int × Int) × List (List UInt8 × Int × Int × Int × Int) × Int × Int) : LeO (network_proper_c n) (network_proper n) := by
 unfold network_proper_c network_proper
 with_reducible repeat' (first | exact LeO.refl _ | exact LeL.refl _ | refine le_slices_ContainsFunc_api_Segment_api_Segment _ _ _ (fun _ => ?_) | refine le_slices_ContainsFunc_api_Port_api_Port _ _ _ (fun _ => ?_) | refine le_network_proper_1 _ | refine le_slices_ContainsFunc_api_Station_api_Station _ _ _ (fun _ => ?_) | refine qB ?_ ?_ | refine qD ?_ (fun _ => ?_) | refine qG ?_ | refine qE (fun _ => ?_) (fun _ => ?_) | refine qI (fun _ => ?_) | refine qO ?_ ?_ | refine qL ?_ ?_ | refine qM (fun _ => ?_) | refine qN ?_ | refine qK (fun _ => ?_) (fun _ => ?_))

noncomputable def network_Check_c (n : List (List UInt8) × List yT0 × List (List UInt8 × Int × Int) × List (List UInt8 × Int × Int × Int × Int) × Int × Int) : Option (Int) :=
 (network_limits_c (n.1, (n.2.1, (n.2.2.1, (n.2.2.2.1, (n.2.2.2.2.1, n.2.2.2.2.2)))))).bind fun r =>
 bif !r then (
 some 4)
 else (
 (network_names_c (n.1, (n.2.1, (n.2.2.1, (n.2.2.2.1, (n.2.2.2.2.1, n.2.2.2.2.2)))))).bind fun r2 =>
 (iterN (fun x => network_Check_L0_c r2 x) 100000 0).bind fun s =>
 s.elim (fun s2 =>
 (network_twice_c (n.1, (n.2.1, (n.2.2.1, (n.2.2.2.1, (n.2.2.2.2.1, n.2.2.2.2.2)))))).bind fun r4 =>
 bif r4 then (
 some 7)
 else (
 (network_known_c (n.1, (n.2.1, (n.2.2.1, (n.2.2.2.1, (n.2.2.2.2.1, n.2.2.2.2.2)))))).bind fun r5 =>
 bif !r5 then (
 some 8)
 else (
 (network_proper_c (n.1, (n.2.1, (n.2.2.1, (n.2.2.2.1, (n.2.2.2.2.1, n.2.2.2.2.2)))))).bind fun r6 =>
 bif !r6 then (
 some 9)
 else (
 some 0))))
 (fun s3 =>
 some s3))

theorem le_network_Check (n : List (List UInt8) × List yT0 × List (List UInt8 × Int × Int) × List (List UInt8 × Int × Int × Int × Int) × Int × Int) : LeO (network_Check_c n) (network_Check n) := by
 unfold network_Check_c network_Check
 with_reducible repeat' (first | exact LeO.refl _ | exact LeL.refl _ | refine le_network_limits _ | refine le_network_twice _ | refine le_network_names _ | refine le_network_known _ | refine le_network_Check_L0 _ _ | refine le_network_proper _ | refine qB ?_ ?_ | refine qD ?_ (fun _ => ?_) | refine qG ?_ | refine qE (fun _ => ?_) (fun _ => ?_) | refine qI (fun _ => ?_) | refine qO ?_ ?_ | refine qL ?_ ?_ | refine qM (fun _ => ?_) | refine qN ?_ | refine qK (fun _ => ?_) (fun _ => ?_))

noncomputable def slices_Repeat_api_Valve_api_Valve_c (x : List (Int × Int × Bool × Bool)) (count : Int) : Option (List (Int × Int × Bool × Bool)) :=
 Option.bind (α := Unit) (
 bif decide (count < 0) then (
 none)
 else (
 some ())) fun s =>
 (math_bits_Mul (wu64 (x.length : Int)) (wu64 count)).bind fun r =>
 Option.bind (α := Bool) (
 bif decide (0 < r.1) then (
 some true)
 else (
 some (decide (9223372036854775807 < r.2)))) fun s2 =>
 Option.bind (α := Unit) (
 bif s2 then (
 none)
 else (
 some ())) fun s3 =>
 gd (makeG 24 (wi64 r.2)) <|
 gd ((true && true) && decide (0 < (List.replicate (wi64 r.2).toNat ((0, (0, (false, false))) : Int × Int × Bool × Bool)).length)) <|
 (iterN (fun x2 => slices_Repeat_api_Valve_api_Valve_L0 x2.1 x2.2) 100000 (Int.ofNat (min x.length ((List.replicate (wi64 r.2).toNat ((0, (0, (false, false))) : Int × Int × Bool × Bool)).length - 0)), cpyD (List.replicate (wi64 r.2).toNat ((0, (0, (false, false))) : Int × Int × Bool × Bool)) 0 x)).bind fun s4 =>
 some s4

theorem le_slices_Repeat_api_Valve_api_Valve (x : List (Int × Int × Bool × Bool)) (count : Int) : LeO (slices_Repeat_api_Valve_api_Valve_c x count) (slices_Repeat_api_Valve_api_Valve x count) := by
 unfold slices_Repeat_api_Valve_api_Valve_c slices_Repeat_api_Valve_api_Valve
 with_reducible repeat' (first | exact LeO.refl _ | exact LeL.refl _ | refine qB ?_ ?_ | refine qD ?_ (fun _ => ?_) | refine qG ?_ | refine qE (fun _ => ?_) (fun _ => ?_) | refine qI (fun _ => ?_) | refine qO ?_ ?_ | refine qL ?_ ?_ | refine qM (fun _ => ?_) | refine qN ?_ | refine qK (fun _ => ?_) (fun _ => ?_))

noncomputable def step_Idle_c (n : List (List UInt8) × List yT0 × List (List UInt8 × Int × Int) × List (List UInt8 × Int × Int × Int × Int) × Int × Int) (travel : Int) : Option ((List (Int × Int × Bool × Bool) × List Int × List Int × List Bool) × Int) :=
 (network_Check_c (n.1, (n.2.1, (n.2.2.1, (n.2.2.2.1, (n.2.2.2.2.1, n.2.2.2.2.2)))))).bind fun r =>
 bif !decide (r = 0) then (
 some (([], ([], ([], []))), r))
 else (
 (valve_Valid (travel, (0, (false, false)))).bind fun r2 =>
 bif !r2 then (
 some (([], ([], ([], []))), 20))
 else (
 gd (makeG 8 (n.2.1.length : Int)) <|
 gd (makeG 8 (n.2.2.1.length : Int)) <|
 gd (makeG 1 (n.2.2.2.1.length : Int)) <|
 (lineup_Count (n.1, (n.2.1, (n.2.2.1, (n.2.2.2.1, (n.2.2.2.2.1, n.2.2.2.2.2)))))).bind fun r3 =>
 (slices_Repeat_api_Valve_api_Valve_c [(travel, (0, (false, false)))] r3).bind fun r4 =>
 some ((r4, (List.replicate (n.2.1.length : Int).toNat (0 : Int), (List.replicate (n.2.2.1.length : Int).toNat (0 : Int), List.replicate (n.2.2.2.1.length : Int).toNat (false : Bool)))), 0)))

theorem le_step_Idle (n : List (List UInt8) × List yT0 × List (List UInt8 × Int × Int) × List (List UInt8 × Int × Int × Int × Int) × Int × Int) (travel : Int) : LeO (step_Idle_c n travel) (step_Idle n travel) := by
 unfold step_Idle_c step_Idle
 with_reducible repeat' (first | exact LeO.refl _ | exact LeL.refl _ | refine le_network_Check _ | refine le_slices_Repeat_api_Valve_api_Valve _ _ | refine qB ?_ ?_ | refine qD ?_ (fun _ => ?_) | refine qG ?_ | refine qE (fun _ => ?_) (fun _ => ?_) | refine qI (fun _ => ?_) | refine qO ?_ ?_ | refine qL ?_ ?_ | refine qM (fun _ => ?_) | refine qN ?_ | refine qK (fun _ => ?_) (fun _ => ?_))

noncomputable def centre_New_c (n : List (List UInt8) × List yT0 × List (List UInt8 × Int × Int) × List (List UInt8 × Int × Int × Int × Int) × Int × Int) (travel : Int) : Option (((List (Int × Int × Bool × Bool) × List Int × List Int × List Bool) × List (Int × Int × Int × Int × Int × List Int) × List (List UInt8 × Int × Int × Int × Int) × Int) × Int) :=
 (step_Idle_c (n.1, (n.2.1, (n.2.2.1, (n.2.2.2.1, (n.2.2.2.2.1, n.2.2.2.2.2))))) travel).bind fun r =>
 bif !decide (r.2 = 0) then (
 some ((([], ([], ([], []))), ([], ([], 0))), r.2))
 else (
 some (((r.1.1, (r.1.2.1, (r.1.2.2.1, r.1.2.2.2))), ([], ([], 0))), 0))

theorem le_centre_New (n : List (List UInt8) × List yT0 × List (List UInt8 × Int × Int) × List (List UInt8 × Int × Int × Int × Int) × Int × Int) (travel : Int) : LeO (centre_New_c n travel) (centre_New n travel) := by
 unfold centre_New_c centre_New
 with_reducible repeat' (first | exact LeO.refl _ | exact LeL.refl _ | refine le_step_Idle _ _ | refine qB ?_ ?_ | refine qD ?_ (fun _ => ?_) | refine qG ?_ | refine qE (fun _ => ?_) (fun _ => ?_) | refine qI (fun _ => ?_) | refine qO ?_ ?_ | refine qL ?_ ?_ | refine qM (fun _ => ?_) | refine qN ?_ | refine qK (fun _ => ?_) (fun _ => ?_))

noncomputable def slices_Clone_byte_byte_c (s : List Int) : Option (List Int) :=
 bif Nat.beq s.length 0 then (bothC (
 some []) (
 gd (fits (0 + s.length) 1) <|
 some ([] ++ s)))
 else (
 gd (fits (0 + s.length) 1) <|
 some ([] ++ s))

theorem le_slices_Clone_byte_byte (s : List Int) : LeO (slices_Clone_byte_byte_c s) (slices_Clone_byte_byte s) := by
 unfold slices_Clone_byte_byte_c slices_Clone_byte_byte
 with_reducible repeat' (first | exact LeO.refl _ | exact LeL.refl _ | refine qB ?_ ?_ | refine qD ?_ (fun _ => ?_) | refine qG ?_ | refine qE (fun _ => ?_) (fun _ => ?_) | refine qI (fun _ => ?_) | refine qO ?_ ?_ | refine qL ?_ ?_ | refine qM (fun _ => ?_) | refine qN ?_ | refine qK (fun _ => ?_) (fun _ => ?_))

noncomputable def slices_Clone_api_Valve_api_Valve_c (s : List (Int × Int × Bool × Bool)) : Option (List (Int × Int × Bool × Bool)) :=
 bif Nat.beq s.length 0 then (bothC (
 some []) (
 gd (fits (0 + s.length) 24) <|
 some ([] ++ s)))
 else (
 gd (fits (0 + s.length) 24) <|
 some ([] ++ s))

theorem le_slices_Clone_api_Valve_api_Valve (s : List (Int × Int × Bool × Bool)) : LeO (slices_Clone_api_Valve_api_Valve_c s) (slices_Clone_api_Valve_api_Valve s) := by
 unfold slices_Clone_api_Valve_api_Valve_c slices_Clone_api_Valve_api_Valve
 with_reducible repeat' (first | exact LeO.refl _ | exact LeL.refl _ | refine qB ?_ ?_ | refine qD ?_ (fun _ => ?_) | refine qG ?_ | refine qE (fun _ => ?_) (fun _ => ?_) | refine qI (fun _ => ?_) | refine qO ?_ ?_ | refine qL ?_ ?_ | refine qM (fun _ => ?_) | refine qN ?_ | refine qK (fun _ => ?_) (fun _ => ?_))

noncomputable def slices_Clone_int_int_c (s : List Int) : Option (List Int) :=
 bif Nat.beq s.length 0 then (bothC (
 some []) (
 gd (fits (0 + s.length) 8) <|
 some ([] ++ s)))
 else (
 gd (fits (0 + s.length) 8) <|
 some ([] ++ s))

theorem le_slices_Clone_int_int (s : List Int) : LeO (slices_Clone_int_int_c s) (slices_Clone_int_int s) := by
 unfold slices_Clone_int_int_c slices_Clone_int_int
 with_reducible repeat' (first | exact LeO.refl _ | exact LeL.refl _ | refine qB ?_ ?_ | refine qD ?_ (fun _ => ?_) | refine qG ?_ | refine qE (fun _ => ?_) (fun _ => ?_) | refine qI (fun _ => ?_) | refine qO ?_ ?_ | refine qL ?_ ?_ | refine qM (fun _ => ?_) | refine qN ?_ | refine qK (fun _ => ?_) (fun _ => ?_))

noncomputable def slices_Clone_bool_bool_c (s : List Bool) : Option (List Bool) :=
 bif Nat.beq s.length 0 then (bothC (
 some []) (
 gd (fits (0 + s.length) 1) <|
 some ([] ++ s)))
 else (
 gd (fits (0 + s.length) 1) <|
 some ([] ++ s))

theorem le_slices_Clone_bool_bool (s : List Bool) : LeO (slices_Clone_bool_bool_c s) (slices_Clone_bool_bool s) := by
 unfold slices_Clone_bool_bool_c slices_Clone_bool_bool
 with_reducible repeat' (first | exact LeO.refl _ | exact LeL.refl _ | refine qB ?_ ?_ | refine qD ?_ (fun _ => ?_) | refine qG ?_ | refine qE (fun _ => ?_) (fun _ => ?_) | refine qI (fun _ => ?_) | refine qO ?_ ?_ | refine qL ?_ ?_ | refine qM (fun _ => ?_) | refine qN ?_ | refine qK (fun _ => ?_) (fun _ => ?_))

noncomputable def step_Copy_c (d : List (Int × Int × Bool × Bool) × List Int × List Int × List Bool) : Option ((List (Int × Int × Bool × Bool)) × List Int × List Int × List Bool) :=
 (slices_Clone_api_Valve_api_Valve_c d.1).bind fun r =>
 (slices_Clone_int_int_c d.2.1).bind fun r2 =>
 (slices_Clone_int_int_c d.2.2.1).bind fun r3 =>
 (slices_Clone_bool_bool_c d.2.2.2).bind fun r4 =>
 some (r, r2, r3, r4)

theorem le_step_Copy (d : List (Int × Int × Bool × Bool) × List Int × List Int × List Bool) : LeO (step_Copy_c d) (step_Copy d) := by
 unfold step_Copy_c step_Copy
 with_reducible repeat' (first | exact LeO.refl _ | exact LeL.refl _ | refine le_slices_Clone_int_int _ | refine le_slices_Clone_bool_bool _ | refine le_slices_Clone_api_Valve_api_Valve _ | refine qB ?_ ?_ | refine qD ?_ (fun _ => ?_) | refine qG ?_ | refine qE (fun _ => ?_) (fun _ => ?_) | refine qI (fun _ => ?_) | refine qO ?_ ?_ | refine qL ?_ ?_ | refine qM (fun _ => ?_) | refine qN ?_ | refine qK (fun _ => ?_) (fun _ => ?_))

noncomputable def slices_Clone_api_Telegram_api_Telegram_c (s : List (Int × Int × Int × Int × Int × List Int)) : Option (List (Int × Int × Int × Int × Int × List Int)) :=
 bif Nat.beq s.length 0 then (bothC (
 some []) (
 gd (fits (0 + s.length) 64) <|
 some ([] ++ s)))
 else (
 gd (fits (0 + s.length) 64) <|
 some ([] ++ s))

theorem le_slices_Clone_api_Telegram_api_Telegram (s : List (Int × Int × Int × Int × Int × List Int)) : LeO (slices_Clone_api_Telegram_api_Telegram_c s) (slices_Clone_api_Telegram_api_Telegram s) := by
 unfold slices_Clone_api_Telegram_api_Telegram_c slices_Clone_api_Telegram_api_Telegram
 with_reducible repeat' (first | exact LeO.refl _ | exact LeL.refl _ | refine qB ?_ ?_ | refine qD ?_ (fun _ => ?_) | refine qG ?_ | refine qE (fun _ => ?_) (fun _ => ?_) | refine qI (fun _ => ?_) | refine qO ?_ ?_ | refine qL ?_ ?_ | refine qM (fun _ => ?_) | refine qN ?_ | refine qK (fun _ => ?_) (fun _ => ?_))

noncomputable def slices_Clone_api_Account_api_Account_c (s : List (List UInt8 × Int × Int × Int × Int)) : Option (List (List UInt8 × Int × Int × Int × Int)) :=
 bif Nat.beq s.length 0 then (bothC (
 some []) (
 gd (fits (0 + s.length) 48) <|
 some ([] ++ s)))
 else (
 gd (fits (0 + s.length) 48) <|
 some ([] ++ s))

theorem le_slices_Clone_api_Account_api_Account (s : List (List UInt8 × Int × Int × Int × Int)) : LeO (slices_Clone_api_Account_api_Account_c s) (slices_Clone_api_Account_api_Account s) := by
 unfold slices_Clone_api_Account_api_Account_c slices_Clone_api_Account_api_Account
 with_reducible repeat' (first | exact LeO.refl _ | exact LeL.refl _ | refine qB ?_ ?_ | refine qD ?_ (fun _ => ?_) | refine qG ?_ | refine qE (fun _ => ?_) (fun _ => ?_) | refine qI (fun _ => ?_) | refine qO ?_ ?_ | refine qL ?_ ?_ | refine qM (fun _ => ?_) | refine qN ?_ | refine qK (fun _ => ?_) (fun _ => ?_))

noncomputable def slices_Clone_int_d_c (s : List Int) : Option (List Int) :=
 bif Nat.beq s.length 0 then (bothC (
 some []) (
 gd (fits (0 + s.length) 8) <|
 some ([] ++ s)))
 else (
 gd (fits (0 + s.length) 8) <|
 some ([] ++ s))

theorem le_slices_Clone_int_d (s : List Int) : LeO (slices_Clone_int_d_c s) (slices_Clone_int_d s) := by
 unfold slices_Clone_int_d_c slices_Clone_int_d
 with_reducible repeat' (first | exact LeO.refl _ | exact LeL.refl _ | refine qB ?_ ?_ | refine qD ?_ (fun _ => ?_) | refine qG ?_ | refine qE (fun _ => ?_) (fun _ => ?_) | refine qI (fun _ => ?_) | refine qO ?_ ?_ | refine qL ?_ ?_ | refine qM (fun _ => ?_) | refine qN ?_ | refine qK (fun _ => ?_) (fun _ => ?_))

noncomputable def centre_Copy_L0_c (r2 : List (Int × Int × Int × Int × Int × List Int)) (v : Int) (c2 : List (Int × Int × Int × Int × Int × List Int)) (c3 : List (Int × Int × Bool × Bool)) (c4 : List Int) (c5 : List Int) (c6 : List Bool) (c7 : List (List UInt8 × Int × Int × Int × Int)) : Option ((Int × (List (Int × Int × Int × Int × Int × List Int)) × (List (Int × Int × Bool × Bool)) × List Int × List Int × List Bool × List (List UInt8 × Int × Int × Int × Int)) ⊕ ((List (Int × Int × Bool × Bool)) × List Int × List Int × List Bool × (List (Int × Int × Int × Int × Int × List Int)) × List (List UInt8 × Int × Int × Int × Int))) :=
 bif decide (v < (r2.length : Int)) then (
 gd (inB v c2.length) <|
 (slices_Clone_int_d_c ((((((c2.getD v.toNat (0, (0, (0, (0, (0, [])))))).2).2).2).2).2)).bind fun r4 =>
 gd (inB v c2.length) <|
 some (.inl (wi64 (v + 1), c2.set v.toNat ((c2.getD v.toNat (0, (0, (0, (0, (0, [])))))).1, (((c2.getD v.toNat (0, (0, (0, (0, (0, [])))))).2).1, ((((c2.getD v.toNat (0, (0, (0, (0, (0, [])))))).2).2).1, (((((c2.getD v.toNat (0, (0, (0, (0, (0, [])))))).2).2).2).1, ((((((c2.getD v.toNat (0, (0, (0, (0, (0, [])))))).2).2).2).2).1, r4))))), c3, c4, c5, c6, c7)))
 else (
 some (.inr (c3, c4, c5, c6, c2, c7)))

theorem le_centre_Copy_L0 (r2 : List (Int × Int × Int × Int × Int × List Int)) (v : Int) (c2 : List (Int × Int × Int × Int × Int × List Int)) (c3 : List (Int × Int × Bool × Bool)) (c4 : List Int) (c5 : List Int) (c6 : List Bool) (c7 : List (List UInt8 × Int × Int × Int × Int)) : LeO (centre_Copy_L0_c r2 v c2 c3 c4 c5 c6 c7) (centre_Copy_L0 r2 v c2 c3 c4 c5 c6 c7) := by
 unfold centre_Copy_L0_c centre_Copy_L0
 with_reducible repeat' (first | exact LeO.refl _ | exact LeL.refl _ | refine le_slices_Clone_int_d _ | refine qB ?_ ?_ | refine qD ?_ (fun _ => ?_) | refine qG ?_ | refine qE (fun _ => ?_) (fun _ => ?_) | refine qI (fun _ => ?_) | refine qO ?_ ?_ | refine qL ?_ ?_ | refine qM (fun _ => ?_) | refine qN ?_ | refine qK (fun _ => ?_) (fun _ => ?_))

noncomputable def centre_Copy_c (c : (List (Int × Int × Bool × Bool) × List Int × List Int × List Bool) × List (Int × Int × Int × Int × Int × List Int) × List (List UInt8 × Int × Int × Int × Int) × Int) : Option (Int × (List (Int × Int × Bool × Bool)) × List Int × List Int × List Bool × (List (Int × Int × Int × Int × Int × List Int)) × List (List UInt8 × Int × Int × Int × Int)) :=
 (step_Copy_c (c.1.1, (c.1.2.1, (c.1.2.2.1, c.1.2.2.2)))).bind fun r =>
 (slices_Clone_api_Telegram_api_Telegram_c c.2.1).bind fun r2 =>
 (slices_Clone_api_Account_api_Account_c c.2.2.1).bind fun r3 =>
 (iterN (fun x => centre_Copy_L0_c r2 x.1 x.2.1 x.2.2.1 x.2.2.2.1 x.2.2.2.2.1 x.2.2.2.2.2.1 x.2.2.2.2.2.2) 100000 (0, r2, r.1, r.2.1, r.2.2.1, r.2.2.2, r3)).bind fun s =>
 some (c.2.2.2, s.1, s.2.1, s.2.2.1, s.2.2.2.1, s.2.2.2.2.1, s.2.2.2.2.2)

theorem le_centre_Copy (c : (List (Int × Int × Bool × Bool) × List Int × List Int × List Bool) × List (Int × Int × Int × Int × Int × List Int) × List (List UInt8 × Int × Int × Int × Int) × Int) : LeO (centre_Copy_c c) (centre_Copy c) := by
 unfold centre_Copy_c centre_Copy
 with_reducible repeat' (first | exact LeO.refl _ | exact LeL.refl _ | refine le_slices_Clone_api_Account_api_Account _ | refine le_centre_Copy_L0 _ _ _ _ _ _ _ _ | refine le_step_Copy _ | refine le_slices_Clone_api_Telegram_api_Telegram _ | refine qB ?_ ?_ | refine qD ?_ (fun _ => ?_) | refine qG ?_ | refine qE (fun _ => ?_) (fun _ => ?_) | refine qI (fun _ => ?_) | refine qO ?_ ?_ | refine qL ?_ ?_ | refine qM (fun _ => ?_) | refine qN ?_ | refine qK (fun _ => ?_) (fun _ => ?_))

noncomputable def telegram_Valid_c (t : Int × Int × Int × Int × Int × List Int) : Option (Bool) :=
 Option.bind (α := Bool) (
 (telegram_Valid_1 t.1 255).bind fun r =>
 bif !r then (
 some true)
 else (
 (telegram_Valid_1 t.2.1 255).bind fun r2 =>
 bif !r2 then (
 some true)
 else (
 (telegram_Valid_1 t.2.2.1 2147483648).bind fun r3 =>
 bif !r3 then (
 some true)
 else (
 (telegram_Valid_1 t.2.2.2.1 1099511627776).bind fun r4 =>
 bif !r4 then (
 some true)
 else (
 (telegram_Valid_1 t.2.2.2.2.1 63).bind fun r5 =>
 some (!r5)))))) fun s =>
 bif s then (
 some false)
 else (
 bif decide ((t.2.2.2.2.2.length : Int) ≤ 16) then (
 (slices_ContainsFunc_int_int_c t.2.2.2.2.2 (fun h => (telegram_Valid_2 h.1).bind fun y => some y)).bind fun r6 =>
 some (!r6))
 else (
 some false))

theorem le_telegram_Valid (t : Int × Int × Int × Int × Int × List Int) : LeO (telegram_Valid_c t) (telegram_Valid t) := by
 unfold telegram_Valid_c telegram_Valid
 with_reducible repeat' (first | exact LeO.refl _ | exact LeL.refl _ | refine le_slices_ContainsFunc_int_int _ _ _ (fun _ => ?_) | refine qB ?_ ?_ | refine qD ?_ (fun _ => ?_) | refine qG ?_ | refine qE (fun _ => ?_) (fun _ => ?_) | refine qI (fun _ => ?_) | refine qO ?_ ?_ | refine qL ?_ ?_ | refine qM (fun _ => ?_) | refine qN ?_ | refine qK (fun _ => ?_) (fun _ => ?_))

noncomputable def slices_BinarySearchFunc_api_Telegram_api_Telegram_int_L0_c (x : List (Int × Int × Int × Int × Int × List Int)) (target : Int) (cmp : (Int × Int × Int × Int × Int × List Int) × Int × Unit → Option Int) (i : Int) (j : Int) : Option ((Int × Int) ⊕ Int) :=
 bif decide (i < j) then (
 gd (inB (wi64 (Int.fdiv (wu64 (wi64 (i + j))) (2 ^ shAmt .u64 1))) x.length) <|
 (cmp (x.getD (wi64 (Int.fdiv (wu64 (wi64 (i + j))) (2 ^ shAmt .u64 1))).toNat (0, (0, (0, (0, (0, []))))), target, ())).bind fun r =>
 bif decide (r < 0) then (
 some (.inl (wi64 ((wi64 (Int.fdiv (wu64 (wi64 (i + j))) (2 ^ shAmt .u64 1))) + 1), j)))
 else (
 some (.inl (i, wi64 (Int.fdiv (wu64 (wi64 (i + j))) (2 ^ shAmt .u64 1))))))
 else (
 some (.inr i))

theorem le_slices_BinarySearchFunc_api_Telegram_api_Telegram_int_L0 (x : List (Int × Int × Int × Int × Int × List Int)) (target : Int) (cmp cmp' : (Int × Int × Int × Int × Int × List Int) × Int × Unit → Option Int) (hcmp : ∀ q, LeO (cmp q) (cmp' q)) (i : Int) (j : Int) : LeO (slices_BinarySearchFunc_api_Telegram_api_Telegram_int_L0_c x target cmp i j) (slices_BinarySearchFunc_api_Telegram_api_Telegram_int_L0 x target cmp' i j) := by
 unfold slices_BinarySearchFunc_api_Telegram_api_Telegram_int_L0_c slices_BinarySearchFunc_api_Telegram_api_Telegram_int_L0
 with_reducible repeat' (first | exact LeO.refl _ | exact LeL.refl _ | exact hcmp _ | refine qB ?_ ?_ | refine qD ?_ (fun _ => ?_) | refine qG ?_ | refine qE (fun _ => ?_) (fun _ => ?_) | refine qI (fun _ => ?_) | refine qO ?_ ?_ | refine qL ?_ ?_ | refine qM (fun _ => ?_) | refine qN ?_ | refine qK (fun _ => ?_) (fun _ => ?_))

noncomputable def slices_BinarySearchFunc_api_Telegram_api_Telegram_int_c (x : List (Int × Int × Int × Int × Int × List Int)) (target : Int) (cmp : (Int × Int × Int × Int × Int × List Int) × Int × Unit → Option Int) : Option (Int × Bool) :=
 (iterN (fun x2 => slices_BinarySearchFunc_api_Telegram_api_Telegram_int_L0_c x target cmp x2.1 x2.2) 100000 (0, (x.length : Int))).bind fun s =>
 bif decide (s < (x.length : Int)) then (
 gd (inB s x.length) <|
 (cmp (x.getD s.toNat (0, (0, (0, (0, (0, []))))), target, ())).bind fun r2 =>
 some (s, decide (r2 = 0)))
 else (
 some (s, false))

theorem le_slices_BinarySearchFunc_api_Telegram_api_Telegram_int (x : List (Int × Int × Int × Int × Int × List Int)) (target : Int) (cmp cmp' : (Int × Int × Int × Int × Int × List Int) × Int × Unit → Option Int) (hcmp : ∀ q, LeO (cmp q) (cmp' q)) : LeO (slices_BinarySearchFunc_api_Telegram_api_Telegram_int_c x target cmp) (slices_BinarySearchFunc_api_Telegram_api_Telegram_int x target cmp') := by
 unfold slices_BinarySearchFunc_api_Telegram_api_Telegram_int_c slices_BinarySearchFunc_api_Telegram_api_Telegram_int
 with_reducible repeat' (first | exact LeO.refl _ | exact LeL.refl _ | exact hcmp _ | refine le_slices_BinarySearchFunc_api_Telegram_api_Telegram_int_L0 _ _ _ _ (fun _ => ?_) _ _ | refine qB ?_ ?_ | refine qD ?_ (fun _ => ?_) | refine qG ?_ | refine qE (fun _ => ?_) (fun _ => ?_) | refine qI (fun _ => ?_) | refine qO ?_ ?_ | refine qL ?_ ?_ | refine qM (fun _ => ?_) | refine qN ?_ | refine qK (fun _ => ?_) (fun _ => ?_))

noncomputable def centre_find_c (l : List (Int × Int × Int × Int × Int × List Int)) (station : Int) : Option (Int × Bool) :=
 (slices_BinarySearchFunc_api_Telegram_api_Telegram_int_c l station (fun h => (centre_find_1 h.1 h.2.1).bind fun y => some y)).bind fun r =>
 some (r.1, r.2)

theorem le_centre_find (l : List (Int × Int × Int × Int × Int × List Int)) (station : Int) : LeO (centre_find_c l station) (centre_find l station) := by
 unfold centre_find_c centre_find
 with_reducible repeat' (first | exact LeO.refl _ | exact LeL.refl _ | refine le_slices_BinarySearchFunc_api_Telegram_api_Telegram_int _ _ _ _ (fun _ => ?_) | refine qB ?_ ?_ | refine qD ?_ (fun _ => ?_) | refine qG ?_ | refine qE (fun _ => ?_) (fun _ => ?_) | refine qI (fun _ => ?_) | refine qO ?_ ?_ | refine qL ?_ ?_ | refine qM (fun _ => ?_) | refine qN ?_ | refine qK (fun _ => ?_) (fun _ => ?_))

noncomputable def centre_accept_c (v : List (List UInt8) × List yT0 × List (List UInt8 × Int × Int) × List (List UInt8 × Int × Int × Int × Int) × Int × Int) (r : Int × List Int × (Int × Int × Int × Int × Int × List (Int × Bool) × Int) × List UInt8 × Int × Int) (c : Int) (c2 : List (Int × Int × Bool × Bool)) (c3 : List Int) (c4 : List Int) (c5 : List Bool) (c6 : List (Int × Int × Int × Int × Int × List Int)) (c7 : List (List UInt8 × Int × Int × Int × Int)) : Option (Int × Int × (List (Int × Int × Bool × Bool)) × List Int × List Int × List Bool × (List (Int × Int × Int × Int × Int × List Int)) × List (List UInt8 × Int × Int × Int × Int)) :=
 Option.bind (α := Bool × (List (Int × Int × Bool × Bool)) × List Int × List Int × List Bool × (List (Int × Int × Int × Int × Int × List Int)) × List (List UInt8 × Int × Int × Int × Int)) (
 bif decide ((r.2.1.length : Int) < 5) then (
 some (true, c2, c3, c4, c5, c6, c7))
 else (
 (centre_noStep (r.2.2.1.1, (r.2.2.1.2.1, (r.2.2.1.2.2.1, (r.2.2.1.2.2.2.1, (r.2.2.1.2.2.2.2.1, (r.2.2.1.2.2.2.2.2.1, r.2.2.1.2.2.2.2.2.2))))))).bind fun r2 =>
 bif !r2 then (
 some (true, c2, c3, c4, c5, c6, c7))
 else (
 some ((!(decide (r.2.2.2.1 = []) && (decide (r.2.2.2.2.1 = 0) && decide (r.2.2.2.2.2 = 0)))), c2, c3, c4, c5, c6, c7)))) fun s =>
 bif s.1 then (
 some (28, c, s.2.1, s.2.2.1, s.2.2.2.1, s.2.2.2.2.1, s.2.2.2.2.2.1, s.2.2.2.2.2.2))
 else (
 gd (inB 0 r.2.1.length) <|
 gd (inB 1 r.2.1.length) <|
 gd (inB 2 r.2.1.length) <|
 gd (inB 3 r.2.1.length) <|
 gd (inB 4 r.2.1.length) <|
 gd (cutG (some (.i64, 5)) none r.2.1.length) <|
 (slices_Clone_int_d_c (r.2.1.drop 5)).bind fun r3 =>
 (telegram_Valid_c (r.2.1.getD 0 0, (r.2.1.getD 1 0, (r.2.1.getD 2 0, (r.2.1.getD 3 0, (r.2.1.getD 4 0, r3)))))).bind fun r4 =>
 bif !r4 then (
 some (28, c, s.2.1, s.2.2.1, s.2.2.2.1, s.2.2.2.2.1, s.2.2.2.2.2.1, s.2.2.2.2.2.2))
 else (
 (centre_find_c s.2.2.2.2.2.1 (r.2.1.getD 0 0)).bind fun r5 =>
 bif !r5.2 then (
 (insT 64 r5.1 s.2.2.2.2.2.1 [(r.2.1.getD 0 0, (r.2.1.getD 1 0, (r.2.1.getD 2 0, (r.2.1.getD 3 0, (r.2.1.getD 4 0, r3)))))]).bind fun r6 =>
 some (0, c, s.2.1, s.2.2.1, s.2.2.2.1, s.2.2.2.2.1, r6, s.2.2.2.2.2.2))
 else (
 gd (inB r5.1 s.2.2.2.2.2.1.length) <|
 (telegram_Before (s.2.2.2.2.2.1.getD r5.1.toNat (0, (0, (0, (0, (0, [])))))) (r.2.1.getD 0 0, (r.2.1.getD 1 0, (r.2.1.getD 2 0, (r.2.1.getD 3 0, (r.2.1.getD 4 0, r3)))))).bind fun r7 =>
 bif !r7 then (
 some (6, c, s.2.1, s.2.2.1, s.2.2.2.1, s.2.2.2.2.1, s.2.2.2.2.2.1, s.2.2.2.2.2.2))
 else (
 gd (inB r5.1 s.2.2.2.2.2.1.length) <|
 some (0, c, s.2.1, s.2.2.1, s.2.2.2.1, s.2.2.2.2.1, s.2.2.2.2.2.1.set r5.1.toNat (r.2.1.getD 0 0, (r.2.1.getD 1 0, (r.2.1.getD 2 0, (r.2.1.getD 3 0, (r.2.1.getD 4 0, r3))))), s.2.2.2.2.2.2)))))

theorem le_centre_accept (v : List (List UInt8) × List yT0 × List (List UInt8 × Int × Int) × List (List UInt8 × Int × Int × Int × Int) × Int × Int) (r : Int × List Int × (Int × Int × Int × Int × Int × List (Int × Bool) × Int) × List UInt8 × Int × Int) (c : Int) (c2 : List (Int × Int × Bool × Bool)) (c3 : List Int) (c4 : List Int) (c5 : List Bool) (c6 : List (Int × Int × Int × Int × Int × List Int)) (c7 : List (List UInt8 × Int × Int × Int × Int)) : LeO (centre_accept_c v r c c2 c3 c4 c5 c6 c7) (centre_accept v r c c2 c3 c4 c5 c6 c7) := by
 unfold centre_accept_c centre_accept
 with_reducible repeat' (first | exact LeO.refl _ | exact LeL.refl _ | refine le_telegram_Valid _ | refine le_slices_Clone_int_d _ | refine le_centre_find _ _ | refine qB ?_ ?_ | refine qD ?_ (fun _ => ?_) | refine qG ?_ | refine qE (fun _ => ?_) (fun _ => ?_) | refine qI (fun _ => ?_) | refine qO ?_ ?_ | refine qL ?_ ?_ | refine qM (fun _ => ?_) | refine qN ?_ | refine qK (fun _ => ?_) (fun _ => ?_))

noncomputable def account_Valid_L0_c (l : List (List UInt8 × Int × Int × Int × Int)) (v : Int) : Option (Int ⊕ (Unit ⊕ Bool)) :=
 bif decide (v < (l.length : Int)) then (
 gd (inB v l.length) <|
 Option.bind (α := Bool) (
 (account_valid ((l.getD v.toNat ([], (0, (0, (0, 0))))).1, (((l.getD v.toNat ([], (0, (0, (0, 0))))).2).1, ((((l.getD v.toNat ([], (0, (0, (0, 0))))).2).2).1, (((((l.getD v.toNat ([], (0, (0, (0, 0))))).2).2).2).1, ((((l.getD v.toNat ([], (0, (0, (0, 0))))).2).2).2).2))))).bind fun r =>
 bif !r then (
 some true)
 else (
 (lines_Name_c ((l.getD v.toNat ([], (0, (0, (0, 0))))).1)).bind fun r2 =>
 bif !r2 then (
 some true)
 else (
 bif decide (0 < v) then (
 gd (inB (wi64 (v - 1)) l.length) <|
 some (Op.bytesLess ((l.getD v.toNat ([], (0, (0, (0, 0))))).1) ((l.getD (wi64 (v - 1)).toNat ([], (0, (0, (0, 0))))).1) || decide ((l.getD v.toNat ([], (0, (0, (0, 0))))).1 = (l.getD (wi64 (v - 1)).toNat ([], (0, (0, (0, 0))))).1)))
 else (
 some false)))) fun s =>
 bif s then (
 some (.inr (.inr false)))
 else (
 some (.inl (wi64 (v + 1)))))
 else (
 some (.inr (.inl ())))

theorem le_account_Valid_L0 (l : List (List UInt8 × Int × Int × Int × Int)) (v : Int) : LeO (account_Valid_L0_c l v) (account_Valid_L0 l v) := by
 unfold account_Valid_L0_c account_Valid_L0
 with_reducible repeat' (first | exact LeO.refl _ | exact LeL.refl _ | refine le_lines_Name _ | refine qB ?_ ?_ | refine qD ?_ (fun _ => ?_) | refine qG ?_ | refine qE (fun _ => ?_) (fun _ => ?_) | refine qI (fun _ => ?_) | refine qO ?_ ?_ | refine qL ?_ ?_ | refine qM (fun _ => ?_) | refine qN ?_ | refine qK (fun _ => ?_) (fun _ => ?_))

noncomputable def account_Valid_c (l : List (List UInt8 × Int × Int × Int × Int)) : Option (Bool) :=
 (iterN (fun x => account_Valid_L0_c l x) 100000 0).bind fun s2 =>
 s2.elim (fun s3 =>
 some (decide ((l.length : Int) ≤ 64)))
 (fun s4 =>
 some s4)

theorem le_account_Valid (l : List (List UInt8 × Int × Int × Int × Int)) : LeO (account_Valid_c l) (account_Valid l) := by
 unfold account_Valid_c account_Valid
 with_reducible repeat' (first | exact LeO.refl _ | exact LeL.refl _ | refine le_account_Valid_L0 _ _ | refine qB ?_ ?_ | refine qD ?_ (fun _ => ?_) | refine qG ?_ | refine qE (fun _ => ?_) (fun _ => ?_) | refine qI (fun _ => ?_) | refine qO ?_ ?_ | refine qL ?_ ?_ | refine qM (fun _ => ?_) | refine qN ?_ | refine qK (fun _ => ?_) (fun _ => ?_))

noncomputable def allocate_Entry_c (e : List UInt8 × Int × Int) : Option (Bool) :=
 Option.bind (α := Bool) (
 bif decide (e.2.1 = 1) then (
 some (decide (e.2.1 = 1)))
 else (
 Option.bind (α := Bool) (
 bif decide (e.2.1 = 2) then (
 some (decide (e.2.1 = 2)))
 else (
 some (decide (e.2.1 = 3)))) fun s =>
 some s)) fun s2 =>
 bif s2 then (
 (allocate_Volume e.2.2).bind fun r =>
 bif r then (
 (lines_Name_c e.1).bind fun r2 =>
 some r2)
 else (
 some false))
 else (
 bif decide (e.2.1 = 4) then (
 (allocate_Signed e.2.2).bind fun r3 =>
 bif r3 then (
 (lines_Name_c e.1).bind fun r4 =>
 some r4)
 else (
 some false))
 else (
 some false))

theorem le_allocate_Entry (e : List UInt8 × Int × Int) : LeO (allocate_Entry_c e) (allocate_Entry e) := by
 unfold allocate_Entry_c allocate_Entry
 with_reducible repeat' (first | exact LeO.refl _ | exact LeL.refl _ | refine le_lines_Name _ | refine qB ?_ ?_ | refine qD ?_ (fun _ => ?_) | refine qG ?_ | refine qE (fun _ => ?_) (fun _ => ?_) | refine qI (fun _ => ?_) | refine qO ?_ ?_ | refine qL ?_ ?_ | refine qM (fun _ => ?_) | refine qN ?_ | refine qK (fun _ => ?_) (fun _ => ?_))

noncomputable def slices_BinarySearchFunc_api_Account_api_Account_string_L0_c (x : List (List UInt8 × Int × Int × Int × Int)) (target : List UInt8) (cmp : (List UInt8 × Int × Int × Int × Int) × List UInt8 × Unit → Option Int) (i : Int) (j : Int) : Option ((Int × Int) ⊕ Int) :=
 bif decide (i < j) then (
 gd (inB (wi64 (Int.fdiv (wu64 (wi64 (i + j))) (2 ^ shAmt .u64 1))) x.length) <|
 (cmp (x.getD (wi64 (Int.fdiv (wu64 (wi64 (i + j))) (2 ^ shAmt .u64 1))).toNat ([], (0, (0, (0, 0)))), target, ())).bind fun r =>
 bif decide (r < 0) then (
 some (.inl (wi64 ((wi64 (Int.fdiv (wu64 (wi64 (i + j))) (2 ^ shAmt .u64 1))) + 1), j)))
 else (
 some (.inl (i, wi64 (Int.fdiv (wu64 (wi64 (i + j))) (2 ^ shAmt .u64 1))))))
 else (
 some (.inr i))

theorem le_slices_BinarySearchFunc_api_Account_api_Account_string_L0 (x : List (List UInt8 × Int × Int × Int × Int)) (target : List UInt8) (cmp cmp' : (List UInt8 × Int × Int × Int × Int) × List UInt8 × Unit → Option Int) (hcmp : ∀ q, LeO (cmp q) (cmp' q)) (i : Int) (j : Int) : LeO (slices_BinarySearchFunc_api_Account_api_Account_string_L0_c x target cmp i j) (slices_BinarySearchFunc_api_Account_api_Account_string_L0 x target cmp' i j) := by
 unfold slices_BinarySearchFunc_api_Account_api_Account_string_L0_c slices_BinarySearchFunc_api_Account_api_Account_string_L0
 with_reducible repeat' (first | exact LeO.refl _ | exact LeL.refl _ | exact hcmp _ | refine qB ?_ ?_ | refine qD ?_ (fun _ => ?_) | refine qG ?_ | refine qE (fun _ => ?_) (fun _ => ?_) | refine qI (fun _ => ?_) | refine qO ?_ ?_ | refine qL ?_ ?_ | refine qM (fun _ => ?_) | refine qN ?_ | refine qK (fun _ => ?_) (fun _ => ?_))

noncomputable def slices_BinarySearchFunc_api_Account_api_Account_string_c (x : List (List UInt8 × Int × Int × Int × Int)) (target : List UInt8) (cmp : (List UInt8 × Int × Int × Int × Int) × List UInt8 × Unit → Option Int) : Option (Int × Bool) :=
 (iterN (fun x2 => slices_BinarySearchFunc_api_Account_api_Account_string_L0_c x target cmp x2.1 x2.2) 100000 (0, (x.length : Int))).bind fun s =>
 bif decide (s < (x.length : Int)) then (
 gd (inB s x.length) <|
 (cmp (x.getD s.toNat ([], (0, (0, (0, 0)))), target, ())).bind fun r2 =>
 some (s, decide (r2 = 0)))
 else (
 some (s, false))

theorem le_slices_BinarySearchFunc_api_Account_api_Account_string (x : List (List UInt8 × Int × Int × Int × Int)) (target : List UInt8) (cmp cmp' : (List UInt8 × Int × Int × Int × Int) × List UInt8 × Unit → Option Int) (hcmp : ∀ q, LeO (cmp q) (cmp' q)) : LeO (slices_BinarySearchFunc_api_Account_api_Account_string_c x target cmp) (slices_BinarySearchFunc_api_Account_api_Account_string x target cmp') := by
 unfold slices_BinarySearchFunc_api_Account_api_Account_string_c slices_BinarySearchFunc_api_Account_api_Account_string
 with_reducible repeat' (first | exact LeO.refl _ | exact LeL.refl _ | exact hcmp _ | refine le_slices_BinarySearchFunc_api_Account_api_Account_string_L0 _ _ _ _ (fun _ => ?_) _ _ | refine qB ?_ ?_ | refine qD ?_ (fun _ => ?_) | refine qG ?_ | refine qE (fun _ => ?_) (fun _ => ?_) | refine qI (fun _ => ?_) | refine qO ?_ ?_ | refine qL ?_ ?_ | refine qM (fun _ => ?_) | refine qN ?_ | refine qK (fun _ => ?_) (fun _ => ?_))

noncomputable def account_find_c (l : List (List UInt8 × Int × Int × Int × Int)) (shipper : List UInt8) : Option (Int × Bool) :=
 (slices_BinarySearchFunc_api_Account_api_Account_string_c l shipper (fun h => (account_find_1 h.1 h.2.1).bind fun y => some y)).bind fun r =>
 some (r.1, r.2)

theorem le_account_find (l : List (List UInt8 × Int × Int × Int × Int)) (shipper : List UInt8) : LeO (account_find_c l shipper) (account_find l shipper) := by
 unfold account_find_c account_find
 with_reducible repeat' (first | exact LeO.refl _ | exact LeL.refl _ | refine le_slices_BinarySearchFunc_api_Account_api_Account_string _ _ _ _ (fun _ => ?_) | refine qB ?_ ?_ | refine qD ?_ (fun _ => ?_) | refine qG ?_ | refine qE (fun _ => ?_) (fun _ => ?_) | refine qI (fun _ => ?_) | refine qO ?_ ?_ | refine qL ?_ ?_ | refine qM (fun _ => ?_) | refine qN ?_ | refine qK (fun _ => ?_) (fun _ => ?_))

noncomputable def account_Post_c (l : List (List UInt8 × Int × Int × Int × Int)) (e : List UInt8 × Int × Int) : Option (Int × List (List UInt8 × Int × Int × Int × Int)) :=
 (slices_Clone_api_Account_api_Account_c l).bind fun r =>
 Option.bind (α := Bool × List (List UInt8 × Int × Int × Int × Int)) (
 (account_Valid_c l).bind fun r2 =>
 bif !r2 then (
 some (true, r))
 else (
 (allocate_Entry_c (e.1, (e.2.1, e.2.2))).bind fun r3 =>
 some ((!r3), r))) fun s =>
 bif s.1 then (
 some (27, s.2))
 else (
 (account_find_c l e.1).bind fun r4 =>
 Option.bind (α := List UInt8 × Int × Int × Int × Int × List (List UInt8 × Int × Int × Int × Int)) (
 bif r4.2 then (
 gd (inB r4.1 l.length) <|
 some ((l.getD r4.1.toNat ([], (0, (0, (0, 0))))).1, ((l.getD r4.1.toNat ([], (0, (0, (0, 0))))).2).1, (((l.getD r4.1.toNat ([], (0, (0, (0, 0))))).2).2).1, ((((l.getD r4.1.toNat ([], (0, (0, (0, 0))))).2).2).2).1, ((((l.getD r4.1.toNat ([], (0, (0, (0, 0))))).2).2).2).2, s.2))
 else (
 some (e.1, 0, 0, 0, 0, s.2))) fun s2 =>
 (account_posted (s2.1, (s2.2.1, (s2.2.2.1, (s2.2.2.2.1, s2.2.2.2.2.1)))) (e.1, (e.2.1, e.2.2))).bind fun r5 =>
 Option.bind (α := Bool × List (List UInt8 × Int × Int × Int × Int)) (
 (account_valid (r5.1, (r5.2.1, (r5.2.2.1, (r5.2.2.2.1, r5.2.2.2.2))))).bind fun r6 =>
 bif !r6 then (
 some (true, s2.2.2.2.2.2))
 else (
 bif !r4.2 then (
 some (decide ((l.length : Int) = 64), s2.2.2.2.2.2))
 else (
 some (false, s2.2.2.2.2.2)))) fun s3 =>
 bif s3.1 then (
 some (4, s3.2))
 else (
 bif r4.2 then (
 gd (inB r4.1 s3.2.length) <|
 some (0, s3.2.set r4.1.toNat (r5.1, (r5.2.1, (r5.2.2.1, (r5.2.2.2.1, r5.2.2.2.2))))))
 else (
 gd (decide (r4.1 = r4.1) && cutG none (some (.i64, r4.1)) s3.2.length) <|
 gd (fits ((s3.2.take r4.1.toNat).length + 1) 48) <|
 gd (cutG (some (.i64, r4.1)) none l.length) <|
 gd (fits (((s3.2.take r4.1.toNat) ++ [(r5.1, (r5.2.1, (r5.2.2.1, (r5.2.2.2.1, r5.2.2.2.2))))]).length + (l.drop r4.1.toNat).length) 48) <|
 some (0, ((s3.2.take r4.1.toNat) ++ [(r5.1, (r5.2.1, (r5.2.2.1, (r5.2.2.2.1, r5.2.2.2.2))))]) ++ (l.drop r4.1.toNat)))))

theorem le_account_Post (l : List (List UInt8 × Int × Int × Int × Int)) (e : List UInt8 × Int × Int) : LeO (account_Post_c l e) (account_Post l e) := by
 unfold account_Post_c account_Post
 with_reducible repeat' (first | exact LeO.refl _ | exact LeL.refl _ | refine le_slices_Clone_api_Account_api_Account _ | refine le_allocate_Entry _ | refine le_account_find _ _ | refine le_account_Valid _ | refine qB ?_ ?_ | refine qD ?_ (fun _ => ?_) | refine qG ?_ | refine qE (fun _ => ?_) (fun _ => ?_) | refine qI (fun _ => ?_) | refine qO ?_ ?_ | refine qL ?_ ?_ | refine qM (fun _ => ?_) | refine qN ?_ | refine qK (fun _ => ?_) (fun _ => ?_))

noncomputable def centre_post_c (v : List (List UInt8) × List yT0 × List (List UInt8 × Int × Int) × List (List UInt8 × Int × Int × Int × Int) × Int × Int) (r : Int × List Int × (Int × Int × Int × Int × Int × List (Int × Bool) × Int) × List UInt8 × Int × Int) (c : Int) (c2 : List (Int × Int × Bool × Bool)) (c3 : List Int) (c4 : List Int) (c5 : List Bool) (c6 : List (Int × Int × Int × Int × Int × List Int)) (c7 : List (List UInt8 × Int × Int × Int × Int)) : Option (Int × Int × (List (Int × Int × Bool × Bool)) × List Int × List Int × List Bool × (List (Int × Int × Int × Int × Int × List Int)) × List (List UInt8 × Int × Int × Int × Int)) :=
 Option.bind (α := Bool × (List (Int × Int × Bool × Bool)) × List Int × List Int × List Bool × (List (Int × Int × Int × Int × Int × List Int)) × List (List UInt8 × Int × Int × Int × Int)) (
 bif decide (0 < (r.2.1.length : Int)) then (
 some (true, c2, c3, c4, c5, c6, c7))
 else (
 (centre_noStep (r.2.2.1.1, (r.2.2.1.2.1, (r.2.2.1.2.2.1, (r.2.2.1.2.2.2.1, (r.2.2.1.2.2.2.2.1, (r.2.2.1.2.2.2.2.2.1, r.2.2.1.2.2.2.2.2.2))))))).bind fun r2 =>
 some ((!r2), c2, c3, c4, c5, c6, c7))) fun s =>
 bif s.1 then (
 some (28, c, s.2.1, s.2.2.1, s.2.2.2.1, s.2.2.2.2.1, s.2.2.2.2.2.1, s.2.2.2.2.2.2))
 else (
 (account_Post_c s.2.2.2.2.2.2 (r.2.2.2.1, (r.2.2.2.2.1, r.2.2.2.2.2))).bind fun r3 =>
 some (r3.1, c, s.2.1, s.2.2.1, s.2.2.2.1, s.2.2.2.2.1, s.2.2.2.2.2.1, r3.2))

theorem le_centre_post (v : List (List UInt8) × List yT0 × List (List UInt8 × Int × Int) × List (List UInt8 × Int × Int × Int × Int) × Int × Int) (r : Int × List Int × (Int × Int × Int × Int × Int × List (Int × Bool) × Int) × List UInt8 × Int × Int) (c : Int) (c2 : List (Int × Int × Bool × Bool)) (c3 : List Int) (c4 : List Int) (c5 : List Bool) (c6 : List (Int × Int × Int × Int × Int × List Int)) (c7 : List (List UInt8 × Int × Int × Int × Int)) : LeO (centre_post_c v r c c2 c3 c4 c5 c6 c7) (centre_post v r c c2 c3 c4 c5 c6 c7) := by
 unfold centre_post_c centre_post
 with_reducible repeat' (first | exact LeO.refl _ | exact LeL.refl _ | refine le_account_Post _ _ | refine qB ?_ ?_ | refine qD ?_ (fun _ => ?_) | refine qG ?_ | refine qE (fun _ => ?_) (fun _ => ?_) | refine qI (fun _ => ?_) | refine qO ?_ ?_ | refine qL ?_ ?_ | refine qM (fun _ => ?_) | refine qN ?_ | refine qK (fun _ => ?_) (fun _ => ?_))

noncomputable def centre_Apply_c (n : List (List UInt8) × List yT0 × List (List UInt8 × Int × Int) × List (List UInt8 × Int × Int × Int × Int) × Int × Int) (c : (List (Int × Int × Bool × Bool) × List Int × List Int × List Bool) × List (Int × Int × Int × Int × Int × List Int) × List (List UInt8 × Int × Int × Int × Int) × Int) (r : Int × List Int × (Int × Int × Int × Int × Int × List (Int × Bool) × Int) × List UInt8 × Int × Int) : Option (((List (Int × Int × Bool × Bool) × List Int × List Int × List Bool) × List (Int × Int × Int × Int × Int × List Int) × List (List UInt8 × Int × Int × Int × Int) × Int) × Int) :=
 bif decide (c.2.2.2 = 1000) then (
 (centre_Copy_c ((c.1.1, (c.1.2.1, (c.1.2.2.1, c.1.2.2.2))), (c.2.1, (c.2.2.1, c.2.2.2)))).bind fun r2 =>
 some (((r2.2.1, (r2.2.2.1, (r2.2.2.2.1, r2.2.2.2.2.1))), (r2.2.2.2.2.2.1, (r2.2.2.2.2.2.2, r2.1))), 4))
 else (
 bif !((mget keyI (mput keyI (mput keyI (mput keyI [] 1 1) 2 2) 3 3) r.1).isSome) then (
 (centre_Copy_c ((c.1.1, (c.1.2.1, (c.1.2.2.1, c.1.2.2.2))), (c.2.1, (c.2.2.1, c.2.2.2)))).bind fun r3 =>
 some (((r3.2.1, (r3.2.2.1, (r3.2.2.2.1, r3.2.2.2.2.1))), (r3.2.2.2.2.2.1, (r3.2.2.2.2.2.2, r3.1))), 28))
 else (
 (centre_Copy_c ((c.1.1, (c.1.2.1, (c.1.2.2.1, c.1.2.2.2))), (c.2.1, (c.2.2.1, c.2.2.2)))).bind fun r4 =>
 bif decide ((mget keyI (mput keyI (mput keyI (mput keyI [] 1 1) 2 2) 3 3) r.1).getD 0 = 1) then (
 (centre_accept_c (n.1, (n.2.1, (n.2.2.1, (n.2.2.2.1, (n.2.2.2.2.1, n.2.2.2.2.2))))) (r.1, (r.2.1, ((r.2.2.1.1, (r.2.2.1.2.1, (r.2.2.1.2.2.1, (r.2.2.1.2.2.2.1, (r.2.2.1.2.2.2.2.1, (r.2.2.1.2.2.2.2.2.1, r.2.2.1.2.2.2.2.2.2)))))), (r.2.2.2.1, (r.2.2.2.2.1, r.2.2.2.2.2))))) r4.1 r4.2.1 r4.2.2.1 r4.2.2.2.1 r4.2.2.2.2.1 r4.2.2.2.2.2.1 r4.2.2.2.2.2.2).bind fun r5 =>
 bif !decide (r5.1 = 0) then (
 (centre_Copy_c ((c.1.1, (c.1.2.1, (c.1.2.2.1, c.1.2.2.2))), (c.2.1, (c.2.2.1, c.2.2.2)))).bind fun r6 =>
 some (((r6.2.1, (r6.2.2.1, (r6.2.2.2.1, r6.2.2.2.2.1))), (r6.2.2.2.2.2.1, (r6.2.2.2.2.2.2, r6.1))), r5.1))
 else (
 some (((r5.2.2.1, (r5.2.2.2.1, (r5.2.2.2.2.1, r5.2.2.2.2.2.1))), (r5.2.2.2.2.2.2.1, (r5.2.2.2.2.2.2.2, wi64 (r5.2.1 + 1)))), 0)))
 else (
 bif decide ((mget keyI (mput keyI (mput keyI (mput keyI [] 1 1) 2 2) 3 3) r.1).getD 0 = 2) then (
 none)
 else (
 bif decide ((mget keyI (mput keyI (mput keyI (mput keyI [] 1 1) 2 2) 3 3) r.1).getD 0 = 3) then (
 (centre_post_c (n.1, (n.2.1, (n.2.2.1, (n.2.2.2.1, (n.2.2.2.2.1, n.2.2.2.2.2))))) (r.1, (r.2.1, ((r.2.2.1.1, (r.2.2.1.2.1, (r.2.2.1.2.2.1, (r.2.2.1.2.2.2.1, (r.2.2.1.2.2.2.2.1, (r.2.2.1.2.2.2.2.2.1, r.2.2.1.2.2.2.2.2.2)))))), (r.2.2.2.1, (r.2.2.2.2.1, r.2.2.2.2.2))))) r4.1 r4.2.1 r4.2.2.1 r4.2.2.2.1 r4.2.2.2.2.1 r4.2.2.2.2.2.1 r4.2.2.2.2.2.2).bind fun r7 =>
 bif !decide (r7.1 = 0) then (
 (centre_Copy_c ((c.1.1, (c.1.2.1, (c.1.2.2.1, c.1.2.2.2))), (c.2.1, (c.2.2.1, c.2.2.2)))).bind fun r8 =>
 some (((r8.2.1, (r8.2.2.1, (r8.2.2.2.1, r8.2.2.2.2.1))), (r8.2.2.2.2.2.1, (r8.2.2.2.2.2.2, r8.1))), r7.1))
 else (
 some (((r7.2.2.1, (r7.2.2.2.1, (r7.2.2.2.2.1, r7.2.2.2.2.2.1))), (r7.2.2.2.2.2.2.1, (r7.2.2.2.2.2.2.2, wi64 (r7.2.1 + 1)))), 0)))
 else (
 none)))))

theorem le_centre_Apply (n : List (List UInt8) × List yT0 × List (List UInt8 × Int × Int) × List (List UInt8 × Int × Int × Int × Int) × Int × Int) (c : (List (Int × Int × Bool × Bool) × List Int × List Int × List Bool) × List (Int × Int × Int × Int × Int × List Int) × List (List UInt8 × Int × Int × Int × Int) × Int) (r : Int × List Int × (Int × Int × Int × Int × Int × List (Int × Bool) × Int) × List UInt8 × Int × Int) : LeO (centre_Apply_c n c r) (centre_Apply n c r) := by
 unfold centre_Apply_c centre_Apply
 with_reducible repeat' (first | exact LeO.refl _ | exact LeL.refl _ | refine le_centre_Copy _ | refine le_centre_post _ _ _ _ _ _ _ _ _ | refine le_centre_accept _ _ _ _ _ _ _ _ _ | refine qB ?_ ?_ | refine qD ?_ (fun _ => ?_) | refine qG ?_ | refine qE (fun _ => ?_) (fun _ => ?_) | refine qI (fun _ => ?_) | refine qO ?_ ?_ | refine qL ?_ ?_ | refine qM (fun _ => ?_) | refine qN ?_ | refine qK (fun _ => ?_) (fun _ => ?_))

noncomputable def wire_PutInt_c (b : List Int) (n : Int) : Option (List Int) :=
 gd (fits (0 + b.length) 1) <|
 (iterN (fun x => wire_PutInt_L0 x.1 x.2) 100000 (bitXor .u64 (wu64 ((wu64 n) * 2 ^ shAmt .u64 1)) (wu64 (Int.fdiv n (2 ^ shAmt .i64 63))), ([] ++ b))).bind fun s =>
 gd (fits (s.2.length + 1) 1) <|
 some (s.2 ++ [wu8 s.1])

theorem le_wire_PutInt (b : List Int) (n : Int) : LeO (wire_PutInt_c b n) (wire_PutInt b n) := by
 unfold wire_PutInt_c wire_PutInt
 with_reducible repeat' (first | exact LeO.refl _ | exact LeL.refl _ | refine qB ?_ ?_ | refine qD ?_ (fun _ => ?_) | refine qG ?_ | refine qE (fun _ => ?_) (fun _ => ?_) | refine qI (fun _ => ?_) | refine qO ?_ ?_ | refine qL ?_ ?_ | refine qM (fun _ => ?_) | refine qN ?_ | refine qK (fun _ => ?_) (fun _ => ?_))

noncomputable def centre_Encode_1_L0_c (l : List Int) (v2 : Int) (v3 : List Int) : Option ((Int × List Int) ⊕ (List Int)) :=
 bif decide (v2 < (l.length : Int)) then (
 gd (inB v2 l.length) <|
 (wire_PutInt_c v3 (l.getD v2.toNat 0)).bind fun r =>
 some (.inl (wi64 (v2 + 1), r)))
 else (
 some (.inr v3))

theorem le_centre_Encode_1_L0 (l : List Int) (v2 : Int) (v3 : List Int) : LeO (centre_Encode_1_L0_c l v2 v3) (centre_Encode_1_L0 l v2 v3) := by
 unfold centre_Encode_1_L0_c centre_Encode_1_L0
 with_reducible repeat' (first | exact LeO.refl _ | exact LeL.refl _ | refine le_wire_PutInt _ _ | refine qB ?_ ?_ | refine qD ?_ (fun _ => ?_) | refine qG ?_ | refine qE (fun _ => ?_) (fun _ => ?_) | refine qI (fun _ => ?_) | refine qO ?_ ?_ | refine qL ?_ ?_ | refine qM (fun _ => ?_) | refine qN ?_ | refine qK (fun _ => ?_) (fun _ => ?_))

noncomputable def centre_Encode_1_c (l : List Int) (v : List Int) : Option (List Int) :=
 (iterN (fun x => centre_Encode_1_L0_c l x.1 x.2) 100000 (0, v)).bind fun s =>
 some s

theorem le_centre_Encode_1 (l : List Int) (v : List Int) : LeO (centre_Encode_1_c l v) (centre_Encode_1 l v) := by
 unfold centre_Encode_1_c centre_Encode_1
 with_reducible repeat' (first | exact LeO.refl _ | exact LeL.refl _ | refine le_centre_Encode_1_L0 _ _ _ | refine qB ?_ ?_ | refine qD ?_ (fun _ => ?_) | refine qG ?_ | refine qE (fun _ => ?_) (fun _ => ?_) | refine qI (fun _ => ?_) | refine qO ?_ ?_ | refine qL ?_ ?_ | refine qM (fun _ => ?_) | refine qN ?_ | refine qK (fun _ => ?_) (fun _ => ?_))

noncomputable def centre_Encode_L0_c (r : Int × List Int × (Int × Int × Int × Int × Int × List (Int × Bool) × Int) × List UInt8 × Int × Int) (v : Int) (out : List Int) : Option ((Int × List Int) ⊕ (List Int)) :=
 bif decide (v < (r.2.2.1.2.2.2.2.2.1.length : Int)) then (
 gd (inB v r.2.2.1.2.2.2.2.2.1.length) <|
 Option.bind (α := Int × List Int) (
 bif (r.2.2.1.2.2.2.2.2.1.getD v.toNat (0, false)).2 then (
 some (1, out))
 else (
 some (0, out))) fun s3 =>
 (centre_Encode_1_c [(r.2.2.1.2.2.2.2.2.1.getD v.toNat (0, false)).1, s3.1] s3.2).bind fun r5 =>
 some (.inl (wi64 (v + 1), r5)))
 else (
 some (.inr out))

theorem le_centre_Encode_L0 (r : Int × List Int × (Int × Int × Int × Int × Int × List (Int × Bool) × Int) × List UInt8 × Int × Int) (v : Int) (out : List Int) : LeO (centre_Encode_L0_c r v out) (centre_Encode_L0 r v out) := by
 unfold centre_Encode_L0_c centre_Encode_L0
 with_reducible repeat' (first | exact LeO.refl _ | exact LeL.refl _ | refine le_centre_Encode_1 _ _ | refine qB ?_ ?_ | refine qD ?_ (fun _ => ?_) | refine qG ?_ | refine qE (fun _ => ?_) (fun _ => ?_) | refine qI (fun _ => ?_) | refine qO ?_ ?_ | refine qL ?_ ?_ | refine qM (fun _ => ?_) | refine qN ?_ | refine qK (fun _ => ?_) (fun _ => ?_))

noncomputable def centre_Encode_c (r : Int × List Int × (Int × Int × Int × Int × Int × List (Int × Bool) × Int) × List UInt8 × Int × Int) : Option (Int × List Int) :=
 Option.bind (α := Bool) (
 bif decide (21 < (r.2.1.length : Int)) then (
 some true)
 else (
 bif decide (32 < (r.2.2.1.2.2.2.2.2.1.length : Int)) then (
 some true)
 else (
 some (decide (12 < (r.2.2.2.1.length : Int)))))) fun s =>
 bif s then (
 some (4, []))
 else (
 Option.bind (α := List Int) (
 some []) fun s2 =>
 (centre_Encode_1_c [r.1, (r.2.1.length : Int)] s2).bind fun r2 =>
 (centre_Encode_1_c r.2.1 r2).bind fun r3 =>
 (centre_Encode_1_c [r.2.2.1.1, r.2.2.1.2.1, r.2.2.1.2.2.1, r.2.2.1.2.2.2.1, r.2.2.1.2.2.2.2.1, (r.2.2.1.2.2.2.2.2.1.length : Int)] r3).bind fun r4 =>
 (iterN (fun x => centre_Encode_L0_c r x.1 x.2) 100000 (0, r4)).bind fun s4 =>
 (centre_Encode_1_c [r.2.2.1.2.2.2.2.2.2, r.2.2.2.2.1, r.2.2.2.2.2, (r.2.2.2.1.length : Int)] s4).bind fun r6 =>
 gd (Nat.blt 0 (r6.length + r.2.2.2.1.length) && fits (r6.length + r.2.2.2.1.length) 1) <|
 some (0, r6 ++ ofBytes r.2.2.2.1))

theorem le_centre_Encode (r : Int × List Int × (Int × Int × Int × Int × Int × List (Int × Bool) × Int) × List UInt8 × Int × Int) : LeO (centre_Encode_c r) (centre_Encode r) := by
 unfold centre_Encode_c centre_Encode
 with_reducible repeat' (first | exact LeO.refl _ | exact LeL.refl _ | refine le_centre_Encode_L0 _ _ _ | refine le_centre_Encode_1 _ _ | refine qB ?_ ?_ | refine qD ?_ (fun _ => ?_) | refine qG ?_ | refine qE (fun _ => ?_) (fun _ => ?_) | refine qI (fun _ => ?_) | refine qO ?_ ?_ | refine qL ?_ ?_ | refine qM (fun _ => ?_) | refine qN ?_ | refine qK (fun _ => ?_) (fun _ => ?_))

noncomputable def wire_PutInt_d_c (b : List Int) (n : Int) : Option (List Int) :=
 gd (fits (0 + b.length) 1) <|
 (iterN (fun x => wire_PutInt_d_L0 x.1 x.2) 100000 (bitXor .u64 (wu64 ((wu64 n) * 2 ^ shAmt .u64 1)) (wu64 (Int.fdiv n (2 ^ shAmt .i64 63))), ([] ++ b))).bind fun s =>
 gd (fits (s.2.length + 1) 1) <|
 some (s.2 ++ [wu8 s.1])

theorem le_wire_PutInt_d (b : List Int) (n : Int) : LeO (wire_PutInt_d_c b n) (wire_PutInt_d b n) := by
 unfold wire_PutInt_d_c wire_PutInt_d
 with_reducible repeat' (first | exact LeO.refl _ | exact LeL.refl _ | refine qB ?_ ?_ | refine qD ?_ (fun _ => ?_) | refine qG ?_ | refine qE (fun _ => ?_) (fun _ => ?_) | refine qI (fun _ => ?_) | refine qO ?_ ?_ | refine qL ?_ ?_ | refine qM (fun _ => ?_) | refine qN ?_ | refine qK (fun _ => ?_) (fun _ => ?_))

noncomputable def journal_joined_c (parts : List (List Int)) : Option (List Int) :=
 (iterN (fun x => journal_joined_L0 parts x.1 x.2) 100000 (0, [])).bind fun s =>
 some s

theorem le_journal_joined (parts : List (List Int)) : LeO (journal_joined_c parts) (journal_joined parts) := by
 unfold journal_joined_c journal_joined
 with_reducible repeat' (first | exact LeO.refl _ | exact LeL.refl _ | refine qB ?_ ?_ | refine qD ?_ (fun _ => ?_) | refine qG ?_ | refine qE (fun _ => ?_) (fun _ => ?_) | refine qI (fun _ => ?_) | refine qO ?_ ?_ | refine qL ?_ ?_ | refine qM (fun _ => ?_) | refine qN ?_ | refine qK (fun _ => ?_) (fun _ => ?_))

noncomputable def journal_Frame_c (b : List Int) : Option (Int × List Int) :=
 bif decide (4000 < (b.length : Int)) then (
 some (4, []))
 else (
 (wire_PutInt_d_c [] (b.length : Int)).bind fun r =>
 (journal_joined_c [r, b]).bind fun r2 =>
 some (0, r2))

theorem le_journal_Frame (b : List Int) : LeO (journal_Frame_c b) (journal_Frame b) := by
 unfold journal_Frame_c journal_Frame
 with_reducible repeat' (first | exact LeO.refl _ | exact LeL.refl _ | refine le_journal_joined _ | refine le_wire_PutInt_d _ _ | refine qB ?_ ?_ | refine qD ?_ (fun _ => ?_) | refine qG ?_ | refine qE (fun _ => ?_) (fun _ => ?_) | refine qI (fun _ => ?_) | refine qO ?_ ?_ | refine qL ?_ ?_ | refine qM (fun _ => ?_) | refine qN ?_ | refine qK (fun _ => ?_) (fun _ => ?_))

noncomputable def journal_copied_c (f : List Int × List Int) : Option (List Int × List Int) :=
 (journal_joined_c [f.1]).bind fun r =>
 (journal_joined_c [f.2]).bind fun r2 =>
 some (r, r2)

theorem le_journal_copied (f : List Int × List Int) : LeO (journal_copied_c f) (journal_copied f) := by
 unfold journal_copied_c journal_copied
 with_reducible repeat' (first | exact LeO.refl _ | exact LeL.refl _ | refine le_journal_joined _ | refine qB ?_ ?_ | refine qD ?_ (fun _ => ?_) | refine qG ?_ | refine qE (fun _ => ?_) (fun _ => ?_) | refine qI (fun _ => ?_) | refine qO ?_ ?_ | refine qL ?_ ?_ | refine qM (fun _ => ?_) | refine qN ?_ | refine qK (fun _ => ?_) (fun _ => ?_))

noncomputable def wire_Int_c (b : List Int) (vat : Int) : Option (Int × Int × Int) :=
 Option.bind (α := Bool) (
 bif decide (vat < 0) then (
 some true)
 else (
 some (decide ((b.length : Int) < vat)))) fun s =>
 bif s then (
 some (0, 0, 1))
 else (
 (iterN (fun x => wire_Int_L0 b vat x.1 x.2) 100000 (0, 0)).bind fun s3 =>
 s3.elim (fun s4 =>
 some (0, 0, 3))
 (fun s5 =>
 some (s5.1, s5.2.1, s5.2.2)))

theorem le_wire_Int (b : List Int) (vat : Int) : LeO (wire_Int_c b vat) (wire_Int b vat) := by
 unfold wire_Int_c wire_Int
 with_reducible repeat' (first | exact LeO.refl _ | exact LeL.refl _ | refine qB ?_ ?_ | refine qD ?_ (fun _ => ?_) | refine qG ?_ | refine qE (fun _ => ?_) (fun _ => ?_) | refine qI (fun _ => ?_) | refine qO ?_ ?_ | refine qL ?_ ?_ | refine qM (fun _ => ?_) | refine qN ?_ | refine qK (fun _ => ?_) (fun _ => ?_))

noncomputable def journal_Read_L0_c (b : List Int) (vat : Int) (out : List (List Int)) : Option ((Int × List (List Int)) ⊕ (Int × List (List Int))) :=
 bif decide (vat < (b.length : Int)) then (
 (wire_Int_c b vat).bind fun r =>
 Option.bind (α := Bool × List (List Int)) (
 bif !decide (r.2.2 = 0) then (
 some (true, out))
 else (
 bif decide (r.1 < 0) then (
 some (true, out))
 else (
 bif decide (4000 < r.1) then (
 some (true, out))
 else (
 some (decide (wi64 ((b.length : Int) - r.2.1) < r.1), out))))) fun s =>
 bif s.1 then (
 some (.inr (vat, s.2)))
 else (
 gd (inR r.2.1 (wi64 (r.2.1 + r.1)) b.length) <|
 (slices_Clone_byte_byte_c ((b.take (wi64 (r.2.1 + r.1)).toNat).drop r.2.1.toNat)).bind fun r2 =>
 gd (fits (s.2.length + 1) 24) <|
 some (.inl (wi64 (r.2.1 + r.1), s.2 ++ [r2]))))
 else (
 some (.inr (vat, out)))

theorem le_journal_Read_L0 (b : List Int) (vat : Int) (out : List (List Int)) : LeO (journal_Read_L0_c b vat out) (journal_Read_L0 b vat out) := by
 unfold journal_Read_L0_c journal_Read_L0
 with_reducible repeat' (first | exact LeO.refl _ | exact LeL.refl _ | refine le_wire_Int _ _ | refine le_slices_Clone_byte_byte _ | refine qB ?_ ?_ | refine qD ?_ (fun _ => ?_) | refine qG ?_ | refine qE (fun _ => ?_) (fun _ => ?_) | refine qI (fun _ => ?_) | refine qO ?_ ?_ | refine qL ?_ ?_ | refine qM (fun _ => ?_) | refine qN ?_ | refine qK (fun _ => ?_) (fun _ => ?_))

noncomputable def journal_Read_c (b : List Int) : Option (Int × List (List Int)) :=
 (iterN (fun x => journal_Read_L0_c b x.1 x.2) 100000 (0, [])).bind fun s2 =>
 some (s2.1, s2.2)

theorem le_journal_Read (b : List Int) : LeO (journal_Read_c b) (journal_Read b) := by
 unfold journal_Read_c journal_Read
 with_reducible repeat' (first | exact LeO.refl _ | exact LeL.refl _ | refine le_journal_Read_L0 _ _ _ | refine qB ?_ ?_ | refine qD ?_ (fun _ => ?_) | refine qG ?_ | refine qE (fun _ => ?_) (fun _ => ?_) | refine qI (fun _ => ?_) | refine qO ?_ ?_ | refine qL ?_ ?_ | refine qM (fun _ => ?_) | refine qN ?_ | refine qK (fun _ => ?_) (fun _ => ?_))

noncomputable def journal_Append_c (f : List Int × List Int) (b : List Int) : Option ((List Int × List Int) × Int) :=
 (journal_Frame_c b).bind fun r =>
 bif !decide (r.1 = 0) then (
 (journal_copied_c (f.1, f.2)).bind fun r2 =>
 some ((r2.1, r2.2), r.1))
 else (
 (journal_Read_c f.1).bind fun r3 =>
 bif !decide (r3.1 = (f.1.length : Int)) then (
 (journal_copied_c (f.1, f.2)).bind fun r4 =>
 some ((r4.1, r4.2), 21))
 else (
 bif decide (65536 < wi64 ((wi64 ((f.1.length : Int) + (f.2.length : Int))) + (r.2.length : Int))) then (
 (journal_copied_c (f.1, f.2)).bind fun r5 =>
 some ((r5.1, r5.2), 29))
 else (
 (journal_joined_c [f.1]).bind fun r6 =>
 (journal_joined_c [f.2, r.2]).bind fun r7 =>
 some ((r6, r7), 0))))

theorem le_journal_Append (f : List Int × List Int) (b : List Int) : LeO (journal_Append_c f b) (journal_Append f b) := by
 unfold journal_Append_c journal_Append
 with_reducible repeat' (first | exact LeO.refl _ | exact LeL.refl _ | refine le_journal_joined _ | refine le_journal_Read _ | refine le_journal_copied _ | refine le_journal_Frame _ | refine qB ?_ ?_ | refine qD ?_ (fun _ => ?_) | refine qG ?_ | refine qE (fun _ => ?_) (fun _ => ?_) | refine qI (fun _ => ?_) | refine qO ?_ ?_ | refine qL ?_ ?_ | refine qM (fun _ => ?_) | refine qN ?_ | refine qK (fun _ => ?_) (fun _ => ?_))

noncomputable def journal_Crash_c (f : List Int × List Int) (keep : Int) : Option (List Int × List Int) :=
 gd (cutG none (some (.i64, min (max 0 keep) (f.2.length : Int))) f.2.length) <|
 (journal_joined_c [f.1, f.2.take (min (max 0 keep) (f.2.length : Int)).toNat]).bind fun r =>
 some (r, [])

theorem le_journal_Crash (f : List Int × List Int) (keep : Int) : LeO (journal_Crash_c f keep) (journal_Crash f keep) := by
 unfold journal_Crash_c journal_Crash
 with_reducible repeat' (first | exact LeO.refl _ | exact LeL.refl _ | refine le_journal_joined _ | refine qB ?_ ?_ | refine qD ?_ (fun _ => ?_) | refine qG ?_ | refine qE (fun _ => ?_) (fun _ => ?_) | refine qI (fun _ => ?_) | refine qO ?_ ?_ | refine qL ?_ ?_ | refine qM (fun _ => ?_) | refine qN ?_ | refine qK (fun _ => ?_) (fun _ => ?_))

noncomputable def journal_Sync_c (f : List Int × List Int) : Option (List Int × List Int) :=
 (journal_Crash_c (f.1, f.2) (f.2.length : Int)).bind fun r =>
 some (r.1, r.2)

theorem le_journal_Sync (f : List Int × List Int) : LeO (journal_Sync_c f) (journal_Sync f) := by
 unfold journal_Sync_c journal_Sync
 with_reducible repeat' (first | exact LeO.refl _ | exact LeL.refl _ | refine le_journal_Crash _ _ | refine qB ?_ ?_ | refine qD ?_ (fun _ => ?_) | refine qG ?_ | refine qE (fun _ => ?_) (fun _ => ?_) | refine qI (fun _ => ?_) | refine qO ?_ ?_ | refine qL ?_ ?_ | refine qM (fun _ => ?_) | refine qN ?_ | refine qK (fun _ => ?_) (fun _ => ?_))

noncomputable def centre_Write_c (n : List (List UInt8) × List yT0 × List (List UInt8 × Int × Int) × List (List UInt8 × Int × Int × Int × Int) × Int × Int) (f : List Int × List Int) (c : (List (Int × Int × Bool × Bool) × List Int × List Int × List Bool) × List (Int × Int × Int × Int × Int × List Int) × List (List UInt8 × Int × Int × Int × Int) × Int) (r : Int × List Int × (Int × Int × Int × Int × Int × List (Int × Bool) × Int) × List UInt8 × Int × Int) : Option ((List Int × List Int) × ((List (Int × Int × Bool × Bool) × List Int × List Int × List Bool) × List (Int × Int × Int × Int × Int × List Int) × List (List UInt8 × Int × Int × Int × Int) × Int) × Int) :=
 (slices_Clone_byte_byte_c f.1).bind fun r2 =>
 (slices_Clone_byte_byte_c f.2).bind fun r3 =>
 (centre_Apply_c (n.1, (n.2.1, (n.2.2.1, (n.2.2.2.1, (n.2.2.2.2.1, n.2.2.2.2.2))))) ((c.1.1, (c.1.2.1, (c.1.2.2.1, c.1.2.2.2))), (c.2.1, (c.2.2.1, c.2.2.2))) (r.1, (r.2.1, ((r.2.2.1.1, (r.2.2.1.2.1, (r.2.2.1.2.2.1, (r.2.2.1.2.2.2.1, (r.2.2.1.2.2.2.2.1, (r.2.2.1.2.2.2.2.2.1, r.2.2.1.2.2.2.2.2.2)))))), (r.2.2.2.1, (r.2.2.2.2.1, r.2.2.2.2.2)))))).bind fun r4 =>
 bif !decide (r4.2 = 0) then (
 (centre_Copy_c ((c.1.1, (c.1.2.1, (c.1.2.2.1, c.1.2.2.2))), (c.2.1, (c.2.2.1, c.2.2.2)))).bind fun r5 =>
 some ((r2, r3), ((r5.2.1, (r5.2.2.1, (r5.2.2.2.1, r5.2.2.2.2.1))), (r5.2.2.2.2.2.1, (r5.2.2.2.2.2.2, r5.1))), r4.2))
 else (
 (centre_Encode_c (r.1, (r.2.1, ((r.2.2.1.1, (r.2.2.1.2.1, (r.2.2.1.2.2.1, (r.2.2.1.2.2.2.1, (r.2.2.1.2.2.2.2.1, (r.2.2.1.2.2.2.2.2.1, r.2.2.1.2.2.2.2.2.2)))))), (r.2.2.2.1, (r.2.2.2.2.1, r.2.2.2.2.2)))))).bind fun r6 =>
 bif !decide (r6.1 = 0) then (
 (centre_Copy_c ((c.1.1, (c.1.2.1, (c.1.2.2.1, c.1.2.2.2))), (c.2.1, (c.2.2.1, c.2.2.2)))).bind fun r7 =>
 some ((r2, r3), ((r7.2.1, (r7.2.2.1, (r7.2.2.2.1, r7.2.2.2.2.1))), (r7.2.2.2.2.2.1, (r7.2.2.2.2.2.2, r7.1))), r6.1))
 else (
 (journal_Append_c (f.1, f.2) r6.2).bind fun r8 =>
 bif !decide (r8.2 = 0) then (
 (centre_Copy_c ((c.1.1, (c.1.2.1, (c.1.2.2.1, c.1.2.2.2))), (c.2.1, (c.2.2.1, c.2.2.2)))).bind fun r9 =>
 some ((r2, r3), ((r9.2.1, (r9.2.2.1, (r9.2.2.2.1, r9.2.2.2.2.1))), (r9.2.2.2.2.2.1, (r9.2.2.2.2.2.2, r9.1))), r8.2))
 else (
 (journal_Sync_c (r8.1.1, r8.1.2)).bind fun r10 =>
 some ((r10.1, r10.2), ((r4.1.1.1, (r4.1.1.2.1, (r4.1.1.2.2.1, r4.1.1.2.2.2))), (r4.1.2.1, (r4.1.2.2.1, r4.1.2.2.2))), 0))))

theorem le_centre_Write (n : List (List UInt8) × List yT0 × List (List UInt8 × Int × Int) × List (List UInt8 × Int × Int × Int × Int) × Int × Int) (f : List Int × List Int) (c : (List (Int × Int × Bool × Bool) × List Int × List Int × List Bool) × List (Int × Int × Int × Int × Int × List Int) × List (List UInt8 × Int × Int × Int × Int) × Int) (r : Int × List Int × (Int × Int × Int × Int × Int × List (Int × Bool) × Int) × List UInt8 × Int × Int) : LeO (centre_Write_c n f c r) (centre_Write n f c r) := by
 unfold centre_Write_c centre_Write
 with_reducible repeat' (first | exact LeO.refl _ | exact LeL.refl _ | refine le_centre_Apply _ _ _ | refine le_journal_Append _ _ | refine le_centre_Copy _ | refine le_centre_Encode _ | refine le_journal_Sync _ | refine le_slices_Clone_byte_byte _ | refine qB ?_ ?_ | refine qD ?_ (fun _ => ?_) | refine qG ?_ | refine qE (fun _ => ?_) (fun _ => ?_) | refine qI (fun _ => ?_) | refine qO ?_ ?_ | refine qL ?_ ?_ | refine qM (fun _ => ?_) | refine qN ?_ | refine qK (fun _ => ?_) (fun _ => ?_))

noncomputable def journal_Recover_c (f : List Int × List Int) : Option ((List Int × List Int) × List (List Int)) :=
 (journal_Read_c f.1).bind fun r =>
 gd (cutG none (some (.i64, r.1)) f.1.length) <|
 (journal_joined_c [f.1.take r.1.toNat]).bind fun r2 =>
 some ((r2, []), r.2)

theorem le_journal_Recover (f : List Int × List Int) : LeO (journal_Recover_c f) (journal_Recover f) := by
 unfold journal_Recover_c journal_Recover
 with_reducible repeat' (first | exact LeO.refl _ | exact LeL.refl _ | refine le_journal_joined _ | refine le_journal_Read _ | refine qB ?_ ?_ | refine qD ?_ (fun _ => ?_) | refine qG ?_ | refine qE (fun _ => ?_) (fun _ => ?_) | refine qI (fun _ => ?_) | refine qO ?_ ?_ | refine qL ?_ ?_ | refine qM (fun _ => ?_) | refine qN ?_ | refine qK (fun _ => ?_) (fun _ => ?_))

noncomputable def centre_reader_number_c (r : List Int) (r2 : Int) (r3 : Bool) : Option (Int × List Int × Int × Bool) :=
 (wire_Int_c r r2).bind fun r4 =>
 Option.bind (α := Bool) (
 bif r3 then (
 some true)
 else (
 some (!decide (r4.2.2 = 0)))) fun s =>
 bif s then (
 some (0, r, r2, true))
 else (
 some (r4.1, r, r4.2.1, r3))

theorem le_centre_reader_number (r : List Int) (r2 : Int) (r3 : Bool) : LeO (centre_reader_number_c r r2 r3) (centre_reader_number r r2 r3) := by
 unfold centre_reader_number_c centre_reader_number
 with_reducible repeat' (first | exact LeO.refl _ | exact LeL.refl _ | refine le_wire_Int _ _ | refine qB ?_ ?_ | refine qD ?_ (fun _ => ?_) | refine qG ?_ | refine qE (fun _ => ?_) (fun _ => ?_) | refine qI (fun _ => ?_) | refine qO ?_ ?_ | refine qL ?_ ?_ | refine qM (fun _ => ?_) | refine qN ?_ | refine qK (fun _ => ?_) (fun _ => ?_))

noncomputable def centre_reader_count_c (most : Int) (r : List Int) (r2 : Int) (r3 : Bool) : Option (Int × List Int × Int × Bool) :=
 (centre_reader_number_c r r2 r3).bind fun r4 =>
 Option.bind (α := Bool) (
 bif decide (r4.1 < 0) then (
 some true)
 else (
 some (decide (most < r4.1)))) fun s =>
 bif s then (
 some (0, r4.2.1, r4.2.2.1, true))
 else (
 some (r4.1, r4.2.1, r4.2.2.1, r4.2.2.2))

theorem le_centre_reader_count (most : Int) (r : List Int) (r2 : Int) (r3 : Bool) : LeO (centre_reader_count_c most r r2 r3) (centre_reader_count most r r2 r3) := by
 unfold centre_reader_count_c centre_reader_count
 with_reducible repeat' (first | exact LeO.refl _ | exact LeL.refl _ | refine le_centre_reader_number _ _ _ | refine qB ?_ ?_ | refine qD ?_ (fun _ => ?_) | refine qG ?_ | refine qE (fun _ => ?_) (fun _ => ?_) | refine qI (fun _ => ?_) | refine qO ?_ ?_ | refine qL ?_ ?_ | refine qM (fun _ => ?_) | refine qN ?_ | refine qK (fun _ => ?_) (fun _ => ?_))

noncomputable def centre_Decode_L0_c (r2 : Int × List Int × Int × Bool) (v : Int) (r3 : List Int) (r4 : Int) (r5 : Bool) (out : List Int) : Option ((Int × List Int × Int × Bool × List Int) ⊕ (List Int × Int × Bool × List Int)) :=
 bif decide (v < r2.1) then (
 (centre_reader_number_c r3 r4 r5).bind fun r6 =>
 gd (fits (out.length + 1) 8) <|
 some (.inl (wi64 (v + 1), r6.2.1, r6.2.2.1, r6.2.2.2, out ++ [r6.1])))
 else (
 some (.inr (r3, r4, r5, out)))

theorem le_centre_Decode_L0 (r2 : Int × List Int × Int × Bool) (v : Int) (r3 : List Int) (r4 : Int) (r5 : Bool) (out : List Int) : LeO (centre_Decode_L0_c r2 v r3 r4 r5 out) (centre_Decode_L0 r2 v r3 r4 r5 out) := by
 unfold centre_Decode_L0_c centre_Decode_L0
 with_reducible repeat' (first | exact LeO.refl _ | exact LeL.refl _ | refine le_centre_reader_number _ _ _ | refine qB ?_ ?_ | refine qD ?_ (fun _ => ?_) | refine qG ?_ | refine qE (fun _ => ?_) (fun _ => ?_) | refine qI (fun _ => ?_) | refine qO ?_ ?_ | refine qL ?_ ?_ | refine qM (fun _ => ?_) | refine qN ?_ | refine qK (fun _ => ?_) (fun _ => ?_))

noncomputable def centre_Decode_L1_c (r12 : Int × List Int × Int × Bool) (v2 : Int) (r13 : List Int) (r14 : Int) (r15 : Bool) (p : List Int) (p2 : List (Int × Bool)) : Option ((Int × List Int × Int × Bool × List Int × List (Int × Bool)) ⊕ (List Int × Int × Bool × List Int × List (Int × Bool))) :=
 bif decide (v2 < r12.1) then (
 (centre_reader_number_c r13 r14 r15).bind fun r16 =>
 (centre_reader_count_c 1 r16.2.1 r16.2.2.1 r16.2.2.2).bind fun r17 =>
 gd (fits (p2.length + 1) 16) <|
 some (.inl (wi64 (v2 + 1), r17.2.1, r17.2.2.1, r17.2.2.2, p, p2 ++ [(r16.1, decide (r17.1 = 1))])))
 else (
 some (.inr (r13, r14, r15, p, p2)))

theorem le_centre_Decode_L1 (r12 : Int × List Int × Int × Bool) (v2 : Int) (r13 : List Int) (r14 : Int) (r15 : Bool) (p : List Int) (p2 : List (Int × Bool)) : LeO (centre_Decode_L1_c r12 v2 r13 r14 r15 p p2) (centre_Decode_L1 r12 v2 r13 r14 r15 p p2) := by
 unfold centre_Decode_L1_c centre_Decode_L1
 with_reducible repeat' (first | exact LeO.refl _ | exact LeL.refl _ | refine le_centre_reader_number _ _ _ | refine le_centre_reader_count _ _ _ _ | refine qB ?_ ?_ | refine qD ?_ (fun _ => ?_) | refine qG ?_ | refine qE (fun _ => ?_) (fun _ => ?_) | refine qI (fun _ => ?_) | refine qO ?_ ?_ | refine qL ?_ ?_ | refine qM (fun _ => ?_) | refine qN ?_ | refine qK (fun _ => ?_) (fun _ => ?_))

noncomputable def centre_Decode_c (b : List Int) : Option ((Int × List Int × (Int × Int × Int × Int × Int × List (Int × Bool) × Int) × List UInt8 × Int × Int) × Int) :=
 (centre_reader_number_c b 0 false).bind fun r =>
 (centre_reader_count_c 21 r.2.1 r.2.2.1 r.2.2.2).bind fun r2 =>
 (iterN (fun x => centre_Decode_L0_c r2 x.1 x.2.1 x.2.2.1 x.2.2.2.1 x.2.2.2.2) 100000 (0, r2.2.1, r2.2.2.1, r2.2.2.2, [])).bind fun s =>
 (centre_reader_number_c s.1 s.2.1 s.2.2.1).bind fun r7 =>
 (centre_reader_number_c r7.2.1 r7.2.2.1 r7.2.2.2).bind fun r8 =>
 (centre_reader_number_c r8.2.1 r8.2.2.1 r8.2.2.2).bind fun r9 =>
 (centre_reader_number_c r9.2.1 r9.2.2.1 r9.2.2.2).bind fun r10 =>
 (centre_reader_number_c r10.2.1 r10.2.2.1 r10.2.2.2).bind fun r11 =>
 (centre_reader_count_c 32 r11.2.1 r11.2.2.1 r11.2.2.2).bind fun r12 =>
 (iterN (fun x2 => centre_Decode_L1_c r12 x2.1 x2.2.1 x2.2.2.1 x2.2.2.2.1 x2.2.2.2.2.1 x2.2.2.2.2.2) 100000 (0, r12.2.1, r12.2.2.1, r12.2.2.2, s.2.2.2, [])).bind fun s2 =>
 (centre_reader_number_c s2.1 s2.2.1 s2.2.2.1).bind fun r18 =>
 (centre_reader_number_c r18.2.1 r18.2.2.1 r18.2.2.2).bind fun r19 =>
 (centre_reader_number_c r19.2.1 r19.2.2.1 r19.2.2.2).bind fun r20 =>
 (centre_reader_count_c 12 r20.2.1 r20.2.2.1 r20.2.2.2).bind fun r21 =>
 Option.bind (α := Bool × List Int × List (Int × Bool)) (
 bif r21.2.2.2 then (
 some (true, s2.2.2.2.1, s2.2.2.2.2))
 else (
 some ((!decide (wi64 ((b.length : Int) - r21.2.2.1) = r21.1)), s2.2.2.2.1, s2.2.2.2.2))) fun s3 =>
 bif s3.1 then (
 some ((0, ([], ((0, (0, (0, (0, (0, ([], 0)))))), ([], (0, 0))))), 3))
 else (
 gd (cutG (some (.i64, r21.2.2.1)) none b.length) <|
 some ((r.1, (s3.2.1, ((r7.1, (r8.1, (r9.1, (r10.1, (r11.1, (s3.2.2, r18.1)))))), (toBytes (b.drop r21.2.2.1.toNat), (r19.1, r20.1))))), 0))

theorem le_centre_Decode (b : List Int) : LeO (centre_Decode_c b) (centre_Decode b) := by
 unfold centre_Decode_c centre_Decode
 with_reducible repeat' (first | exact LeO.refl _ | exact LeL.refl _ | refine le_centre_Decode_L0 _ _ _ _ _ _ | refine le_centre_reader_number _ _ _ | refine le_centre_Decode_L1 _ _ _ _ _ _ _ | refine le_centre_reader_count _ _ _ _ | refine qB ?_ ?_ | refine qD ?_ (fun _ => ?_) | refine qG ?_ | refine qE (fun _ => ?_) (fun _ => ?_) | refine qI (fun _ => ?_) | refine qO ?_ ?_ | refine qL ?_ ?_ | refine qM (fun _ => ?_) | refine qN ?_ | refine qK (fun _ => ?_) (fun _ => ?_))

noncomputable def centre_Restart_L0_c (n : List (List UInt8) × List yT0 × List (List UInt8 × Int × Int) × List (List UInt8 × Int × Int × Int × Int) × Int × Int) (r : List Int) (r2 : List Int) (r4 : (List Int × List Int) × List (List Int)) (v : Int) (v2 : List Int) (v3 : List Int) (v4 : List (Int × Int × Bool × Bool)) (v5 : List Int) (v6 : List Int) (v7 : List Bool) (v8 : List (Int × Int × Int × Int × Int × List Int)) (v9 : List (List UInt8 × Int × Int × Int × Int)) (v10 : Int) (c : List (Int × Int × Bool × Bool)) (c2 : List Int) (c3 : List Int) (c4 : List Bool) (c5 : List (Int × Int × Int × Int × Int × List Int)) (c6 : List (List UInt8 × Int × Int × Int × Int)) (c7 : Int) (v11 : List (List Int)) : Option ((Int × List Int × List Int × (List (Int × Int × Bool × Bool)) × List Int × List Int × List Bool × (List (Int × Int × Int × Int × Int × List Int)) × (List (List UInt8 × Int × Int × Int × Int)) × Int × (List (Int × Int × Bool × Bool)) × List Int × List Int × List Bool × (List (Int × Int × Int × Int × Int × List Int)) × (List (List UInt8 × Int × Int × Int × Int)) × Int × List (List Int)) ⊕ ((List Int × List Int × (List (Int × Int × Bool × Bool)) × List Int × List Int × List Bool × (List (Int × Int × Int × Int × Int × List Int)) × (List (List UInt8 × Int × Int × Int × Int)) × Int × (List (Int × Int × Bool × Bool)) × List Int × List Int × List Bool × (List (Int × Int × Int × Int × Int × List Int)) × (List (List UInt8 × Int × Int × Int × Int)) × Int) ⊕ (Int × List Int × List Int × (List (Int × Int × Bool × Bool)) × List Int × List Int × List Bool × (List (Int × Int × Int × Int × Int × List Int)) × (List (List UInt8 × Int × Int × Int × Int)) × Int))) :=
 bif decide (v < (r4.2.length : Int)) then (
 gd (inB v v11.length) <|
 (centre_Decode_c (v11.getD v.toNat [])).bind fun r5 =>
 bif !decide (r5.2 = 0) then (
 some (.inr (.inr (28, r, r2, [], [], [], [], [], [], 0))))
 else (
 (centre_Apply_c (n.1, (n.2.1, (n.2.2.1, (n.2.2.2.1, (n.2.2.2.2.1, n.2.2.2.2.2))))) ((c, (c2, (c3, c4))), (c5, (c6, c7))) (r5.1.1, (r5.1.2.1, ((r5.1.2.2.1.1, (r5.1.2.2.1.2.1, (r5.1.2.2.1.2.2.1, (r5.1.2.2.1.2.2.2.1, (r5.1.2.2.1.2.2.2.2.1, (r5.1.2.2.1.2.2.2.2.2.1, r5.1.2.2.1.2.2.2.2.2.2)))))), (r5.1.2.2.2.1, (r5.1.2.2.2.2.1, r5.1.2.2.2.2.2)))))).bind fun r6 =>
 bif !decide (r6.2 = 0) then (
 some (.inr (.inr (28, r, r2, [], [], [], [], [], [], 0))))
 else (
 some (.inl (wi64 (v + 1), v2, v3, v4, v5, v6, v7, v8, v9, v10, r6.1.1.1, r6.1.1.2.1, r6.1.1.2.2.1, r6.1.1.2.2.2, r6.1.2.1, r6.1.2.2.1, r6.1.2.2.2, v11)))))
 else (
 some (.inr (.inl (v2, v3, v4, v5, v6, v7, v8, v9, v10, c, c2, c3, c4, c5, c6, c7))))

theorem le_centre_Restart_L0 (n : List (List UInt8) × List yT0 × List (List UInt8 × Int × Int) × List (List UInt8 × Int × Int × Int × Int) × Int × Int) (r : List Int) (r2 : List Int) (r4 : (List Int × List Int) × List (List Int)) (v : Int) (v2 : List Int) (v3 : List Int) (v4 : List (Int × Int × Bool × Bool)) (v5 : List Int) (v6 : List Int) (v7 : List Bool) (v8 : List (Int × Int × Int × Int × Int × List Int)) (v9 : List (List UInt8 × Int × Int × Int × Int)) (v10 : Int) (c : List (Int × Int × Bool × Bool)) (c2 : List Int) (c3 : List Int) (c4 : List Bool) (c5 : List (Int × Int × Int × Int × Int × List Int)) (c6 : List (List UInt8 × Int × Int × Int × Int)) (c7 : Int) (v11 : List (List Int)) : LeO (centre_Restart_L0_c n r r2 r4 v v2 v3 v4 v5 v6 v7 v8 v9 v10 c c2 c3 c4 c5 c6 c7 v11) (centre_Restart_L0 n r r2 r4 v v2 v3 v4 v5 v6 v7 v8 v9 v10 c c2 c3 c4 c5 c6 c7 v11) := by
 unfold centre_Restart_L0_c centre_Restart_L0
 with_reducible repeat' (first | exact LeO.refl _ | exact LeL.refl _ | refine le_centre_Apply _ _ _ | refine le_centre_Decode _ | refine qB ?_ ?_ | refine qD ?_ (fun _ => ?_) | refine qG ?_ | refine qE (fun _ => ?_) (fun _ => ?_) | refine qI (fun _ => ?_) | refine qO ?_ ?_ | refine qL ?_ ?_ | refine qM (fun _ => ?_) | refine qN ?_ | refine qK (fun _ => ?_) (fun _ => ?_))

noncomputable def centre_Restart_c (n : List (List UInt8) × List yT0 × List (List UInt8 × Int × Int) × List (List UInt8 × Int × Int × Int × Int) × Int × Int) (travel : Int) (f : List Int × List Int) : Option ((List Int × List Int) × ((List (Int × Int × Bool × Bool) × List Int × List Int × List Bool) × List (Int × Int × Int × Int × Int × List Int) × List (List UInt8 × Int × Int × Int × Int) × Int) × Int) :=
 (slices_Clone_byte_byte_c f.1).bind fun r =>
 (slices_Clone_byte_byte_c f.2).bind fun r2 =>
 (centre_New_c (n.1, (n.2.1, (n.2.2.1, (n.2.2.2.1, (n.2.2.2.2.1, n.2.2.2.2.2))))) travel).bind fun r3 =>
 bif !decide (r3.2 = 0) then (
 some ((r, r2), (([], ([], ([], []))), ([], ([], 0))), r3.2))
 else (
 (journal_Recover_c (f.1, f.2)).bind fun r4 =>
 (iterN (fun x => centre_Restart_L0_c n r r2 r4 x.1 x.2.1 x.2.2.1 x.2.2.2.1 x.2.2.2.2.1 x.2.2.2.2.2.1 x.2.2.2.2.2.2.1 x.2.2.2.2.2.2.2.1 x.2.2.2.2.2.2.2.2.1 x.2.2.2.2.2.2.2.2.2.1 x.2.2.2.2.2.2.2.2.2.2.1 x.2.2.2.2.2.2.2.2.2.2.2.1 x.2.2.2.2.2.2.2.2.2.2.2.2.1 x.2.2.2.2.2.2.2.2.2.2.2.2.2.1 x.2.2.2.2.2.2.2.2.2.2.2.2.2.2.1 x.2.2.2.2.2.2.2.2.2.2.2.2.2.2.2.1 x.2.2.2.2.2.2.2.2.2.2.2.2.2.2.2.2.1 x.2.2.2.2.2.2.2.2.2.2.2.2.2.2.2.2.2) 100000 (0, [], [], [], [], [], [], [], [], 0, r3.1.1.1, r3.1.1.2.1, r3.1.1.2.2.1, r3.1.1.2.2.2, r3.1.2.1, r3.1.2.2.1, r3.1.2.2.2, r4.2)).bind fun s =>
 s.elim (fun s2 =>
 some ((r4.1.1, r4.1.2), ((s2.2.2.2.2.2.2.2.2.2.1, (s2.2.2.2.2.2.2.2.2.2.2.1, (s2.2.2.2.2.2.2.2.2.2.2.2.1, s2.2.2.2.2.2.2.2.2.2.2.2.2.1))), (s2.2.2.2.2.2.2.2.2.2.2.2.2.2.1, (s2.2.2.2.2.2.2.2.2.2.2.2.2.2.2.1, s2.2.2.2.2.2.2.2.2.2.2.2.2.2.2.2))), 0))
 (fun s3 =>
 some ((s3.2.1, s3.2.2.1), ((s3.2.2.2.1, (s3.2.2.2.2.1, (s3.2.2.2.2.2.1, s3.2.2.2.2.2.2.1))), (s3.2.2.2.2.2.2.2.1, (s3.2.2.2.2.2.2.2.2.1, s3.2.2.2.2.2.2.2.2.2))), s3.1)))

theorem le_centre_Restart (n : List (List UInt8) × List yT0 × List (List UInt8 × Int × Int) × List (List UInt8 × Int × Int × Int × Int) × Int × Int) (travel : Int) (f : List Int × List Int) : LeO (centre_Restart_c n travel f) (centre_Restart n travel f) := by
 unfold centre_Restart_c centre_Restart
 with_reducible repeat' (first | exact LeO.refl _ | exact LeL.refl _ | refine le_journal_Recover _ | refine le_centre_New _ _ | refine le_centre_Restart_L0 _ _ _ _ _ _ _ _ _ _ _ _ _ _ _ _ _ _ _ _ _ _ | refine le_slices_Clone_byte_byte _ | refine qB ?_ ?_ | refine qD ?_ (fun _ => ?_) | refine qG ?_ | refine qE (fun _ => ?_) (fun _ => ?_) | refine qI (fun _ => ?_) | refine qO ?_ ?_ | refine qL ?_ ?_ | refine qM (fun _ => ?_) | refine qN ?_ | refine qK (fun _ => ?_) (fun _ => ?_))

noncomputable def ref23_Same_c (a : List (Int × Int × Bool × Bool)) (b : List (Int × Int × Bool × Bool)) : Option (Bool) :=
 bif !decide ((a.length : Int) = (b.length : Int)) then (
 some false)
 else (
 (iterN (fun x => ref23_Same_L0 a b x) 100000 0).bind fun s =>
 s.elim (fun s2 =>
 some true)
 (fun s3 =>
 some s3))

theorem le_ref23_Same (a : List (Int × Int × Bool × Bool)) (b : List (Int × Int × Bool × Bool)) : LeO (ref23_Same_c a b) (ref23_Same a b) := by
 unfold ref23_Same_c ref23_Same
 with_reducible repeat' (first | exact LeO.refl _ | exact LeL.refl _ | refine qB ?_ ?_ | refine qD ?_ (fun _ => ?_) | refine qG ?_ | refine qE (fun _ => ?_) (fun _ => ?_) | refine qI (fun _ => ?_) | refine qO ?_ ?_ | refine qL ?_ ?_ | refine qM (fun _ => ?_) | refine qN ?_ | refine qK (fun _ => ?_) (fun _ => ?_))

noncomputable def ref23_SameInts_c (a : List Int) (b : List Int) : Option (Bool) :=
 bif !decide ((a.length : Int) = (b.length : Int)) then (
 some false)
 else (
 (iterN (fun x => ref23_SameInts_L0 a b x) 100000 0).bind fun s =>
 s.elim (fun s2 =>
 some true)
 (fun s3 =>
 some s3))

theorem le_ref23_SameInts (a : List Int) (b : List Int) : LeO (ref23_SameInts_c a b) (ref23_SameInts a b) := by
 unfold ref23_SameInts_c ref23_SameInts
 with_reducible repeat' (first | exact LeO.refl _ | exact LeL.refl _ | refine qB ?_ ?_ | refine qD ?_ (fun _ => ?_) | refine qG ?_ | refine qE (fun _ => ?_) (fun _ => ?_) | refine qI (fun _ => ?_) | refine qO ?_ ?_ | refine qL ?_ ?_ | refine qM (fun _ => ?_) | refine qN ?_ | refine qK (fun _ => ?_) (fun _ => ?_))

noncomputable def ref23_SameBools_c (a : List Bool) (b : List Bool) : Option (Bool) :=
 bif !decide ((a.length : Int) = (b.length : Int)) then (
 some false)
 else (
 (iterN (fun x => ref23_SameBools_L0 a b x) 100000 0).bind fun s =>
 s.elim (fun s2 =>
 some true)
 (fun s3 =>
 some s3))

theorem le_ref23_SameBools (a : List Bool) (b : List Bool) : LeO (ref23_SameBools_c a b) (ref23_SameBools a b) := by
 unfold ref23_SameBools_c ref23_SameBools
 with_reducible repeat' (first | exact LeO.refl _ | exact LeL.refl _ | refine qB ?_ ?_ | refine qD ?_ (fun _ => ?_) | refine qG ?_ | refine qE (fun _ => ?_) (fun _ => ?_) | refine qI (fun _ => ?_) | refine qO ?_ ?_ | refine qL ?_ ?_ | refine qM (fun _ => ?_) | refine qN ?_ | refine qK (fun _ => ?_) (fun _ => ?_))

noncomputable def ref25_SamePlan_c (a : List Int × List Int × List Bool) (b : List Int × List Int × List Bool) : Option (Bool) :=
 (ref23_SameInts_c a.1 b.1).bind fun r =>
 bif r then (
 (ref23_SameInts_c a.2.1 b.2.1).bind fun r2 =>
 bif r2 then (
 (ref23_SameBools_c a.2.2 b.2.2).bind fun r3 =>
 some r3)
 else (
 some false))
 else (
 some false)

theorem le_ref25_SamePlan (a : List Int × List Int × List Bool) (b : List Int × List Int × List Bool) : LeO (ref25_SamePlan_c a b) (ref25_SamePlan a b) := by
 unfold ref25_SamePlan_c ref25_SamePlan
 with_reducible repeat' (first | exact LeO.refl _ | exact LeL.refl _ | refine le_ref23_SameInts _ _ | refine le_ref23_SameBools _ _ | refine qB ?_ ?_ | refine qD ?_ (fun _ => ?_) | refine qG ?_ | refine qE (fun _ => ?_) (fun _ => ?_) | refine qI (fun _ => ?_) | refine qO ?_ ?_ | refine qL ?_ ?_ | refine qM (fun _ => ?_) | refine qN ?_ | refine qK (fun _ => ?_) (fun _ => ?_))

noncomputable def ref26_Same_c (a : List (Int × Int × Bool × Bool) × List Int × List Int × List Bool) (b : List (Int × Int × Bool × Bool) × List Int × List Int × List Bool) : Option (Bool) :=
 (ref23_Same_c a.1 b.1).bind fun r =>
 bif r then (
 (ref25_SamePlan_c (a.2.1, (a.2.2.1, a.2.2.2)) (b.2.1, (b.2.2.1, b.2.2.2))).bind fun r2 =>
 some r2)
 else (
 some false)

theorem le_ref26_Same (a : List (Int × Int × Bool × Bool) × List Int × List Int × List Bool) (b : List (Int × Int × Bool × Bool) × List Int × List Int × List Bool) : LeO (ref26_Same_c a b) (ref26_Same a b) := by
 unfold ref26_Same_c ref26_Same
 with_reducible repeat' (first | exact LeO.refl _ | exact LeL.refl _ | refine le_ref23_Same _ _ | refine le_ref25_SamePlan _ _ | refine qB ?_ ?_ | refine qD ?_ (fun _ => ?_) | refine qG ?_ | refine qE (fun _ => ?_) (fun _ => ?_) | refine qI (fun _ => ?_) | refine qO ?_ ?_ | refine qL ?_ ?_ | refine qM (fun _ => ?_) | refine qN ?_ | refine qK (fun _ => ?_) (fun _ => ?_))

noncomputable def ref39_Same_c (a : List (List UInt8 × Int × Int × Int × Int)) (b : List (List UInt8 × Int × Int × Int × Int)) : Option (Bool) :=
 bif !decide ((a.length : Int) = (b.length : Int)) then (
 some false)
 else (
 (iterN (fun x => ref39_Same_L0 a b x) 100000 0).bind fun s =>
 s.elim (fun s2 =>
 some true)
 (fun s3 =>
 some s3))

theorem le_ref39_Same (a : List (List UInt8 × Int × Int × Int × Int)) (b : List (List UInt8 × Int × Int × Int × Int)) : LeO (ref39_Same_c a b) (ref39_Same a b) := by
 unfold ref39_Same_c ref39_Same
 with_reducible repeat' (first | exact LeO.refl _ | exact LeL.refl _ | refine qB ?_ ?_ | refine qD ?_ (fun _ => ?_) | refine qG ?_ | refine qE (fun _ => ?_) (fun _ => ?_) | refine qI (fun _ => ?_) | refine qO ?_ ?_ | refine qL ?_ ?_ | refine qM (fun _ => ?_) | refine qN ?_ | refine qK (fun _ => ?_) (fun _ => ?_))

noncomputable def ref41_SameTelegram_c (a : Int × Int × Int × Int × Int × List Int) (b : Int × Int × Int × Int × Int × List Int) : Option (Bool) :=
 bif decide (a.1 = b.1) then (
 bif decide (a.2.1 = b.2.1) then (
 bif decide (a.2.2.1 = b.2.2.1) then (
 bif decide (a.2.2.2.1 = b.2.2.2.1) then (
 bif decide (a.2.2.2.2.1 = b.2.2.2.2.1) then (
 (ref23_SameInts_c a.2.2.2.2.2 b.2.2.2.2.2).bind fun r =>
 some r)
 else (
 some false))
 else (
 some false))
 else (
 some false))
 else (
 some false))
 else (
 some false)

theorem le_ref41_SameTelegram (a : Int × Int × Int × Int × Int × List Int) (b : Int × Int × Int × Int × Int × List Int) : LeO (ref41_SameTelegram_c a b) (ref41_SameTelegram a b) := by
 unfold ref41_SameTelegram_c ref41_SameTelegram
 with_reducible repeat' (first | exact LeO.refl _ | exact LeL.refl _ | refine le_ref23_SameInts _ _ | refine qB ?_ ?_ | refine qD ?_ (fun _ => ?_) | refine qG ?_ | refine qE (fun _ => ?_) (fun _ => ?_) | refine qI (fun _ => ?_) | refine qO ?_ ?_ | refine qL ?_ ?_ | refine qM (fun _ => ?_) | refine qN ?_ | refine qK (fun _ => ?_) (fun _ => ?_))

noncomputable def ref41_Same_L0_c (a : (List (Int × Int × Bool × Bool) × List Int × List Int × List Bool) × List (Int × Int × Int × Int × Int × List Int) × List (List UInt8 × Int × Int × Int × Int) × Int) (b : (List (Int × Int × Bool × Bool) × List Int × List Int × List Bool) × List (Int × Int × Int × Int × Int × List Int) × List (List UInt8 × Int × Int × Int × Int) × Int) (i : Int) : Option (Int ⊕ (Unit ⊕ Bool)) :=
 bif decide (i < (a.2.1.length : Int)) then (
 gd (inB i a.2.1.length) <|
 gd (inB i b.2.1.length) <|
 (ref41_SameTelegram_c (a.2.1.getD i.toNat (0, (0, (0, (0, (0, [])))))) (b.2.1.getD i.toNat (0, (0, (0, (0, (0, []))))))).bind fun r3 =>
 bif !r3 then (
 some (.inr (.inr false)))
 else (
 some (.inl (wi64 (i + 1)))))
 else (
 some (.inr (.inl ())))

theorem le_ref41_Same_L0 (a : (List (Int × Int × Bool × Bool) × List Int × List Int × List Bool) × List (Int × Int × Int × Int × Int × List Int) × List (List UInt8 × Int × Int × Int × Int) × Int) (b : (List (Int × Int × Bool × Bool) × List Int × List Int × List Bool) × List (Int × Int × Int × Int × Int × List Int) × List (List UInt8 × Int × Int × Int × Int) × Int) (i : Int) : LeO (ref41_Same_L0_c a b i) (ref41_Same_L0 a b i) := by
 unfold ref41_Same_L0_c ref41_Same_L0
 with_reducible repeat' (first | exact LeO.refl _ | exact LeL.refl _ | refine le_ref41_SameTelegram _ _ | refine qB ?_ ?_ | refine qD ?_ (fun _ => ?_) | refine qG ?_ | refine qE (fun _ => ?_) (fun _ => ?_) | refine qI (fun _ => ?_) | refine qO ?_ ?_ | refine qL ?_ ?_ | refine qM (fun _ => ?_) | refine qN ?_ | refine qK (fun _ => ?_) (fun _ => ?_))

noncomputable def ref41_Same_c (a : (List (Int × Int × Bool × Bool) × List Int × List Int × List Bool) × List (Int × Int × Int × Int × Int × List Int) × List (List UInt8 × Int × Int × Int × Int) × Int) (b : (List (Int × Int × Bool × Bool) × List Int × List Int × List Bool) × List (Int × Int × Int × Int × Int × List Int) × List (List UInt8 × Int × Int × Int × Int) × Int) : Option (Bool) :=
 Option.bind (α := Bool) (
 bif !decide (a.2.2.2 = b.2.2.2) then (
 some true)
 else (
 (ref26_Same_c (a.1.1, (a.1.2.1, (a.1.2.2.1, a.1.2.2.2))) (b.1.1, (b.1.2.1, (b.1.2.2.1, b.1.2.2.2)))).bind fun r =>
 bif !r then (
 some true)
 else (
 (ref39_Same_c a.2.2.1 b.2.2.1).bind fun r2 =>
 bif !r2 then (
 some true)
 else (
 some (!decide ((a.2.1.length : Int) = (b.2.1.length : Int))))))) fun s =>
 bif s then (
 some false)
 else (
 (iterN (fun x => ref41_Same_L0_c a b x) 100000 0).bind fun s2 =>
 s2.elim (fun s3 =>
 some true)
 (fun s4 =>
 some s4))

theorem le_ref41_Same (a : (List (Int × Int × Bool × Bool) × List Int × List Int × List Bool) × List (Int × Int × Int × Int × Int × List Int) × List (List UInt8 × Int × Int × Int × Int) × Int) (b : (List (Int × Int × Bool × Bool) × List Int × List Int × List Bool) × List (Int × Int × Int × Int × Int × List Int) × List (List UInt8 × Int × Int × Int × Int) × Int) : LeO (ref41_Same_c a b) (ref41_Same a b) := by
 unfold ref41_Same_c ref41_Same
 with_reducible repeat' (first | exact LeO.refl _ | exact LeL.refl _ | refine le_ref39_Same _ _ | refine le_ref26_Same _ _ | refine le_ref41_Same_L0 _ _ _ | refine qB ?_ ?_ | refine qD ?_ (fun _ => ?_) | refine qG ?_ | refine qE (fun _ => ?_) (fun _ => ?_) | refine qI (fun _ => ?_) | refine qO ?_ ?_ | refine qL ?_ ?_ | refine qM (fun _ => ?_) | refine qN ?_ | refine qK (fun _ => ?_) (fun _ => ?_))

noncomputable def law41_awake_c : Option (Bool) :=
 (centre_New_c (([[97], [98]] : List (List UInt8)), ([([103], (0, (1, (10, (0, (0, [(0, (0, 1000)), (10, (0, 1000))]))))))], ([([112], (0, 0)), ([113], (1, 0))], ([], (0, 0))))) 2).bind fun r =>
 (centre_Write_c (([[97], [98]] : List (List UInt8)), ([([103], (0, (1, (10, (0, (0, [(0, (0, 1000)), (10, (0, 1000))]))))))], ([([112], (0, 0)), ([113], (1, 0))], ([], (0, 0))))) ([], []) ((r.1.1.1, (r.1.1.2.1, (r.1.1.2.2.1, r.1.1.2.2.2))), (r.1.2.1, (r.1.2.2.1, r.1.2.2.2))) (3, ([], ((0, (0, (0, (0, (0, ([], 0)))))), ([97], (1, 5)))))).bind fun r2 =>
 (ref40_Crash (r2.1.1, r2.1.2) 0).bind fun r3 =>
 (centre_Restart_c (([[97], [98]] : List (List UInt8)), ([([103], (0, (1, (10, (0, (0, [(0, (0, 1000)), (10, (0, 1000))]))))))], ([([112], (0, 0)), ([113], (1, 0))], ([], (0, 0))))) 2 r3).bind fun r4 =>
 bif decide (r.2 = 0) then (
 bif decide (r2.2.2 = 0) then (
 bif decide (r4.2.2 = 0) then (
 bif decide (r2.2.1.2.2.2 = 1) then (
 bif decide ((r4.2.1.2.2.1.length : Int) = 1) then (
 gd (inB 0 r4.2.1.2.2.1.length) <|
 bif decide (((r4.2.1.2.2.1.getD 0 ([], (0, (0, (0, 0))))).2).1 = 5) then (
 (ref41_Same_c ((r2.2.1.1.1, (r2.2.1.1.2.1, (r2.2.1.1.2.2.1, r2.2.1.1.2.2.2))), (r2.2.1.2.1, (r2.2.1.2.2.1, r2.2.1.2.2.2))) ((r4.2.1.1.1, (r4.2.1.1.2.1, (r4.2.1.1.2.2.1, r4.2.1.1.2.2.2))), (r4.2.1.2.1, (r4.2.1.2.2.1, r4.2.1.2.2.2)))).bind fun r5 =>
 some r5)
 else (
 some false))
 else (
 some false))
 else (
 some false))
 else (
 some false))
 else (
 some false))
 else (
 some false)

theorem le_law41_awake  : LeO (law41_awake_c) (law41_awake) := by
 unfold law41_awake_c law41_awake
 with_reducible repeat' (first | exact LeO.refl _ | exact LeL.refl _ | refine le_centre_Restart _ _ _ | refine le_centre_New _ _ | refine le_centre_Write _ _ _ _ | refine le_ref41_Same _ _ | refine qB ?_ ?_ | refine qD ?_ (fun _ => ?_) | refine qG ?_ | refine qE (fun _ => ?_) (fun _ => ?_) | refine qI (fun _ => ?_) | refine qO ?_ ?_ | refine qL ?_ ?_ | refine qM (fun _ => ?_) | refine qN ?_ | refine qK (fun _ => ?_) (fun _ => ?_))

end Go.Proofs.YtnkfkceghbkkkaaGreat
