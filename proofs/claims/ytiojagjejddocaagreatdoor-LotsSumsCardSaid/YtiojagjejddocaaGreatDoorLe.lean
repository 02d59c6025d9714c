/- Twins that compute. No condition. -/
import Derived.Test.YtiojagjejddocaaGreatDoorQv
namespace Go.Proofs.YtiojagjejddocaaGreatDoor
open Go Go.Sq
set_option linter.unusedVariables false
set_option maxHeartbeats 4000000
set_option synthInstance.maxHeartbeats 400000
set_option synthInstance.maxSize 1000
set_option maxRecDepth 100000
abbrev qB := @LeO.bif
abbrev qD := @LeO.bind
abbrev qG := @LeO.gd
abbrev qE := @LeO.elim
abbrev qI := @LeO.iter
abbrev qO := @LeO.both
abbrev qL := @LeL.bif
abbrev qM := @LeL.map
abbrev qN := @LeL.one
abbrev qK := @LeO.iterK

instance decSum {α β : Type} [DecidableEq α] [DecidableEq β] : DecidableEq (α ⊕ β)
  | .inl a, .inl b => decidable_of_iff (a = b) ⟨fun h => by rw [h], fun h => by injection h⟩
  | .inr a, .inr b => decidable_of_iff (a = b) ⟨fun h => by rw [h], fun h => by injection h⟩
  | .inl _, .inr _ => isFalse (fun h => by cases h)
  | .inr _, .inl _ => isFalse (fun h => by cases h)

noncomputable def slices_IndexFunc_api_Segment_api_Segment_L0_c (s : List yT1) (f : yT1 × Unit → Option Bool) (v : Int) : Option (Int ⊕ (Unit ⊕ Int)) :=
  bif decide (v < (s.length : Int)) then (
   gd (inB v s.length) <|
   (f (s.getD v.toNat ([], (0, (0, (0, (0, (0, [])))))), ())).bind fun r =>
   bif r then (
    some (.inr (.inr v)))
   else (
    some (.inl (wi64 (v + 1)))))
  else (
   some (.inr (.inl ())))

theorem le_slices_IndexFunc_api_Segment_api_Segment_L0 (s : List yT1) (f f' : yT1 × Unit → Option Bool) (hf : ∀ q, LeO (f q) (f' q)) (v : Int) : LeO (slices_IndexFunc_api_Segment_api_Segment_L0_c s f v) (slices_IndexFunc_api_Segment_api_Segment_L0 s f' v) := by
  unfold slices_IndexFunc_api_Segment_api_Segment_L0_c slices_IndexFunc_api_Segment_api_Segment_L0
  with_reducible repeat' (first | exact LeO.refl _ | exact LeL.refl _ | exact hf _ | refine qB ?_ ?_ | refine qD ?_ (fun _ => ?_) | refine qG ?_ | refine qE (fun _ => ?_) (fun _ => ?_) | refine qI (fun _ => ?_) | refine qO ?_ ?_ | refine qL ?_ ?_ | refine qM (fun _ => ?_) | refine qN ?_ | refine qK (fun _ => ?_) (fun _ => ?_))

noncomputable def slices_IndexFunc_api_Segment_api_Segment_c (s : List yT1) (f : yT1 × Unit → Option Bool) : Option (Int) :=
  (iterN (fun x => slices_IndexFunc_api_Segment_api_Segment_L0_c s f x) 100000 0).bind fun s2 =>
  s2.elim (fun s3 =>
   some (-1))
  (fun s4 =>
   some s4)

theorem le_slices_IndexFunc_api_Segment_api_Segment (s : List yT1) (f f' : yT1 × Unit → Option Bool) (hf : ∀ q, LeO (f q) (f' q)) : LeO (slices_IndexFunc_api_Segment_api_Segment_c s f) (slices_IndexFunc_api_Segment_api_Segment s f') := by
  unfold slices_IndexFunc_api_Segment_api_Segment_c slices_IndexFunc_api_Segment_api_Segment
  with_reducible repeat' (first | exact LeO.refl _ | exact LeL.refl _ | exact hf _ | refine le_slices_IndexFunc_api_Segment_api_Segment_L0 _ _ _ (fun _ => ?_) _ | refine qB ?_ ?_ | refine qD ?_ (fun _ => ?_) | refine qG ?_ | refine qE (fun _ => ?_) (fun _ => ?_) | refine qI (fun _ => ?_) | refine qO ?_ ?_ | refine qL ?_ ?_ | refine qM (fun _ => ?_) | refine qN ?_ | refine qK (fun _ => ?_) (fun _ => ?_))

noncomputable def slices_ContainsFunc_api_Segment_api_Segment_c (s : List yT1) (f : yT1 × Unit → Option Bool) : Option (Bool) :=
  (slices_IndexFunc_api_Segment_api_Segment_c s f).bind fun r =>
  some (decide (0 ≤ r))

theorem le_slices_ContainsFunc_api_Segment_api_Segment (s : List yT1) (f f' : yT1 × Unit → Option Bool) (hf : ∀ q, LeO (f q) (f' q)) : LeO (slices_ContainsFunc_api_Segment_api_Segment_c s f) (slices_ContainsFunc_api_Segment_api_Segment s f') := by
  unfold slices_ContainsFunc_api_Segment_api_Segment_c slices_ContainsFunc_api_Segment_api_Segment
  with_reducible repeat' (first | exact LeO.refl _ | exact LeL.refl _ | exact hf _ | refine le_slices_IndexFunc_api_Segment_api_Segment _ _ _ (fun _ => ?_) | refine qB ?_ ?_ | refine qD ?_ (fun _ => ?_) | refine qG ?_ | refine qE (fun _ => ?_) (fun _ => ?_) | refine qI (fun _ => ?_) | refine qO ?_ ?_ | refine qL ?_ ?_ | refine qM (fun _ => ?_) | refine qN ?_ | refine qK (fun _ => ?_) (fun _ => ?_))

noncomputable def network_limits_c (n : List (List UInt8) × List yT1 × List (List UInt8 × Int × Int) × List (List UInt8 × Int × Int × Int × Int) × Int × Int) : Option (Bool) :=
  Option.bind (α := Bool) (
    bif decide ((n.1.length : Int) < 1) then (
     some true)
    else (
     bif decide (24 < (n.1.length : Int)) then (
      some true)
     else (
      bif decide (32 < (n.2.1.length : Int)) then (
       some true)
      else (
       bif decide (24 < (n.2.2.1.length : Int)) then (
        some true)
       else (
        some (decide (12 < (n.2.2.2.1.length : Int)))))))) fun s =>
  bif s then (
   some false)
  else (
   (slices_ContainsFunc_api_Segment_api_Segment_c n.2.1 (fun h => (network_limits_1 h.1).bind fun y => some y)).bind fun r =>
   some (!r))

theorem le_network_limits (n : List (List UInt8) × List yT1 × List (List UInt8 × Int × Int) × List (List UInt8 × Int × Int × Int × Int) × Int × Int) : LeO (network_limits_c n) (network_limits n) := by
  unfold network_limits_c network_limits
  with_reducible repeat' (first | exact LeO.refl _ | exact LeL.refl _ | refine le_slices_ContainsFunc_api_Segment_api_Segment _ _ _ (fun _ => ?_) | refine qB ?_ ?_ | refine qD ?_ (fun _ => ?_) | refine qG ?_ | refine qE (fun _ => ?_) (fun _ => ?_) | refine qI (fun _ => ?_) | refine qO ?_ ?_ | refine qL ?_ ?_ | refine qM (fun _ => ?_) | refine qN ?_ | refine qK (fun _ => ?_) (fun _ => ?_))

noncomputable def network_names_c (n : List (List UInt8) × List yT1 × List (List UInt8 × Int × Int) × List (List UInt8 × Int × Int × Int × Int) × Int × Int) : Option (List (List UInt8) × List (List UInt8) × List (List UInt8) × List (List UInt8)) :=
  (iterN (fun x => network_names_L0 n x.1 x.2) 100000 (0, [])).bind fun s =>
  (iterN (fun x2 => network_names_L1 n x2.1 x2.2.1 x2.2.2) 100000 (0, s, [])).bind fun s2 =>
  (iterN (fun x3 => network_names_L2 n x3.1 x3.2.1 x3.2.2.1 x3.2.2.2) 100000 (0, s2.1, s2.2, [])).bind fun s3 =>
  some (n.1, (s3.1, (s3.2.1, s3.2.2)))

theorem le_network_names (n : List (List UInt8) × List yT1 × List (List UInt8 × Int × Int) × List (List UInt8 × Int × Int × Int × Int) × Int × Int) : LeO (network_names_c n) (network_names n) := by
  unfold network_names_c network_names
  with_reducible repeat' (first | exact LeO.refl _ | exact LeL.refl _ | refine qB ?_ ?_ | refine qD ?_ (fun _ => ?_) | refine qG ?_ | refine qE (fun _ => ?_) (fun _ => ?_) | refine qI (fun _ => ?_) | refine qO ?_ ?_ | refine qL ?_ ?_ | refine qM (fun _ => ?_) | refine qN ?_ | refine qK (fun _ => ?_) (fun _ => ?_))

noncomputable def slices_IndexFunc_string_string_L0_c (s : List (List UInt8)) (f : List UInt8 × Unit → Option Bool) (v : Int) : Option (Int ⊕ (Unit ⊕ Int)) :=
  bif decide (v < (s.length : Int)) then (
   gd (inB v s.length) <|
   (f (s.getD v.toNat [], ())).bind fun r =>
   bif r then (
    some (.inr (.inr v)))
   else (
    some (.inl (wi64 (v + 1)))))
  else (
   some (.inr (.inl ())))

theorem le_slices_IndexFunc_string_string_L0 (s : List (List UInt8)) (f f' : List UInt8 × Unit → Option Bool) (hf : ∀ q, LeO (f q) (f' q)) (v : Int) : LeO (slices_IndexFunc_string_string_L0_c s f v) (slices_IndexFunc_string_string_L0 s f' v) := by
  unfold slices_IndexFunc_string_string_L0_c slices_IndexFunc_string_string_L0
  with_reducible repeat' (first | exact LeO.refl _ | exact LeL.refl _ | exact hf _ | refine qB ?_ ?_ | refine qD ?_ (fun _ => ?_) | refine qG ?_ | refine qE (fun _ => ?_) (fun _ => ?_) | refine qI (fun _ => ?_) | refine qO ?_ ?_ | refine qL ?_ ?_ | refine qM (fun _ => ?_) | refine qN ?_ | refine qK (fun _ => ?_) (fun _ => ?_))

noncomputable def slices_IndexFunc_string_string_c (s : List (List UInt8)) (f : List UInt8 × Unit → Option Bool) : Option (Int) :=
  (iterN (fun x => slices_IndexFunc_string_string_L0_c s f x) 100000 0).bind fun s2 =>
  s2.elim (fun s3 =>
   some (-1))
  (fun s4 =>
   some s4)

theorem le_slices_IndexFunc_string_string (s : List (List UInt8)) (f f' : List UInt8 × Unit → Option Bool) (hf : ∀ q, LeO (f q) (f' q)) : LeO (slices_IndexFunc_string_string_c s f) (slices_IndexFunc_string_string s f') := by
  unfold slices_IndexFunc_string_string_c slices_IndexFunc_string_string
  with_reducible repeat' (first | exact LeO.refl _ | exact LeL.refl _ | exact hf _ | refine le_slices_IndexFunc_string_string_L0 _ _ _ (fun _ => ?_) _ | refine qB ?_ ?_ | refine qD ?_ (fun _ => ?_) | refine qG ?_ | refine qE (fun _ => ?_) (fun _ => ?_) | refine qI (fun _ => ?_) | refine qO ?_ ?_ | refine qL ?_ ?_ | refine qM (fun _ => ?_) | refine qN ?_ | refine qK (fun _ => ?_) (fun _ => ?_))

noncomputable def slices_ContainsFunc_string_string_c (s : List (List UInt8)) (f : List UInt8 × Unit → Option Bool) : Option (Bool) :=
  (slices_IndexFunc_string_string_c s f).bind fun r =>
  some (decide (0 ≤ r))

theorem le_slices_ContainsFunc_string_string (s : List (List UInt8)) (f f' : List UInt8 × Unit → Option Bool) (hf : ∀ q, LeO (f q) (f' q)) : LeO (slices_ContainsFunc_string_string_c s f) (slices_ContainsFunc_string_string s f') := by
  unfold slices_ContainsFunc_string_string_c slices_ContainsFunc_string_string
  with_reducible repeat' (first | exact LeO.refl _ | exact LeL.refl _ | exact hf _ | refine le_slices_IndexFunc_string_string _ _ _ (fun _ => ?_) | refine qB ?_ ?_ | refine qD ?_ (fun _ => ?_) | refine qG ?_ | refine qE (fun _ => ?_) (fun _ => ?_) | refine qI (fun _ => ?_) | refine qO ?_ ?_ | refine qL ?_ ?_ | refine qM (fun _ => ?_) | refine qN ?_ | refine qK (fun _ => ?_) (fun _ => ?_))

noncomputable def lines_Name_c (s : List UInt8) : Option (Bool) :=
  Option.bind (α := Bool) (
    bif decide ((s.length : Int) < 1) then (
     some true)
    else (
     bif decide (12 < (s.length : Int)) then (
      some true)
     else (
      gd (inB 0 s.length) <|
      (lines_place (Int.ofNat (s.getD 0 0).toNat)).bind fun r =>
      some (!decide (r = 1))))) fun s2 =>
  bif s2 then (
   some false)
  else (
   (iterN (fun x => lines_Name_L0 s x) 100000 0).bind fun s3 =>
   s3.elim (fun s4 =>
    some true)
   (fun s5 =>
    some s5))

theorem le_lines_Name (s : List UInt8) : LeO (lines_Name_c s) (lines_Name s) := by
  unfold lines_Name_c lines_Name
  with_reducible repeat' (first | exact LeO.refl _ | exact LeL.refl _ | refine qB ?_ ?_ | refine qD ?_ (fun _ => ?_) | refine qG ?_ | refine qE (fun _ => ?_) (fun _ => ?_) | refine qI (fun _ => ?_) | refine qO ?_ ?_ | refine qL ?_ ?_ | refine qM (fun _ => ?_) | refine qN ?_ | refine qK (fun _ => ?_) (fun _ => ?_))

noncomputable def network_Check_1_c (s : List UInt8) : Option (Bool) :=
  (lines_Name_c s).bind fun r =>
  some (!r)

theorem le_network_Check_1 (s : List UInt8) : LeO (network_Check_1_c s) (network_Check_1 s) := by
  unfold network_Check_1_c network_Check_1
  with_reducible repeat' (first | exact LeO.refl _ | exact LeL.refl _ | refine le_lines_Name _ | refine qB ?_ ?_ | refine qD ?_ (fun _ => ?_) | refine qG ?_ | refine qE (fun _ => ?_) (fun _ => ?_) | refine qI (fun _ => ?_) | refine qO ?_ ?_ | refine qL ?_ ?_ | refine qM (fun _ => ?_) | refine qN ?_ | refine qK (fun _ => ?_) (fun _ => ?_))

noncomputable def network_Check_L0_c (r2 : List (List UInt8) × List (List UInt8) × List (List UInt8) × List (List UInt8)) (v : Int) : Option (Int ⊕ (Unit ⊕ Int)) :=
  bif decide (v < 4) then (
   gd (inB v 4) <|
   (slices_ContainsFunc_string_string_c ([r2.1, r2.2.1, r2.2.2.1, r2.2.2.2].getD v.toNat []) (fun h => (network_Check_1_c h.1).bind fun y => some y)).bind fun r3 =>
   bif r3 then (
    some (.inr (.inr 3)))
   else (
    some (.inl (wi64 (v + 1)))))
  else (
   some (.inr (.inl ())))

theorem le_network_Check_L0 (r2 : List (List UInt8) × List (List UInt8) × List (List UInt8) × List (List UInt8)) (v : Int) : LeO (network_Check_L0_c r2 v) (network_Check_L0 r2 v) := by
  unfold network_Check_L0_c network_Check_L0
  with_reducible repeat' (first | exact LeO.refl _ | exact LeL.refl _ | refine le_slices_ContainsFunc_string_string _ _ _ (fun _ => ?_) | refine le_network_Check_1 _ | refine qB ?_ ?_ | refine qD ?_ (fun _ => ?_) | refine qG ?_ | refine qE (fun _ => ?_) (fun _ => ?_) | refine qI (fun _ => ?_) | refine qO ?_ ?_ | refine qL ?_ ?_ | refine qM (fun _ => ?_) | refine qN ?_ | refine qK (fun _ => ?_) (fun _ => ?_))

noncomputable def slices_Index_string_string_c (s : List (List UInt8)) (v : List UInt8) : Option (Int) :=
  (iterN (fun x => slices_Index_string_string_L0 s v x) 100000 0).bind fun s2 =>
  s2.elim (fun s3 =>
   some (-1))
  (fun s4 =>
   some s4)

theorem le_slices_Index_string_string (s : List (List UInt8)) (v : List UInt8) : LeO (slices_Index_string_string_c s v) (slices_Index_string_string s v) := by
  unfold slices_Index_string_string_c slices_Index_string_string
  with_reducible repeat' (first | exact LeO.refl _ | exact LeL.refl _ | refine qB ?_ ?_ | refine qD ?_ (fun _ => ?_) | refine qG ?_ | refine qE (fun _ => ?_) (fun _ => ?_) | refine qI (fun _ => ?_) | refine qO ?_ ?_ | refine qL ?_ ?_ | refine qM (fun _ => ?_) | refine qN ?_ | refine qK (fun _ => ?_) (fun _ => ?_))

noncomputable def network_twice_L1_c (r : List (List UInt8) × List (List UInt8) × List (List UInt8) × List (List UInt8)) (v : Int) (v2 : Int) : Option (Int ⊕ (Unit ⊕ Bool)) :=
  bif decide (v2 < (([r.1, r.2.1, r.2.2.1, r.2.2.2].getD v.toNat []).length : Int)) then (
   gd (inB v2 ([r.1, r.2.1, r.2.2.1, r.2.2.2].getD v.toNat []).length) <|
   (slices_Index_string_string_c ([r.1, r.2.1, r.2.2.1, r.2.2.2].getD v.toNat []) (([r.1, r.2.1, r.2.2.1, r.2.2.2].getD v.toNat []).getD v2.toNat [])).bind fun r2 =>
   bif decide (r2 < v2) then (
    some (.inr (.inr true)))
   else (
    some (.inl (wi64 (v2 + 1)))))
  else (
   some (.inr (.inl ())))

theorem le_network_twice_L1 (r : List (List UInt8) × List (List UInt8) × List (List UInt8) × List (List UInt8)) (v : Int) (v2 : Int) : LeO (network_twice_L1_c r v v2) (network_twice_L1 r v v2) := by
  unfold network_twice_L1_c network_twice_L1
  with_reducible repeat' (first | exact LeO.refl _ | exact LeL.refl _ | refine le_slices_Index_string_string _ _ | refine qB ?_ ?_ | refine qD ?_ (fun _ => ?_) | refine qG ?_ | refine qE (fun _ => ?_) (fun _ => ?_) | refine qI (fun _ => ?_) | refine qO ?_ ?_ | refine qL ?_ ?_ | refine qM (fun _ => ?_) | refine qN ?_ | refine qK (fun _ => ?_) (fun _ => ?_))

noncomputable def network_twice_L0_c (r : List (List UInt8) × List (List UInt8) × List (List UInt8) × List (List UInt8)) (v : Int) : Option (Int ⊕ (Unit ⊕ Bool)) :=
  bif decide (v < 4) then (
   gd (inB v 4) <|
   (iterN (fun x => network_twice_L1_c r v x) 100000 0).bind fun s =>
   s.elim (fun s2 =>
    some (.inl (wi64 (v + 1))))
   (fun s3 =>
    some (.inr (.inr s3))))
  else (
   some (.inr (.inl ())))

theorem le_network_twice_L0 (r : List (List UInt8) × List (List UInt8) × List (List UInt8) × List (List UInt8)) (v : Int) : LeO (network_twice_L0_c r v) (network_twice_L0 r v) := by
  unfold network_twice_L0_c network_twice_L0
  with_reducible repeat' (first | exact LeO.refl _ | exact LeL.refl _ | refine le_network_twice_L1 _ _ _ | refine qB ?_ ?_ | refine qD ?_ (fun _ => ?_) | refine qG ?_ | refine qE (fun _ => ?_) (fun _ => ?_) | refine qI (fun _ => ?_) | refine qO ?_ ?_ | refine qL ?_ ?_ | refine qM (fun _ => ?_) | refine qN ?_ | refine qK (fun _ => ?_) (fun _ => ?_))

noncomputable def slices_IndexFunc_api_Station_api_Station_L0_c (s : List (List UInt8 × Int × Int × Int × Int)) (f : (List UInt8 × Int × Int × Int × Int) × Unit → Option Bool) (v : Int) : Option (Int ⊕ (Unit ⊕ Int)) :=
  bif decide (v < (s.length : Int)) then (
   gd (inB v s.length) <|
   (f (s.getD v.toNat ([], (0, (0, (0, 0)))), ())).bind fun r =>
   bif r then (
    some (.inr (.inr v)))
   else (
    some (.inl (wi64 (v + 1)))))
  else (
   some (.inr (.inl ())))

theorem le_slices_IndexFunc_api_Station_api_Station_L0 (s : List (List UInt8 × Int × Int × Int × Int)) (f f' : (List UInt8 × Int × Int × Int × Int) × Unit → Option Bool) (hf : ∀ q, LeO (f q) (f' q)) (v : Int) : LeO (slices_IndexFunc_api_Station_api_Station_L0_c s f v) (slices_IndexFunc_api_Station_api_Station_L0 s f' v) := by
  unfold slices_IndexFunc_api_Station_api_Station_L0_c slices_IndexFunc_api_Station_api_Station_L0
  with_reducible repeat' (first | exact LeO.refl _ | exact LeL.refl _ | exact hf _ | refine qB ?_ ?_ | refine qD ?_ (fun _ => ?_) | refine qG ?_ | refine qE (fun _ => ?_) (fun _ => ?_) | refine qI (fun _ => ?_) | refine qO ?_ ?_ | refine qL ?_ ?_ | refine qM (fun _ => ?_) | refine qN ?_ | refine qK (fun _ => ?_) (fun _ => ?_))

noncomputable def slices_IndexFunc_api_Station_api_Station_c (s : List (List UInt8 × Int × Int × Int × Int)) (f : (List UInt8 × Int × Int × Int × Int) × Unit → Option Bool) : Option (Int) :=
  (iterN (fun x => slices_IndexFunc_api_Station_api_Station_L0_c s f x) 100000 0).bind fun s2 =>
  s2.elim (fun s3 =>
   some (-1))
  (fun s4 =>
   some s4)

theorem le_slices_IndexFunc_api_Station_api_Station (s : List (List UInt8 × Int × Int × Int × Int)) (f f' : (List UInt8 × Int × Int × Int × Int) × Unit → Option Bool) (hf : ∀ q, LeO (f q) (f' q)) : LeO (slices_IndexFunc_api_Station_api_Station_c s f) (slices_IndexFunc_api_Station_api_Station s f') := by
  unfold slices_IndexFunc_api_Station_api_Station_c slices_IndexFunc_api_Station_api_Station
  with_reducible repeat' (first | exact LeO.refl _ | exact LeL.refl _ | exact hf _ | refine le_slices_IndexFunc_api_Station_api_Station_L0 _ _ _ (fun _ => ?_) _ | refine qB ?_ ?_ | refine qD ?_ (fun _ => ?_) | refine qG ?_ | refine qE (fun _ => ?_) (fun _ => ?_) | refine qI (fun _ => ?_) | refine qO ?_ ?_ | refine qL ?_ ?_ | refine qM (fun _ => ?_) | refine qN ?_ | refine qK (fun _ => ?_) (fun _ => ?_))

noncomputable def network_twice_L2_c (n : List (List UInt8) × List yT1 × List (List UInt8 × Int × Int) × List (List UInt8 × Int × Int × Int × Int) × Int × Int) (v3 : Int) : Option (Int ⊕ (Unit ⊕ Bool)) :=
  bif decide (v3 < (n.2.2.2.1.length : Int)) then (
   gd (inB v3 n.2.2.2.1.length) <|
   (slices_IndexFunc_api_Station_api_Station_c n.2.2.2.1 (fun h => (network_twice_1 h.1 ((n.2.2.2.1.getD v3.toNat ([], (0, (0, (0, 0))))).1, (((n.2.2.2.1.getD v3.toNat ([], (0, (0, (0, 0))))).2).1, ((((n.2.2.2.1.getD v3.toNat ([], (0, (0, (0, 0))))).2).2).1, (((((n.2.2.2.1.getD v3.toNat ([], (0, (0, (0, 0))))).2).2).2).1, ((((n.2.2.2.1.getD v3.toNat ([], (0, (0, (0, 0))))).2).2).2).2))))).bind fun y => some y)).bind fun r3 =>
   bif decide (r3 < v3) then (
    some (.inr (.inr true)))
   else (
    some (.inl (wi64 (v3 + 1)))))
  else (
   some (.inr (.inl ())))

theorem le_network_twice_L2 (n : List (List UInt8) × List yT1 × List (List UInt8 × Int × Int) × List (List UInt8 × Int × Int × Int × Int) × Int × Int) (v3 : Int) : LeO (network_twice_L2_c n v3) (network_twice_L2 n v3) := by
  unfold network_twice_L2_c network_twice_L2
  with_reducible repeat' (first | exact LeO.refl _ | exact LeL.refl _ | refine le_slices_IndexFunc_api_Station_api_Station _ _ _ (fun _ => ?_) | refine qB ?_ ?_ | refine qD ?_ (fun _ => ?_) | refine qG ?_ | refine qE (fun _ => ?_) (fun _ => ?_) | refine qI (fun _ => ?_) | refine qO ?_ ?_ | refine qL ?_ ?_ | refine qM (fun _ => ?_) | refine qN ?_ | refine qK (fun _ => ?_) (fun _ => ?_))

noncomputable def network_twice_c (n : List (List UInt8) × List yT1 × List (List UInt8 × Int × Int) × List (List UInt8 × Int × Int × Int × Int) × Int × Int) : Option (Bool) :=
  (network_names_c (n.1, (n.2.1, (n.2.2.1, (n.2.2.2.1, (n.2.2.2.2.1, n.2.2.2.2.2)))))).bind fun r =>
  (iterN (fun x2 => network_twice_L0_c r x2) 100000 0).bind fun s4 =>
  s4.elim (fun s5 =>
   (iterN (fun x3 => network_twice_L2_c n x3) 100000 0).bind fun s7 =>
   s7.elim (fun s8 =>
    some false)
   (fun s9 =>
    some s9))
  (fun s6 =>
   some s6)

theorem le_network_twice (n : List (List UInt8) × List yT1 × List (List UInt8 × Int × Int) × List (List UInt8 × Int × Int × Int × Int) × Int × Int) : LeO (network_twice_c n) (network_twice n) := by
  unfold network_twice_c network_twice
  with_reducible repeat' (first | exact LeO.refl _ | exact LeL.refl _ | refine le_network_names _ | refine le_network_twice_L2 _ _ | refine le_network_twice_L0 _ _ | refine qB ?_ ?_ | refine qD ?_ (fun _ => ?_) | refine qG ?_ | refine qE (fun _ => ?_) (fun _ => ?_) | refine qI (fun _ => ?_) | refine qO ?_ ?_ | refine qL ?_ ?_ | refine qM (fun _ => ?_) | refine qN ?_ | refine qK (fun _ => ?_) (fun _ => ?_))

noncomputable def slices_IndexFunc_int_int_L0_c (s : List Int) (f : Int × Unit → Option Bool) (v : Int) : Option (Int ⊕ (Unit ⊕ Int)) :=
  bif decide (v < (s.length : Int)) then (
   gd (inB v s.length) <|
   (f (s.getD v.toNat 0, ())).bind fun r =>
   bif r then (
    some (.inr (.inr v)))
   else (
    some (.inl (wi64 (v + 1)))))
  else (
   some (.inr (.inl ())))

theorem le_slices_IndexFunc_int_int_L0 (s : List Int) (f f' : Int × Unit → Option Bool) (hf : ∀ q, LeO (f q) (f' q)) (v : Int) : LeO (slices_IndexFunc_int_int_L0_c s f v) (slices_IndexFunc_int_int_L0 s f' v) := by
  unfold slices_IndexFunc_int_int_L0_c slices_IndexFunc_int_int_L0
  with_reducible repeat' (first | exact LeO.refl _ | exact LeL.refl _ | exact hf _ | refine qB ?_ ?_ | refine qD ?_ (fun _ => ?_) | refine qG ?_ | refine qE (fun _ => ?_) (fun _ => ?_) | refine qI (fun _ => ?_) | refine qO ?_ ?_ | refine qL ?_ ?_ | refine qM (fun _ => ?_) | refine qN ?_ | refine qK (fun _ => ?_) (fun _ => ?_))

noncomputable def slices_IndexFunc_int_int_c (s : List Int) (f : Int × Unit → Option Bool) : Option (Int) :=
  (iterN (fun x => slices_IndexFunc_int_int_L0_c s f x) 100000 0).bind fun s2 =>
  s2.elim (fun s3 =>
   some (-1))
  (fun s4 =>
   some s4)

theorem le_slices_IndexFunc_int_int (s : List Int) (f f' : Int × Unit → Option Bool) (hf : ∀ q, LeO (f q) (f' q)) : LeO (slices_IndexFunc_int_int_c s f) (slices_IndexFunc_int_int s f') := by
  unfold slices_IndexFunc_int_int_c slices_IndexFunc_int_int
  with_reducible repeat' (first | exact LeO.refl _ | exact LeL.refl _ | exact hf _ | refine le_slices_IndexFunc_int_int_L0 _ _ _ (fun _ => ?_) _ | refine qB ?_ ?_ | refine qD ?_ (fun _ => ?_) | refine qG ?_ | refine qE (fun _ => ?_) (fun _ => ?_) | refine qI (fun _ => ?_) | refine qO ?_ ?_ | refine qL ?_ ?_ | refine qM (fun _ => ?_) | refine qN ?_ | refine qK (fun _ => ?_) (fun _ => ?_))

noncomputable def slices_ContainsFunc_int_int_c (s : List Int) (f : Int × Unit → Option Bool) : Option (Bool) :=
  (slices_IndexFunc_int_int_c s f).bind fun r =>
  some (decide (0 ≤ r))

theorem le_slices_ContainsFunc_int_int (s : List Int) (f f' : Int × Unit → Option Bool) (hf : ∀ q, LeO (f q) (f' q)) : LeO (slices_ContainsFunc_int_int_c s f) (slices_ContainsFunc_int_int s f') := by
  unfold slices_ContainsFunc_int_int_c slices_ContainsFunc_int_int
  with_reducible repeat' (first | exact LeO.refl _ | exact LeL.refl _ | exact hf _ | refine le_slices_IndexFunc_int_int _ _ _ (fun _ => ?_) | refine qB ?_ ?_ | refine qD ?_ (fun _ => ?_) | refine qG ?_ | refine qE (fun _ => ?_) (fun _ => ?_) | refine qI (fun _ => ?_) | refine qO ?_ ?_ | refine qL ?_ ?_ | refine qM (fun _ => ?_) | refine qN ?_ | refine qK (fun _ => ?_) (fun _ => ?_))

noncomputable def network_known_c (n : List (List UInt8) × List yT1 × List (List UInt8 × Int × Int) × List (List UInt8 × Int × Int × Int × Int) × Int × Int) : Option (Bool) :=
  (iterN (fun x => network_known_L0 n x.1 x.2) 100000 (0, [])).bind fun s =>
  (iterN (fun x2 => network_known_L1 n x2.1 x2.2) 100000 (0, s)).bind fun s2 =>
  (iterN (fun x3 => network_known_L2 n x3.1 x3.2) 100000 (0, s2)).bind fun s3 =>
  (slices_ContainsFunc_int_int_c s3 (fun h => (network_known_1 h.1 (n.1, (n.2.1, (n.2.2.1, (n.2.2.2.1, (n.2.2.2.2.1, n.2.2.2.2.2)))))).bind fun y => some y)).bind fun r =>
  some (!r)

theorem le_network_known (n : List (List UInt8) × List yT1 × List (List UInt8 × Int × Int) × List (List UInt8 × Int × Int × Int × Int) × Int × Int) : LeO (network_known_c n) (network_known n) := by
  unfold network_known_c network_known
  with_reducible repeat' (first | exact LeO.refl _ | exact LeL.refl _ | refine le_slices_ContainsFunc_int_int _ _ _ (fun _ => ?_) | refine qB ?_ ?_ | refine qD ?_ (fun _ => ?_) | refine qG ?_ | refine qE (fun _ => ?_) (fun _ => ?_) | refine qI (fun _ => ?_) | refine qO ?_ ?_ | refine qL ?_ ?_ | refine qM (fun _ => ?_) | refine qN ?_ | refine qK (fun _ => ?_) (fun _ => ?_))

noncomputable def network_pipe_c (s : List UInt8 × Int × Int × Int × Int × Int × List (Int × Int × Int)) : Option (Bool) :=
  Option.bind (α := Bool) (
    bif decide (s.2.1 = s.2.2.1) then (
     some true)
    else (
     (network_in s.2.2.2.1 1 1000000).bind fun r =>
     bif !r then (
      some true)
     else (
      (network_in s.2.2.2.2.1 0 1000).bind fun r2 =>
      bif !r2 then (
       some true)
      else (
       (network_in s.2.2.2.2.2.1 0 100000).bind fun r3 =>
       some (!r3))))) fun s2 =>
  bif s2 then (
   some false)
  else (
   (iterN (fun x => network_pipe_L0 s x) 100000 0).bind fun s4 =>
   s4.elim (fun s5 =>
    gd (inB 0 s.2.2.2.2.2.2.length) <|
    bif decide ((s.2.2.2.2.2.2.getD 0 (0, (0, 0))).1 = 0) then (
     gd (inB (wi64 ((s.2.2.2.2.2.2.length : Int) - 1)) s.2.2.2.2.2.2.length) <|
     some (decide ((s.2.2.2.2.2.2.getD (wi64 ((s.2.2.2.2.2.2.length : Int) - 1)).toNat (0, (0, 0))).1 = s.2.2.2.1)))
    else (
     some false))
   (fun s6 =>
    some s6))

theorem le_network_pipe (s : List UInt8 × Int × Int × Int × Int × Int × List (Int × Int × Int)) : LeO (network_pipe_c s) (network_pipe s) := by
  unfold network_pipe_c network_pipe
  with_reducible repeat' (first | exact LeO.refl _ | exact LeL.refl _ | refine qB ?_ ?_ | refine qD ?_ (fun _ => ?_) | refine qG ?_ | refine qE (fun _ => ?_) (fun _ => ?_) | refine qI (fun _ => ?_) | refine qO ?_ ?_ | refine qL ?_ ?_ | refine qM (fun _ => ?_) | refine qN ?_ | refine qK (fun _ => ?_) (fun _ => ?_))

noncomputable def network_proper_1_c (s : List UInt8 × Int × Int × Int × Int × Int × List (Int × Int × Int)) : Option (Bool) :=
  (network_pipe_c (s.1, (s.2.1, (s.2.2.1, (s.2.2.2.1, (s.2.2.2.2.1, (s.2.2.2.2.2.1, s.2.2.2.2.2.2))))))).bind fun r =>
  some (!r)

theorem le_network_proper_1 (s : List UInt8 × Int × Int × Int × Int × Int × List (Int × Int × Int)) : LeO (network_proper_1_c s) (network_proper_1 s) := by
  unfold network_proper_1_c network_proper_1
  with_reducible repeat' (first | exact LeO.refl _ | exact LeL.refl _ | refine le_network_pipe _ | refine qB ?_ ?_ | refine qD ?_ (fun _ => ?_) | refine qG ?_ | refine qE (fun _ => ?_) (fun _ => ?_) | refine qI (fun _ => ?_) | refine qO ?_ ?_ | refine qL ?_ ?_ | refine qM (fun _ => ?_) | refine qN ?_ | refine qK (fun _ => ?_) (fun _ => ?_))

noncomputable def slices_IndexFunc_api_Port_api_Port_L0_c (s : List (List UInt8 × Int × Int)) (f : (List UInt8 × Int × Int) × Unit → Option Bool) (v : Int) : Option (Int ⊕ (Unit ⊕ Int)) :=
  bif decide (v < (s.length : Int)) then (
   gd (inB v s.length) <|
   (f (s.getD v.toNat ([], (0, 0)), ())).bind fun r =>
   bif r then (
    some (.inr (.inr v)))
   else (
    some (.inl (wi64 (v + 1)))))
  else (
   some (.inr (.inl ())))

theorem le_slices_IndexFunc_api_Port_api_Port_L0 (s : List (List UInt8 × Int × Int)) (f f' : (List UInt8 × Int × Int) × Unit → Option Bool) (hf : ∀ q, LeO (f q) (f' q)) (v : Int) : LeO (slices_IndexFunc_api_Port_api_Port_L0_c s f v) (slices_IndexFunc_api_Port_api_Port_L0 s f' v) := by
  unfold slices_IndexFunc_api_Port_api_Port_L0_c slices_IndexFunc_api_Port_api_Port_L0
  with_reducible repeat' (first | exact LeO.refl _ | exact LeL.refl _ | exact hf _ | refine qB ?_ ?_ | refine qD ?_ (fun _ => ?_) | refine qG ?_ | refine qE (fun _ => ?_) (fun _ => ?_) | refine qI (fun _ => ?_) | refine qO ?_ ?_ | refine qL ?_ ?_ | refine qM (fun _ => ?_) | refine qN ?_ | refine qK (fun _ => ?_) (fun _ => ?_))

noncomputable def slices_IndexFunc_api_Port_api_Port_c (s : List (List UInt8 × Int × Int)) (f : (List UInt8 × Int × Int) × Unit → Option Bool) : Option (Int) :=
  (iterN (fun x => slices_IndexFunc_api_Port_api_Port_L0_c s f x) 100000 0).bind fun s2 =>
  s2.elim (fun s3 =>
   some (-1))
  (fun s4 =>
   some s4)

theorem le_slices_IndexFunc_api_Port_api_Port (s : List (List UInt8 × Int × Int)) (f f' : (List UInt8 × Int × Int) × Unit → Option Bool) (hf : ∀ q, LeO (f q) (f' q)) : LeO (slices_IndexFunc_api_Port_api_Port_c s f) (slices_IndexFunc_api_Port_api_Port s f') := by
  unfold slices_IndexFunc_api_Port_api_Port_c slices_IndexFunc_api_Port_api_Port
  with_reducible repeat' (first | exact LeO.refl _ | exact LeL.refl _ | exact hf _ | refine le_slices_IndexFunc_api_Port_api_Port_L0 _ _ _ (fun _ => ?_) _ | refine qB ?_ ?_ | refine qD ?_ (fun _ => ?_) | refine qG ?_ | refine qE (fun _ => ?_) (fun _ => ?_) | refine qI (fun _ => ?_) | refine qO ?_ ?_ | refine qL ?_ ?_ | refine qM (fun _ => ?_) | refine qN ?_ | refine qK (fun _ => ?_) (fun _ => ?_))

noncomputable def slices_ContainsFunc_api_Port_api_Port_c (s : List (List UInt8 × Int × Int)) (f : (List UInt8 × Int × Int) × Unit → Option Bool) : Option (Bool) :=
  (slices_IndexFunc_api_Port_api_Port_c s f).bind fun r =>
  some (decide (0 ≤ r))

theorem le_slices_ContainsFunc_api_Port_api_Port (s : List (List UInt8 × Int × Int)) (f f' : (List UInt8 × Int × Int) × Unit → Option Bool) (hf : ∀ q, LeO (f q) (f' q)) : LeO (slices_ContainsFunc_api_Port_api_Port_c s f) (slices_ContainsFunc_api_Port_api_Port s f') := by
  unfold slices_ContainsFunc_api_Port_api_Port_c slices_ContainsFunc_api_Port_api_Port
  with_reducible repeat' (first | exact LeO.refl _ | exact LeL.refl _ | exact hf _ | refine le_slices_IndexFunc_api_Port_api_Port _ _ _ (fun _ => ?_) | refine qB ?_ ?_ | refine qD ?_ (fun _ => ?_) | refine qG ?_ | refine qE (fun _ => ?_) (fun _ => ?_) | refine qI (fun _ => ?_) | refine qO ?_ ?_ | refine qL ?_ ?_ | refine qM (fun _ => ?_) | refine qN ?_ | refine qK (fun _ => ?_) (fun _ => ?_))

noncomputable def slices_ContainsFunc_api_Station_api_Station_c (s : List (List UInt8 × Int × Int × Int × Int)) (f : (List UInt8 × Int × Int × Int × Int) × Unit → Option Bool) : Option (Bool) :=
  (slices_IndexFunc_api_Station_api_Station_c s f).bind fun r =>
  some (decide (0 ≤ r))

theorem le_slices_ContainsFunc_api_Station_api_Station (s : List (List UInt8 × Int × Int × Int × Int)) (f f' : (List UInt8 × Int × Int × Int × Int) × Unit → Option Bool) (hf : ∀ q, LeO (f q) (f' q)) : LeO (slices_ContainsFunc_api_Station_api_Station_c s f) (slices_ContainsFunc_api_Station_api_Station s f') := by
  unfold slices_ContainsFunc_api_Station_api_Station_c slices_ContainsFunc_api_Station_api_Station
  with_reducible repeat' (first | exact LeO.refl _ | exact LeL.refl _ | exact hf _ | refine le_slices_IndexFunc_api_Station_api_Station _ _ _ (fun _ => ?_) | refine qB ?_ ?_ | refine qD ?_ (fun _ => ?_) | refine qG ?_ | refine qE (fun _ => ?_) (fun _ => ?_) | refine qI (fun _ => ?_) | refine qO ?_ ?_ | refine qL ?_ ?_ | refine qM (fun _ => ?_) | refine qN ?_ | refine qK (fun _ => ?_) (fun _ => ?_))

noncomputable def network_proper_c (n : List (List UInt8) × List yT1 × List (List UInt8 × Int × Int) × List (List UInt8 × Int × Int × Int × Int) × Int × Int) : Option (Bool) :=
  (slices_ContainsFunc_api_Segment_api_Segment_c n.2.1 (fun h => (network_proper_1_c h.1).bind fun y => some y)).bind fun r =>
  bif r then (
   some false)
  else (
   (slices_ContainsFunc_api_Port_api_Port_c n.2.2.1 (fun h2 => (network_proper_2 h2.1).bind fun y => some y)).bind fun r2 =>
   bif r2 then (
    some false)
   else (
    (slices_ContainsFunc_api_Station_api_Station_c n.2.2.2.1 (fun h3 => (network_proper_3 h3.1).bind fun y => some y)).bind fun r3 =>
    bif r3 then (
     some false)
    else (
     (network_in n.2.2.2.2.1 (-100000) 100000000).bind fun r4 =>
     bif r4 then (
      (network_in n.2.2.2.2.2 0 100).bind fun r5 =>
      some r5)
     else (
      some false))))

theorem le_network_proper (n : List (List UInt8) × List yT1 × List (List UInt8 × Int × Int) × List (List UInt8 × Int × Int × Int × Int) × Int × Int) : LeO (network_proper_c n) (network_proper n) := by
  unfold network_proper_c network_proper
  with_reducible repeat' (first | exact LeO.refl _ | exact LeL.refl _ | refine le_slices_ContainsFunc_api_Port_api_Port _ _ _ (fun _ => ?_) | refine le_slices_ContainsFunc_api_Station_api_Station _ _ _ (fun _ => ?_) | refine le_slices_ContainsFunc_api_Segment_api_Segment _ _ _ (fun _ => ?_) | refine le_network_proper_1 _ | refine qB ?_ ?_ | refine qD ?_ (fun _ => ?_) | refine qG ?_ | refine qE (fun _ => ?_) (fun _ => ?_) | refine qI (fun _ => ?_) | refine qO ?_ ?_ | refine qL ?_ ?_ | refine qM (fun _ => ?_) | refine qN ?_ | refine qK (fun _ => ?_) (fun _ => ?_))

noncomputable def network_Check_c (n : List (List UInt8) × List yT1 × List (List UInt8 × Int × Int) × List (List UInt8 × Int × Int × Int × Int) × Int × Int) : Option (Int) :=
  (network_limits_c (n.1, (n.2.1, (n.2.2.1, (n.2.2.2.1, (n.2.2.2.2.1, n.2.2.2.2.2)))))).bind fun r =>
  bif !r then (
   some 4)
  else (
   (network_names_c (n.1, (n.2.1, (n.2.2.1, (n.2.2.2.1, (n.2.2.2.2.1, n.2.2.2.2.2)))))).bind fun r2 =>
   (iterN (fun x => network_Check_L0_c r2 x) 100000 0).bind fun s =>
   s.elim (fun s2 =>
    (network_twice_c (n.1, (n.2.1, (n.2.2.1, (n.2.2.2.1, (n.2.2.2.2.1, n.2.2.2.2.2)))))).bind fun r4 =>
    bif r4 then (
     some 7)
    else (
     (network_known_c (n.1, (n.2.1, (n.2.2.1, (n.2.2.2.1, (n.2.2.2.2.1, n.2.2.2.2.2)))))).bind fun r5 =>
     bif !r5 then (
      some 8)
     else (
      (network_proper_c (n.1, (n.2.1, (n.2.2.1, (n.2.2.2.1, (n.2.2.2.2.1, n.2.2.2.2.2)))))).bind fun r6 =>
      bif !r6 then (
       some 9)
      else (
       some 0))))
   (fun s3 =>
    some s3))

theorem le_network_Check (n : List (List UInt8) × List yT1 × List (List UInt8 × Int × Int) × List (List UInt8 × Int × Int × Int × Int) × Int × Int) : LeO (network_Check_c n) (network_Check n) := by
  unfold network_Check_c network_Check
  with_reducible repeat' (first | exact LeO.refl _ | exact LeL.refl _ | refine le_network_names _ | refine le_network_proper _ | refine le_network_twice _ | refine le_network_limits _ | refine le_network_Check_L0 _ _ | refine le_network_known _ | refine qB ?_ ?_ | refine qD ?_ (fun _ => ?_) | refine qG ?_ | refine qE (fun _ => ?_) (fun _ => ?_) | refine qI (fun _ => ?_) | refine qO ?_ ?_ | refine qL ?_ ?_ | refine qM (fun _ => ?_) | refine qN ?_ | refine qK (fun _ => ?_) (fun _ => ?_))

noncomputable def product_Valid_c (p : List UInt8 × Int × Int × Int × Int) : Option (Bool) :=
  (product_numbers (p.1, (p.2.1, (p.2.2.1, (p.2.2.2.1, p.2.2.2.2))))).bind fun r =>
  (iterN (fun x => product_Valid_L0 r x) 100000 0).bind fun s2 =>
  s2.elim (fun s3 =>
   (lines_Name_c p.1).bind fun r2 =>
   some r2)
  (fun s4 =>
   some s4)

theorem le_product_Valid (p : List UInt8 × Int × Int × Int × Int) : LeO (product_Valid_c p) (product_Valid p) := by
  unfold product_Valid_c product_Valid
  with_reducible repeat' (first | exact LeO.refl _ | exact LeL.refl _ | refine le_lines_Name _ | refine qB ?_ ?_ | refine qD ?_ (fun _ => ?_) | refine qG ?_ | refine qE (fun _ => ?_) (fun _ => ?_) | refine qI (fun _ => ?_) | refine qO ?_ ?_ | refine qL ?_ ?_ | refine qM (fun _ => ?_) | refine qN ?_ | refine qK (fun _ => ?_) (fun _ => ?_))

noncomputable def product_Check_L0_c (l : List (List UInt8 × Int × Int × Int × Int)) (v : Int) : Option (Int ⊕ (Unit ⊕ Int)) :=
  bif decide (v < (l.length : Int)) then (
   gd (inB v l.length) <|
   (product_Valid_c ((l.getD v.toNat ([], (0, (0, (0, 0))))).1, (((l.getD v.toNat ([], (0, (0, (0, 0))))).2).1, ((((l.getD v.toNat ([], (0, (0, (0, 0))))).2).2).1, (((((l.getD v.toNat ([], (0, (0, (0, 0))))).2).2).2).1, ((((l.getD v.toNat ([], (0, (0, (0, 0))))).2).2).2).2))))).bind fun r =>
   bif !r then (
    some (.inr (.inr 9)))
   else (
    some (.inl (wi64 (v + 1)))))
  else (
   some (.inr (.inl ())))

theorem le_product_Check_L0 (l : List (List UInt8 × Int × Int × Int × Int)) (v : Int) : LeO (product_Check_L0_c l v) (product_Check_L0 l v) := by
  unfold product_Check_L0_c product_Check_L0
  with_reducible repeat' (first | exact LeO.refl _ | exact LeL.refl _ | refine le_product_Valid _ | refine qB ?_ ?_ | refine qD ?_ (fun _ => ?_) | refine qG ?_ | refine qE (fun _ => ?_) (fun _ => ?_) | refine qI (fun _ => ?_) | refine qO ?_ ?_ | refine qL ?_ ?_ | refine qM (fun _ => ?_) | refine qN ?_ | refine qK (fun _ => ?_) (fun _ => ?_))

noncomputable def slices_IndexFunc_api_Product_api_Product_L0_c (s : List (List UInt8 × Int × Int × Int × Int)) (f : (List UInt8 × Int × Int × Int × Int) × Unit → Option Bool) (v : Int) : Option (Int ⊕ (Unit ⊕ Int)) :=
  bif decide (v < (s.length : Int)) then (
   gd (inB v s.length) <|
   (f (s.getD v.toNat ([], (0, (0, (0, 0)))), ())).bind fun r =>
   bif r then (
    some (.inr (.inr v)))
   else (
    some (.inl (wi64 (v + 1)))))
  else (
   some (.inr (.inl ())))

theorem le_slices_IndexFunc_api_Product_api_Product_L0 (s : List (List UInt8 × Int × Int × Int × Int)) (f f' : (List UInt8 × Int × Int × Int × Int) × Unit → Option Bool) (hf : ∀ q, LeO (f q) (f' q)) (v : Int) : LeO (slices_IndexFunc_api_Product_api_Product_L0_c s f v) (slices_IndexFunc_api_Product_api_Product_L0 s f' v) := by
  unfold slices_IndexFunc_api_Product_api_Product_L0_c slices_IndexFunc_api_Product_api_Product_L0
  with_reducible repeat' (first | exact LeO.refl _ | exact LeL.refl _ | exact hf _ | refine qB ?_ ?_ | refine qD ?_ (fun _ => ?_) | refine qG ?_ | refine qE (fun _ => ?_) (fun _ => ?_) | refine qI (fun _ => ?_) | refine qO ?_ ?_ | refine qL ?_ ?_ | refine qM (fun _ => ?_) | refine qN ?_ | refine qK (fun _ => ?_) (fun _ => ?_))

noncomputable def slices_IndexFunc_api_Product_api_Product_c (s : List (List UInt8 × Int × Int × Int × Int)) (f : (List UInt8 × Int × Int × Int × Int) × Unit → Option Bool) : Option (Int) :=
  (iterN (fun x => slices_IndexFunc_api_Product_api_Product_L0_c s f x) 100000 0).bind fun s2 =>
  s2.elim (fun s3 =>
   some (-1))
  (fun s4 =>
   some s4)

theorem le_slices_IndexFunc_api_Product_api_Product (s : List (List UInt8 × Int × Int × Int × Int)) (f f' : (List UInt8 × Int × Int × Int × Int) × Unit → Option Bool) (hf : ∀ q, LeO (f q) (f' q)) : LeO (slices_IndexFunc_api_Product_api_Product_c s f) (slices_IndexFunc_api_Product_api_Product s f') := by
  unfold slices_IndexFunc_api_Product_api_Product_c slices_IndexFunc_api_Product_api_Product
  with_reducible repeat' (first | exact LeO.refl _ | exact LeL.refl _ | exact hf _ | refine le_slices_IndexFunc_api_Product_api_Product_L0 _ _ _ (fun _ => ?_) _ | refine qB ?_ ?_ | refine qD ?_ (fun _ => ?_) | refine qG ?_ | refine qE (fun _ => ?_) (fun _ => ?_) | refine qI (fun _ => ?_) | refine qO ?_ ?_ | refine qL ?_ ?_ | refine qM (fun _ => ?_) | refine qN ?_ | refine qK (fun _ => ?_) (fun _ => ?_))

noncomputable def product_Find_c (l : List (List UInt8 × Int × Int × Int × Int)) (name : List UInt8) : Option (Int) :=
  (slices_IndexFunc_api_Product_api_Product_c l (fun h => (product_Find_1 h.1 name).bind fun y => some y)).bind fun r =>
  some r

theorem le_product_Find (l : List (List UInt8 × Int × Int × Int × Int)) (name : List UInt8) : LeO (product_Find_c l name) (product_Find l name) := by
  unfold product_Find_c product_Find
  with_reducible repeat' (first | exact LeO.refl _ | exact LeL.refl _ | refine le_slices_IndexFunc_api_Product_api_Product _ _ _ (fun _ => ?_) | refine qB ?_ ?_ | refine qD ?_ (fun _ => ?_) | refine qG ?_ | refine qE (fun _ => ?_) (fun _ => ?_) | refine qI (fun _ => ?_) | refine qO ?_ ?_ | refine qL ?_ ?_ | refine qM (fun _ => ?_) | refine qN ?_ | refine qK (fun _ => ?_) (fun _ => ?_))

noncomputable def product_Check_L1_c (l : List (List UInt8 × Int × Int × Int × Int)) (v2 : Int) : Option (Int ⊕ (Unit ⊕ Int)) :=
  bif decide (v2 < (l.length : Int)) then (
   gd (inB v2 l.length) <|
   (product_Find_c l ((l.getD v2.toNat ([], (0, (0, (0, 0))))).1)).bind fun r2 =>
   bif decide (r2 < v2) then (
    some (.inr (.inr 7)))
   else (
    some (.inl (wi64 (v2 + 1)))))
  else (
   some (.inr (.inl ())))

theorem le_product_Check_L1 (l : List (List UInt8 × Int × Int × Int × Int)) (v2 : Int) : LeO (product_Check_L1_c l v2) (product_Check_L1 l v2) := by
  unfold product_Check_L1_c product_Check_L1
  with_reducible repeat' (first | exact LeO.refl _ | exact LeL.refl _ | refine le_product_Find _ _ | refine qB ?_ ?_ | refine qD ?_ (fun _ => ?_) | refine qG ?_ | refine qE (fun _ => ?_) (fun _ => ?_) | refine qI (fun _ => ?_) | refine qO ?_ ?_ | refine qL ?_ ?_ | refine qM (fun _ => ?_) | refine qN ?_ | refine qK (fun _ => ?_) (fun _ => ?_))

noncomputable def product_Check_c (l : List (List UInt8 × Int × Int × Int × Int)) : Option (Int) :=
  bif decide (16 < (l.length : Int)) then (
   some 4)
  else (
   (iterN (fun x => product_Check_L0_c l x) 100000 0).bind fun s =>
   s.elim (fun s2 =>
    (iterN (fun x2 => product_Check_L1_c l x2) 100000 0).bind fun s4 =>
    s4.elim (fun s5 =>
     some 0)
    (fun s6 =>
     some s6))
   (fun s3 =>
    some s3))

theorem le_product_Check (l : List (List UInt8 × Int × Int × Int × Int)) : LeO (product_Check_c l) (product_Check l) := by
  unfold product_Check_c product_Check
  with_reducible repeat' (first | exact LeO.refl _ | exact LeL.refl _ | refine le_product_Check_L0 _ _ | refine le_product_Check_L1 _ _ | refine qB ?_ ?_ | refine qD ?_ (fun _ => ?_) | refine qG ?_ | refine qE (fun _ => ?_) (fun _ => ?_) | refine qI (fun _ => ?_) | refine qO ?_ ?_ | refine qL ?_ ?_ | refine qM (fun _ => ?_) | refine qN ?_ | refine qK (fun _ => ?_) (fun _ => ?_))

noncomputable def slices_IndexFunc_api_Nomination_api_Nomination_L0_c (s : List yT0) (f : yT0 × Unit → Option Bool) (v : Int) : Option (Int ⊕ (Unit ⊕ Int)) :=
  bif decide (v < (s.length : Int)) then (
   gd (inB v s.length) <|
   (f (s.getD v.toNat ([], ([], ([], ([], (0, 0))))), ())).bind fun r =>
   bif r then (
    some (.inr (.inr v)))
   else (
    some (.inl (wi64 (v + 1)))))
  else (
   some (.inr (.inl ())))

theorem le_slices_IndexFunc_api_Nomination_api_Nomination_L0 (s : List yT0) (f f' : yT0 × Unit → Option Bool) (hf : ∀ q, LeO (f q) (f' q)) (v : Int) : LeO (slices_IndexFunc_api_Nomination_api_Nomination_L0_c s f v) (slices_IndexFunc_api_Nomination_api_Nomination_L0 s f' v) := by
  unfold slices_IndexFunc_api_Nomination_api_Nomination_L0_c slices_IndexFunc_api_Nomination_api_Nomination_L0
  with_reducible repeat' (first | exact LeO.refl _ | exact LeL.refl _ | exact hf _ | refine qB ?_ ?_ | refine qD ?_ (fun _ => ?_) | refine qG ?_ | refine qE (fun _ => ?_) (fun _ => ?_) | refine qI (fun _ => ?_) | refine qO ?_ ?_ | refine qL ?_ ?_ | refine qM (fun _ => ?_) | refine qN ?_ | refine qK (fun _ => ?_) (fun _ => ?_))

noncomputable def slices_IndexFunc_api_Nomination_api_Nomination_c (s : List yT0) (f : yT0 × Unit → Option Bool) : Option (Int) :=
  (iterN (fun x => slices_IndexFunc_api_Nomination_api_Nomination_L0_c s f x) 100000 0).bind fun s2 =>
  s2.elim (fun s3 =>
   some (-1))
  (fun s4 =>
   some s4)

theorem le_slices_IndexFunc_api_Nomination_api_Nomination (s : List yT0) (f f' : yT0 × Unit → Option Bool) (hf : ∀ q, LeO (f q) (f' q)) : LeO (slices_IndexFunc_api_Nomination_api_Nomination_c s f) (slices_IndexFunc_api_Nomination_api_Nomination s f') := by
  unfold slices_IndexFunc_api_Nomination_api_Nomination_c slices_IndexFunc_api_Nomination_api_Nomination
  with_reducible repeat' (first | exact LeO.refl _ | exact LeL.refl _ | exact hf _ | refine le_slices_IndexFunc_api_Nomination_api_Nomination_L0 _ _ _ (fun _ => ?_) _ | refine qB ?_ ?_ | refine qD ?_ (fun _ => ?_) | refine qG ?_ | refine qE (fun _ => ?_) (fun _ => ?_) | refine qI (fun _ => ?_) | refine qO ?_ ?_ | refine qL ?_ ?_ | refine qM (fun _ => ?_) | refine qN ?_ | refine qK (fun _ => ?_) (fun _ => ?_))

noncomputable def slices_ContainsFunc_api_Nomination_api_Nomination_c (s : List yT0) (f : yT0 × Unit → Option Bool) : Option (Bool) :=
  (slices_IndexFunc_api_Nomination_api_Nomination_c s f).bind fun r =>
  some (decide (0 ≤ r))

theorem le_slices_ContainsFunc_api_Nomination_api_Nomination (s : List yT0) (f f' : yT0 × Unit → Option Bool) (hf : ∀ q, LeO (f q) (f' q)) : LeO (slices_ContainsFunc_api_Nomination_api_Nomination_c s f) (slices_ContainsFunc_api_Nomination_api_Nomination s f') := by
  unfold slices_ContainsFunc_api_Nomination_api_Nomination_c slices_ContainsFunc_api_Nomination_api_Nomination
  with_reducible repeat' (first | exact LeO.refl _ | exact LeL.refl _ | exact hf _ | refine le_slices_IndexFunc_api_Nomination_api_Nomination _ _ _ (fun _ => ?_) | refine qB ?_ ?_ | refine qD ?_ (fun _ => ?_) | refine qG ?_ | refine qE (fun _ => ?_) (fun _ => ?_) | refine qI (fun _ => ?_) | refine qO ?_ ?_ | refine qL ?_ ?_ | refine qM (fun _ => ?_) | refine qN ?_ | refine qK (fun _ => ?_) (fun _ => ?_))

noncomputable def nomination_valid_L0_c (n : List UInt8 × List UInt8 × List UInt8 × List UInt8 × Int × Int) (v : Int) : Option (Int ⊕ (Unit ⊕ Bool)) :=
  bif decide (v < ([n.1, n.2.1, n.2.2.1, n.2.2.2.1].length : Int)) then (
   gd (inB v [n.1, n.2.1, n.2.2.1, n.2.2.2.1].length) <|
   (lines_Name_c ([n.1, n.2.1, n.2.2.1, n.2.2.2.1].getD v.toNat [])).bind fun r =>
   bif !r then (
    some (.inr (.inr false)))
   else (
    some (.inl (wi64 (v + 1)))))
  else (
   some (.inr (.inl ())))

theorem le_nomination_valid_L0 (n : List UInt8 × List UInt8 × List UInt8 × List UInt8 × Int × Int) (v : Int) : LeO (nomination_valid_L0_c n v) (nomination_valid_L0 n v) := by
  unfold nomination_valid_L0_c nomination_valid_L0
  with_reducible repeat' (first | exact LeO.refl _ | exact LeL.refl _ | refine le_lines_Name _ | refine qB ?_ ?_ | refine qD ?_ (fun _ => ?_) | refine qG ?_ | refine qE (fun _ => ?_) (fun _ => ?_) | refine qI (fun _ => ?_) | refine qO ?_ ?_ | refine qL ?_ ?_ | refine qM (fun _ => ?_) | refine qN ?_ | refine qK (fun _ => ?_) (fun _ => ?_))

noncomputable def nomination_valid_c (n : List UInt8 × List UInt8 × List UInt8 × List UInt8 × Int × Int) : Option (Bool) :=
  (iterN (fun x => nomination_valid_L0_c n x) 100000 0).bind fun s =>
  s.elim (fun s2 =>
   bif !decide (n.2.2.1 = n.2.2.2.1) then (
    bif decide (0 ≤ n.2.2.2.2.1) then (
     bif decide (n.2.2.2.2.1 ≤ 1000000) then (
      bif decide (1 ≤ n.2.2.2.2.2) then (
       some (decide (n.2.2.2.2.2 ≤ 1099511627776)))
      else (
       some false))
     else (
      some false))
    else (
     some false))
   else (
    some false))
  (fun s3 =>
   some s3)

theorem le_nomination_valid (n : List UInt8 × List UInt8 × List UInt8 × List UInt8 × Int × Int) : LeO (nomination_valid_c n) (nomination_valid n) := by
  unfold nomination_valid_c nomination_valid
  with_reducible repeat' (first | exact LeO.refl _ | exact LeL.refl _ | refine le_nomination_valid_L0 _ _ | refine qB ?_ ?_ | refine qD ?_ (fun _ => ?_) | refine qG ?_ | refine qE (fun _ => ?_) (fun _ => ?_) | refine qI (fun _ => ?_) | refine qO ?_ ?_ | refine qL ?_ ?_ | refine qM (fun _ => ?_) | refine qN ?_ | refine qK (fun _ => ?_) (fun _ => ?_))

noncomputable def nomination_Check_1_c (n : List UInt8 × List UInt8 × List UInt8 × List UInt8 × Int × Int) : Option (Bool) :=
  (nomination_valid_c (n.1, (n.2.1, (n.2.2.1, (n.2.2.2.1, (n.2.2.2.2.1, n.2.2.2.2.2)))))).bind fun r =>
  some (!r)

theorem le_nomination_Check_1 (n : List UInt8 × List UInt8 × List UInt8 × List UInt8 × Int × Int) : LeO (nomination_Check_1_c n) (nomination_Check_1 n) := by
  unfold nomination_Check_1_c nomination_Check_1
  with_reducible repeat' (first | exact LeO.refl _ | exact LeL.refl _ | refine le_nomination_valid _ | refine qB ?_ ?_ | refine qD ?_ (fun _ => ?_) | refine qG ?_ | refine qE (fun _ => ?_) (fun _ => ?_) | refine qI (fun _ => ?_) | refine qO ?_ ?_ | refine qL ?_ ?_ | refine qM (fun _ => ?_) | refine qN ?_ | refine qK (fun _ => ?_) (fun _ => ?_))

noncomputable def nomination_Check_c (l : List yT0) : Option (Int) :=
  bif decide (400 < (l.length : Int)) then (
   some 4)
  else (
   (slices_ContainsFunc_api_Nomination_api_Nomination_c l (fun h => (nomination_Check_1_c h.1).bind fun y => some y)).bind fun r =>
   bif r then (
    some 9)
   else (
    some 0))

theorem le_nomination_Check (l : List yT0) : LeO (nomination_Check_c l) (nomination_Check l) := by
  unfold nomination_Check_c nomination_Check
  with_reducible repeat' (first | exact LeO.refl _ | exact LeL.refl _ | refine le_slices_ContainsFunc_api_Nomination_api_Nomination _ _ _ (fun _ => ?_) | refine le_nomination_Check_1 _ | refine qB ?_ ?_ | refine qD ?_ (fun _ => ?_) | refine qG ?_ | refine qE (fun _ => ?_) (fun _ => ?_) | refine qI (fun _ => ?_) | refine qO ?_ ?_ | refine qL ?_ ?_ | refine qM (fun _ => ?_) | refine qN ?_ | refine qK (fun _ => ?_) (fun _ => ?_))

def slices_SortFunc_api_Nomination_api_Nomination_c (cmp : yT0 × yT0 × Unit → Option Int) : List (yT0) → Option (List (yT0))
  | [x] => some [x]
  | _ => none
theorem one_slices_SortFunc_api_Nomination_api_Nomination (cmp : yT0 × yT0 × Unit → Option Int) (x : yT0) : slices_SortFunc_api_Nomination_api_Nomination cmp [x] = some [x] := by
  have h0 : ∀ c, slices_insertionSortCmpFunc_api_Nomination 0 1 c [x] = some [x] := fun c => by
    unfold slices_insertionSortCmpFunc_api_Nomination
    rw [iter_inr (show slices_insertionSortCmpFunc_api_Nomination_L0 0 1 c (wi64 (0 + 1)) [x] = some (.inr [x]) by kernel_rfl)]; rfl
  have h1 : math_bits_Len (wu64 (([x].length : Nat) : Int)) = some 1 := by kernel_rfl
  have hF : ∀ n, slices_pdqsortCmpFunc_api_Nomination_F (n + 1) = slices_pdqsortCmpFunc_api_Nomination_S (slices_pdqsortCmpFunc_api_Nomination_F n) := fun _ => rfl
  have hL : ∀ r, slices_pdqsortCmpFunc_api_Nomination_L0 cmp r 0 1 1 true true [x] = some (.inr [x]) := fun r => by
    unfold slices_pdqsortCmpFunc_api_Nomination_L0
    rw [show decide (wi64 (1 - 0) ≤ 12) = true by kernel_rfl]
    simp only [cond_true]
    rw [h0]; rfl
  unfold slices_SortFunc_api_Nomination_api_Nomination slices_pdqsortCmpFunc_api_Nomination
  rw [h1, Option.bind_some, show (18446744073709551616 : Nat) = 18446744073709551615 + 1 from rfl, hF]
  unfold slices_pdqsortCmpFunc_api_Nomination_S
  rw [show (([x].length : Nat) : Int) = 1 from rfl, iter_inr (hL _)]; rfl
theorem le_slices_SortFunc_api_Nomination_api_Nomination (cmp cmp' : yT0 × yT0 × Unit → Option Int) (hcmp : ∀ q, LeO (cmp q) (cmp' q)) (x : List (yT0)) : LeO (slices_SortFunc_api_Nomination_api_Nomination_c cmp x) (slices_SortFunc_api_Nomination_api_Nomination cmp' x) := by
  match x with
  | [] => intro v hv; cases hv
  | [a] => intro v hv; rw [← hv]; exact one_slices_SortFunc_api_Nomination_api_Nomination cmp' a
  | _ :: _ :: _ => intro v hv; cases hv

noncomputable def cmp_Or_int_c (vals : List Int) : Option (Int) :=
  (iterN (fun x => cmp_Or_int_L0 vals x) 100000 0).bind fun s =>
  s.elim (fun s2 =>
   some 0)
  (fun s3 =>
   some s3)

theorem le_cmp_Or_int (vals : List Int) : LeO (cmp_Or_int_c vals) (cmp_Or_int vals) := by
  unfold cmp_Or_int_c cmp_Or_int
  with_reducible repeat' (first | exact LeO.refl _ | exact LeL.refl _ | refine qB ?_ ?_ | refine qD ?_ (fun _ => ?_) | refine qG ?_ | refine qE (fun _ => ?_) (fun _ => ?_) | refine qI (fun _ => ?_) | refine qO ?_ ?_ | refine qL ?_ ?_ | refine qM (fun _ => ?_) | refine qN ?_ | refine qK (fun _ => ?_) (fun _ => ?_))

noncomputable def nomination_compare_c (a : List UInt8 × List UInt8 × List UInt8 × List UInt8 × Int × Int) (b : List UInt8 × List UInt8 × List UInt8 × List UInt8 × Int × Int) : Option (Int) :=
  (cmp_Compare_int a.2.2.2.2.1 b.2.2.2.2.1).bind fun r =>
  (cmp_Compare_string a.1 b.1).bind fun r2 =>
  (cmp_Compare_string a.2.1 b.2.1).bind fun r3 =>
  (cmp_Compare_string a.2.2.1 b.2.2.1).bind fun r4 =>
  (cmp_Compare_string a.2.2.2.1 b.2.2.2.1).bind fun r5 =>
  (cmp_Or_int_c [r, r2, r3, r4, r5]).bind fun r6 =>
  some r6

theorem le_nomination_compare (a : List UInt8 × List UInt8 × List UInt8 × List UInt8 × Int × Int) (b : List UInt8 × List UInt8 × List UInt8 × List UInt8 × Int × Int) : LeO (nomination_compare_c a b) (nomination_compare a b) := by
  unfold nomination_compare_c nomination_compare
  with_reducible repeat' (first | exact LeO.refl _ | exact LeL.refl _ | refine le_cmp_Or_int _ | refine qB ?_ ?_ | refine qD ?_ (fun _ => ?_) | refine qG ?_ | refine qE (fun _ => ?_) (fun _ => ?_) | refine qI (fun _ => ?_) | refine qO ?_ ?_ | refine qL ?_ ?_ | refine qM (fun _ => ?_) | refine qN ?_ | refine qK (fun _ => ?_) (fun _ => ?_))

noncomputable def nomination_Totals_c (l : List yT0) : Option ((List yT0) × Int) :=
  (nomination_Check_c l).bind fun r =>
  bif !decide (r = 0) then (
   some ([], r))
  else (
   (iterN (fun x => nomination_Totals_L0 l x.1 x.2) 100000 (0, [])).bind fun s =>
   iterKN 1000 (fun x2 => nomination_Totals_L1 x2.1 x2.2) ([], ((([], ([], ([], ([], (0, 0))))), 0) :: s)) fun s2 =>
   s2.elim (fun s3 =>
    (slices_SortFunc_api_Nomination_api_Nomination_c (fun h => (nomination_compare_c h.1 h.2.1).bind fun y => some y) s3).bind fun r2 =>
    some (r2, 0))
   (fun s4 =>
    some (s4.1, s4.2)))

theorem le_nomination_Totals (l : List yT0) : LeO (nomination_Totals_c l) (nomination_Totals l) := by
  unfold nomination_Totals_c nomination_Totals
  with_reducible repeat' (first | exact LeO.refl _ | exact LeL.refl _ | refine le_nomination_Check _ | refine le_slices_SortFunc_api_Nomination_api_Nomination _ _ (fun _ => ?_) _ | refine le_nomination_compare _ _ | refine qB ?_ ?_ | refine qD ?_ (fun _ => ?_) | refine qG ?_ | refine qE (fun _ => ?_) (fun _ => ?_) | refine qI (fun _ => ?_) | refine qO ?_ ?_ | refine qL ?_ ?_ | refine qM (fun _ => ?_) | refine qN ?_ | refine qK (fun _ => ?_) (fun _ => ?_))

noncomputable def network_Port_c (n : List (List UInt8) × List yT1 × List (List UInt8 × Int × Int) × List (List UInt8 × Int × Int × Int × Int) × Int × Int) (name : List UInt8) : Option (Int) :=
  (slices_IndexFunc_api_Port_api_Port_c n.2.2.1 (fun h => (network_Port_1 h.1 name).bind fun y => some y)).bind fun r =>
  some r

theorem le_network_Port (n : List (List UInt8) × List yT1 × List (List UInt8 × Int × Int) × List (List UInt8 × Int × Int × Int × Int) × Int × Int) (name : List UInt8) : LeO (network_Port_c n name) (network_Port n name) := by
  unfold network_Port_c network_Port
  with_reducible repeat' (first | exact LeO.refl _ | exact LeL.refl _ | refine le_slices_IndexFunc_api_Port_api_Port _ _ _ (fun _ => ?_) | refine qB ?_ ?_ | refine qD ?_ (fun _ => ?_) | refine qG ?_ | refine qE (fun _ => ?_) (fun _ => ?_) | refine qI (fun _ => ?_) | refine qO ?_ ?_ | refine qL ?_ ?_ | refine qM (fun _ => ?_) | refine qN ?_ | refine qK (fun _ => ?_) (fun _ => ?_))

noncomputable def lots_rank_c (products : List (List UInt8 × Int × Int × Int × Int)) (order : List (List UInt8)) (index : Int) : Option (Int) :=
  gd (inB index products.length) <|
  (slices_Index_string_string_c order ((products.getD index.toNat ([], (0, (0, (0, 0))))).1)).bind fun r =>
  bif decide (0 ≤ r) then (
   some r)
  else (
   some (wi64 ((order.length : Int) + index)))

theorem le_lots_rank (products : List (List UInt8 × Int × Int × Int × Int)) (order : List (List UInt8)) (index : Int) : LeO (lots_rank_c products order index) (lots_rank products order index) := by
  unfold lots_rank_c lots_rank
  with_reducible repeat' (first | exact LeO.refl _ | exact LeL.refl _ | refine le_slices_Index_string_string _ _ | refine qB ?_ ?_ | refine qD ?_ (fun _ => ?_) | refine qG ?_ | refine qE (fun _ => ?_) (fun _ => ?_) | refine qI (fun _ => ?_) | refine qO ?_ ?_ | refine qL ?_ ?_ | refine qM (fun _ => ?_) | refine qN ?_ | refine qK (fun _ => ?_) (fun _ => ?_))

noncomputable def lots_Batches_L0_c (n : List (List UInt8) × List yT1 × List (List UInt8 × Int × Int) × List (List UInt8 × Int × Int × Int × Int) × Int × Int) (products : List (List UInt8 × Int × Int × Int × Int)) (order : List (List UInt8)) (r4 : (List yT0) × Int) (v : Int) (all : List (yT0 × (Int × List UInt8 × Int × Int) × Int)) : Option ((Int × List (yT0 × (Int × List UInt8 × Int × Int) × Int)) ⊕ ((List (yT0 × (Int × List UInt8 × Int × Int) × Int)) ⊕ ((List (Int × List UInt8 × Int × Int)) × (List (Int × Int × Int)) × Int))) :=
  bif decide (v < (r4.1.length : Int)) then (
   gd (inB v r4.1.length) <|
   (product_Find_c products (((r4.1.getD v.toNat ([], ([], ([], ([], (0, 0)))))).2).1)).bind fun r5 =>
   (network_Port_c (n.1, (n.2.1, (n.2.2.1, (n.2.2.2.1, (n.2.2.2.2.1, n.2.2.2.2.2))))) ((((r4.1.getD v.toNat ([], ([], ([], ([], (0, 0)))))).2).2).1)).bind fun r6 =>
   (network_Port_c (n.1, (n.2.1, (n.2.2.1, (n.2.2.2.1, (n.2.2.2.2.1, n.2.2.2.2.2))))) (((((r4.1.getD v.toNat ([], ([], ([], ([], (0, 0)))))).2).2).2).1)).bind fun r7 =>
   Option.bind (α := Bool × List (yT0 × (Int × List UInt8 × Int × Int) × Int)) (
     bif decide (r5 < 0) then (
      some (true, all))
     else (
      bif decide (r6 < 0) then (
       some (true, all))
      else (
       some (decide (r7 < 0), all)))) fun s =>
   bif s.1 then (
    some (.inr (.inr ([], [], 8))))
   else (
    (lots_rank_c products order r5).bind fun r8 =>
    gd (fits (s.2.length + 1) 128) <|
    some (.inl (wi64 (v + 1), s.2 ++ [(((r4.1.getD v.toNat ([], ([], ([], ([], (0, 0)))))).1, (((r4.1.getD v.toNat ([], ([], ([], ([], (0, 0)))))).2).1, ((((r4.1.getD v.toNat ([], ([], ([], ([], (0, 0)))))).2).2).1, (((((r4.1.getD v.toNat ([], ([], ([], ([], (0, 0)))))).2).2).2).1, ((((((r4.1.getD v.toNat ([], ([], ([], ([], (0, 0)))))).2).2).2).2).1, (((((r4.1.getD v.toNat ([], ([], ([], ([], (0, 0)))))).2).2).2).2).2))))), ((r5, ((r4.1.getD v.toNat ([], ([], ([], ([], (0, 0)))))).1, (r6, r7))), r8))]))))
  else (
   some (.inr (.inl all)))

theorem le_lots_Batches_L0 (n : List (List UInt8) × List yT1 × List (List UInt8 × Int × Int) × List (List UInt8 × Int × Int × Int × Int) × Int × Int) (products : List (List UInt8 × Int × Int × Int × Int)) (order : List (List UInt8)) (r4 : (List yT0) × Int) (v : Int) (all : List (yT0 × (Int × List UInt8 × Int × Int) × Int)) : LeO (lots_Batches_L0_c n products order r4 v all) (lots_Batches_L0 n products order r4 v all) := by
  unfold lots_Batches_L0_c lots_Batches_L0
  with_reducible repeat' (first | exact LeO.refl _ | exact LeL.refl _ | refine le_product_Find _ _ | refine le_lots_rank _ _ _ | refine le_network_Port _ _ | refine qB ?_ ?_ | refine qD ?_ (fun _ => ?_) | refine qG ?_ | refine qE (fun _ => ?_) (fun _ => ?_) | refine qI (fun _ => ?_) | refine qO ?_ ?_ | refine qL ?_ ?_ | refine qM (fun _ => ?_) | refine qN ?_ | refine qK (fun _ => ?_) (fun _ => ?_))

def slices_SortFunc_lots_made_lots_made_c (cmp : (yT0 × (Int × List UInt8 × Int × Int) × Int) × (yT0 × (Int × List UInt8 × Int × Int) × Int) × Unit → Option Int) : List (yT0 × (Int × List UInt8 × Int × Int) × Int) → Option (List (yT0 × (Int × List UInt8 × Int × Int) × Int))
  | [x] => some [x]
  | _ => none
theorem one_slices_SortFunc_lots_made_lots_made (cmp : (yT0 × (Int × List UInt8 × Int × Int) × Int) × (yT0 × (Int × List UInt8 × Int × Int) × Int) × Unit → Option Int) (x : yT0 × (Int × List UInt8 × Int × Int) × Int) : slices_SortFunc_lots_made_lots_made cmp [x] = some [x] := by
  have h0 : ∀ c, slices_insertionSortCmpFunc_lots_made 0 1 c [x] = some [x] := fun c => by
    unfold slices_insertionSortCmpFunc_lots_made
    rw [iter_inr (show slices_insertionSortCmpFunc_lots_made_L0 0 1 c (wi64 (0 + 1)) [x] = some (.inr [x]) by kernel_rfl)]; rfl
  have h1 : math_bits_Len (wu64 (([x].length : Nat) : Int)) = some 1 := by kernel_rfl
  have hF : ∀ n, slices_pdqsortCmpFunc_lots_made_F (n + 1) = slices_pdqsortCmpFunc_lots_made_S (slices_pdqsortCmpFunc_lots_made_F n) := fun _ => rfl
  have hL : ∀ r, slices_pdqsortCmpFunc_lots_made_L0 cmp r 0 1 1 true true [x] = some (.inr [x]) := fun r => by
    unfold slices_pdqsortCmpFunc_lots_made_L0
    rw [show decide (wi64 (1 - 0) ≤ 12) = true by kernel_rfl]
    simp only [cond_true]
    rw [h0]; rfl
  unfold slices_SortFunc_lots_made_lots_made slices_pdqsortCmpFunc_lots_made
  rw [h1, Option.bind_some, show (18446744073709551616 : Nat) = 18446744073709551615 + 1 from rfl, hF]
  unfold slices_pdqsortCmpFunc_lots_made_S
  rw [show (([x].length : Nat) : Int) = 1 from rfl, iter_inr (hL _)]; rfl
theorem le_slices_SortFunc_lots_made_lots_made (cmp cmp' : (yT0 × (Int × List UInt8 × Int × Int) × Int) × (yT0 × (Int × List UInt8 × Int × Int) × Int) × Unit → Option Int) (hcmp : ∀ q, LeO (cmp q) (cmp' q)) (x : List (yT0 × (Int × List UInt8 × Int × Int) × Int)) : LeO (slices_SortFunc_lots_made_lots_made_c cmp x) (slices_SortFunc_lots_made_lots_made cmp' x) := by
  match x with
  | [] => intro v hv; cases hv
  | [a] => intro v hv; rw [← hv]; exact one_slices_SortFunc_lots_made_lots_made cmp' a
  | _ :: _ :: _ => intro v hv; cases hv

noncomputable def lots_Batches_1_c (a : yT0 × (Int × List UInt8 × Int × Int) × Int) (b : yT0 × (Int × List UInt8 × Int × Int) × Int) : Option (Int) :=
  (cmp_Compare_int a.1.2.2.2.2.1 b.1.2.2.2.2.1).bind fun r =>
  (cmp_Compare_int a.2.2 b.2.2).bind fun r2 =>
  (cmp_Compare_string a.1.1 b.1.1).bind fun r3 =>
  (cmp_Compare_string a.1.2.2.1 b.1.2.2.1).bind fun r4 =>
  (cmp_Compare_string a.1.2.2.2.1 b.1.2.2.2.1).bind fun r5 =>
  (cmp_Or_int_c [r, r2, r3, r4, r5]).bind fun r6 =>
  some r6

theorem le_lots_Batches_1 (a : yT0 × (Int × List UInt8 × Int × Int) × Int) (b : yT0 × (Int × List UInt8 × Int × Int) × Int) : LeO (lots_Batches_1_c a b) (lots_Batches_1 a b) := by
  unfold lots_Batches_1_c lots_Batches_1
  with_reducible repeat' (first | exact LeO.refl _ | exact LeL.refl _ | refine le_cmp_Or_int _ | refine qB ?_ ?_ | refine qD ?_ (fun _ => ?_) | refine qG ?_ | refine qE (fun _ => ?_) (fun _ => ?_) | refine qI (fun _ => ?_) | refine qO ?_ ?_ | refine qL ?_ ?_ | refine qM (fun _ => ?_) | refine qN ?_ | refine qK (fun _ => ?_) (fun _ => ?_))

noncomputable def lots_Batches_c (n : List (List UInt8) × List yT1 × List (List UInt8 × Int × Int) × List (List UInt8 × Int × Int × Int × Int) × Int × Int) (products : List (List UInt8 × Int × Int × Int × Int)) (l : List yT0) (order : List (List UInt8)) : Option ((List (Int × List UInt8 × Int × Int)) × (List (Int × Int × Int)) × Int) :=
  (network_Check_c (n.1, (n.2.1, (n.2.2.1, (n.2.2.2.1, (n.2.2.2.2.1, n.2.2.2.2.2)))))).bind fun r =>
  bif !decide (r = 0) then (
   some ([], [], r))
  else (
   (product_Check_c products).bind fun r2 =>
   bif !decide (r2 = 0) then (
    some ([], [], r2))
   else (
    (nomination_Check_c l).bind fun r3 =>
    bif !decide (r3 = 0) then (
     some ([], [], r3))
    else (
     (nomination_Totals_c l).bind fun r4 =>
     bif !decide (r4.2 = 0) then (
      some ([], [], r4.2))
     else (
      bif decide (200 < (r4.1.length : Int)) then (
       some ([], [], 4))
      else (
       (iterN (fun x => lots_Batches_L0_c n products order r4 x.1 x.2) 100000 (0, [])).bind fun s2 =>
       s2.elim (fun s3 =>
        (slices_SortFunc_lots_made_lots_made_c (fun h => (lots_Batches_1_c h.1 h.2.1).bind fun y => some y) s3).bind fun r9 =>
        (iterN (fun x2 => lots_Batches_L1 r9 x2.1 x2.2.1 x2.2.2.1 x2.2.2.2) 100000 (0, [], [], r9)).bind fun s5 =>
        some (s5.1, s5.2, 0))
       (fun s4 =>
        some (s4.1, s4.2.1, s4.2.2)))))))

theorem le_lots_Batches (n : List (List UInt8) × List yT1 × List (List UInt8 × Int × Int) × List (List UInt8 × Int × Int × Int × Int) × Int × Int) (products : List (List UInt8 × Int × Int × Int × Int)) (l : List yT0) (order : List (List UInt8)) : LeO (lots_Batches_c n products l order) (lots_Batches n products l order) := by
  unfold lots_Batches_c lots_Batches
  with_reducible repeat' (first | exact LeO.refl _ | exact LeL.refl _ | refine le_network_Check _ | refine le_nomination_Totals _ | refine le_lots_Batches_1 _ _ | refine le_nomination_Check _ | refine le_slices_SortFunc_lots_made_lots_made _ _ (fun _ => ?_) _ | refine le_lots_Batches_L0 _ _ _ _ _ _ | refine le_product_Check _ | refine qB ?_ ?_ | refine qD ?_ (fun _ => ?_) | refine qG ?_ | refine qE (fun _ => ?_) (fun _ => ?_) | refine qI (fun _ => ?_) | refine qO ?_ ?_ | refine qL ?_ ?_ | refine qM (fun _ => ?_) | refine qN ?_ | refine qK (fun _ => ?_) (fun _ => ?_))

noncomputable def law29_awake_c : Option (Bool) :=
  (lots_Batches_c ([[97], [98]], ([([103], (0, (1, (10, (0, (0, [(0, (0, 1000)), (10, (0, 1000))]))))))], ([([112], (0, 0)), ([113], (1, 0))], ([], (0, 0))))) [([111], (800, (0, (0, 1000))))] [([115], ([111], ([112], ([113], (1, 50))))), ([115], ([111], ([112], ([113], (1, 70)))))] []).bind fun r =>
  bif decide (r.2.2 = 0) then (
   bif decide ((r.1.length : Int) = 1) then (
    bif decide ((r.2.1.length : Int) = 1) then (
     gd (inB 0 r.2.1.length) <|
     bif decide ((r.2.1.getD 0 (0, (0, 0))).1 = 0) && (decide (((r.2.1.getD 0 (0, (0, 0))).2).1 = 120) && decide (((r.2.1.getD 0 (0, (0, 0))).2).2 = 0)) then (
      gd (inB 0 r.1.length) <|
      some (decide ((r.1.getD 0 (0, ([], (0, 0)))).1 = 0) && (decide (((r.1.getD 0 (0, ([], (0, 0)))).2).1 = [115]) && (decide ((((r.1.getD 0 (0, ([], (0, 0)))).2).2).1 = 0) && decide ((((r.1.getD 0 (0, ([], (0, 0)))).2).2).2 = 1)))))
     else (
      some false))
    else (
     some false))
   else (
    some false))
  else (
   some false)

theorem le_law29_awake  : LeO (law29_awake_c) (law29_awake) := by
  unfold law29_awake_c law29_awake
  with_reducible repeat' (first | exact LeO.refl _ | exact LeL.refl _ | refine le_lots_Batches _ _ _ _ | refine qB ?_ ?_ | refine qD ?_ (fun _ => ?_) | refine qG ?_ | refine qE (fun _ => ?_) (fun _ => ?_) | refine qI (fun _ => ?_) | refine qO ?_ ?_ | refine qL ?_ ?_ | refine qM (fun _ => ?_) | refine qN ?_ | refine qK (fun _ => ?_) (fun _ => ?_))

noncomputable def ref03_Name_c (s : List UInt8) : Option (Bool) :=
  Option.bind (α := Bool) (
    bif decide ((s.length : Int) < 1) then (
     some true)
    else (
     bif decide (12 < (s.length : Int)) then (
      some true)
     else (
      gd (inB 0 s.length) <|
      bif decide ((Int.ofNat (s.getD 0 0).toNat) < 97) then (
       some true)
      else (
       gd (inB 0 s.length) <|
       some (decide (122 < (Int.ofNat (s.getD 0 0).toNat))))))) fun s2 =>
  bif s2 then (
   some false)
  else (
   (iterN (fun x => ref03_Name_L0 s x) 100000 0).bind fun s4 =>
   s4.elim (fun s5 =>
    some true)
   (fun s6 =>
    some s6))

theorem le_ref03_Name (s : List UInt8) : LeO (ref03_Name_c s) (ref03_Name s) := by
  unfold ref03_Name_c ref03_Name
  with_reducible repeat' (first | exact LeO.refl _ | exact LeL.refl _ | refine qB ?_ ?_ | refine qD ?_ (fun _ => ?_) | refine qG ?_ | refine qE (fun _ => ?_) (fun _ => ?_) | refine qI (fun _ => ?_) | refine qO ?_ ?_ | refine qL ?_ ?_ | refine qM (fun _ => ?_) | refine qN ?_ | refine qK (fun _ => ?_) (fun _ => ?_))

theorem awake_true : law29_awake = some true := le_law29_awake _ (by kernel_rfl)
end Go.Proofs.YtiojagjejddocaaGreatDoor
