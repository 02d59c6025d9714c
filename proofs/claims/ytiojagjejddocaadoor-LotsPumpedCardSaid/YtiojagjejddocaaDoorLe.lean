/- Twins that compute. No condition. -/
import Derived.Test.YtiojagjejddocaaDoorQv
namespace Go.Proofs.YtiojagjejddocaaDoor
open Go Go.Sq
set_option linter.unusedVariables false
set_option maxHeartbeats 4000000
set_option synthInstance.maxHeartbeats 400000
set_option synthInstance.maxSize 1000
set_option maxRecDepth 100000

instance decSum {α β : Type} [DecidableEq α] [DecidableEq β] : DecidableEq (α ⊕ β)
  | .inl a, .inl b => decidable_of_iff (a = b) ⟨fun h => by rw [h], fun h => by injection h⟩
  | .inr a, .inr b => decidable_of_iff (a = b) ⟨fun h => by rw [h], fun h => by injection h⟩
  | .inl _, .inr _ => isFalse (fun h => by cases h)
  | .inr _, .inl _ => isFalse (fun h => by cases h)

noncomputable def slices_IndexFunc_api_Segment_api_Segment_L0_c (s : List (List UInt8 × Int × Int × Int × Int × Int × List (Int × Int × Int))) (f : (List UInt8 × Int × Int × Int × Int × Int × List (Int × Int × Int)) × Unit → Option Bool) (v : Int) : Option (Int ⊕ (Unit ⊕ Int)) :=
  bif decide (v < (s.length : Int)) then (
   gd (inB v s.length) <|
   (f (s.getD v.toNat ([], (0, (0, (0, (0, (0, [])))))), ())).bind fun r =>
   bif r then (
    some (.inr (.inr v)))
   else (
    some (.inl (wi64 (v + 1)))))
  else (
   some (.inr (.inl ())))

theorem le_slices_IndexFunc_api_Segment_api_Segment_L0 (s : List (List UInt8 × Int × Int × Int × Int × Int × List (Int × Int × Int))) (f f' : (List UInt8 × Int × Int × Int × Int × Int × List (Int × Int × Int)) × Unit → Option Bool) (hf : ∀ q, LeO (f q) (f' q)) (v : Int) : LeO (slices_IndexFunc_api_Segment_api_Segment_L0_c s f v) (slices_IndexFunc_api_Segment_api_Segment_L0 s f' v) := by
  unfold slices_IndexFunc_api_Segment_api_Segment_L0_c slices_IndexFunc_api_Segment_api_Segment_L0
  repeat' (first | with_reducible exact LeO.refl _ | with_reducible exact LeL.refl _ | with_reducible exact hf _ | with_reducible refine LeL.bif ?_ ?_ | with_reducible refine LeL.map (fun _ => ?_) | with_reducible refine LeL.one ?_ | with_reducible refine LeO.iterA (fun _ => ?_) | with_reducible refine LeO.bind ?_ (fun _ => ?_) | with_reducible refine LeO.gd ?_ | with_reducible refine LeO.both ?_ ?_ | with_reducible refine LeO.bif ?_ ?_ | with_reducible refine LeO.elim (fun _ => ?_) (fun _ => ?_) | with_reducible refine LeO.iter (fun _ => ?_))

noncomputable def slices_IndexFunc_api_Segment_api_Segment_c (s : List (List UInt8 × Int × Int × Int × Int × Int × List (Int × Int × Int))) (f : (List UInt8 × Int × Int × Int × Int × Int × List (Int × Int × Int)) × Unit → Option Bool) : Option (Int) :=
  (iterN (fun x => slices_IndexFunc_api_Segment_api_Segment_L0_c s f x) 100000 0).bind fun s2 =>
  s2.elim (fun s3 =>
   some (-1))
  (fun s4 =>
   some s4)

theorem le_slices_IndexFunc_api_Segment_api_Segment (s : List (List UInt8 × Int × Int × Int × Int × Int × List (Int × Int × Int))) (f f' : (List UInt8 × Int × Int × Int × Int × Int × List (Int × Int × Int)) × Unit → Option Bool) (hf : ∀ q, LeO (f q) (f' q)) : LeO (slices_IndexFunc_api_Segment_api_Segment_c s f) (slices_IndexFunc_api_Segment_api_Segment s f') := by
  unfold slices_IndexFunc_api_Segment_api_Segment_c slices_IndexFunc_api_Segment_api_Segment
  repeat' (first | with_reducible exact LeO.refl _ | with_reducible exact LeL.refl _ | with_reducible exact hf _ | with_reducible refine le_slices_IndexFunc_api_Segment_api_Segment_L0 _ _ _ (fun _ => ?_) _ | with_reducible refine LeL.bif ?_ ?_ | with_reducible refine LeL.map (fun _ => ?_) | with_reducible refine LeL.one ?_ | with_reducible refine LeO.iterA (fun _ => ?_) | with_reducible refine LeO.bind ?_ (fun _ => ?_) | with_reducible refine LeO.gd ?_ | with_reducible refine LeO.both ?_ ?_ | with_reducible refine LeO.bif ?_ ?_ | with_reducible refine LeO.elim (fun _ => ?_) (fun _ => ?_) | with_reducible refine LeO.iter (fun _ => ?_))

noncomputable def slices_ContainsFunc_api_Segment_api_Segment_c (s : List (List UInt8 × Int × Int × Int × Int × Int × List (Int × Int × Int))) (f : (List UInt8 × Int × Int × Int × Int × Int × List (Int × Int × Int)) × Unit → Option Bool) : Option (Bool) :=
  (slices_IndexFunc_api_Segment_api_Segment_c s f).bind fun r =>
  some (decide (0 ≤ r))

theorem le_slices_ContainsFunc_api_Segment_api_Segment (s : List (List UInt8 × Int × Int × Int × Int × Int × List (Int × Int × Int))) (f f' : (List UInt8 × Int × Int × Int × Int × Int × List (Int × Int × Int)) × Unit → Option Bool) (hf : ∀ q, LeO (f q) (f' q)) : LeO (slices_ContainsFunc_api_Segment_api_Segment_c s f) (slices_ContainsFunc_api_Segment_api_Segment s f') := by
  unfold slices_ContainsFunc_api_Segment_api_Segment_c slices_ContainsFunc_api_Segment_api_Segment
  repeat' (first | with_reducible exact LeO.refl _ | with_reducible exact LeL.refl _ | with_reducible exact hf _ | with_reducible refine le_slices_IndexFunc_api_Segment_api_Segment _ _ _ (fun _ => ?_) | with_reducible refine LeL.bif ?_ ?_ | with_reducible refine LeL.map (fun _ => ?_) | with_reducible refine LeL.one ?_ | with_reducible refine LeO.iterA (fun _ => ?_) | with_reducible refine LeO.bind ?_ (fun _ => ?_) | with_reducible refine LeO.gd ?_ | with_reducible refine LeO.both ?_ ?_ | with_reducible refine LeO.bif ?_ ?_ | with_reducible refine LeO.elim (fun _ => ?_) (fun _ => ?_) | with_reducible refine LeO.iter (fun _ => ?_))

noncomputable def network_limits_c (n : List (List UInt8) × List (List UInt8 × Int × Int × Int × Int × Int × List (Int × Int × Int)) × List (List UInt8 × Int × Int) × List (List UInt8 × Int × Int × Int × Int) × Int × Int) : Option (Bool) :=
  Option.bind (α := Bool) (
    bif decide ((n.1.length : Int) < 1) then (
     some true)
    else (
     bif decide (24 < (n.1.length : Int)) then (
      some true)
     else (
      bif decide (32 < (n.2.1.length : Int)) then (
       some true)
      else (
       bif decide (24 < (n.2.2.1.length : Int)) then (
        some true)
       else (
        some (decide (12 < (n.2.2.2.1.length : Int)))))))) fun s =>
  bif s then (
   some false)
  else (
   (slices_ContainsFunc_api_Segment_api_Segment_c n.2.1 (fun h => (network_limits_1 h.1).bind fun y => some y)).bind fun r =>
   some (!r))

theorem le_network_limits (n : List (List UInt8) × List (List UInt8 × Int × Int × Int × Int × Int × List (Int × Int × Int)) × List (List UInt8 × Int × Int) × List (List UInt8 × Int × Int × Int × Int) × Int × Int) : LeO (network_limits_c n) (network_limits n) := by
  unfold network_limits_c network_limits
  repeat' (first | with_reducible exact LeO.refl _ | with_reducible exact LeL.refl _ | with_reducible refine le_slices_ContainsFunc_api_Segment_api_Segment _ _ _ (fun _ => ?_) | with_reducible refine LeL.bif ?_ ?_ | with_reducible refine LeL.map (fun _ => ?_) | with_reducible refine LeL.one ?_ | with_reducible refine LeO.iterA (fun _ => ?_) | with_reducible refine LeO.bind ?_ (fun _ => ?_) | with_reducible refine LeO.gd ?_ | with_reducible refine LeO.both ?_ ?_ | with_reducible refine LeO.bif ?_ ?_ | with_reducible refine LeO.elim (fun _ => ?_) (fun _ => ?_) | with_reducible refine LeO.iter (fun _ => ?_))

noncomputable def network_names_c (n : List (List UInt8) × List (List UInt8 × Int × Int × Int × Int × Int × List (Int × Int × Int)) × List (List UInt8 × Int × Int) × List (List UInt8 × Int × Int × Int × Int) × Int × Int) : Option (List (List UInt8) × List (List UInt8) × List (List UInt8) × List (List UInt8)) :=
  (iterN (fun x => network_names_L0 n x.1 x.2) 100000 (0, [])).bind fun s =>
  (iterN (fun x2 => network_names_L1 n x2.1 x2.2.1 x2.2.2) 100000 (0, s, [])).bind fun s2 =>
  (iterN (fun x3 => network_names_L2 n x3.1 x3.2.1 x3.2.2.1 x3.2.2.2) 100000 (0, s2.1, s2.2, [])).bind fun s3 =>
  some (n.1, (s3.1, (s3.2.1, s3.2.2)))

theorem le_network_names (n : List (List UInt8) × List (List UInt8 × Int × Int × Int × Int × Int × List (Int × Int × Int)) × List (List UInt8 × Int × Int) × List (List UInt8 × Int × Int × Int × Int) × Int × Int) : LeO (network_names_c n) (network_names n) := by
  unfold network_names_c network_names
  repeat' (first | with_reducible exact LeO.refl _ | with_reducible exact LeL.refl _ | with_reducible refine LeL.bif ?_ ?_ | with_reducible refine LeL.map (fun _ => ?_) | with_reducible refine LeL.one ?_ | with_reducible refine LeO.iterA (fun _ => ?_) | with_reducible refine LeO.bind ?_ (fun _ => ?_) | with_reducible refine LeO.gd ?_ | with_reducible refine LeO.both ?_ ?_ | with_reducible refine LeO.bif ?_ ?_ | with_reducible refine LeO.elim (fun _ => ?_) (fun _ => ?_) | with_reducible refine LeO.iter (fun _ => ?_))

noncomputable def slices_IndexFunc_string_string_L0_c (s : List (List UInt8)) (f : List UInt8 × Unit → Option Bool) (v : Int) : Option (Int ⊕ (Unit ⊕ Int)) :=
  bif decide (v < (s.length : Int)) then (
   gd (inB v s.length) <|
   (f (s.getD v.toNat [], ())).bind fun r =>
   bif r then (
    some (.inr (.inr v)))
   else (
    some (.inl (wi64 (v + 1)))))
  else (
   some (.inr (.inl ())))

theorem le_slices_IndexFunc_string_string_L0 (s : List (List UInt8)) (f f' : List UInt8 × Unit → Option Bool) (hf : ∀ q, LeO (f q) (f' q)) (v : Int) : LeO (slices_IndexFunc_string_string_L0_c s f v) (slices_IndexFunc_string_string_L0 s f' v) := by
  unfold slices_IndexFunc_string_string_L0_c slices_IndexFunc_string_string_L0
  repeat' (first | with_reducible exact LeO.refl _ | with_reducible exact LeL.refl _ | with_reducible exact hf _ | with_reducible refine LeL.bif ?_ ?_ | with_reducible refine LeL.map (fun _ => ?_) | with_reducible refine LeL.one ?_ | with_reducible refine LeO.iterA (fun _ => ?_) | with_reducible refine LeO.bind ?_ (fun _ => ?_) | with_reducible refine LeO.gd ?_ | with_reducible refine LeO.both ?_ ?_ | with_reducible refine LeO.bif ?_ ?_ | with_reducible refine LeO.elim (fun _ => ?_) (fun _ => ?_) | with_reducible refine LeO.iter (fun _ => ?_))

noncomputable def slices_IndexFunc_string_string_c (s : List (List UInt8)) (f : List UInt8 × Unit → Option Bool) : Option (Int) :=
  (iterN (fun x => slices_IndexFunc_string_string_L0_c s f x) 100000 0).bind fun s2 =>
  s2.elim (fun s3 =>
   some (-1))
  (fun s4 =>
   some s4)

theorem le_slices_IndexFunc_string_string (s : List (List UInt8)) (f f' : List UInt8 × Unit → Option Bool) (hf : ∀ q, LeO (f q) (f' q)) : LeO (slices_IndexFunc_string_string_c s f) (slices_IndexFunc_string_string s f') := by
  unfold slices_IndexFunc_string_string_c slices_IndexFunc_string_string
  repeat' (first | with_reducible exact LeO.refl _ | with_reducible exact LeL.refl _ | with_reducible exact hf _ | with_reducible refine le_slices_IndexFunc_string_string_L0 _ _ _ (fun _ => ?_) _ | with_reducible refine LeL.bif ?_ ?_ | with_reducible refine LeL.map (fun _ => ?_) | with_reducible refine LeL.one ?_ | with_reducible refine LeO.iterA (fun _ => ?_) | with_reducible refine LeO.bind ?_ (fun _ => ?_) | with_reducible refine LeO.gd ?_ | with_reducible refine LeO.both ?_ ?_ | with_reducible refine LeO.bif ?_ ?_ | with_reducible refine LeO.elim (fun _ => ?_) (fun _ => ?_) | with_reducible refine LeO.iter (fun _ => ?_))

noncomputable def slices_ContainsFunc_string_string_c (s : List (List UInt8)) (f : List UInt8 × Unit → Option Bool) : Option (Bool) :=
  (slices_IndexFunc_string_string_c s f).bind fun r =>
  some (decide (0 ≤ r))

theorem le_slices_ContainsFunc_string_string (s : List (List UInt8)) (f f' : List UInt8 × Unit → Option Bool) (hf : ∀ q, LeO (f q) (f' q)) : LeO (slices_ContainsFunc_string_string_c s f) (slices_ContainsFunc_string_string s f') := by
  unfold slices_ContainsFunc_string_string_c slices_ContainsFunc_string_string
  repeat' (first | with_reducible exact LeO.refl _ | with_reducible exact LeL.refl _ | with_reducible exact hf _ | with_reducible refine le_slices_IndexFunc_string_string _ _ _ (fun _ => ?_) | with_reducible refine LeL.bif ?_ ?_ | with_reducible refine LeL.map (fun _ => ?_) | with_reducible refine LeL.one ?_ | with_reducible refine LeO.iterA (fun _ => ?_) | with_reducible refine LeO.bind ?_ (fun _ => ?_) | with_reducible refine LeO.gd ?_ | with_reducible refine LeO.both ?_ ?_ | with_reducible refine LeO.bif ?_ ?_ | with_reducible refine LeO.elim (fun _ => ?_) (fun _ => ?_) | with_reducible refine LeO.iter (fun _ => ?_))

noncomputable def lines_Name_c (s : List UInt8) : Option (Bool) :=
  Option.bind (α := Bool) (
    bif decide ((s.length : Int) < 1) then (
     some true)
    else (
     bif decide (12 < (s.length : Int)) then (
      some true)
     else (
      gd (inB 0 s.length) <|
      (lines_place (Int.ofNat (s.getD 0 0).toNat)).bind fun r =>
      some (!decide (r = 1))))) fun s2 =>
  bif s2 then (
   some false)
  else (
   (iterN (fun x => lines_Name_L0 s x) 100000 0).bind fun s3 =>
   s3.elim (fun s4 =>
    some true)
   (fun s5 =>
    some s5))

theorem le_lines_Name (s : List UInt8) : LeO (lines_Name_c s) (lines_Name s) := by
  unfold lines_Name_c lines_Name
  repeat' (first | with_reducible exact LeO.refl _ | with_reducible exact LeL.refl _ | with_reducible refine LeL.bif ?_ ?_ | with_reducible refine LeL.map (fun _ => ?_) | with_reducible refine LeL.one ?_ | with_reducible refine LeO.iterA (fun _ => ?_) | with_reducible refine LeO.bind ?_ (fun _ => ?_) | with_reducible refine LeO.gd ?_ | with_reducible refine LeO.both ?_ ?_ | with_reducible refine LeO.bif ?_ ?_ | with_reducible refine LeO.elim (fun _ => ?_) (fun _ => ?_) | with_reducible refine LeO.iter (fun _ => ?_))

noncomputable def network_Check_1_c (s : List UInt8) : Option (Bool) :=
  (lines_Name_c s).bind fun r =>
  some (!r)

theorem le_network_Check_1 (s : List UInt8) : LeO (network_Check_1_c s) (network_Check_1 s) := by
  unfold network_Check_1_c network_Check_1
  repeat' (first | with_reducible exact LeO.refl _ | with_reducible exact LeL.refl _ | with_reducible refine le_lines_Name _ | with_reducible refine LeL.bif ?_ ?_ | with_reducible refine LeL.map (fun _ => ?_) | with_reducible refine LeL.one ?_ | with_reducible refine LeO.iterA (fun _ => ?_) | with_reducible refine LeO.bind ?_ (fun _ => ?_) | with_reducible refine LeO.gd ?_ | with_reducible refine LeO.both ?_ ?_ | with_reducible refine LeO.bif ?_ ?_ | with_reducible refine LeO.elim (fun _ => ?_) (fun _ => ?_) | with_reducible refine LeO.iter (fun _ => ?_))

noncomputable def network_Check_L0_c (r2 : List (List UInt8) × List (List UInt8) × List (List UInt8) × List (List UInt8)) (v : Int) : Option (Int ⊕ (Unit ⊕ Int)) :=
  bif decide (v < 4) then (
   gd (inB v 4) <|
   (slices_ContainsFunc_string_string_c ([r2.1, r2.2.1, r2.2.2.1, r2.2.2.2].getD v.toNat []) (fun h => (network_Check_1_c h.1).bind fun y => some y)).bind fun r3 =>
   bif r3 then (
    some (.inr (.inr 3)))
   else (
    some (.inl (wi64 (v + 1)))))
  else (
   some (.inr (.inl ())))

theorem le_network_Check_L0 (r2 : List (List UInt8) × List (List UInt8) × List (List UInt8) × List (List UInt8)) (v : Int) : LeO (network_Check_L0_c r2 v) (network_Check_L0 r2 v) := by
  unfold network_Check_L0_c network_Check_L0
  repeat' (first | with_reducible exact LeO.refl _ | with_reducible exact LeL.refl _ | with_reducible refine le_network_Check_1 _ | with_reducible refine le_slices_ContainsFunc_string_string _ _ _ (fun _ => ?_) | with_reducible refine LeL.bif ?_ ?_ | with_reducible refine LeL.map (fun _ => ?_) | with_reducible refine LeL.one ?_ | with_reducible refine LeO.iterA (fun _ => ?_) | with_reducible refine LeO.bind ?_ (fun _ => ?_) | with_reducible refine LeO.gd ?_ | with_reducible refine LeO.both ?_ ?_ | with_reducible refine LeO.bif ?_ ?_ | with_reducible refine LeO.elim (fun _ => ?_) (fun _ => ?_) | with_reducible refine LeO.iter (fun _ => ?_))

noncomputable def slices_Index_string_string_c (s : List (List UInt8)) (v : List UInt8) : Option (Int) :=
  (iterN (fun x => slices_Index_string_string_L0 s v x) 100000 0).bind fun s2 =>
  s2.elim (fun s3 =>
   some (-1))
  (fun s4 =>
   some s4)

theorem le_slices_Index_string_string (s : List (List UInt8)) (v : List UInt8) : LeO (slices_Index_string_string_c s v) (slices_Index_string_string s v) := by
  unfold slices_Index_string_string_c slices_Index_string_string
  repeat' (first | with_reducible exact LeO.refl _ | with_reducible exact LeL.refl _ | with_reducible refine LeL.bif ?_ ?_ | with_reducible refine LeL.map (fun _ => ?_) | with_reducible refine LeL.one ?_ | with_reducible refine LeO.iterA (fun _ => ?_) | with_reducible refine LeO.bind ?_ (fun _ => ?_) | with_reducible refine LeO.gd ?_ | with_reducible refine LeO.both ?_ ?_ | with_reducible refine LeO.bif ?_ ?_ | with_reducible refine LeO.elim (fun _ => ?_) (fun _ => ?_) | with_reducible refine LeO.iter (fun _ => ?_))

noncomputable def network_twice_L1_c (r : List (List UInt8) × List (List UInt8) × List (List UInt8) × List (List UInt8)) (v : Int) (v2 : Int) : Option (Int ⊕ (Unit ⊕ Bool)) :=
  bif decide (v2 < (([r.1, r.2.1, r.2.2.1, r.2.2.2].getD v.toNat []).length : Int)) then (
   gd (inB v2 ([r.1, r.2.1, r.2.2.1, r.2.2.2].getD v.toNat []).length) <|
   (slices_Index_string_string_c ([r.1, r.2.1, r.2.2.1, r.2.2.2].getD v.toNat []) (([r.1, r.2.1, r.2.2.1, r.2.2.2].getD v.toNat []).getD v2.toNat [])).bind fun r2 =>
   bif decide (r2 < v2) then (
    some (.inr (.inr true)))
   else (
    some (.inl (wi64 (v2 + 1)))))
  else (
   some (.inr (.inl ())))

theorem le_network_twice_L1 (r : List (List UInt8) × List (List UInt8) × List (List UInt8) × List (List UInt8)) (v : Int) (v2 : Int) : LeO (network_twice_L1_c r v v2) (network_twice_L1 r v v2) := by
  unfold network_twice_L1_c network_twice_L1
  repeat' (first | with_reducible exact LeO.refl _ | with_reducible exact LeL.refl _ | with_reducible refine le_slices_Index_string_string _ _ | with_reducible refine LeL.bif ?_ ?_ | with_reducible refine LeL.map (fun _ => ?_) | with_reducible refine LeL.one ?_ | with_reducible refine LeO.iterA (fun _ => ?_) | with_reducible refine LeO.bind ?_ (fun _ => ?_) | with_reducible refine LeO.gd ?_ | with_reducible refine LeO.both ?_ ?_ | with_reducible refine LeO.bif ?_ ?_ | with_reducible refine LeO.elim (fun _ => ?_) (fun _ => ?_) | with_reducible refine LeO.iter (fun _ => ?_))

noncomputable def network_twice_L0_c (r : List (List UInt8) × List (List UInt8) × List (List UInt8) × List (List UInt8)) (v : Int) : Option (Int ⊕ (Unit ⊕ Bool)) :=
  bif decide (v < 4) then (
   gd (inB v 4) <|
   (iterN (fun x => network_twice_L1_c r v x) 100000 0).bind fun s =>
   s.elim (fun s2 =>
    some (.inl (wi64 (v + 1))))
   (fun s3 =>
    some (.inr (.inr s3))))
  else (
   some (.inr (.inl ())))

theorem le_network_twice_L0 (r : List (List UInt8) × List (List UInt8) × List (List UInt8) × List (List UInt8)) (v : Int) : LeO (network_twice_L0_c r v) (network_twice_L0 r v) := by
  unfold network_twice_L0_c network_twice_L0
  repeat' (first | with_reducible exact LeO.refl _ | with_reducible exact LeL.refl _ | with_reducible refine le_network_twice_L1 _ _ _ | with_reducible refine LeL.bif ?_ ?_ | with_reducible refine LeL.map (fun _ => ?_) | with_reducible refine LeL.one ?_ | with_reducible refine LeO.iterA (fun _ => ?_) | with_reducible refine LeO.bind ?_ (fun _ => ?_) | with_reducible refine LeO.gd ?_ | with_reducible refine LeO.both ?_ ?_ | with_reducible refine LeO.bif ?_ ?_ | with_reducible refine LeO.elim (fun _ => ?_) (fun _ => ?_) | with_reducible refine LeO.iter (fun _ => ?_))

noncomputable def slices_IndexFunc_api_Station_api_Station_L0_c (s : List (List UInt8 × Int × Int × Int × Int)) (f : (List UInt8 × Int × Int × Int × Int) × Unit → Option Bool) (v : Int) : Option (Int ⊕ (Unit ⊕ Int)) :=
  bif decide (v < (s.length : Int)) then (
   gd (inB v s.length) <|
   (f (s.getD v.toNat ([], (0, (0, (0, 0)))), ())).bind fun r =>
   bif r then (
    some (.inr (.inr v)))
   else (
    some (.inl (wi64 (v + 1)))))
  else (
   some (.inr (.inl ())))

theorem le_slices_IndexFunc_api_Station_api_Station_L0 (s : List (List UInt8 × Int × Int × Int × Int)) (f f' : (List UInt8 × Int × Int × Int × Int) × Unit → Option Bool) (hf : ∀ q, LeO (f q) (f' q)) (v : Int) : LeO (slices_IndexFunc_api_Station_api_Station_L0_c s f v) (slices_IndexFunc_api_Station_api_Station_L0 s f' v) := by
  unfold slices_IndexFunc_api_Station_api_Station_L0_c slices_IndexFunc_api_Station_api_Station_L0
  repeat' (first | with_reducible exact LeO.refl _ | with_reducible exact LeL.refl _ | with_reducible exact hf _ | with_reducible refine LeL.bif ?_ ?_ | with_reducible refine LeL.map (fun _ => ?_) | with_reducible refine LeL.one ?_ | with_reducible refine LeO.iterA (fun _ => ?_) | with_reducible refine LeO.bind ?_ (fun _ => ?_) | with_reducible refine LeO.gd ?_ | with_reducible refine LeO.both ?_ ?_ | with_reducible refine LeO.bif ?_ ?_ | with_reducible refine LeO.elim (fun _ => ?_) (fun _ => ?_) | with_reducible refine LeO.iter (fun _ => ?_))

noncomputable def slices_IndexFunc_api_Station_api_Station_c (s : List (List UInt8 × Int × Int × Int × Int)) (f : (List UInt8 × Int × Int × Int × Int) × Unit → Option Bool) : Option (Int) :=
  (iterN (fun x => slices_IndexFunc_api_Station_api_Station_L0_c s f x) 100000 0).bind fun s2 =>
  s2.elim (fun s3 =>
   some (-1))
  (fun s4 =>
   some s4)

theorem le_slices_IndexFunc_api_Station_api_Station (s : List (List UInt8 × Int × Int × Int × Int)) (f f' : (List UInt8 × Int × Int × Int × Int) × Unit → Option Bool) (hf : ∀ q, LeO (f q) (f' q)) : LeO (slices_IndexFunc_api_Station_api_Station_c s f) (slices_IndexFunc_api_Station_api_Station s f') := by
  unfold slices_IndexFunc_api_Station_api_Station_c slices_IndexFunc_api_Station_api_Station
  repeat' (first | with_reducible exact LeO.refl _ | with_reducible exact LeL.refl _ | with_reducible exact hf _ | with_reducible refine le_slices_IndexFunc_api_Station_api_Station_L0 _ _ _ (fun _ => ?_) _ | with_reducible refine LeL.bif ?_ ?_ | with_reducible refine LeL.map (fun _ => ?_) | with_reducible refine LeL.one ?_ | with_reducible refine LeO.iterA (fun _ => ?_) | with_reducible refine LeO.bind ?_ (fun _ => ?_) | with_reducible refine LeO.gd ?_ | with_reducible refine LeO.both ?_ ?_ | with_reducible refine LeO.bif ?_ ?_ | with_reducible refine LeO.elim (fun _ => ?_) (fun _ => ?_) | with_reducible refine LeO.iter (fun _ => ?_))

noncomputable def network_twice_L2_c (n : List (List UInt8) × List (List UInt8 × Int × Int × Int × Int × Int × List (Int × Int × Int)) × List (List UInt8 × Int × Int) × List (List UInt8 × Int × Int × Int × Int) × Int × Int) (v3 : Int) : Option (Int ⊕ (Unit ⊕ Bool)) :=
  bif decide (v3 < (n.2.2.2.1.length : Int)) then (
   gd (inB v3 n.2.2.2.1.length) <|
   (slices_IndexFunc_api_Station_api_Station_c n.2.2.2.1 (fun h => (network_twice_1 h.1 ((n.2.2.2.1.getD v3.toNat ([], (0, (0, (0, 0))))).1, (((n.2.2.2.1.getD v3.toNat ([], (0, (0, (0, 0))))).2).1, ((((n.2.2.2.1.getD v3.toNat ([], (0, (0, (0, 0))))).2).2).1, (((((n.2.2.2.1.getD v3.toNat ([], (0, (0, (0, 0))))).2).2).2).1, ((((n.2.2.2.1.getD v3.toNat ([], (0, (0, (0, 0))))).2).2).2).2))))).bind fun y => some y)).bind fun r3 =>
   bif decide (r3 < v3) then (
    some (.inr (.inr true)))
   else (
    some (.inl (wi64 (v3 + 1)))))
  else (
   some (.inr (.inl ())))

theorem le_network_twice_L2 (n : List (List UInt8) × List (List UInt8 × Int × Int × Int × Int × Int × List (Int × Int × Int)) × List (List UInt8 × Int × Int) × List (List UInt8 × Int × Int × Int × Int) × Int × Int) (v3 : Int) : LeO (network_twice_L2_c n v3) (network_twice_L2 n v3) := by
  unfold network_twice_L2_c network_twice_L2
  repeat' (first | with_reducible exact LeO.refl _ | with_reducible exact LeL.refl _ | with_reducible refine le_slices_IndexFunc_api_Station_api_Station _ _ _ (fun _ => ?_) | with_reducible refine LeL.bif ?_ ?_ | with_reducible refine LeL.map (fun _ => ?_) | with_reducible refine LeL.one ?_ | with_reducible refine LeO.iterA (fun _ => ?_) | with_reducible refine LeO.bind ?_ (fun _ => ?_) | with_reducible refine LeO.gd ?_ | with_reducible refine LeO.both ?_ ?_ | with_reducible refine LeO.bif ?_ ?_ | with_reducible refine LeO.elim (fun _ => ?_) (fun _ => ?_) | with_reducible refine LeO.iter (fun _ => ?_))

noncomputable def network_twice_c (n : List (List UInt8) × List (List UInt8 × Int × Int × Int × Int × Int × List (Int × Int × Int)) × List (List UInt8 × Int × Int) × List (List UInt8 × Int × Int × Int × Int) × Int × Int) : Option (Bool) :=
  (network_names_c (n.1, (n.2.1, (n.2.2.1, (n.2.2.2.1, (n.2.2.2.2.1, n.2.2.2.2.2)))))).bind fun r =>
  (iterN (fun x2 => network_twice_L0_c r x2) 100000 0).bind fun s4 =>
  s4.elim (fun s5 =>
   (iterN (fun x3 => network_twice_L2_c n x3) 100000 0).bind fun s7 =>
   s7.elim (fun s8 =>
    some false)
   (fun s9 =>
    some s9))
  (fun s6 =>
   some s6)

theorem le_network_twice (n : List (List UInt8) × List (List UInt8 × Int × Int × Int × Int × Int × List (Int × Int × Int)) × List (List UInt8 × Int × Int) × List (List UInt8 × Int × Int × Int × Int) × Int × Int) : LeO (network_twice_c n) (network_twice n) := by
  unfold network_twice_c network_twice
  repeat' (first | with_reducible exact LeO.refl _ | with_reducible exact LeL.refl _ | with_reducible refine le_network_twice_L0 _ _ | with_reducible refine le_network_names _ | with_reducible refine le_network_twice_L2 _ _ | with_reducible refine LeL.bif ?_ ?_ | with_reducible refine LeL.map (fun _ => ?_) | with_reducible refine LeL.one ?_ | with_reducible refine LeO.iterA (fun _ => ?_) | with_reducible refine LeO.bind ?_ (fun _ => ?_) | with_reducible refine LeO.gd ?_ | with_reducible refine LeO.both ?_ ?_ | with_reducible refine LeO.bif ?_ ?_ | with_reducible refine LeO.elim (fun _ => ?_) (fun _ => ?_) | with_reducible refine LeO.iter (fun _ => ?_))

noncomputable def slices_IndexFunc_int_int_L0_c (s : List Int) (f : Int × Unit → Option Bool) (v : Int) : Option (Int ⊕ (Unit ⊕ Int)) :=
  bif decide (v < (s.length : Int)) then (
   gd (inB v s.length) <|
   (f (s.getD v.toNat 0, ())).bind fun r =>
   bif r then (
    some (.inr (.inr v)))
   else (
    some (.inl (wi64 (v + 1)))))
  else (
   some (.inr (.inl ())))

theorem le_slices_IndexFunc_int_int_L0 (s : List Int) (f f' : Int × Unit → Option Bool) (hf : ∀ q, LeO (f q) (f' q)) (v : Int) : LeO (slices_IndexFunc_int_int_L0_c s f v) (slices_IndexFunc_int_int_L0 s f' v) := by
  unfold slices_IndexFunc_int_int_L0_c slices_IndexFunc_int_int_L0
  repeat' (first | with_reducible exact LeO.refl _ | with_reducible exact LeL.refl _ | with_reducible exact hf _ | with_reducible refine LeL.bif ?_ ?_ | with_reducible refine LeL.map (fun _ => ?_) | with_reducible refine LeL.one ?_ | with_reducible refine LeO.iterA (fun _ => ?_) | with_reducible refine LeO.bind ?_ (fun _ => ?_) | with_reducible refine LeO.gd ?_ | with_reducible refine LeO.both ?_ ?_ | with_reducible refine LeO.bif ?_ ?_ | with_reducible refine LeO.elim (fun _ => ?_) (fun _ => ?_) | with_reducible refine LeO.iter (fun _ => ?_))

noncomputable def slices_IndexFunc_int_int_c (s : List Int) (f : Int × Unit → Option Bool) : Option (Int) :=
  (iterN (fun x => slices_IndexFunc_int_int_L0_c s f x) 100000 0).bind fun s2 =>
  s2.elim (fun s3 =>
   some (-1))
  (fun s4 =>
   some s4)

theorem le_slices_IndexFunc_int_int (s : List Int) (f f' : Int × Unit → Option Bool) (hf : ∀ q, LeO (f q) (f' q)) : LeO (slices_IndexFunc_int_int_c s f) (slices_IndexFunc_int_int s f') := by
  unfold slices_IndexFunc_int_int_c slices_IndexFunc_int_int
  repeat' (first | with_reducible exact LeO.refl _ | with_reducible exact LeL.refl _ | with_reducible exact hf _ | with_reducible refine le_slices_IndexFunc_int_int_L0 _ _ _ (fun _ => ?_) _ | with_reducible refine LeL.bif ?_ ?_ | with_reducible refine LeL.map (fun _ => ?_) | with_reducible refine LeL.one ?_ | with_reducible refine LeO.iterA (fun _ => ?_) | with_reducible refine LeO.bind ?_ (fun _ => ?_) | with_reducible refine LeO.gd ?_ | with_reducible refine LeO.both ?_ ?_ | with_reducible refine LeO.bif ?_ ?_ | with_reducible refine LeO.elim (fun _ => ?_) (fun _ => ?_) | with_reducible refine LeO.iter (fun _ => ?_))

noncomputable def slices_ContainsFunc_int_int_c (s : List Int) (f : Int × Unit → Option Bool) : Option (Bool) :=
  (slices_IndexFunc_int_int_c s f).bind fun r =>
  some (decide (0 ≤ r))

theorem le_slices_ContainsFunc_int_int (s : List Int) (f f' : Int × Unit → Option Bool) (hf : ∀ q, LeO (f q) (f' q)) : LeO (slices_ContainsFunc_int_int_c s f) (slices_ContainsFunc_int_int s f') := by
  unfold slices_ContainsFunc_int_int_c slices_ContainsFunc_int_int
  repeat' (first | with_reducible exact LeO.refl _ | with_reducible exact LeL.refl _ | with_reducible exact hf _ | with_reducible refine le_slices_IndexFunc_int_int _ _ _ (fun _ => ?_) | with_reducible refine LeL.bif ?_ ?_ | with_reducible refine LeL.map (fun _ => ?_) | with_reducible refine LeL.one ?_ | with_reducible refine LeO.iterA (fun _ => ?_) | with_reducible refine LeO.bind ?_ (fun _ => ?_) | with_reducible refine LeO.gd ?_ | with_reducible refine LeO.both ?_ ?_ | with_reducible refine LeO.bif ?_ ?_ | with_reducible refine LeO.elim (fun _ => ?_) (fun _ => ?_) | with_reducible refine LeO.iter (fun _ => ?_))

noncomputable def network_known_c (n : List (List UInt8) × List (List UInt8 × Int × Int × Int × Int × Int × List (Int × Int × Int)) × List (List UInt8 × Int × Int) × List (List UInt8 × Int × Int × Int × Int) × Int × Int) : Option (Bool) :=
  (iterN (fun x => network_known_L0 n x.1 x.2) 100000 (0, [])).bind fun s =>
  (iterN (fun x2 => network_known_L1 n x2.1 x2.2) 100000 (0, s)).bind fun s2 =>
  (iterN (fun x3 => network_known_L2 n x3.1 x3.2) 100000 (0, s2)).bind fun s3 =>
  (slices_ContainsFunc_int_int_c s3 (fun h => (network_known_1 h.1 (n.1, (n.2.1, (n.2.2.1, (n.2.2.2.1, (n.2.2.2.2.1, n.2.2.2.2.2)))))).bind fun y => some y)).bind fun r =>
  some (!r)

theorem le_network_known (n : List (List UInt8) × List (List UInt8 × Int × Int × Int × Int × Int × List (Int × Int × Int)) × List (List UInt8 × Int × Int) × List (List UInt8 × Int × Int × Int × Int) × Int × Int) : LeO (network_known_c n) (network_known n) := by
  unfold network_known_c network_known
  repeat' (first | with_reducible exact LeO.refl _ | with_reducible exact LeL.refl _ | with_reducible refine le_slices_ContainsFunc_int_int _ _ _ (fun _ => ?_) | with_reducible refine LeL.bif ?_ ?_ | with_reducible refine LeL.map (fun _ => ?_) | with_reducible refine LeL.one ?_ | with_reducible refine LeO.iterA (fun _ => ?_) | with_reducible refine LeO.bind ?_ (fun _ => ?_) | with_reducible refine LeO.gd ?_ | with_reducible refine LeO.both ?_ ?_ | with_reducible refine LeO.bif ?_ ?_ | with_reducible refine LeO.elim (fun _ => ?_) (fun _ => ?_) | with_reducible refine LeO.iter (fun _ => ?_))

noncomputable def network_pipe_c (s : List UInt8 × Int × Int × Int × Int × Int × List (Int × Int × Int)) : Option (Bool) :=
  Option.bind (α := Bool) (
    bif decide (s.2.1 = s.2.2.1) then (
     some true)
    else (
     (network_in s.2.2.2.1 1 1000000).bind fun r =>
     bif !r then (
      some true)
     else (
      (network_in s.2.2.2.2.1 0 1000).bind fun r2 =>
      bif !r2 then (
       some true)
      else (
       (network_in s.2.2.2.2.2.1 0 100000).bind fun r3 =>
       some (!r3))))) fun s2 =>
  bif s2 then (
   some false)
  else (
   (iterN (fun x => network_pipe_L0 s x) 100000 0).bind fun s4 =>
   s4.elim (fun s5 =>
    gd (inB 0 s.2.2.2.2.2.2.length) <|
    bif decide ((s.2.2.2.2.2.2.getD 0 (0, (0, 0))).1 = 0) then (
     gd (inB (wi64 ((s.2.2.2.2.2.2.length : Int) - 1)) s.2.2.2.2.2.2.length) <|
     some (decide ((s.2.2.2.2.2.2.getD (wi64 ((s.2.2.2.2.2.2.length : Int) - 1)).toNat (0, (0, 0))).1 = s.2.2.2.1)))
    else (
     some false))
   (fun s6 =>
    some s6))

theorem le_network_pipe (s : List UInt8 × Int × Int × Int × Int × Int × List (Int × Int × Int)) : LeO (network_pipe_c s) (network_pipe s) := by
  unfold network_pipe_c network_pipe
  repeat' (first | with_reducible exact LeO.refl _ | with_reducible exact LeL.refl _ | with_reducible refine LeL.bif ?_ ?_ | with_reducible refine LeL.map (fun _ => ?_) | with_reducible refine LeL.one ?_ | with_reducible refine LeO.iterA (fun _ => ?_) | with_reducible refine LeO.bind ?_ (fun _ => ?_) | with_reducible refine LeO.gd ?_ | with_reducible refine LeO.both ?_ ?_ | with_reducible refine LeO.bif ?_ ?_ | with_reducible refine LeO.elim (fun _ => ?_) (fun _ => ?_) | with_reducible refine LeO.iter (fun _ => ?_))

noncomputable def network_proper_1_c (s : List UInt8 × Int × Int × Int × Int × Int × List (Int × Int × Int)) : Option (Bool) :=
  (network_pipe_c (s.1, (s.2.1, (s.2.2.1, (s.2.2.2.1, (s.2.2.2.2.1, (s.2.2.2.2.2.1, s.2.2.2.2.2.2))))))).bind fun r =>
  some (!r)

theorem le_network_proper_1 (s : List UInt8 × Int × Int × Int × Int × Int × List (Int × Int × Int)) : LeO (network_proper_1_c s) (network_proper_1 s) := by
  unfold network_proper_1_c network_proper_1
  repeat' (first | with_reducible exact LeO.refl _ | with_reducible exact LeL.refl _ | with_reducible refine le_network_pipe _ | with_reducible refine LeL.bif ?_ ?_ | with_reducible refine LeL.map (fun _ => ?_) | with_reducible refine LeL.one ?_ | with_reducible refine LeO.iterA (fun _ => ?_) | with_reducible refine LeO.bind ?_ (fun _ => ?_) | with_reducible refine LeO.gd ?_ | with_reducible refine LeO.both ?_ ?_ | with_reducible refine LeO.bif ?_ ?_ | with_reducible refine LeO.elim (fun _ => ?_) (fun _ => ?_) | with_reducible refine LeO.iter (fun _ => ?_))

noncomputable def slices_IndexFunc_api_Port_api_Port_L0_c (s : List (List UInt8 × Int × Int)) (f : (List UInt8 × Int × Int) × Unit → Option Bool) (v : Int) : Option (Int ⊕ (Unit ⊕ Int)) :=
  bif decide (v < (s.length : Int)) then (
   gd (inB v s.length) <|
   (f (s.getD v.toNat ([], (0, 0)), ())).bind fun r =>
   bif r then (
    some (.inr (.inr v)))
   else (
    some (.inl (wi64 (v + 1)))))
  else (
   some (.inr (.inl ())))

theorem le_slices_IndexFunc_api_Port_api_Port_L0 (s : List (List UInt8 × Int × Int)) (f f' : (List UInt8 × Int × Int) × Unit → Option Bool) (hf : ∀ q, LeO (f q) (f' q)) (v : Int) : LeO (slices_IndexFunc_api_Port_api_Port_L0_c s f v) (slices_IndexFunc_api_Port_api_Port_L0 s f' v) := by
  unfold slices_IndexFunc_api_Port_api_Port_L0_c slices_IndexFunc_api_Port_api_Port_L0
  repeat' (first | with_reducible exact LeO.refl _ | with_reducible exact LeL.refl _ | with_reducible exact hf _ | with_reducible refine LeL.bif ?_ ?_ | with_reducible refine LeL.map (fun _ => ?_) | with_reducible refine LeL.one ?_ | with_reducible refine LeO.iterA (fun _ => ?_) | with_reducible refine LeO.bind ?_ (fun _ => ?_) | with_reducible refine LeO.gd ?_ | with_reducible refine LeO.both ?_ ?_ | with_reducible refine LeO.bif ?_ ?_ | with_reducible refine LeO.elim (fun _ => ?_) (fun _ => ?_) | with_reducible refine LeO.iter (fun _ => ?_))

noncomputable def slices_IndexFunc_api_Port_api_Port_c (s : List (List UInt8 × Int × Int)) (f : (List UInt8 × Int × Int) × Unit → Option Bool) : Option (Int) :=
  (iterN (fun x => slices_IndexFunc_api_Port_api_Port_L0_c s f x) 100000 0).bind fun s2 =>
  s2.elim (fun s3 =>
   some (-1))
  (fun s4 =>
   some s4)

theorem le_slices_IndexFunc_api_Port_api_Port (s : List (List UInt8 × Int × Int)) (f f' : (List UInt8 × Int × Int) × Unit → Option Bool) (hf : ∀ q, LeO (f q) (f' q)) : LeO (slices_IndexFunc_api_Port_api_Port_c s f) (slices_IndexFunc_api_Port_api_Port s f') := by
  unfold slices_IndexFunc_api_Port_api_Port_c slices_IndexFunc_api_Port_api_Port
  repeat' (first | with_reducible exact LeO.refl _ | with_reducible exact LeL.refl _ | with_reducible exact hf _ | with_reducible refine le_slices_IndexFunc_api_Port_api_Port_L0 _ _ _ (fun _ => ?_) _ | with_reducible refine LeL.bif ?_ ?_ | with_reducible refine LeL.map (fun _ => ?_) | with_reducible refine LeL.one ?_ | with_reducible refine LeO.iterA (fun _ => ?_) | with_reducible refine LeO.bind ?_ (fun _ => ?_) | with_reducible refine LeO.gd ?_ | with_reducible refine LeO.both ?_ ?_ | with_reducible refine LeO.bif ?_ ?_ | with_reducible refine LeO.elim (fun _ => ?_) (fun _ => ?_) | with_reducible refine LeO.iter (fun _ => ?_))

noncomputable def slices_ContainsFunc_api_Port_api_Port_c (s : List (List UInt8 × Int × Int)) (f : (List UInt8 × Int × Int) × Unit → Option Bool) : Option (Bool) :=
  (slices_IndexFunc_api_Port_api_Port_c s f).bind fun r =>
  some (decide (0 ≤ r))

theorem le_slices_ContainsFunc_api_Port_api_Port (s : List (List UInt8 × Int × Int)) (f f' : (List UInt8 × Int × Int) × Unit → Option Bool) (hf : ∀ q, LeO (f q) (f' q)) : LeO (slices_ContainsFunc_api_Port_api_Port_c s f) (slices_ContainsFunc_api_Port_api_Port s f') := by
  unfold slices_ContainsFunc_api_Port_api_Port_c slices_ContainsFunc_api_Port_api_Port
  repeat' (first | with_reducible exact LeO.refl _ | with_reducible exact LeL.refl _ | with_reducible exact hf _ | with_reducible refine le_slices_IndexFunc_api_Port_api_Port _ _ _ (fun _ => ?_) | with_reducible refine LeL.bif ?_ ?_ | with_reducible refine LeL.map (fun _ => ?_) | with_reducible refine LeL.one ?_ | with_reducible refine LeO.iterA (fun _ => ?_) | with_reducible refine LeO.bind ?_ (fun _ => ?_) | with_reducible refine LeO.gd ?_ | with_reducible refine LeO.both ?_ ?_ | with_reducible refine LeO.bif ?_ ?_ | with_reducible refine LeO.elim (fun _ => ?_) (fun _ => ?_) | with_reducible refine LeO.iter (fun _ => ?_))

noncomputable def slices_ContainsFunc_api_Station_api_Station_c (s : List (List UInt8 × Int × Int × Int × Int)) (f : (List UInt8 × Int × Int × Int × Int) × Unit → Option Bool) : Option (Bool) :=
  (slices_IndexFunc_api_Station_api_Station_c s f).bind fun r =>
  some (decide (0 ≤ r))

theorem le_slices_ContainsFunc_api_Station_api_Station (s : List (List UInt8 × Int × Int × Int × Int)) (f f' : (List UInt8 × Int × Int × Int × Int) × Unit → Option Bool) (hf : ∀ q, LeO (f q) (f' q)) : LeO (slices_ContainsFunc_api_Station_api_Station_c s f) (slices_ContainsFunc_api_Station_api_Station s f') := by
  unfold slices_ContainsFunc_api_Station_api_Station_c slices_ContainsFunc_api_Station_api_Station
  repeat' (first | with_reducible exact LeO.refl _ | with_reducible exact LeL.refl _ | with_reducible exact hf _ | with_reducible refine le_slices_IndexFunc_api_Station_api_Station _ _ _ (fun _ => ?_) | with_reducible refine LeL.bif ?_ ?_ | with_reducible refine LeL.map (fun _ => ?_) | with_reducible refine LeL.one ?_ | with_reducible refine LeO.iterA (fun _ => ?_) | with_reducible refine LeO.bind ?_ (fun _ => ?_) | with_reducible refine LeO.gd ?_ | with_reducible refine LeO.both ?_ ?_ | with_reducible refine LeO.bif ?_ ?_ | with_reducible refine LeO.elim (fun _ => ?_) (fun _ => ?_) | with_reducible refine LeO.iter (fun _ => ?_))

noncomputable def network_proper_c (n : List (List UInt8) × List (List UInt8 × Int × Int × Int × Int × Int × List (Int × Int × Int)) × List (List UInt8 × Int × Int) × List (List UInt8 × Int × Int × Int × Int) × Int × Int) : Option (Bool) :=
  (slices_ContainsFunc_api_Segment_api_Segment_c n.2.1 (fun h => (network_proper_1_c h.1).bind fun y => some y)).bind fun r =>
  bif r then (
   some false)
  else (
   (slices_ContainsFunc_api_Port_api_Port_c n.2.2.1 (fun h2 => (network_proper_2 h2.1).bind fun y => some y)).bind fun r2 =>
   bif r2 then (
    some false)
   else (
    (slices_ContainsFunc_api_Station_api_Station_c n.2.2.2.1 (fun h3 => (network_proper_3 h3.1).bind fun y => some y)).bind fun r3 =>
    bif r3 then (
     some false)
    else (
     (network_in n.2.2.2.2.1 (-100000) 100000000).bind fun r4 =>
     bif r4 then (
      (network_in n.2.2.2.2.2 0 100).bind fun r5 =>
      some r5)
     else (
      some false))))

theorem le_network_proper (n : List (List UInt8) × List (List UInt8 × Int × Int × Int × Int × Int × List (Int × Int × Int)) × List (List UInt8 × Int × Int) × List (List UInt8 × Int × Int × Int × Int) × Int × Int) : LeO (network_proper_c n) (network_proper n) := by
  unfold network_proper_c network_proper
  repeat' (first | with_reducible exact LeO.refl _ | with_reducible exact LeL.refl _ | with_reducible refine le_slices_ContainsFunc_api_Port_api_Port _ _ _ (fun _ => ?_) | with_reducible refine le_network_proper_1 _ | with_reducible refine le_slices_ContainsFunc_api_Station_api_Station _ _ _ (fun _ => ?_) | with_reducible refine le_slices_ContainsFunc_api_Segment_api_Segment _ _ _ (fun _ => ?_) | with_reducible refine LeL.bif ?_ ?_ | with_reducible refine LeL.map (fun _ => ?_) | with_reducible refine LeL.one ?_ | with_reducible refine LeO.iterA (fun _ => ?_) | with_reducible refine LeO.bind ?_ (fun _ => ?_) | with_reducible refine LeO.gd ?_ | with_reducible refine LeO.both ?_ ?_ | with_reducible refine LeO.bif ?_ ?_ | with_reducible refine LeO.elim (fun _ => ?_) (fun _ => ?_) | with_reducible refine LeO.iter (fun _ => ?_))

noncomputable def network_Check_c (n : List (List UInt8) × List (List UInt8 × Int × Int × Int × Int × Int × List (Int × Int × Int)) × List (List UInt8 × Int × Int) × List (List UInt8 × Int × Int × Int × Int) × Int × Int) : Option (Int) :=
  (network_limits_c (n.1, (n.2.1, (n.2.2.1, (n.2.2.2.1, (n.2.2.2.2.1, n.2.2.2.2.2)))))).bind fun r =>
  bif !r then (
   some 4)
  else (
   (network_names_c (n.1, (n.2.1, (n.2.2.1, (n.2.2.2.1, (n.2.2.2.2.1, n.2.2.2.2.2)))))).bind fun r2 =>
   (iterN (fun x => network_Check_L0_c r2 x) 100000 0).bind fun s =>
   s.elim (fun s2 =>
    (network_twice_c (n.1, (n.2.1, (n.2.2.1, (n.2.2.2.1, (n.2.2.2.2.1, n.2.2.2.2.2)))))).bind fun r4 =>
    bif r4 then (
     some 7)
    else (
     (network_known_c (n.1, (n.2.1, (n.2.2.1, (n.2.2.2.1, (n.2.2.2.2.1, n.2.2.2.2.2)))))).bind fun r5 =>
     bif !r5 then (
      some 8)
     else (
      (network_proper_c (n.1, (n.2.1, (n.2.2.1, (n.2.2.2.1, (n.2.2.2.2.1, n.2.2.2.2.2)))))).bind fun r6 =>
      bif !r6 then (
       some 9)
      else (
       some 0))))
   (fun s3 =>
    some s3))

theorem le_network_Check (n : List (List UInt8) × List (List UInt8 × Int × Int × Int × Int × Int × List (Int × Int × Int)) × List (List UInt8 × Int × Int) × List (List UInt8 × Int × Int × Int × Int) × Int × Int) : LeO (network_Check_c n) (network_Check n) := by
  unfold network_Check_c network_Check
  repeat' (first | with_reducible exact LeO.refl _ | with_reducible exact LeL.refl _ | with_reducible refine le_network_limits _ | with_reducible refine le_network_twice _ | with_reducible refine le_network_names _ | with_reducible refine le_network_proper _ | with_reducible refine le_network_known _ | with_reducible refine le_network_Check_L0 _ _ | with_reducible refine LeL.bif ?_ ?_ | with_reducible refine LeL.map (fun _ => ?_) | with_reducible refine LeL.one ?_ | with_reducible refine LeO.iterA (fun _ => ?_) | with_reducible refine LeO.bind ?_ (fun _ => ?_) | with_reducible refine LeO.gd ?_ | with_reducible refine LeO.both ?_ ?_ | with_reducible refine LeO.bif ?_ ?_ | with_reducible refine LeO.elim (fun _ => ?_) (fun _ => ?_) | with_reducible refine LeO.iter (fun _ => ?_))

noncomputable def product_Valid_c (p : List UInt8 × Int × Int × Int × Int) : Option (Bool) :=
  (product_numbers (p.1, (p.2.1, (p.2.2.1, (p.2.2.2.1, p.2.2.2.2))))).bind fun r =>
  (iterN (fun x => product_Valid_L0 r x) 100000 0).bind fun s2 =>
  s2.elim (fun s3 =>
   (lines_Name_c p.1).bind fun r2 =>
   some r2)
  (fun s4 =>
   some s4)

theorem le_product_Valid (p : List UInt8 × Int × Int × Int × Int) : LeO (product_Valid_c p) (product_Valid p) := by
  unfold product_Valid_c product_Valid
  repeat' (first | with_reducible exact LeO.refl _ | with_reducible exact LeL.refl _ | with_reducible refine le_lines_Name _ | with_reducible refine LeL.bif ?_ ?_ | with_reducible refine LeL.map (fun _ => ?_) | with_reducible refine LeL.one ?_ | with_reducible refine LeO.iterA (fun _ => ?_) | with_reducible refine LeO.bind ?_ (fun _ => ?_) | with_reducible refine LeO.gd ?_ | with_reducible refine LeO.both ?_ ?_ | with_reducible refine LeO.bif ?_ ?_ | with_reducible refine LeO.elim (fun _ => ?_) (fun _ => ?_) | with_reducible refine LeO.iter (fun _ => ?_))

noncomputable def product_Check_L0_c (l : List (List UInt8 × Int × Int × Int × Int)) (v : Int) : Option (Int ⊕ (Unit ⊕ Int)) :=
  bif decide (v < (l.length : Int)) then (
   gd (inB v l.length) <|
   (product_Valid_c ((l.getD v.toNat ([], (0, (0, (0, 0))))).1, (((l.getD v.toNat ([], (0, (0, (0, 0))))).2).1, ((((l.getD v.toNat ([], (0, (0, (0, 0))))).2).2).1, (((((l.getD v.toNat ([], (0, (0, (0, 0))))).2).2).2).1, ((((l.getD v.toNat ([], (0, (0, (0, 0))))).2).2).2).2))))).bind fun r =>
   bif !r then (
    some (.inr (.inr 9)))
   else (
    some (.inl (wi64 (v + 1)))))
  else (
   some (.inr (.inl ())))

theorem le_product_Check_L0 (l : List (List UInt8 × Int × Int × Int × Int)) (v : Int) : LeO (product_Check_L0_c l v) (product_Check_L0 l v) := by
  unfold product_Check_L0_c product_Check_L0
  repeat' (first | with_reducible exact LeO.refl _ | with_reducible exact LeL.refl _ | with_reducible refine le_product_Valid _ | with_reducible refine LeL.bif ?_ ?_ | with_reducible refine LeL.map (fun _ => ?_) | with_reducible refine LeL.one ?_ | with_reducible refine LeO.iterA (fun _ => ?_) | with_reducible refine LeO.bind ?_ (fun _ => ?_) | with_reducible refine LeO.gd ?_ | with_reducible refine LeO.both ?_ ?_ | with_reducible refine LeO.bif ?_ ?_ | with_reducible refine LeO.elim (fun _ => ?_) (fun _ => ?_) | with_reducible refine LeO.iter (fun _ => ?_))

noncomputable def slices_IndexFunc_api_Product_api_Product_L0_c (s : List (List UInt8 × Int × Int × Int × Int)) (f : (List UInt8 × Int × Int × Int × Int) × Unit → Option Bool) (v : Int) : Option (Int ⊕ (Unit ⊕ Int)) :=
  bif decide (v < (s.length : Int)) then (
   gd (inB v s.length) <|
   (f (s.getD v.toNat ([], (0, (0, (0, 0)))), ())).bind fun r =>
   bif r then (
    some (.inr (.inr v)))
   else (
    some (.inl (wi64 (v + 1)))))
  else (
   some (.inr (.inl ())))

theorem le_slices_IndexFunc_api_Product_api_Product_L0 (s : List (List UInt8 × Int × Int × Int × Int)) (f f' : (List UInt8 × Int × Int × Int × Int) × Unit → Option Bool) (hf : ∀ q, LeO (f q) (f' q)) (v : Int) : LeO (slices_IndexFunc_api_Product_api_Product_L0_c s f v) (slices_IndexFunc_api_Product_api_Product_L0 s f' v) := by
  unfold slices_IndexFunc_api_Product_api_Product_L0_c slices_IndexFunc_api_Product_api_Product_L0
  repeat' (first | with_reducible exact LeO.refl _ | with_reducible exact LeL.refl _ | with_reducible exact hf _ | with_reducible refine LeL.bif ?_ ?_ | with_reducible refine LeL.map (fun _ => ?_) | with_reducible refine LeL.one ?_ | with_reducible refine LeO.iterA (fun _ => ?_) | with_reducible refine LeO.bind ?_ (fun _ => ?_) | with_reducible refine LeO.gd ?_ | with_reducible refine LeO.both ?_ ?_ | with_reducible refine LeO.bif ?_ ?_ | with_reducible refine LeO.elim (fun _ => ?_) (fun _ => ?_) | with_reducible refine LeO.iter (fun _ => ?_))

noncomputable def slices_IndexFunc_api_Product_api_Product_c (s : List (List UInt8 × Int × Int × Int × Int)) (f : (List UInt8 × Int × Int × Int × Int) × Unit → Option Bool) : Option (Int) :=
  (iterN (fun x => slices_IndexFunc_api_Product_api_Product_L0_c s f x) 100000 0).bind fun s2 =>
  s2.elim (fun s3 =>
   some (-1))
  (fun s4 =>
   some s4)

theorem le_slices_IndexFunc_api_Product_api_Product (s : List (List UInt8 × Int × Int × Int × Int)) (f f' : (List UInt8 × Int × Int × Int × Int) × Unit → Option Bool) (hf : ∀ q, LeO (f q) (f' q)) : LeO (slices_IndexFunc_api_Product_api_Product_c s f) (slices_IndexFunc_api_Product_api_Product s f') := by
  unfold slices_IndexFunc_api_Product_api_Product_c slices_IndexFunc_api_Product_api_Product
  repeat' (first | with_reducible exact LeO.refl _ | with_reducible exact LeL.refl _ | with_reducible exact hf _ | with_reducible refine le_slices_IndexFunc_api_Product_api_Product_L0 _ _ _ (fun _ => ?_) _ | with_reducible refine LeL.bif ?_ ?_ | with_reducible refine LeL.map (fun _ => ?_) | with_reducible refine LeL.one ?_ | with_reducible refine LeO.iterA (fun _ => ?_) | with_reducible refine LeO.bind ?_ (fun _ => ?_) | with_reducible refine LeO.gd ?_ | with_reducible refine LeO.both ?_ ?_ | with_reducible refine LeO.bif ?_ ?_ | with_reducible refine LeO.elim (fun _ => ?_) (fun _ => ?_) | with_reducible refine LeO.iter (fun _ => ?_))

noncomputable def product_Find_c (l : List (List UInt8 × Int × Int × Int × Int)) (name : List UInt8) : Option (Int) :=
  (slices_IndexFunc_api_Product_api_Product_c l (fun h => (product_Find_1 h.1 name).bind fun y => some y)).bind fun r =>
  some r

theorem le_product_Find (l : List (List UInt8 × Int × Int × Int × Int)) (name : List UInt8) : LeO (product_Find_c l name) (product_Find l name) := by
  unfold product_Find_c product_Find
  repeat' (first | with_reducible exact LeO.refl _ | with_reducible exact LeL.refl _ | with_reducible refine le_slices_IndexFunc_api_Product_api_Product _ _ _ (fun _ => ?_) | with_reducible refine LeL.bif ?_ ?_ | with_reducible refine LeL.map (fun _ => ?_) | with_reducible refine LeL.one ?_ | with_reducible refine LeO.iterA (fun _ => ?_) | with_reducible refine LeO.bind ?_ (fun _ => ?_) | with_reducible refine LeO.gd ?_ | with_reducible refine LeO.both ?_ ?_ | with_reducible refine LeO.bif ?_ ?_ | with_reducible refine LeO.elim (fun _ => ?_) (fun _ => ?_) | with_reducible refine LeO.iter (fun _ => ?_))

noncomputable def product_Check_L1_c (l : List (List UInt8 × Int × Int × Int × Int)) (v2 : Int) : Option (Int ⊕ (Unit ⊕ Int)) :=
  bif decide (v2 < (l.length : Int)) then (
   gd (inB v2 l.length) <|
   (product_Find_c l ((l.getD v2.toNat ([], (0, (0, (0, 0))))).1)).bind fun r2 =>
   bif decide (r2 < v2) then (
    some (.inr (.inr 7)))
   else (
    some (.inl (wi64 (v2 + 1)))))
  else (
   some (.inr (.inl ())))

theorem le_product_Check_L1 (l : List (List UInt8 × Int × Int × Int × Int)) (v2 : Int) : LeO (product_Check_L1_c l v2) (product_Check_L1 l v2) := by
  unfold product_Check_L1_c product_Check_L1
  repeat' (first | with_reducible exact LeO.refl _ | with_reducible exact LeL.refl _ | with_reducible refine le_product_Find _ _ | with_reducible refine LeL.bif ?_ ?_ | with_reducible refine LeL.map (fun _ => ?_) | with_reducible refine LeL.one ?_ | with_reducible refine LeO.iterA (fun _ => ?_) | with_reducible refine LeO.bind ?_ (fun _ => ?_) | with_reducible refine LeO.gd ?_ | with_reducible refine LeO.both ?_ ?_ | with_reducible refine LeO.bif ?_ ?_ | with_reducible refine LeO.elim (fun _ => ?_) (fun _ => ?_) | with_reducible refine LeO.iter (fun _ => ?_))

noncomputable def product_Check_c (l : List (List UInt8 × Int × Int × Int × Int)) : Option (Int) :=
  bif decide (16 < (l.length : Int)) then (
   some 4)
  else (
   (iterN (fun x => product_Check_L0_c l x) 100000 0).bind fun s =>
   s.elim (fun s2 =>
    (iterN (fun x2 => product_Check_L1_c l x2) 100000 0).bind fun s4 =>
    s4.elim (fun s5 =>
     some 0)
    (fun s6 =>
     some s6))
   (fun s3 =>
    some s3))

theorem le_product_Check (l : List (List UInt8 × Int × Int × Int × Int)) : LeO (product_Check_c l) (product_Check l) := by
  unfold product_Check_c product_Check
  repeat' (first | with_reducible exact LeO.refl _ | with_reducible exact LeL.refl _ | with_reducible refine le_product_Check_L0 _ _ | with_reducible refine le_product_Check_L1 _ _ | with_reducible refine LeL.bif ?_ ?_ | with_reducible refine LeL.map (fun _ => ?_) | with_reducible refine LeL.one ?_ | with_reducible refine LeO.iterA (fun _ => ?_) | with_reducible refine LeO.bind ?_ (fun _ => ?_) | with_reducible refine LeO.gd ?_ | with_reducible refine LeO.both ?_ ?_ | with_reducible refine LeO.bif ?_ ?_ | with_reducible refine LeO.elim (fun _ => ?_) (fun _ => ?_) | with_reducible refine LeO.iter (fun _ => ?_))

noncomputable def slices_IndexFunc_api_Nomination_api_Nomination_L0_c (s : List (List UInt8 × List UInt8 × List UInt8 × List UInt8 × Int × Int)) (f : (List UInt8 × List UInt8 × List UInt8 × List UInt8 × Int × Int) × Unit → Option Bool) (v : Int) : Option (Int ⊕ (Unit ⊕ Int)) :=
  bif decide (v < (s.length : Int)) then (
   gd (inB v s.length) <|
   (f (s.getD v.toNat ([], ([], ([], ([], (0, 0))))), ())).bind fun r =>
   bif r then (
    some (.inr (.inr v)))
   else (
    some (.inl (wi64 (v + 1)))))
  else (
   some (.inr (.inl ())))

theorem le_slices_IndexFunc_api_Nomination_api_Nomination_L0 (s : List (List UInt8 × List UInt8 × List UInt8 × List UInt8 × Int × Int)) (f f' : (List UInt8 × List UInt8 × List UInt8 × List UInt8 × Int × Int) × Unit → Option Bool) (hf : ∀ q, LeO (f q) (f' q)) (v : Int) : LeO (slices_IndexFunc_api_Nomination_api_Nomination_L0_c s f v) (slices_IndexFunc_api_Nomination_api_Nomination_L0 s f' v) := by
  unfold slices_IndexFunc_api_Nomination_api_Nomination_L0_c slices_IndexFunc_api_Nomination_api_Nomination_L0
  repeat' (first | with_reducible exact LeO.refl _ | with_reducible exact LeL.refl _ | with_reducible exact hf _ | with_reducible refine LeL.bif ?_ ?_ | with_reducible refine LeL.map (fun _ => ?_) | with_reducible refine LeL.one ?_ | with_reducible refine LeO.iterA (fun _ => ?_) | with_reducible refine LeO.bind ?_ (fun _ => ?_) | with_reducible refine LeO.gd ?_ | with_reducible refine LeO.both ?_ ?_ | with_reducible refine LeO.bif ?_ ?_ | with_reducible refine LeO.elim (fun _ => ?_) (fun _ => ?_) | with_reducible refine LeO.iter (fun _ => ?_))

noncomputable def slices_IndexFunc_api_Nomination_api_Nomination_c (s : List (List UInt8 × List UInt8 × List UInt8 × List UInt8 × Int × Int)) (f : (List UInt8 × List UInt8 × List UInt8 × List UInt8 × Int × Int) × Unit → Option Bool) : Option (Int) :=
  (iterN (fun x => slices_IndexFunc_api_Nomination_api_Nomination_L0_c s f x) 100000 0).bind fun s2 =>
  s2.elim (fun s3 =>
   some (-1))
  (fun s4 =>
   some s4)

theorem le_slices_IndexFunc_api_Nomination_api_Nomination (s : List (List UInt8 × List UInt8 × List UInt8 × List UInt8 × Int × Int)) (f f' : (List UInt8 × List UInt8 × List UInt8 × List UInt8 × Int × Int) × Unit → Option Bool) (hf : ∀ q, LeO (f q) (f' q)) : LeO (slices_IndexFunc_api_Nomination_api_Nomination_c s f) (slices_IndexFunc_api_Nomination_api_Nomination s f') := by
  unfold slices_IndexFunc_api_Nomination_api_Nomination_c slices_IndexFunc_api_Nomination_api_Nomination
  repeat' (first | with_reducible exact LeO.refl _ | with_reducible exact LeL.refl _ | with_reducible exact hf _ | with_reducible refine le_slices_IndexFunc_api_Nomination_api_Nomination_L0 _ _ _ (fun _ => ?_) _ | with_reducible refine LeL.bif ?_ ?_ | with_reducible refine LeL.map (fun _ => ?_) | with_reducible refine LeL.one ?_ | with_reducible refine LeO.iterA (fun _ => ?_) | with_reducible refine LeO.bind ?_ (fun _ => ?_) | with_reducible refine LeO.gd ?_ | with_reducible refine LeO.both ?_ ?_ | with_reducible refine LeO.bif ?_ ?_ | with_reducible refine LeO.elim (fun _ => ?_) (fun _ => ?_) | with_reducible refine LeO.iter (fun _ => ?_))

noncomputable def slices_ContainsFunc_api_Nomination_api_Nomination_c (s : List (List UInt8 × List UInt8 × List UInt8 × List UInt8 × Int × Int)) (f : (List UInt8 × List UInt8 × List UInt8 × List UInt8 × Int × Int) × Unit → Option Bool) : Option (Bool) :=
  (slices_IndexFunc_api_Nomination_api_Nomination_c s f).bind fun r =>
  some (decide (0 ≤ r))

theorem le_slices_ContainsFunc_api_Nomination_api_Nomination (s : List (List UInt8 × List UInt8 × List UInt8 × List UInt8 × Int × Int)) (f f' : (List UInt8 × List UInt8 × List UInt8 × List UInt8 × Int × Int) × Unit → Option Bool) (hf : ∀ q, LeO (f q) (f' q)) : LeO (slices_ContainsFunc_api_Nomination_api_Nomination_c s f) (slices_ContainsFunc_api_Nomination_api_Nomination s f') := by
  unfold slices_ContainsFunc_api_Nomination_api_Nomination_c slices_ContainsFunc_api_Nomination_api_Nomination
  repeat' (first | with_reducible exact LeO.refl _ | with_reducible exact LeL.refl _ | with_reducible exact hf _ | with_reducible refine le_slices_IndexFunc_api_Nomination_api_Nomination _ _ _ (fun _ => ?_) | with_reducible refine LeL.bif ?_ ?_ | with_reducible refine LeL.map (fun _ => ?_) | with_reducible refine LeL.one ?_ | with_reducible refine LeO.iterA (fun _ => ?_) | with_reducible refine LeO.bind ?_ (fun _ => ?_) | with_reducible refine LeO.gd ?_ | with_reducible refine LeO.both ?_ ?_ | with_reducible refine LeO.bif ?_ ?_ | with_reducible refine LeO.elim (fun _ => ?_) (fun _ => ?_) | with_reducible refine LeO.iter (fun _ => ?_))

noncomputable def nomination_valid_L0_c (n : List UInt8 × List UInt8 × List UInt8 × List UInt8 × Int × Int) (v : Int) : Option (Int ⊕ (Unit ⊕ Bool)) :=
  bif decide (v < ([n.1, n.2.1, n.2.2.1, n.2.2.2.1].length : Int)) then (
   gd (inB v [n.1, n.2.1, n.2.2.1, n.2.2.2.1].length) <|
   (lines_Name_c ([n.1, n.2.1, n.2.2.1, n.2.2.2.1].getD v.toNat [])).bind fun r =>
   bif !r then (
    some (.inr (.inr false)))
   else (
    some (.inl (wi64 (v + 1)))))
  else (
   some (.inr (.inl ())))

theorem le_nomination_valid_L0 (n : List UInt8 × List UInt8 × List UInt8 × List UInt8 × Int × Int) (v : Int) : LeO (nomination_valid_L0_c n v) (nomination_valid_L0 n v) := by
  unfold nomination_valid_L0_c nomination_valid_L0
  repeat' (first | with_reducible exact LeO.refl _ | with_reducible exact LeL.refl _ | with_reducible refine le_lines_Name _ | with_reducible refine LeL.bif ?_ ?_ | with_reducible refine LeL.map (fun _ => ?_) | with_reducible refine LeL.one ?_ | with_reducible refine LeO.iterA (fun _ => ?_) | with_reducible refine LeO.bind ?_ (fun _ => ?_) | with_reducible refine LeO.gd ?_ | with_reducible refine LeO.both ?_ ?_ | with_reducible refine LeO.bif ?_ ?_ | with_reducible refine LeO.elim (fun _ => ?_) (fun _ => ?_) | with_reducible refine LeO.iter (fun _ => ?_))

noncomputable def nomination_valid_c (n : List UInt8 × List UInt8 × List UInt8 × List UInt8 × Int × Int) : Option (Bool) :=
  (iterN (fun x => nomination_valid_L0_c n x) 100000 0).bind fun s =>
  s.elim (fun s2 =>
   bif !decide (n.2.2.1 = n.2.2.2.1) then (
    bif decide (0 ≤ n.2.2.2.2.1) then (
     bif decide (n.2.2.2.2.1 ≤ 1000000) then (
      bif decide (1 ≤ n.2.2.2.2.2) then (
       some (decide (n.2.2.2.2.2 ≤ 1099511627776)))
      else (
       some false))
     else (
      some false))
    else (
     some false))
   else (
    some false))
  (fun s3 =>
   some s3)

theorem le_nomination_valid (n : List UInt8 × List UInt8 × List UInt8 × List UInt8 × Int × Int) : LeO (nomination_valid_c n) (nomination_valid n) := by
  unfold nomination_valid_c nomination_valid
  repeat' (first | with_reducible exact LeO.refl _ | with_reducible exact LeL.refl _ | with_reducible refine le_nomination_valid_L0 _ _ | with_reducible refine LeL.bif ?_ ?_ | with_reducible refine LeL.map (fun _ => ?_) | with_reducible refine LeL.one ?_ | with_reducible refine LeO.iterA (fun _ => ?_) | with_reducible refine LeO.bind ?_ (fun _ => ?_) | with_reducible refine LeO.gd ?_ | with_reducible refine LeO.both ?_ ?_ | with_reducible refine LeO.bif ?_ ?_ | with_reducible refine LeO.elim (fun _ => ?_) (fun _ => ?_) | with_reducible refine LeO.iter (fun _ => ?_))

noncomputable def nomination_Check_1_c (n : List UInt8 × List UInt8 × List UInt8 × List UInt8 × Int × Int) : Option (Bool) :=
  (nomination_valid_c (n.1, (n.2.1, (n.2.2.1, (n.2.2.2.1, (n.2.2.2.2.1, n.2.2.2.2.2)))))).bind fun r =>
  some (!r)

theorem le_nomination_Check_1 (n : List UInt8 × List UInt8 × List UInt8 × List UInt8 × Int × Int) : LeO (nomination_Check_1_c n) (nomination_Check_1 n) := by
  unfold nomination_Check_1_c nomination_Check_1
  repeat' (first | with_reducible exact LeO.refl _ | with_reducible exact LeL.refl _ | with_reducible refine le_nomination_valid _ | with_reducible refine LeL.bif ?_ ?_ | with_reducible refine LeL.map (fun _ => ?_) | with_reducible refine LeL.one ?_ | with_reducible refine LeO.iterA (fun _ => ?_) | with_reducible refine LeO.bind ?_ (fun _ => ?_) | with_reducible refine LeO.gd ?_ | with_reducible refine LeO.both ?_ ?_ | with_reducible refine LeO.bif ?_ ?_ | with_reducible refine LeO.elim (fun _ => ?_) (fun _ => ?_) | with_reducible refine LeO.iter (fun _ => ?_))

noncomputable def nomination_Check_c (l : List (List UInt8 × List UInt8 × List UInt8 × List UInt8 × Int × Int)) : Option (Int) :=
  bif decide (400 < (l.length : Int)) then (
   some 4)
  else (
   (slices_ContainsFunc_api_Nomination_api_Nomination_c l (fun h => (nomination_Check_1_c h.1).bind fun y => some y)).bind fun r =>
   bif r then (
    some 9)
   else (
    some 0))

theorem le_nomination_Check (l : List (List UInt8 × List UInt8 × List UInt8 × List UInt8 × Int × Int)) : LeO (nomination_Check_c l) (nomination_Check l) := by
  unfold nomination_Check_c nomination_Check
  repeat' (first | with_reducible exact LeO.refl _ | with_reducible exact LeL.refl _ | with_reducible refine le_slices_ContainsFunc_api_Nomination_api_Nomination _ _ _ (fun _ => ?_) | with_reducible refine le_nomination_Check_1 _ | with_reducible refine LeL.bif ?_ ?_ | with_reducible refine LeL.map (fun _ => ?_) | with_reducible refine LeL.one ?_ | with_reducible refine LeO.iterA (fun _ => ?_) | with_reducible refine LeO.bind ?_ (fun _ => ?_) | with_reducible refine LeO.gd ?_ | with_reducible refine LeO.both ?_ ?_ | with_reducible refine LeO.bif ?_ ?_ | with_reducible refine LeO.elim (fun _ => ?_) (fun _ => ?_) | with_reducible refine LeO.iter (fun _ => ?_))

noncomputable def slices_insertionSortCmpFunc_api_Nomination_L1_c (a : Int) (cmp : (List UInt8 × List UInt8 × List UInt8 × List UInt8 × Int × Int) × (List UInt8 × List UInt8 × List UInt8 × List UInt8 × Int × Int) × Unit → Option Int) (j : Int) (data3 : List (List UInt8 × List UInt8 × List UInt8 × List UInt8 × Int × Int)) : Option ((Int × List (List UInt8 × List UInt8 × List UInt8 × List UInt8 × Int × Int)) ⊕ (List (List UInt8 × List UInt8 × List UInt8 × List UInt8 × Int × Int))) :=
  Option.bind (α := Bool × List (List UInt8 × List UInt8 × List UInt8 × List UInt8 × Int × Int)) (
    bif decide (a < j) then (
     gd (inB j data3.length) <|
     gd (inB (wi64 (j - 1)) data3.length) <|
     (cmp (data3.getD j.toNat ([], ([], ([], ([], (0, 0))))), data3.getD ((wi64 (j - 1)).toNat) ([], ([], ([], ([], (0, 0))))), ())).bind fun r =>
     some (decide (r < 0), data3))
    else (
     some (false, data3))) fun s =>
  bif s.1 then (
   gd (inB (wi64 (j - 1)) s.2.length) <|
   gd (inB j s.2.length) <|
   gd (inB j s.2.length) <|
   gd (inB (wi64 (j - 1)) (s.2.set j.toNat (s.2.getD ((wi64 (j - 1)).toNat) ([], ([], ([], ([], (0, 0))))))).length) <|
   some (.inl (wi64 (j - 1), (s.2.set j.toNat (s.2.getD ((wi64 (j - 1)).toNat) ([], ([], ([], ([], (0, 0))))))).set ((wi64 (j - 1)).toNat) (s.2.getD j.toNat ([], ([], ([], ([], (0, 0)))))))))
  else (
   some (.inr s.2))

theorem le_slices_insertionSortCmpFunc_api_Nomination_L1 (a : Int) (cmp cmp' : (List UInt8 × List UInt8 × List UInt8 × List UInt8 × Int × Int) × (List UInt8 × List UInt8 × List UInt8 × List UInt8 × Int × Int) × Unit → Option Int) (hcmp : ∀ q, LeO (cmp q) (cmp' q)) (j : Int) (data3 : List (List UInt8 × List UInt8 × List UInt8 × List UInt8 × Int × Int)) : LeO (slices_insertionSortCmpFunc_api_Nomination_L1_c a cmp j data3) (slices_insertionSortCmpFunc_api_Nomination_L1 a cmp' j data3) := by
  unfold slices_insertionSortCmpFunc_api_Nomination_L1_c slices_insertionSortCmpFunc_api_Nomination_L1
  repeat' (first | with_reducible exact LeO.refl _ | with_reducible exact LeL.refl _ | with_reducible exact hcmp _ | with_reducible refine LeL.bif ?_ ?_ | with_reducible refine LeL.map (fun _ => ?_) | with_reducible refine LeL.one ?_ | with_reducible refine LeO.iterA (fun _ => ?_) | with_reducible refine LeO.bind ?_ (fun _ => ?_) | with_reducible refine LeO.gd ?_ | with_reducible refine LeO.both ?_ ?_ | with_reducible refine LeO.bif ?_ ?_ | with_reducible refine LeO.elim (fun _ => ?_) (fun _ => ?_) | with_reducible refine LeO.iter (fun _ => ?_))

noncomputable def slices_insertionSortCmpFunc_api_Nomination_L0_c (a : Int) (b : Int) (cmp : (List UInt8 × List UInt8 × List UInt8 × List UInt8 × Int × Int) × (List UInt8 × List UInt8 × List UInt8 × List UInt8 × Int × Int) × Unit → Option Int) (i : Int) (data2 : List (List UInt8 × List UInt8 × List UInt8 × List UInt8 × Int × Int)) : Option ((Int × List (List UInt8 × List UInt8 × List UInt8 × List UInt8 × Int × Int)) ⊕ (List (List UInt8 × List UInt8 × List UInt8 × List UInt8 × Int × Int))) :=
  bif decide (i < b) then (
   (iterN (fun x => slices_insertionSortCmpFunc_api_Nomination_L1_c a cmp x.1 x.2) 100000 (i, data2)).bind fun s2 =>
   some (.inl (wi64 (i + 1), s2)))
  else (
   some (.inr data2))

theorem le_slices_insertionSortCmpFunc_api_Nomination_L0 (a : Int) (b : Int) (cmp cmp' : (List UInt8 × List UInt8 × List UInt8 × List UInt8 × Int × Int) × (List UInt8 × List UInt8 × List UInt8 × List UInt8 × Int × Int) × Unit → Option Int) (hcmp : ∀ q, LeO (cmp q) (cmp' q)) (i : Int) (data2 : List (List UInt8 × List UInt8 × List UInt8 × List UInt8 × Int × Int)) : LeO (slices_insertionSortCmpFunc_api_Nomination_L0_c a b cmp i data2) (slices_insertionSortCmpFunc_api_Nomination_L0 a b cmp' i data2) := by
  unfold slices_insertionSortCmpFunc_api_Nomination_L0_c slices_insertionSortCmpFunc_api_Nomination_L0
  repeat' (first | with_reducible exact LeO.refl _ | with_reducible exact LeL.refl _ | with_reducible exact hcmp _ | with_reducible refine le_slices_insertionSortCmpFunc_api_Nomination_L1 _ _ _ (fun _ => ?_) _ _ | with_reducible refine LeL.bif ?_ ?_ | with_reducible refine LeL.map (fun _ => ?_) | with_reducible refine LeL.one ?_ | with_reducible refine LeO.iterA (fun _ => ?_) | with_reducible refine LeO.bind ?_ (fun _ => ?_) | with_reducible refine LeO.gd ?_ | with_reducible refine LeO.both ?_ ?_ | with_reducible refine LeO.bif ?_ ?_ | with_reducible refine LeO.elim (fun _ => ?_) (fun _ => ?_) | with_reducible refine LeO.iter (fun _ => ?_))

noncomputable def slices_insertionSortCmpFunc_api_Nomination_c (a : Int) (b : Int) (cmp : (List UInt8 × List UInt8 × List UInt8 × List UInt8 × Int × Int) × (List UInt8 × List UInt8 × List UInt8 × List UInt8 × Int × Int) × Unit → Option Int) (data : List (List UInt8 × List UInt8 × List UInt8 × List UInt8 × Int × Int)) : Option (List (List UInt8 × List UInt8 × List UInt8 × List UInt8 × Int × Int)) :=
  (iterN (fun x2 => slices_insertionSortCmpFunc_api_Nomination_L0_c a b cmp x2.1 x2.2) 100000 (wi64 (a + 1), data)).bind fun s3 =>
  some s3

theorem le_slices_insertionSortCmpFunc_api_Nomination (a : Int) (b : Int) (cmp cmp' : (List UInt8 × List UInt8 × List UInt8 × List UInt8 × Int × Int) × (List UInt8 × List UInt8 × List UInt8 × List UInt8 × Int × Int) × Unit → Option Int) (hcmp : ∀ q, LeO (cmp q) (cmp' q)) (data : List (List UInt8 × List UInt8 × List UInt8 × List UInt8 × Int × Int)) : LeO (slices_insertionSortCmpFunc_api_Nomination_c a b cmp data) (slices_insertionSortCmpFunc_api_Nomination a b cmp' data) := by
  unfold slices_insertionSortCmpFunc_api_Nomination_c slices_insertionSortCmpFunc_api_Nomination
  repeat' (first | with_reducible exact LeO.refl _ | with_reducible exact LeL.refl _ | with_reducible exact hcmp _ | with_reducible refine le_slices_insertionSortCmpFunc_api_Nomination_L0 _ _ _ _ (fun _ => ?_) _ _ | with_reducible refine LeL.bif ?_ ?_ | with_reducible refine LeL.map (fun _ => ?_) | with_reducible refine LeL.one ?_ | with_reducible refine LeO.iterA (fun _ => ?_) | with_reducible refine LeO.bind ?_ (fun _ => ?_) | with_reducible refine LeO.gd ?_ | with_reducible refine LeO.both ?_ ?_ | with_reducible refine LeO.bif ?_ ?_ | with_reducible refine LeO.elim (fun _ => ?_) (fun _ => ?_) | with_reducible refine LeO.iter (fun _ => ?_))

noncomputable def slices_siftDownCmpFunc_api_Nomination_L0_c (hi : Int) (first : Int) (cmp : (List UInt8 × List UInt8 × List UInt8 × List UInt8 × Int × Int) × (List UInt8 × List UInt8 × List UInt8 × List UInt8 × Int × Int) × Unit → Option Int) (root : Int) (data2 : List (List UInt8 × List UInt8 × List UInt8 × List UInt8 × Int × Int)) : Option ((Int × List (List UInt8 × List UInt8 × List UInt8 × List UInt8 × Int × Int)) ⊕ ((List (List UInt8 × List UInt8 × List UInt8 × List UInt8 × Int × Int)) ⊕ (List (List UInt8 × List UInt8 × List UInt8 × List UInt8 × Int × Int)))) :=
  bif decide (hi ≤ wi64 ((wi64 (2 * root)) + 1)) then (
   some (.inr (.inl data2)))
  else (
   Option.bind (α := Bool × List (List UInt8 × List UInt8 × List UInt8 × List UInt8 × Int × Int)) (
     bif decide (wi64 ((wi64 ((wi64 (2 * root)) + 1)) + 1) < hi) then (
      gd (inB (wi64 (first + (wi64 ((wi64 (2 * root)) + 1)))) data2.length) <|
      gd (inB (wi64 ((wi64 (first + (wi64 ((wi64 (2 * root)) + 1)))) + 1)) data2.length) <|
      (cmp (data2.getD ((wi64 (first + (wi64 ((wi64 (2 * root)) + 1)))).toNat) ([], ([], ([], ([], (0, 0))))), data2.getD ((wi64 ((wi64 (first + (wi64 ((wi64 (2 * root)) + 1)))) + 1)).toNat) ([], ([], ([], ([], (0, 0))))), ())).bind fun r =>
      some (decide (r < 0), data2))
     else (
      some (false, data2))) fun s =>
   Option.bind (α := Int × List (List UInt8 × List UInt8 × List UInt8 × List UInt8 × Int × Int)) (
     bif s.1 then (
      some (wi64 ((wi64 ((wi64 (2 * root)) + 1)) + 1), s.2))
     else (
      some (wi64 ((wi64 (2 * root)) + 1), s.2))) fun s2 =>
   gd (inB (wi64 (first + root)) s2.2.length) <|
   gd (inB (wi64 (first + s2.1)) s2.2.length) <|
   (cmp (s2.2.getD ((wi64 (first + root)).toNat) ([], ([], ([], ([], (0, 0))))), s2.2.getD ((wi64 (first + s2.1)).toNat) ([], ([], ([], ([], (0, 0))))), ())).bind fun r2 =>
   bif !(decide (r2 < 0)) then (
    some (.inr (.inr s2.2)))
   else (
    gd (inB (wi64 (first + s2.1)) s2.2.length) <|
    gd (inB (wi64 (first + root)) s2.2.length) <|
    gd (inB (wi64 (first + root)) s2.2.length) <|
    gd (inB (wi64 (first + s2.1)) (s2.2.set ((wi64 (first + root)).toNat) (s2.2.getD ((wi64 (first + s2.1)).toNat) ([], ([], ([], ([], (0, 0))))))).length) <|
    some (.inl (s2.1, (s2.2.set ((wi64 (first + root)).toNat) (s2.2.getD ((wi64 (first + s2.1)).toNat) ([], ([], ([], ([], (0, 0))))))).set ((wi64 (first + s2.1)).toNat) (s2.2.getD ((wi64 (first + root)).toNat) ([], ([], ([], ([], (0, 0))))))))))

theorem le_slices_siftDownCmpFunc_api_Nomination_L0 (hi : Int) (first : Int) (cmp cmp' : (List UInt8 × List UInt8 × List UInt8 × List UInt8 × Int × Int) × (List UInt8 × List UInt8 × List UInt8 × List UInt8 × Int × Int) × Unit → Option Int) (hcmp : ∀ q, LeO (cmp q) (cmp' q)) (root : Int) (data2 : List (List UInt8 × List UInt8 × List UInt8 × List UInt8 × Int × Int)) : LeO (slices_siftDownCmpFunc_api_Nomination_L0_c hi first cmp root data2) (slices_siftDownCmpFunc_api_Nomination_L0 hi first cmp' root data2) := by
  unfold slices_siftDownCmpFunc_api_Nomination_L0_c slices_siftDownCmpFunc_api_Nomination_L0
  repeat' (first | with_reducible exact LeO.refl _ | with_reducible exact LeL.refl _ | with_reducible exact hcmp _ | with_reducible refine LeL.bif ?_ ?_ | with_reducible refine LeL.map (fun _ => ?_) | with_reducible refine LeL.one ?_ | with_reducible refine LeO.iterA (fun _ => ?_) | with_reducible refine LeO.bind ?_ (fun _ => ?_) | with_reducible refine LeO.gd ?_ | with_reducible refine LeO.both ?_ ?_ | with_reducible refine LeO.bif ?_ ?_ | with_reducible refine LeO.elim (fun _ => ?_) (fun _ => ?_) | with_reducible refine LeO.iter (fun _ => ?_))

noncomputable def slices_siftDownCmpFunc_api_Nomination_c (lo : Int) (hi : Int) (first : Int) (cmp : (List UInt8 × List UInt8 × List UInt8 × List UInt8 × Int × Int) × (List UInt8 × List UInt8 × List UInt8 × List UInt8 × Int × Int) × Unit → Option Int) (data : List (List UInt8 × List UInt8 × List UInt8 × List UInt8 × Int × Int)) : Option (List (List UInt8 × List UInt8 × List UInt8 × List UInt8 × Int × Int)) :=
  (iterN (fun x => slices_siftDownCmpFunc_api_Nomination_L0_c hi first cmp x.1 x.2) 100000 (lo, data)).bind fun s3 =>
  s3.elim (fun s4 =>
   some s4)
  (fun s5 =>
   some s5)

theorem le_slices_siftDownCmpFunc_api_Nomination (lo : Int) (hi : Int) (first : Int) (cmp cmp' : (List UInt8 × List UInt8 × List UInt8 × List UInt8 × Int × Int) × (List UInt8 × List UInt8 × List UInt8 × List UInt8 × Int × Int) × Unit → Option Int) (hcmp : ∀ q, LeO (cmp q) (cmp' q)) (data : List (List UInt8 × List UInt8 × List UInt8 × List UInt8 × Int × Int)) : LeO (slices_siftDownCmpFunc_api_Nomination_c lo hi first cmp data) (slices_siftDownCmpFunc_api_Nomination lo hi first cmp' data) := by
  unfold slices_siftDownCmpFunc_api_Nomination_c slices_siftDownCmpFunc_api_Nomination
  repeat' (first | with_reducible exact LeO.refl _ | with_reducible exact LeL.refl _ | with_reducible exact hcmp _ | with_reducible refine le_slices_siftDownCmpFunc_api_Nomination_L0 _ _ _ _ (fun _ => ?_) _ _ | with_reducible refine LeL.bif ?_ ?_ | with_reducible refine LeL.map (fun _ => ?_) | with_reducible refine LeL.one ?_ | with_reducible refine LeO.iterA (fun _ => ?_) | with_reducible refine LeO.bind ?_ (fun _ => ?_) | with_reducible refine LeO.gd ?_ | with_reducible refine LeO.both ?_ ?_ | with_reducible refine LeO.bif ?_ ?_ | with_reducible refine LeO.elim (fun _ => ?_) (fun _ => ?_) | with_reducible refine LeO.iter (fun _ => ?_))

noncomputable def slices_heapSortCmpFunc_api_Nomination_L0_c (a : Int) (b : Int) (cmp : (List UInt8 × List UInt8 × List UInt8 × List UInt8 × Int × Int) × (List UInt8 × List UInt8 × List UInt8 × List UInt8 × Int × Int) × Unit → Option Int) (i : Int) (data2 : List (List UInt8 × List UInt8 × List UInt8 × List UInt8 × Int × Int)) : Option ((Int × List (List UInt8 × List UInt8 × List UInt8 × List UInt8 × Int × Int)) ⊕ (List (List UInt8 × List UInt8 × List UInt8 × List UInt8 × Int × Int))) :=
  bif decide (0 ≤ i) then (
   (slices_siftDownCmpFunc_api_Nomination_c i (wi64 (b - a)) a cmp data2).bind fun r =>
   some (.inl (wi64 (i - 1), r)))
  else (
   some (.inr data2))

theorem le_slices_heapSortCmpFunc_api_Nomination_L0 (a : Int) (b : Int) (cmp cmp' : (List UInt8 × List UInt8 × List UInt8 × List UInt8 × Int × Int) × (List UInt8 × List UInt8 × List UInt8 × List UInt8 × Int × Int) × Unit → Option Int) (hcmp : ∀ q, LeO (cmp q) (cmp' q)) (i : Int) (data2 : List (List UInt8 × List UInt8 × List UInt8 × List UInt8 × Int × Int)) : LeO (slices_heapSortCmpFunc_api_Nomination_L0_c a b cmp i data2) (slices_heapSortCmpFunc_api_Nomination_L0 a b cmp' i data2) := by
  unfold slices_heapSortCmpFunc_api_Nomination_L0_c slices_heapSortCmpFunc_api_Nomination_L0
  repeat' (first | with_reducible exact LeO.refl _ | with_reducible exact LeL.refl _ | with_reducible exact hcmp _ | with_reducible refine le_slices_siftDownCmpFunc_api_Nomination _ _ _ _ _ (fun _ => ?_) _ | with_reducible refine LeL.bif ?_ ?_ | with_reducible refine LeL.map (fun _ => ?_) | with_reducible refine LeL.one ?_ | with_reducible refine LeO.iterA (fun _ => ?_) | with_reducible refine LeO.bind ?_ (fun _ => ?_) | with_reducible refine LeO.gd ?_ | with_reducible refine LeO.both ?_ ?_ | with_reducible refine LeO.bif ?_ ?_ | with_reducible refine LeO.elim (fun _ => ?_) (fun _ => ?_) | with_reducible refine LeO.iter (fun _ => ?_))

noncomputable def slices_heapSortCmpFunc_api_Nomination_L1_c (a : Int) (cmp : (List UInt8 × List UInt8 × List UInt8 × List UInt8 × Int × Int) × (List UInt8 × List UInt8 × List UInt8 × List UInt8 × Int × Int) × Unit → Option Int) (i2 : Int) (data3 : List (List UInt8 × List UInt8 × List UInt8 × List UInt8 × Int × Int)) : Option ((Int × List (List UInt8 × List UInt8 × List UInt8 × List UInt8 × Int × Int)) ⊕ (List (List UInt8 × List UInt8 × List UInt8 × List UInt8 × Int × Int))) :=
  bif decide (0 ≤ i2) then (
   gd (inB (wi64 (a + i2)) data3.length) <|
   gd (inB a data3.length) <|
   gd (inB a data3.length) <|
   gd (inB (wi64 (a + i2)) (data3.set a.toNat (data3.getD ((wi64 (a + i2)).toNat) ([], ([], ([], ([], (0, 0))))))).length) <|
   (slices_siftDownCmpFunc_api_Nomination_c 0 i2 a cmp ((data3.set a.toNat (data3.getD ((wi64 (a + i2)).toNat) ([], ([], ([], ([], (0, 0))))))).set ((wi64 (a + i2)).toNat) (data3.getD a.toNat ([], ([], ([], ([], (0, 0)))))))).bind fun r2 =>
   some (.inl (wi64 (i2 - 1), r2)))
  else (
   some (.inr data3))

theorem le_slices_heapSortCmpFunc_api_Nomination_L1 (a : Int) (cmp cmp' : (List UInt8 × List UInt8 × List UInt8 × List UInt8 × Int × Int) × (List UInt8 × List UInt8 × List UInt8 × List UInt8 × Int × Int) × Unit → Option Int) (hcmp : ∀ q, LeO (cmp q) (cmp' q)) (i2 : Int) (data3 : List (List UInt8 × List UInt8 × List UInt8 × List UInt8 × Int × Int)) : LeO (slices_heapSortCmpFunc_api_Nomination_L1_c a cmp i2 data3) (slices_heapSortCmpFunc_api_Nomination_L1 a cmp' i2 data3) := by
  unfold slices_heapSortCmpFunc_api_Nomination_L1_c slices_heapSortCmpFunc_api_Nomination_L1
  repeat' (first | with_reducible exact LeO.refl _ | with_reducible exact LeL.refl _ | with_reducible exact hcmp _ | with_reducible refine le_slices_siftDownCmpFunc_api_Nomination _ _ _ _ _ (fun _ => ?_) _ | with_reducible refine LeL.bif ?_ ?_ | with_reducible refine LeL.map (fun _ => ?_) | with_reducible refine LeL.one ?_ | with_reducible refine LeO.iterA (fun _ => ?_) | with_reducible refine LeO.bind ?_ (fun _ => ?_) | with_reducible refine LeO.gd ?_ | with_reducible refine LeO.both ?_ ?_ | with_reducible refine LeO.bif ?_ ?_ | with_reducible refine LeO.elim (fun _ => ?_) (fun _ => ?_) | with_reducible refine LeO.iter (fun _ => ?_))

noncomputable def slices_heapSortCmpFunc_api_Nomination_c (a : Int) (b : Int) (cmp : (List UInt8 × List UInt8 × List UInt8 × List UInt8 × Int × Int) × (List UInt8 × List UInt8 × List UInt8 × List UInt8 × Int × Int) × Unit → Option Int) (data : List (List UInt8 × List UInt8 × List UInt8 × List UInt8 × Int × Int)) : Option (List (List UInt8 × List UInt8 × List UInt8 × List UInt8 × Int × Int)) :=
  (iterN (fun x => slices_heapSortCmpFunc_api_Nomination_L0_c a b cmp x.1 x.2) 100000 (wi64 (Int.tdiv (wi64 ((wi64 (b - a)) - 1)) 2), data)).bind fun s =>
  (iterN (fun x2 => slices_heapSortCmpFunc_api_Nomination_L1_c a cmp x2.1 x2.2) 100000 (wi64 ((wi64 (b - a)) - 1), s)).bind fun s2 =>
  some s2

theorem le_slices_heapSortCmpFunc_api_Nomination (a : Int) (b : Int) (cmp cmp' : (List UInt8 × List UInt8 × List UInt8 × List UInt8 × Int × Int) × (List UInt8 × List UInt8 × List UInt8 × List UInt8 × Int × Int) × Unit → Option Int) (hcmp : ∀ q, LeO (cmp q) (cmp' q)) (data : List (List UInt8 × List UInt8 × List UInt8 × List UInt8 × Int × Int)) : LeO (slices_heapSortCmpFunc_api_Nomination_c a b cmp data) (slices_heapSortCmpFunc_api_Nomination a b cmp' data) := by
  unfold slices_heapSortCmpFunc_api_Nomination_c slices_heapSortCmpFunc_api_Nomination
  repeat' (first | with_reducible exact LeO.refl _ | with_reducible exact LeL.refl _ | with_reducible exact hcmp _ | with_reducible refine le_slices_heapSortCmpFunc_api_Nomination_L0 _ _ _ _ (fun _ => ?_) _ _ | with_reducible refine le_slices_heapSortCmpFunc_api_Nomination_L1 _ _ _ (fun _ => ?_) _ _ | with_reducible refine LeL.bif ?_ ?_ | with_reducible refine LeL.map (fun _ => ?_) | with_reducible refine LeL.one ?_ | with_reducible refine LeO.iterA (fun _ => ?_) | with_reducible refine LeO.bind ?_ (fun _ => ?_) | with_reducible refine LeO.gd ?_ | with_reducible refine LeO.both ?_ ?_ | with_reducible refine LeO.bif ?_ ?_ | with_reducible refine LeO.elim (fun _ => ?_) (fun _ => ?_) | with_reducible refine LeO.iter (fun _ => ?_))

noncomputable def slices_breakPatternsCmpFunc_api_Nomination_c (a : Int) (b : Int) (cmp : (List UInt8 × List UInt8 × List UInt8 × List UInt8 × Int × Int) × (List UInt8 × List UInt8 × List UInt8 × List UInt8 × Int × Int) × Unit → Option Int) (data : List (List UInt8 × List UInt8 × List UInt8 × List UInt8 × Int × Int)) : Option (List (List UInt8 × List UInt8 × List UInt8 × List UInt8 × Int × Int)) :=
  bif decide (8 ≤ wi64 (b - a)) then (
   (slices_nextPowerOfTwo (wi64 (b - a))).bind fun r =>
   (iterN (fun x => slices_breakPatternsCmpFunc_api_Nomination_L0 a b r x.1 x.2.1 x.2.2) 100000 (wi64 ((wi64 (a + (wi64 ((wi64 (Int.tdiv (wi64 (b - a)) 4)) * 2)))) - 1), wu64 (wi64 (b - a)), data)).bind fun s2 =>
   some s2)
  else (
   some data)

theorem le_slices_breakPatternsCmpFunc_api_Nomination (a : Int) (b : Int) (cmp cmp' : (List UInt8 × List UInt8 × List UInt8 × List UInt8 × Int × Int) × (List UInt8 × List UInt8 × List UInt8 × List UInt8 × Int × Int) × Unit → Option Int) (hcmp : ∀ q, LeO (cmp q) (cmp' q)) (data : List (List UInt8 × List UInt8 × List UInt8 × List UInt8 × Int × Int)) : LeO (slices_breakPatternsCmpFunc_api_Nomination_c a b cmp data) (slices_breakPatternsCmpFunc_api_Nomination a b cmp' data) := by
  unfold slices_breakPatternsCmpFunc_api_Nomination_c slices_breakPatternsCmpFunc_api_Nomination
  repeat' (first | with_reducible exact LeO.refl _ | with_reducible exact LeL.refl _ | with_reducible exact hcmp _ | with_reducible refine LeL.bif ?_ ?_ | with_reducible refine LeL.map (fun _ => ?_) | with_reducible refine LeL.one ?_ | with_reducible refine LeO.iterA (fun _ => ?_) | with_reducible refine LeO.bind ?_ (fun _ => ?_) | with_reducible refine LeO.gd ?_ | with_reducible refine LeO.both ?_ ?_ | with_reducible refine LeO.bif ?_ ?_ | with_reducible refine LeO.elim (fun _ => ?_) (fun _ => ?_) | with_reducible refine LeO.iter (fun _ => ?_))

noncomputable def slices_order2CmpFunc_api_Nomination_c (data : List (List UInt8 × List UInt8 × List UInt8 × List UInt8 × Int × Int)) (a : Int) (b : Int) (cmp : (List UInt8 × List UInt8 × List UInt8 × List UInt8 × Int × Int) × (List UInt8 × List UInt8 × List UInt8 × List UInt8 × Int × Int) × Unit → Option Int) (swaps : Int) : Option (Int × Int × Int) :=
  gd (inB b data.length) <|
  gd (inB a data.length) <|
  (cmp (data.getD b.toNat ([], ([], ([], ([], (0, 0))))), data.getD a.toNat ([], ([], ([], ([], (0, 0))))), ())).bind fun r =>
  bif decide (r < 0) then (
   some (b, a, wi64 (swaps + 1)))
  else (
   some (a, b, swaps))

theorem le_slices_order2CmpFunc_api_Nomination (data : List (List UInt8 × List UInt8 × List UInt8 × List UInt8 × Int × Int)) (a : Int) (b : Int) (cmp cmp' : (List UInt8 × List UInt8 × List UInt8 × List UInt8 × Int × Int) × (List UInt8 × List UInt8 × List UInt8 × List UInt8 × Int × Int) × Unit → Option Int) (hcmp : ∀ q, LeO (cmp q) (cmp' q)) (swaps : Int) : LeO (slices_order2CmpFunc_api_Nomination_c data a b cmp swaps) (slices_order2CmpFunc_api_Nomination data a b cmp' swaps) := by
  unfold slices_order2CmpFunc_api_Nomination_c slices_order2CmpFunc_api_Nomination
  repeat' (first | with_reducible exact LeO.refl _ | with_reducible exact LeL.refl _ | with_reducible exact hcmp _ | with_reducible refine LeL.bif ?_ ?_ | with_reducible refine LeL.map (fun _ => ?_) | with_reducible refine LeL.one ?_ | with_reducible refine LeO.iterA (fun _ => ?_) | with_reducible refine LeO.bind ?_ (fun _ => ?_) | with_reducible refine LeO.gd ?_ | with_reducible refine LeO.both ?_ ?_ | with_reducible refine LeO.bif ?_ ?_ | with_reducible refine LeO.elim (fun _ => ?_) (fun _ => ?_) | with_reducible refine LeO.iter (fun _ => ?_))

noncomputable def slices_medianCmpFunc_api_Nomination_c (data : List (List UInt8 × List UInt8 × List UInt8 × List UInt8 × Int × Int)) (a : Int) (b : Int) (c : Int) (cmp : (List UInt8 × List UInt8 × List UInt8 × List UInt8 × Int × Int) × (List UInt8 × List UInt8 × List UInt8 × List UInt8 × Int × Int) × Unit → Option Int) (swaps : Int) : Option (Int × Int) :=
  (slices_order2CmpFunc_api_Nomination_c data a b cmp swaps).bind fun r =>
  (slices_order2CmpFunc_api_Nomination_c data r.2.1 c cmp r.2.2).bind fun r2 =>
  (slices_order2CmpFunc_api_Nomination_c data r.1 r2.1 cmp r2.2.2).bind fun r3 =>
  some (r3.2.1, r3.2.2)

theorem le_slices_medianCmpFunc_api_Nomination (data : List (List UInt8 × List UInt8 × List UInt8 × List UInt8 × Int × Int)) (a : Int) (b : Int) (c : Int) (cmp cmp' : (List UInt8 × List UInt8 × List UInt8 × List UInt8 × Int × Int) × (List UInt8 × List UInt8 × List UInt8 × List UInt8 × Int × Int) × Unit → Option Int) (hcmp : ∀ q, LeO (cmp q) (cmp' q)) (swaps : Int) : LeO (slices_medianCmpFunc_api_Nomination_c data a b c cmp swaps) (slices_medianCmpFunc_api_Nomination data a b c cmp' swaps) := by
  unfold slices_medianCmpFunc_api_Nomination_c slices_medianCmpFunc_api_Nomination
  repeat' (first | with_reducible exact LeO.refl _ | with_reducible exact LeL.refl _ | with_reducible exact hcmp _ | with_reducible refine le_slices_order2CmpFunc_api_Nomination _ _ _ _ _ (fun _ => ?_) _ | with_reducible refine LeL.bif ?_ ?_ | with_reducible refine LeL.map (fun _ => ?_) | with_reducible refine LeL.one ?_ | with_reducible refine LeO.iterA (fun _ => ?_) | with_reducible refine LeO.bind ?_ (fun _ => ?_) | with_reducible refine LeO.gd ?_ | with_reducible refine LeO.both ?_ ?_ | with_reducible refine LeO.bif ?_ ?_ | with_reducible refine LeO.elim (fun _ => ?_) (fun _ => ?_) | with_reducible refine LeO.iter (fun _ => ?_))

noncomputable def slices_medianAdjacentCmpFunc_api_Nomination_c (data : List (List UInt8 × List UInt8 × List UInt8 × List UInt8 × Int × Int)) (a : Int) (cmp : (List UInt8 × List UInt8 × List UInt8 × List UInt8 × Int × Int) × (List UInt8 × List UInt8 × List UInt8 × List UInt8 × Int × Int) × Unit → Option Int) (swaps : Int) : Option (Int × Int) :=
  (slices_medianCmpFunc_api_Nomination_c data (wi64 (a - 1)) a (wi64 (a + 1)) cmp swaps).bind fun r =>
  some (r.1, r.2)

theorem le_slices_medianAdjacentCmpFunc_api_Nomination (data : List (List UInt8 × List UInt8 × List UInt8 × List UInt8 × Int × Int)) (a : Int) (cmp cmp' : (List UInt8 × List UInt8 × List UInt8 × List UInt8 × Int × Int) × (List UInt8 × List UInt8 × List UInt8 × List UInt8 × Int × Int) × Unit → Option Int) (hcmp : ∀ q, LeO (cmp q) (cmp' q)) (swaps : Int) : LeO (slices_medianAdjacentCmpFunc_api_Nomination_c data a cmp swaps) (slices_medianAdjacentCmpFunc_api_Nomination data a cmp' swaps) := by
  unfold slices_medianAdjacentCmpFunc_api_Nomination_c slices_medianAdjacentCmpFunc_api_Nomination
  repeat' (first | with_reducible exact LeO.refl _ | with_reducible exact LeL.refl _ | with_reducible exact hcmp _ | with_reducible refine le_slices_medianCmpFunc_api_Nomination _ _ _ _ _ _ (fun _ => ?_) _ | with_reducible refine LeL.bif ?_ ?_ | with_reducible refine LeL.map (fun _ => ?_) | with_reducible refine LeL.one ?_ | with_reducible refine LeO.iterA (fun _ => ?_) | with_reducible refine LeO.bind ?_ (fun _ => ?_) | with_reducible refine LeO.gd ?_ | with_reducible refine LeO.both ?_ ?_ | with_reducible refine LeO.bif ?_ ?_ | with_reducible refine LeO.elim (fun _ => ?_) (fun _ => ?_) | with_reducible refine LeO.iter (fun _ => ?_))

noncomputable def slices_choosePivotCmpFunc_api_Nomination_c (data : List (List UInt8 × List UInt8 × List UInt8 × List UInt8 × Int × Int)) (a : Int) (b : Int) (cmp : (List UInt8 × List UInt8 × List UInt8 × List UInt8 × Int × Int) × (List UInt8 × List UInt8 × List UInt8 × List UInt8 × Int × Int) × Unit → Option Int) : Option (Int × Int) :=
  Option.bind (α := Int × Int) (
    bif decide (8 ≤ wi64 (b - a)) then (
     Option.bind (α := Int × Int × Int × Int) (
       bif decide (50 ≤ wi64 (b - a)) then (
        (slices_medianAdjacentCmpFunc_api_Nomination_c data (wi64 (a + (wi64 ((wi64 (Int.tdiv (wi64 (b - a)) 4)) * 1)))) cmp 0).bind fun r =>
        (slices_medianAdjacentCmpFunc_api_Nomination_c data (wi64 (a + (wi64 ((wi64 (Int.tdiv (wi64 (b - a)) 4)) * 2)))) cmp r.2).bind fun r2 =>
        (slices_medianAdjacentCmpFunc_api_Nomination_c data (wi64 (a + (wi64 ((wi64 (Int.tdiv (wi64 (b - a)) 4)) * 3)))) cmp r2.2).bind fun r3 =>
        some (r.1, r2.1, r3.1, r3.2))
       else (
        some (wi64 (a + (wi64 ((wi64 (Int.tdiv (wi64 (b - a)) 4)) * 1))), wi64 (a + (wi64 ((wi64 (Int.tdiv (wi64 (b - a)) 4)) * 2))), wi64 (a + (wi64 ((wi64 (Int.tdiv (wi64 (b - a)) 4)) * 3))), 0))) fun s =>
     (slices_medianCmpFunc_api_Nomination_c data s.1 s.2.1 s.2.2.1 cmp s.2.2.2).bind fun r4 =>
     some (r4.1, r4.2))
    else (
     some (wi64 (a + (wi64 ((wi64 (Int.tdiv (wi64 (b - a)) 4)) * 2))), 0))) fun s2 =>
  bif decide (s2.2 = 0) then (
   some (s2.1, 1))
  else (
   bif decide (s2.2 = 12) then (
    some (s2.1, 2))
   else (
    some (s2.1, 0)))

theorem le_slices_choosePivotCmpFunc_api_Nomination (data : List (List UInt8 × List UInt8 × List UInt8 × List UInt8 × Int × Int)) (a : Int) (b : Int) (cmp cmp' : (List UInt8 × List UInt8 × List UInt8 × List UInt8 × Int × Int) × (List UInt8 × List UInt8 × List UInt8 × List UInt8 × Int × Int) × Unit → Option Int) (hcmp : ∀ q, LeO (cmp q) (cmp' q)) : LeO (slices_choosePivotCmpFunc_api_Nomination_c data a b cmp) (slices_choosePivotCmpFunc_api_Nomination data a b cmp') := by
  unfold slices_choosePivotCmpFunc_api_Nomination_c slices_choosePivotCmpFunc_api_Nomination
  repeat' (first | with_reducible exact LeO.refl _ | with_reducible exact LeL.refl _ | with_reducible exact hcmp _ | with_reducible refine le_slices_medianCmpFunc_api_Nomination _ _ _ _ _ _ (fun _ => ?_) _ | with_reducible refine le_slices_medianAdjacentCmpFunc_api_Nomination _ _ _ _ (fun _ => ?_) _ | with_reducible refine LeL.bif ?_ ?_ | with_reducible refine LeL.map (fun _ => ?_) | with_reducible refine LeL.one ?_ | with_reducible refine LeO.iterA (fun _ => ?_) | with_reducible refine LeO.bind ?_ (fun _ => ?_) | with_reducible refine LeO.gd ?_ | with_reducible refine LeO.both ?_ ?_ | with_reducible refine LeO.bif ?_ ?_ | with_reducible refine LeO.elim (fun _ => ?_) (fun _ => ?_) | with_reducible refine LeO.iter (fun _ => ?_))

noncomputable def slices_reverseRangeCmpFunc_api_Nomination_c (a : Int) (b : Int) (cmp : (List UInt8 × List UInt8 × List UInt8 × List UInt8 × Int × Int) × (List UInt8 × List UInt8 × List UInt8 × List UInt8 × Int × Int) × Unit → Option Int) (data : List (List UInt8 × List UInt8 × List UInt8 × List UInt8 × Int × Int)) : Option (List (List UInt8 × List UInt8 × List UInt8 × List UInt8 × Int × Int)) :=
  (iterN (fun x => slices_reverseRangeCmpFunc_api_Nomination_L0 x.1 x.2.1 x.2.2) 100000 (a, wi64 (b - 1), data)).bind fun s =>
  some s

theorem le_slices_reverseRangeCmpFunc_api_Nomination (a : Int) (b : Int) (cmp cmp' : (List UInt8 × List UInt8 × List UInt8 × List UInt8 × Int × Int) × (List UInt8 × List UInt8 × List UInt8 × List UInt8 × Int × Int) × Unit → Option Int) (hcmp : ∀ q, LeO (cmp q) (cmp' q)) (data : List (List UInt8 × List UInt8 × List UInt8 × List UInt8 × Int × Int)) : LeO (slices_reverseRangeCmpFunc_api_Nomination_c a b cmp data) (slices_reverseRangeCmpFunc_api_Nomination a b cmp' data) := by
  unfold slices_reverseRangeCmpFunc_api_Nomination_c slices_reverseRangeCmpFunc_api_Nomination
  repeat' (first | with_reducible exact LeO.refl _ | with_reducible exact LeL.refl _ | with_reducible exact hcmp _ | with_reducible refine LeL.bif ?_ ?_ | with_reducible refine LeL.map (fun _ => ?_) | with_reducible refine LeL.one ?_ | with_reducible refine LeO.iterA (fun _ => ?_) | with_reducible refine LeO.bind ?_ (fun _ => ?_) | with_reducible refine LeO.gd ?_ | with_reducible refine LeO.both ?_ ?_ | with_reducible refine LeO.bif ?_ ?_ | with_reducible refine LeO.elim (fun _ => ?_) (fun _ => ?_) | with_reducible refine LeO.iter (fun _ => ?_))

noncomputable def slices_partialInsertionSortCmpFunc_api_Nomination_L1_c (b : Int) (cmp : (List UInt8 × List UInt8 × List UInt8 × List UInt8 × Int × Int) × (List UInt8 × List UInt8 × List UInt8 × List UInt8 × Int × Int) × Unit → Option Int) (i2 : Int) (data3 : List (List UInt8 × List UInt8 × List UInt8 × List UInt8 × Int × Int)) : Option ((Int × List (List UInt8 × List UInt8 × List UInt8 × List UInt8 × Int × Int)) ⊕ (Int × List (List UInt8 × List UInt8 × List UInt8 × List UInt8 × Int × Int))) :=
  Option.bind (α := Bool × List (List UInt8 × List UInt8 × List UInt8 × List UInt8 × Int × Int)) (
    bif decide (i2 < b) then (
     gd (inB i2 data3.length) <|
     gd (inB (wi64 (i2 - 1)) data3.length) <|
     (cmp (data3.getD i2.toNat ([], ([], ([], ([], (0, 0))))), data3.getD ((wi64 (i2 - 1)).toNat) ([], ([], ([], ([], (0, 0))))), ())).bind fun r =>
     some ((!(decide (r < 0))), data3))
    else (
     some (false, data3))) fun s =>
  bif s.1 then (
   some (.inl (wi64 (i2 + 1), s.2)))
  else (
   some (.inr (i2, s.2)))

theorem le_slices_partialInsertionSortCmpFunc_api_Nomination_L1 (b : Int) (cmp cmp' : (List UInt8 × List UInt8 × List UInt8 × List UInt8 × Int × Int) × (List UInt8 × List UInt8 × List UInt8 × List UInt8 × Int × Int) × Unit → Option Int) (hcmp : ∀ q, LeO (cmp q) (cmp' q)) (i2 : Int) (data3 : List (List UInt8 × List UInt8 × List UInt8 × List UInt8 × Int × Int)) : LeO (slices_partialInsertionSortCmpFunc_api_Nomination_L1_c b cmp i2 data3) (slices_partialInsertionSortCmpFunc_api_Nomination_L1 b cmp' i2 data3) := by
  unfold slices_partialInsertionSortCmpFunc_api_Nomination_L1_c slices_partialInsertionSortCmpFunc_api_Nomination_L1
  repeat' (first | with_reducible exact LeO.refl _ | with_reducible exact LeL.refl _ | with_reducible exact hcmp _ | with_reducible refine LeL.bif ?_ ?_ | with_reducible refine LeL.map (fun _ => ?_) | with_reducible refine LeL.one ?_ | with_reducible refine LeO.iterA (fun _ => ?_) | with_reducible refine LeO.bind ?_ (fun _ => ?_) | with_reducible refine LeO.gd ?_ | with_reducible refine LeO.both ?_ ?_ | with_reducible refine LeO.bif ?_ ?_ | with_reducible refine LeO.elim (fun _ => ?_) (fun _ => ?_) | with_reducible refine LeO.iter (fun _ => ?_))

noncomputable def slices_partialInsertionSortCmpFunc_api_Nomination_L2_c (cmp : (List UInt8 × List UInt8 × List UInt8 × List UInt8 × Int × Int) × (List UInt8 × List UInt8 × List UInt8 × List UInt8 × Int × Int) × Unit → Option Int) (j2 : Int) (data4 : List (List UInt8 × List UInt8 × List UInt8 × List UInt8 × Int × Int)) : Option ((Int × List (List UInt8 × List UInt8 × List UInt8 × List UInt8 × Int × Int)) ⊕ (List (List UInt8 × List UInt8 × List UInt8 × List UInt8 × Int × Int))) :=
  bif decide (1 ≤ j2) then (
   gd (inB j2 data4.length) <|
   gd (inB (wi64 (j2 - 1)) data4.length) <|
   (cmp (data4.getD j2.toNat ([], ([], ([], ([], (0, 0))))), data4.getD ((wi64 (j2 - 1)).toNat) ([], ([], ([], ([], (0, 0))))), ())).bind fun r2 =>
   bif !(decide (r2 < 0)) then (
    some (.inr data4))
   else (
    gd (inB (wi64 (j2 - 1)) data4.length) <|
    gd (inB j2 data4.length) <|
    gd (inB j2 data4.length) <|
    gd (inB (wi64 (j2 - 1)) (data4.set j2.toNat (data4.getD ((wi64 (j2 - 1)).toNat) ([], ([], ([], ([], (0, 0))))))).length) <|
    some (.inl (wi64 (j2 - 1), (data4.set j2.toNat (data4.getD ((wi64 (j2 - 1)).toNat) ([], ([], ([], ([], (0, 0))))))).set ((wi64 (j2 - 1)).toNat) (data4.getD j2.toNat ([], ([], ([], ([], (0, 0))))))))))
  else (
   some (.inr data4))

theorem le_slices_partialInsertionSortCmpFunc_api_Nomination_L2 (cmp cmp' : (List UInt8 × List UInt8 × List UInt8 × List UInt8 × Int × Int) × (List UInt8 × List UInt8 × List UInt8 × List UInt8 × Int × Int) × Unit → Option Int) (hcmp : ∀ q, LeO (cmp q) (cmp' q)) (j2 : Int) (data4 : List (List UInt8 × List UInt8 × List UInt8 × List UInt8 × Int × Int)) : LeO (slices_partialInsertionSortCmpFunc_api_Nomination_L2_c cmp j2 data4) (slices_partialInsertionSortCmpFunc_api_Nomination_L2 cmp' j2 data4) := by
  unfold slices_partialInsertionSortCmpFunc_api_Nomination_L2_c slices_partialInsertionSortCmpFunc_api_Nomination_L2
  repeat' (first | with_reducible exact LeO.refl _ | with_reducible exact LeL.refl _ | with_reducible exact hcmp _ | with_reducible refine LeL.bif ?_ ?_ | with_reducible refine LeL.map (fun _ => ?_) | with_reducible refine LeL.one ?_ | with_reducible refine LeO.iterA (fun _ => ?_) | with_reducible refine LeO.bind ?_ (fun _ => ?_) | with_reducible refine LeO.gd ?_ | with_reducible refine LeO.both ?_ ?_ | with_reducible refine LeO.bif ?_ ?_ | with_reducible refine LeO.elim (fun _ => ?_) (fun _ => ?_) | with_reducible refine LeO.iter (fun _ => ?_))

noncomputable def slices_partialInsertionSortCmpFunc_api_Nomination_L3_c (b : Int) (cmp : (List UInt8 × List UInt8 × List UInt8 × List UInt8 × Int × Int) × (List UInt8 × List UInt8 × List UInt8 × List UInt8 × Int × Int) × Unit → Option Int) (j3 : Int) (data5 : List (List UInt8 × List UInt8 × List UInt8 × List UInt8 × Int × Int)) : Option ((Int × List (List UInt8 × List UInt8 × List UInt8 × List UInt8 × Int × Int)) ⊕ (List (List UInt8 × List UInt8 × List UInt8 × List UInt8 × Int × Int))) :=
  bif decide (j3 < b) then (
   gd (inB j3 data5.length) <|
   gd (inB (wi64 (j3 - 1)) data5.length) <|
   (cmp (data5.getD j3.toNat ([], ([], ([], ([], (0, 0))))), data5.getD ((wi64 (j3 - 1)).toNat) ([], ([], ([], ([], (0, 0))))), ())).bind fun r3 =>
   bif !(decide (r3 < 0)) then (
    some (.inr data5))
   else (
    gd (inB (wi64 (j3 - 1)) data5.length) <|
    gd (inB j3 data5.length) <|
    gd (inB j3 data5.length) <|
    gd (inB (wi64 (j3 - 1)) (data5.set j3.toNat (data5.getD ((wi64 (j3 - 1)).toNat) ([], ([], ([], ([], (0, 0))))))).length) <|
    some (.inl (wi64 (j3 + 1), (data5.set j3.toNat (data5.getD ((wi64 (j3 - 1)).toNat) ([], ([], ([], ([], (0, 0))))))).set ((wi64 (j3 - 1)).toNat) (data5.getD j3.toNat ([], ([], ([], ([], (0, 0))))))))))
  else (
   some (.inr data5))

theorem le_slices_partialInsertionSortCmpFunc_api_Nomination_L3 (b : Int) (cmp cmp' : (List UInt8 × List UInt8 × List UInt8 × List UInt8 × Int × Int) × (List UInt8 × List UInt8 × List UInt8 × List UInt8 × Int × Int) × Unit → Option Int) (hcmp : ∀ q, LeO (cmp q) (cmp' q)) (j3 : Int) (data5 : List (List UInt8 × List UInt8 × List UInt8 × List UInt8 × Int × Int)) : LeO (slices_partialInsertionSortCmpFunc_api_Nomination_L3_c b cmp j3 data5) (slices_partialInsertionSortCmpFunc_api_Nomination_L3 b cmp' j3 data5) := by
  unfold slices_partialInsertionSortCmpFunc_api_Nomination_L3_c slices_partialInsertionSortCmpFunc_api_Nomination_L3
  repeat' (first | with_reducible exact LeO.refl _ | with_reducible exact LeL.refl _ | with_reducible exact hcmp _ | with_reducible refine LeL.bif ?_ ?_ | with_reducible refine LeL.map (fun _ => ?_) | with_reducible refine LeL.one ?_ | with_reducible refine LeO.iterA (fun _ => ?_) | with_reducible refine LeO.bind ?_ (fun _ => ?_) | with_reducible refine LeO.gd ?_ | with_reducible refine LeO.both ?_ ?_ | with_reducible refine LeO.bif ?_ ?_ | with_reducible refine LeO.elim (fun _ => ?_) (fun _ => ?_) | with_reducible refine LeO.iter (fun _ => ?_))

noncomputable def slices_partialInsertionSortCmpFunc_api_Nomination_L0_c (a : Int) (b : Int) (cmp : (List UInt8 × List UInt8 × List UInt8 × List UInt8 × Int × Int) × (List UInt8 × List UInt8 × List UInt8 × List UInt8 × Int × Int) × Unit → Option Int) (i : Int) (j : Int) (data2 : List (List UInt8 × List UInt8 × List UInt8 × List UInt8 × Int × Int)) : Option ((Int × Int × List (List UInt8 × List UInt8 × List UInt8 × List UInt8 × Int × Int)) ⊕ ((List (List UInt8 × List UInt8 × List UInt8 × List UInt8 × Int × Int)) ⊕ (Bool × List (List UInt8 × List UInt8 × List UInt8 × List UInt8 × Int × Int)))) :=
  bif decide (j < 5) then (
   (iterN (fun x => slices_partialInsertionSortCmpFunc_api_Nomination_L1_c b cmp x.1 x.2) 100000 (i, data2)).bind fun s2 =>
   bif decide (s2.1 = b) then (
    some (.inr (.inr (true, s2.2))))
   else (
    bif decide (wi64 (b - a) < 50) then (
     some (.inr (.inr (false, s2.2))))
    else (
     gd (inB (wi64 (s2.1 - 1)) s2.2.length) <|
     gd (inB s2.1 s2.2.length) <|
     gd (inB s2.1 s2.2.length) <|
     gd (inB (wi64 (s2.1 - 1)) (s2.2.set s2.1.toNat (s2.2.getD ((wi64 (s2.1 - 1)).toNat) ([], ([], ([], ([], (0, 0))))))).length) <|
     Option.bind (α := List (List UInt8 × List UInt8 × List UInt8 × List UInt8 × Int × Int)) (
       bif decide (2 ≤ wi64 (s2.1 - a)) then (
        (iterN (fun x2 => slices_partialInsertionSortCmpFunc_api_Nomination_L2_c cmp x2.1 x2.2) 100000 (wi64 (s2.1 - 1), (s2.2.set s2.1.toNat (s2.2.getD ((wi64 (s2.1 - 1)).toNat) ([], ([], ([], ([], (0, 0))))))).set ((wi64 (s2.1 - 1)).toNat) (s2.2.getD s2.1.toNat ([], ([], ([], ([], (0, 0)))))))).bind fun s3 =>
        some s3)
       else (
        some ((s2.2.set s2.1.toNat (s2.2.getD ((wi64 (s2.1 - 1)).toNat) ([], ([], ([], ([], (0, 0))))))).set ((wi64 (s2.1 - 1)).toNat) (s2.2.getD s2.1.toNat ([], ([], ([], ([], (0, 0))))))))) fun s4 =>
     Option.bind (α := List (List UInt8 × List UInt8 × List UInt8 × List UInt8 × Int × Int)) (
       bif decide (2 ≤ wi64 (b - s2.1)) then (
        (iterN (fun x3 => slices_partialInsertionSortCmpFunc_api_Nomination_L3_c b cmp x3.1 x3.2) 100000 (wi64 (s2.1 + 1), s4)).bind fun s5 =>
        some s5)
       else (
        some s4)) fun s6 =>
     some (.inl (s2.1, wi64 (j + 1), s6)))))
  else (
   some (.inr (.inl data2)))

theorem le_slices_partialInsertionSortCmpFunc_api_Nomination_L0 (a : Int) (b : Int) (cmp cmp' : (List UInt8 × List UInt8 × List UInt8 × List UInt8 × Int × Int) × (List UInt8 × List UInt8 × List UInt8 × List UInt8 × Int × Int) × Unit → Option Int) (hcmp : ∀ q, LeO (cmp q) (cmp' q)) (i : Int) (j : Int) (data2 : List (List UInt8 × List UInt8 × List UInt8 × List UInt8 × Int × Int)) : LeO (slices_partialInsertionSortCmpFunc_api_Nomination_L0_c a b cmp i j data2) (slices_partialInsertionSortCmpFunc_api_Nomination_L0 a b cmp' i j data2) := by
  unfold slices_partialInsertionSortCmpFunc_api_Nomination_L0_c slices_partialInsertionSortCmpFunc_api_Nomination_L0
  repeat' (first | with_reducible exact LeO.refl _ | with_reducible exact LeL.refl _ | with_reducible exact hcmp _ | with_reducible refine le_slices_partialInsertionSortCmpFunc_api_Nomination_L3 _ _ _ (fun _ => ?_) _ _ | with_reducible refine le_slices_partialInsertionSortCmpFunc_api_Nomination_L1 _ _ _ (fun _ => ?_) _ _ | with_reducible refine le_slices_partialInsertionSortCmpFunc_api_Nomination_L2 _ _ (fun _ => ?_) _ _ | with_reducible refine LeL.bif ?_ ?_ | with_reducible refine LeL.map (fun _ => ?_) | with_reducible refine LeL.one ?_ | with_reducible refine LeO.iterA (fun _ => ?_) | with_reducible refine LeO.bind ?_ (fun _ => ?_) | with_reducible refine LeO.gd ?_ | with_reducible refine LeO.both ?_ ?_ | with_reducible refine LeO.bif ?_ ?_ | with_reducible refine LeO.elim (fun _ => ?_) (fun _ => ?_) | with_reducible refine LeO.iter (fun _ => ?_))

noncomputable def slices_partialInsertionSortCmpFunc_api_Nomination_c (a : Int) (b : Int) (cmp : (List UInt8 × List UInt8 × List UInt8 × List UInt8 × Int × Int) × (List UInt8 × List UInt8 × List UInt8 × List UInt8 × Int × Int) × Unit → Option Int) (data : List (List UInt8 × List UInt8 × List UInt8 × List UInt8 × Int × Int)) : Option (Bool × List (List UInt8 × List UInt8 × List UInt8 × List UInt8 × Int × Int)) :=
  (iterN (fun x4 => slices_partialInsertionSortCmpFunc_api_Nomination_L0_c a b cmp x4.1 x4.2.1 x4.2.2) 100000 (wi64 (a + 1), 0, data)).bind fun s7 =>
  s7.elim (fun s8 =>
   some (false, s8))
  (fun s9 =>
   some (s9.1, s9.2))

theorem le_slices_partialInsertionSortCmpFunc_api_Nomination (a : Int) (b : Int) (cmp cmp' : (List UInt8 × List UInt8 × List UInt8 × List UInt8 × Int × Int) × (List UInt8 × List UInt8 × List UInt8 × List UInt8 × Int × Int) × Unit → Option Int) (hcmp : ∀ q, LeO (cmp q) (cmp' q)) (data : List (List UInt8 × List UInt8 × List UInt8 × List UInt8 × Int × Int)) : LeO (slices_partialInsertionSortCmpFunc_api_Nomination_c a b cmp data) (slices_partialInsertionSortCmpFunc_api_Nomination a b cmp' data) := by
  unfold slices_partialInsertionSortCmpFunc_api_Nomination_c slices_partialInsertionSortCmpFunc_api_Nomination
  repeat' (first | with_reducible exact LeO.refl _ | with_reducible exact LeL.refl _ | with_reducible exact hcmp _ | with_reducible refine le_slices_partialInsertionSortCmpFunc_api_Nomination_L0 _ _ _ _ (fun _ => ?_) _ _ _ | with_reducible refine LeL.bif ?_ ?_ | with_reducible refine LeL.map (fun _ => ?_) | with_reducible refine LeL.one ?_ | with_reducible refine LeO.iterA (fun _ => ?_) | with_reducible refine LeO.bind ?_ (fun _ => ?_) | with_reducible refine LeO.gd ?_ | with_reducible refine LeO.both ?_ ?_ | with_reducible refine LeO.bif ?_ ?_ | with_reducible refine LeO.elim (fun _ => ?_) (fun _ => ?_) | with_reducible refine LeO.iter (fun _ => ?_))

noncomputable def slices_partitionEqualCmpFunc_api_Nomination_L1_c (a : Int) (cmp : (List UInt8 × List UInt8 × List UInt8 × List UInt8 × Int × Int) × (List UInt8 × List UInt8 × List UInt8 × List UInt8 × Int × Int) × Unit → Option Int) (j : Int) (i2 : Int) (data3 : List (List UInt8 × List UInt8 × List UInt8 × List UInt8 × Int × Int)) : Option ((Int × List (List UInt8 × List UInt8 × List UInt8 × List UInt8 × Int × Int)) ⊕ (Int × List (List UInt8 × List UInt8 × List UInt8 × List UInt8 × Int × Int))) :=
  Option.bind (α := Bool × List (List UInt8 × List UInt8 × List UInt8 × List UInt8 × Int × Int)) (
    bif decide (i2 ≤ j) then (
     gd (inB a data3.length) <|
     gd (inB i2 data3.length) <|
     (cmp (data3.getD a.toNat ([], ([], ([], ([], (0, 0))))), data3.getD i2.toNat ([], ([], ([], ([], (0, 0))))), ())).bind fun r =>
     some ((!(decide (r < 0))), data3))
    else (
     some (false, data3))) fun s =>
  bif s.1 then (
   some (.inl (wi64 (i2 + 1), s.2)))
  else (
   some (.inr (i2, s.2)))

theorem le_slices_partitionEqualCmpFunc_api_Nomination_L1 (a : Int) (cmp cmp' : (List UInt8 × List UInt8 × List UInt8 × List UInt8 × Int × Int) × (List UInt8 × List UInt8 × List UInt8 × List UInt8 × Int × Int) × Unit → Option Int) (hcmp : ∀ q, LeO (cmp q) (cmp' q)) (j : Int) (i2 : Int) (data3 : List (List UInt8 × List UInt8 × List UInt8 × List UInt8 × Int × Int)) : LeO (slices_partitionEqualCmpFunc_api_Nomination_L1_c a cmp j i2 data3) (slices_partitionEqualCmpFunc_api_Nomination_L1 a cmp' j i2 data3) := by
  unfold slices_partitionEqualCmpFunc_api_Nomination_L1_c slices_partitionEqualCmpFunc_api_Nomination_L1
  repeat' (first | with_reducible exact LeO.refl _ | with_reducible exact LeL.refl _ | with_reducible exact hcmp _ | with_reducible refine LeL.bif ?_ ?_ | with_reducible refine LeL.map (fun _ => ?_) | with_reducible refine LeL.one ?_ | with_reducible refine LeO.iterA (fun _ => ?_) | with_reducible refine LeO.bind ?_ (fun _ => ?_) | with_reducible refine LeO.gd ?_ | with_reducible refine LeO.both ?_ ?_ | with_reducible refine LeO.bif ?_ ?_ | with_reducible refine LeO.elim (fun _ => ?_) (fun _ => ?_) | with_reducible refine LeO.iter (fun _ => ?_))

noncomputable def slices_partitionEqualCmpFunc_api_Nomination_L2_c (a : Int) (cmp : (List UInt8 × List UInt8 × List UInt8 × List UInt8 × Int × Int) × (List UInt8 × List UInt8 × List UInt8 × List UInt8 × Int × Int) × Unit → Option Int) (s2 : Int × List (List UInt8 × List UInt8 × List UInt8 × List UInt8 × Int × Int)) (j2 : Int) (data4 : List (List UInt8 × List UInt8 × List UInt8 × List UInt8 × Int × Int)) : Option ((Int × List (List UInt8 × List UInt8 × List UInt8 × List UInt8 × Int × Int)) ⊕ (Int × List (List UInt8 × List UInt8 × List UInt8 × List UInt8 × Int × Int))) :=
  Option.bind (α := Bool × List (List UInt8 × List UInt8 × List UInt8 × List UInt8 × Int × Int)) (
    bif decide (s2.1 ≤ j2) then (
     gd (inB a data4.length) <|
     gd (inB j2 data4.length) <|
     (cmp (data4.getD a.toNat ([], ([], ([], ([], (0, 0))))), data4.getD j2.toNat ([], ([], ([], ([], (0, 0))))), ())).bind fun r2 =>
     some (decide (r2 < 0), data4))
    else (
     some (false, data4))) fun s3 =>
  bif s3.1 then (
   some (.inl (wi64 (j2 - 1), s3.2)))
  else (
   some (.inr (j2, s3.2)))

theorem le_slices_partitionEqualCmpFunc_api_Nomination_L2 (a : Int) (cmp cmp' : (List UInt8 × List UInt8 × List UInt8 × List UInt8 × Int × Int) × (List UInt8 × List UInt8 × List UInt8 × List UInt8 × Int × Int) × Unit → Option Int) (hcmp : ∀ q, LeO (cmp q) (cmp' q)) (s2 : Int × List (List UInt8 × List UInt8 × List UInt8 × List UInt8 × Int × Int)) (j2 : Int) (data4 : List (List UInt8 × List UInt8 × List UInt8 × List UInt8 × Int × Int)) : LeO (slices_partitionEqualCmpFunc_api_Nomination_L2_c a cmp s2 j2 data4) (slices_partitionEqualCmpFunc_api_Nomination_L2 a cmp' s2 j2 data4) := by
  unfold slices_partitionEqualCmpFunc_api_Nomination_L2_c slices_partitionEqualCmpFunc_api_Nomination_L2
  repeat' (first | with_reducible exact LeO.refl _ | with_reducible exact LeL.refl _ | with_reducible exact hcmp _ | with_reducible refine LeL.bif ?_ ?_ | with_reducible refine LeL.map (fun _ => ?_) | with_reducible refine LeL.one ?_ | with_reducible refine LeO.iterA (fun _ => ?_) | with_reducible refine LeO.bind ?_ (fun _ => ?_) | with_reducible refine LeO.gd ?_ | with_reducible refine LeO.both ?_ ?_ | with_reducible refine LeO.bif ?_ ?_ | with_reducible refine LeO.elim (fun _ => ?_) (fun _ => ?_) | with_reducible refine LeO.iter (fun _ => ?_))

noncomputable def slices_partitionEqualCmpFunc_api_Nomination_L0_c (a : Int) (cmp : (List UInt8 × List UInt8 × List UInt8 × List UInt8 × Int × Int) × (List UInt8 × List UInt8 × List UInt8 × List UInt8 × Int × Int) × Unit → Option Int) (i : Int) (j : Int) (data2 : List (List UInt8 × List UInt8 × List UInt8 × List UInt8 × Int × Int)) : Option ((Int × Int × List (List UInt8 × List UInt8 × List UInt8 × List UInt8 × Int × Int)) ⊕ (Int × List (List UInt8 × List UInt8 × List UInt8 × List UInt8 × Int × Int))) :=
  (iterN (fun x => slices_partitionEqualCmpFunc_api_Nomination_L1_c a cmp j x.1 x.2) 100000 (i, data2)).bind fun s2 =>
  (iterN (fun x2 => slices_partitionEqualCmpFunc_api_Nomination_L2_c a cmp s2 x2.1 x2.2) 100000 (j, s2.2)).bind fun s4 =>
  bif decide (s4.1 < s2.1) then (
   some (.inr (s2.1, s4.2)))
  else (
   gd (inB s4.1 s4.2.length) <|
   gd (inB s2.1 s4.2.length) <|
   gd (inB s2.1 s4.2.length) <|
   gd (inB s4.1 (s4.2.set s2.1.toNat (s4.2.getD s4.1.toNat ([], ([], ([], ([], (0, 0))))))).length) <|
   some (.inl (wi64 (s2.1 + 1), wi64 (s4.1 - 1), (s4.2.set s2.1.toNat (s4.2.getD s4.1.toNat ([], ([], ([], ([], (0, 0))))))).set s4.1.toNat (s4.2.getD s2.1.toNat ([], ([], ([], ([], (0, 0)))))))))

theorem le_slices_partitionEqualCmpFunc_api_Nomination_L0 (a : Int) (cmp cmp' : (List UInt8 × List UInt8 × List UInt8 × List UInt8 × Int × Int) × (List UInt8 × List UInt8 × List UInt8 × List UInt8 × Int × Int) × Unit → Option Int) (hcmp : ∀ q, LeO (cmp q) (cmp' q)) (i : Int) (j : Int) (data2 : List (List UInt8 × List UInt8 × List UInt8 × List UInt8 × Int × Int)) : LeO (slices_partitionEqualCmpFunc_api_Nomination_L0_c a cmp i j data2) (slices_partitionEqualCmpFunc_api_Nomination_L0 a cmp' i j data2) := by
  unfold slices_partitionEqualCmpFunc_api_Nomination_L0_c slices_partitionEqualCmpFunc_api_Nomination_L0
  repeat' (first | with_reducible exact LeO.refl _ | with_reducible exact LeL.refl _ | with_reducible exact hcmp _ | with_reducible refine le_slices_partitionEqualCmpFunc_api_Nomination_L1 _ _ _ (fun _ => ?_) _ _ _ | with_reducible refine le_slices_partitionEqualCmpFunc_api_Nomination_L2 _ _ _ (fun _ => ?_) _ _ _ | with_reducible refine LeL.bif ?_ ?_ | with_reducible refine LeL.map (fun _ => ?_) | with_reducible refine LeL.one ?_ | with_reducible refine LeO.iterA (fun _ => ?_) | with_reducible refine LeO.bind ?_ (fun _ => ?_) | with_reducible refine LeO.gd ?_ | with_reducible refine LeO.both ?_ ?_ | with_reducible refine LeO.bif ?_ ?_ | with_reducible refine LeO.elim (fun _ => ?_) (fun _ => ?_) | with_reducible refine LeO.iter (fun _ => ?_))

noncomputable def slices_partitionEqualCmpFunc_api_Nomination_c (a : Int) (b : Int) (pivot : Int) (cmp : (List UInt8 × List UInt8 × List UInt8 × List UInt8 × Int × Int) × (List UInt8 × List UInt8 × List UInt8 × List UInt8 × Int × Int) × Unit → Option Int) (data : List (List UInt8 × List UInt8 × List UInt8 × List UInt8 × Int × Int)) : Option (Int × List (List UInt8 × List UInt8 × List UInt8 × List UInt8 × Int × Int)) :=
  gd (inB pivot data.length) <|
  gd (inB a data.length) <|
  gd (inB a data.length) <|
  gd (inB pivot (data.set a.toNat (data.getD pivot.toNat ([], ([], ([], ([], (0, 0))))))).length) <|
  (iterN (fun x3 => slices_partitionEqualCmpFunc_api_Nomination_L0_c a cmp x3.1 x3.2.1 x3.2.2) 100000 (wi64 (a + 1), wi64 (b - 1), (data.set a.toNat (data.getD pivot.toNat ([], ([], ([], ([], (0, 0))))))).set pivot.toNat (data.getD a.toNat ([], ([], ([], ([], (0, 0)))))))).bind fun s5 =>
  some (s5.1, s5.2)

theorem le_slices_partitionEqualCmpFunc_api_Nomination (a : Int) (b : Int) (pivot : Int) (cmp cmp' : (List UInt8 × List UInt8 × List UInt8 × List UInt8 × Int × Int) × (List UInt8 × List UInt8 × List UInt8 × List UInt8 × Int × Int) × Unit → Option Int) (hcmp : ∀ q, LeO (cmp q) (cmp' q)) (data : List (List UInt8 × List UInt8 × List UInt8 × List UInt8 × Int × Int)) : LeO (slices_partitionEqualCmpFunc_api_Nomination_c a b pivot cmp data) (slices_partitionEqualCmpFunc_api_Nomination a b pivot cmp' data) := by
  unfold slices_partitionEqualCmpFunc_api_Nomination_c slices_partitionEqualCmpFunc_api_Nomination
  repeat' (first | with_reducible exact LeO.refl _ | with_reducible exact LeL.refl _ | with_reducible exact hcmp _ | with_reducible refine le_slices_partitionEqualCmpFunc_api_Nomination_L0 _ _ _ (fun _ => ?_) _ _ _ | with_reducible refine LeL.bif ?_ ?_ | with_reducible refine LeL.map (fun _ => ?_) | with_reducible refine LeL.one ?_ | with_reducible refine LeO.iterA (fun _ => ?_) | with_reducible refine LeO.bind ?_ (fun _ => ?_) | with_reducible refine LeO.gd ?_ | with_reducible refine LeO.both ?_ ?_ | with_reducible refine LeO.bif ?_ ?_ | with_reducible refine LeO.elim (fun _ => ?_) (fun _ => ?_) | with_reducible refine LeO.iter (fun _ => ?_))

noncomputable def slices_partitionCmpFunc_api_Nomination_L0_c (a : Int) (b : Int) (cmp : (List UInt8 × List UInt8 × List UInt8 × List UInt8 × Int × Int) × (List UInt8 × List UInt8 × List UInt8 × List UInt8 × Int × Int) × Unit → Option Int) (i : Int) (data2 : List (List UInt8 × List UInt8 × List UInt8 × List UInt8 × Int × Int)) : Option ((Int × List (List UInt8 × List UInt8 × List UInt8 × List UInt8 × Int × Int)) ⊕ (Int × List (List UInt8 × List UInt8 × List UInt8 × List UInt8 × Int × Int))) :=
  Option.bind (α := Bool × List (List UInt8 × List UInt8 × List UInt8 × List UInt8 × Int × Int)) (
    bif decide (i ≤ wi64 (b - 1)) then (
     gd (inB i data2.length) <|
     gd (inB a data2.length) <|
     (cmp (data2.getD i.toNat ([], ([], ([], ([], (0, 0))))), data2.getD a.toNat ([], ([], ([], ([], (0, 0))))), ())).bind fun r =>
     some (decide (r < 0), data2))
    else (
     some (false, data2))) fun s =>
  bif s.1 then (
   some (.inl (wi64 (i + 1), s.2)))
  else (
   some (.inr (i, s.2)))

theorem le_slices_partitionCmpFunc_api_Nomination_L0 (a : Int) (b : Int) (cmp cmp' : (List UInt8 × List UInt8 × List UInt8 × List UInt8 × Int × Int) × (List UInt8 × List UInt8 × List UInt8 × List UInt8 × Int × Int) × Unit → Option Int) (hcmp : ∀ q, LeO (cmp q) (cmp' q)) (i : Int) (data2 : List (List UInt8 × List UInt8 × List UInt8 × List UInt8 × Int × Int)) : LeO (slices_partitionCmpFunc_api_Nomination_L0_c a b cmp i data2) (slices_partitionCmpFunc_api_Nomination_L0 a b cmp' i data2) := by
  unfold slices_partitionCmpFunc_api_Nomination_L0_c slices_partitionCmpFunc_api_Nomination_L0
  repeat' (first | with_reducible exact LeO.refl _ | with_reducible exact LeL.refl _ | with_reducible exact hcmp _ | with_reducible refine LeL.bif ?_ ?_ | with_reducible refine LeL.map (fun _ => ?_) | with_reducible refine LeL.one ?_ | with_reducible refine LeO.iterA (fun _ => ?_) | with_reducible refine LeO.bind ?_ (fun _ => ?_) | with_reducible refine LeO.gd ?_ | with_reducible refine LeO.both ?_ ?_ | with_reducible refine LeO.bif ?_ ?_ | with_reducible refine LeO.elim (fun _ => ?_) (fun _ => ?_) | with_reducible refine LeO.iter (fun _ => ?_))

noncomputable def slices_partitionCmpFunc_api_Nomination_L1_c (a : Int) (cmp : (List UInt8 × List UInt8 × List UInt8 × List UInt8 × Int × Int) × (List UInt8 × List UInt8 × List UInt8 × List UInt8 × Int × Int) × Unit → Option Int) (s2 : Int × List (List UInt8 × List UInt8 × List UInt8 × List UInt8 × Int × Int)) (j : Int) (data3 : List (List UInt8 × List UInt8 × List UInt8 × List UInt8 × Int × Int)) : Option ((Int × List (List UInt8 × List UInt8 × List UInt8 × List UInt8 × Int × Int)) ⊕ (Int × List (List UInt8 × List UInt8 × List UInt8 × List UInt8 × Int × Int))) :=
  Option.bind (α := Bool × List (List UInt8 × List UInt8 × List UInt8 × List UInt8 × Int × Int)) (
    bif decide (s2.1 ≤ j) then (
     gd (inB j data3.length) <|
     gd (inB a data3.length) <|
     (cmp (data3.getD j.toNat ([], ([], ([], ([], (0, 0))))), data3.getD a.toNat ([], ([], ([], ([], (0, 0))))), ())).bind fun r2 =>
     some ((!(decide (r2 < 0))), data3))
    else (
     some (false, data3))) fun s3 =>
  bif s3.1 then (
   some (.inl (wi64 (j - 1), s3.2)))
  else (
   some (.inr (j, s3.2)))

theorem le_slices_partitionCmpFunc_api_Nomination_L1 (a : Int) (cmp cmp' : (List UInt8 × List UInt8 × List UInt8 × List UInt8 × Int × Int) × (List UInt8 × List UInt8 × List UInt8 × List UInt8 × Int × Int) × Unit → Option Int) (hcmp : ∀ q, LeO (cmp q) (cmp' q)) (s2 : Int × List (List UInt8 × List UInt8 × List UInt8 × List UInt8 × Int × Int)) (j : Int) (data3 : List (List UInt8 × List UInt8 × List UInt8 × List UInt8 × Int × Int)) : LeO (slices_partitionCmpFunc_api_Nomination_L1_c a cmp s2 j data3) (slices_partitionCmpFunc_api_Nomination_L1 a cmp' s2 j data3) := by
  unfold slices_partitionCmpFunc_api_Nomination_L1_c slices_partitionCmpFunc_api_Nomination_L1
  repeat' (first | with_reducible exact LeO.refl _ | with_reducible exact LeL.refl _ | with_reducible exact hcmp _ | with_reducible refine LeL.bif ?_ ?_ | with_reducible refine LeL.map (fun _ => ?_) | with_reducible refine LeL.one ?_ | with_reducible refine LeO.iterA (fun _ => ?_) | with_reducible refine LeO.bind ?_ (fun _ => ?_) | with_reducible refine LeO.gd ?_ | with_reducible refine LeO.both ?_ ?_ | with_reducible refine LeO.bif ?_ ?_ | with_reducible refine LeO.elim (fun _ => ?_) (fun _ => ?_) | with_reducible refine LeO.iter (fun _ => ?_))

noncomputable def slices_partitionCmpFunc_api_Nomination_L3_c (a : Int) (cmp : (List UInt8 × List UInt8 × List UInt8 × List UInt8 × Int × Int) × (List UInt8 × List UInt8 × List UInt8 × List UInt8 × Int × Int) × Unit → Option Int) (j2 : Int) (i3 : Int) (data5 : List (List UInt8 × List UInt8 × List UInt8 × List UInt8 × Int × Int)) : Option ((Int × List (List UInt8 × List UInt8 × List UInt8 × List UInt8 × Int × Int)) ⊕ (Int × List (List UInt8 × List UInt8 × List UInt8 × List UInt8 × Int × Int))) :=
  Option.bind (α := Bool × List (List UInt8 × List UInt8 × List UInt8 × List UInt8 × Int × Int)) (
    bif decide (i3 ≤ j2) then (
     gd (inB i3 data5.length) <|
     gd (inB a data5.length) <|
     (cmp (data5.getD i3.toNat ([], ([], ([], ([], (0, 0))))), data5.getD a.toNat ([], ([], ([], ([], (0, 0))))), ())).bind fun r3 =>
     some (decide (r3 < 0), data5))
    else (
     some (false, data5))) fun s5 =>
  bif s5.1 then (
   some (.inl (wi64 (i3 + 1), s5.2)))
  else (
   some (.inr (i3, s5.2)))

theorem le_slices_partitionCmpFunc_api_Nomination_L3 (a : Int) (cmp cmp' : (List UInt8 × List UInt8 × List UInt8 × List UInt8 × Int × Int) × (List UInt8 × List UInt8 × List UInt8 × List UInt8 × Int × Int) × Unit → Option Int) (hcmp : ∀ q, LeO (cmp q) (cmp' q)) (j2 : Int) (i3 : Int) (data5 : List (List UInt8 × List UInt8 × List UInt8 × List UInt8 × Int × Int)) : LeO (slices_partitionCmpFunc_api_Nomination_L3_c a cmp j2 i3 data5) (slices_partitionCmpFunc_api_Nomination_L3 a cmp' j2 i3 data5) := by
  unfold slices_partitionCmpFunc_api_Nomination_L3_c slices_partitionCmpFunc_api_Nomination_L3
  repeat' (first | with_reducible exact LeO.refl _ | with_reducible exact LeL.refl _ | with_reducible exact hcmp _ | with_reducible refine LeL.bif ?_ ?_ | with_reducible refine LeL.map (fun _ => ?_) | with_reducible refine LeL.one ?_ | with_reducible refine LeO.iterA (fun _ => ?_) | with_reducible refine LeO.bind ?_ (fun _ => ?_) | with_reducible refine LeO.gd ?_ | with_reducible refine LeO.both ?_ ?_ | with_reducible refine LeO.bif ?_ ?_ | with_reducible refine LeO.elim (fun _ => ?_) (fun _ => ?_) | with_reducible refine LeO.iter (fun _ => ?_))

noncomputable def slices_partitionCmpFunc_api_Nomination_L4_c (a : Int) (cmp : (List UInt8 × List UInt8 × List UInt8 × List UInt8 × Int × Int) × (List UInt8 × List UInt8 × List UInt8 × List UInt8 × Int × Int) × Unit → Option Int) (s6 : Int × List (List UInt8 × List UInt8 × List UInt8 × List UInt8 × Int × Int)) (j3 : Int) (data6 : List (List UInt8 × List UInt8 × List UInt8 × List UInt8 × Int × Int)) : Option ((Int × List (List UInt8 × List UInt8 × List UInt8 × List UInt8 × Int × Int)) ⊕ (Int × List (List UInt8 × List UInt8 × List UInt8 × List UInt8 × Int × Int))) :=
  Option.bind (α := Bool × List (List UInt8 × List UInt8 × List UInt8 × List UInt8 × Int × Int)) (
    bif decide (s6.1 ≤ j3) then (
     gd (inB j3 data6.length) <|
     gd (inB a data6.length) <|
     (cmp (data6.getD j3.toNat ([], ([], ([], ([], (0, 0))))), data6.getD a.toNat ([], ([], ([], ([], (0, 0))))), ())).bind fun r4 =>
     some ((!(decide (r4 < 0))), data6))
    else (
     some (false, data6))) fun s7 =>
  bif s7.1 then (
   some (.inl (wi64 (j3 - 1), s7.2)))
  else (
   some (.inr (j3, s7.2)))

theorem le_slices_partitionCmpFunc_api_Nomination_L4 (a : Int) (cmp cmp' : (List UInt8 × List UInt8 × List UInt8 × List UInt8 × Int × Int) × (List UInt8 × List UInt8 × List UInt8 × List UInt8 × Int × Int) × Unit → Option Int) (hcmp : ∀ q, LeO (cmp q) (cmp' q)) (s6 : Int × List (List UInt8 × List UInt8 × List UInt8 × List UInt8 × Int × Int)) (j3 : Int) (data6 : List (List UInt8 × List UInt8 × List UInt8 × List UInt8 × Int × Int)) : LeO (slices_partitionCmpFunc_api_Nomination_L4_c a cmp s6 j3 data6) (slices_partitionCmpFunc_api_Nomination_L4 a cmp' s6 j3 data6) := by
  unfold slices_partitionCmpFunc_api_Nomination_L4_c slices_partitionCmpFunc_api_Nomination_L4
  repeat' (first | with_reducible exact LeO.refl _ | with_reducible exact LeL.refl _ | with_reducible exact hcmp _ | with_reducible refine LeL.bif ?_ ?_ | with_reducible refine LeL.map (fun _ => ?_) | with_reducible refine LeL.one ?_ | with_reducible refine LeO.iterA (fun _ => ?_) | with_reducible refine LeO.bind ?_ (fun _ => ?_) | with_reducible refine LeO.gd ?_ | with_reducible refine LeO.both ?_ ?_ | with_reducible refine LeO.bif ?_ ?_ | with_reducible refine LeO.elim (fun _ => ?_) (fun _ => ?_) | with_reducible refine LeO.iter (fun _ => ?_))

noncomputable def slices_partitionCmpFunc_api_Nomination_L2_c (a : Int) (cmp : (List UInt8 × List UInt8 × List UInt8 × List UInt8 × Int × Int) × (List UInt8 × List UInt8 × List UInt8 × List UInt8 × Int × Int) × Unit → Option Int) (i2 : Int) (j2 : Int) (data4 : List (List UInt8 × List UInt8 × List UInt8 × List UInt8 × Int × Int)) : Option ((Int × Int × List (List UInt8 × List UInt8 × List UInt8 × List UInt8 × Int × Int)) ⊕ (Int × List (List UInt8 × List UInt8 × List UInt8 × List UInt8 × Int × Int))) :=
  (iterN (fun x3 => slices_partitionCmpFunc_api_Nomination_L3_c a cmp j2 x3.1 x3.2) 100000 (i2, data4)).bind fun s6 =>
  (iterN (fun x4 => slices_partitionCmpFunc_api_Nomination_L4_c a cmp s6 x4.1 x4.2) 100000 (j2, s6.2)).bind fun s8 =>
  bif decide (s8.1 < s6.1) then (
   some (.inr (s8.1, s8.2)))
  else (
   gd (inB s8.1 s8.2.length) <|
   gd (inB s6.1 s8.2.length) <|
   gd (inB s6.1 s8.2.length) <|
   gd (inB s8.1 (s8.2.set s6.1.toNat (s8.2.getD s8.1.toNat ([], ([], ([], ([], (0, 0))))))).length) <|
   some (.inl (wi64 (s6.1 + 1), wi64 (s8.1 - 1), (s8.2.set s6.1.toNat (s8.2.getD s8.1.toNat ([], ([], ([], ([], (0, 0))))))).set s8.1.toNat (s8.2.getD s6.1.toNat ([], ([], ([], ([], (0, 0)))))))))

theorem le_slices_partitionCmpFunc_api_Nomination_L2 (a : Int) (cmp cmp' : (List UInt8 × List UInt8 × List UInt8 × List UInt8 × Int × Int) × (List UInt8 × List UInt8 × List UInt8 × List UInt8 × Int × Int) × Unit → Option Int) (hcmp : ∀ q, LeO (cmp q) (cmp' q)) (i2 : Int) (j2 : Int) (data4 : List (List UInt8 × List UInt8 × List UInt8 × List UInt8 × Int × Int)) : LeO (slices_partitionCmpFunc_api_Nomination_L2_c a cmp i2 j2 data4) (slices_partitionCmpFunc_api_Nomination_L2 a cmp' i2 j2 data4) := by
  unfold slices_partitionCmpFunc_api_Nomination_L2_c slices_partitionCmpFunc_api_Nomination_L2
  repeat' (first | with_reducible exact LeO.refl _ | with_reducible exact LeL.refl _ | with_reducible exact hcmp _ | with_reducible refine le_slices_partitionCmpFunc_api_Nomination_L3 _ _ _ (fun _ => ?_) _ _ _ | with_reducible refine le_slices_partitionCmpFunc_api_Nomination_L4 _ _ _ (fun _ => ?_) _ _ _ | with_reducible refine LeL.bif ?_ ?_ | with_reducible refine LeL.map (fun _ => ?_) | with_reducible refine LeL.one ?_ | with_reducible refine LeO.iterA (fun _ => ?_) | with_reducible refine LeO.bind ?_ (fun _ => ?_) | with_reducible refine LeO.gd ?_ | with_reducible refine LeO.both ?_ ?_ | with_reducible refine LeO.bif ?_ ?_ | with_reducible refine LeO.elim (fun _ => ?_) (fun _ => ?_) | with_reducible refine LeO.iter (fun _ => ?_))

noncomputable def slices_partitionCmpFunc_api_Nomination_c (a : Int) (b : Int) (pivot : Int) (cmp : (List UInt8 × List UInt8 × List UInt8 × List UInt8 × Int × Int) × (List UInt8 × List UInt8 × List UInt8 × List UInt8 × Int × Int) × Unit → Option Int) (data : List (List UInt8 × List UInt8 × List UInt8 × List UInt8 × Int × Int)) : Option (Int × Bool × List (List UInt8 × List UInt8 × List UInt8 × List UInt8 × Int × Int)) :=
  gd (inB pivot data.length) <|
  gd (inB a data.length) <|
  gd (inB a data.length) <|
  gd (inB pivot (data.set a.toNat (data.getD pivot.toNat ([], ([], ([], ([], (0, 0))))))).length) <|
  (iterN (fun x => slices_partitionCmpFunc_api_Nomination_L0_c a b cmp x.1 x.2) 100000 (wi64 (a + 1), (data.set a.toNat (data.getD pivot.toNat ([], ([], ([], ([], (0, 0))))))).set pivot.toNat (data.getD a.toNat ([], ([], ([], ([], (0, 0)))))))).bind fun s2 =>
  (iterN (fun x2 => slices_partitionCmpFunc_api_Nomination_L1_c a cmp s2 x2.1 x2.2) 100000 (wi64 (b - 1), s2.2)).bind fun s4 =>
  bif decide (s4.1 < s2.1) then (
   gd (inB a s4.2.length) <|
   gd (inB s4.1 s4.2.length) <|
   gd (inB s4.1 s4.2.length) <|
   gd (inB a (s4.2.set s4.1.toNat (s4.2.getD a.toNat ([], ([], ([], ([], (0, 0))))))).length) <|
   some (s4.1, true, (s4.2.set s4.1.toNat (s4.2.getD a.toNat ([], ([], ([], ([], (0, 0))))))).set a.toNat (s4.2.getD s4.1.toNat ([], ([], ([], ([], (0, 0))))))))
  else (
   gd (inB s4.1 s4.2.length) <|
   gd (inB s2.1 s4.2.length) <|
   gd (inB s2.1 s4.2.length) <|
   gd (inB s4.1 (s4.2.set s2.1.toNat (s4.2.getD s4.1.toNat ([], ([], ([], ([], (0, 0))))))).length) <|
   (iterN (fun x5 => slices_partitionCmpFunc_api_Nomination_L2_c a cmp x5.1 x5.2.1 x5.2.2) 100000 (wi64 (s2.1 + 1), wi64 (s4.1 - 1), (s4.2.set s2.1.toNat (s4.2.getD s4.1.toNat ([], ([], ([], ([], (0, 0))))))).set s4.1.toNat (s4.2.getD s2.1.toNat ([], ([], ([], ([], (0, 0)))))))).bind fun s9 =>
   gd (inB a s9.2.length) <|
   gd (inB s9.1 s9.2.length) <|
   gd (inB s9.1 s9.2.length) <|
   gd (inB a (s9.2.set s9.1.toNat (s9.2.getD a.toNat ([], ([], ([], ([], (0, 0))))))).length) <|
   some (s9.1, false, (s9.2.set s9.1.toNat (s9.2.getD a.toNat ([], ([], ([], ([], (0, 0))))))).set a.toNat (s9.2.getD s9.1.toNat ([], ([], ([], ([], (0, 0))))))))

theorem le_slices_partitionCmpFunc_api_Nomination (a : Int) (b : Int) (pivot : Int) (cmp cmp' : (List UInt8 × List UInt8 × List UInt8 × List UInt8 × Int × Int) × (List UInt8 × List UInt8 × List UInt8 × List UInt8 × Int × Int) × Unit → Option Int) (hcmp : ∀ q, LeO (cmp q) (cmp' q)) (data : List (List UInt8 × List UInt8 × List UInt8 × List UInt8 × Int × Int)) : LeO (slices_partitionCmpFunc_api_Nomination_c a b pivot cmp data) (slices_partitionCmpFunc_api_Nomination a b pivot cmp' data) := by
  unfold slices_partitionCmpFunc_api_Nomination_c slices_partitionCmpFunc_api_Nomination
  repeat' (first | with_reducible exact LeO.refl _ | with_reducible exact LeL.refl _ | with_reducible exact hcmp _ | with_reducible refine le_slices_partitionCmpFunc_api_Nomination_L2 _ _ _ (fun _ => ?_) _ _ _ | with_reducible refine le_slices_partitionCmpFunc_api_Nomination_L0 _ _ _ _ (fun _ => ?_) _ _ | with_reducible refine le_slices_partitionCmpFunc_api_Nomination_L1 _ _ _ (fun _ => ?_) _ _ _ | with_reducible refine LeL.bif ?_ ?_ | with_reducible refine LeL.map (fun _ => ?_) | with_reducible refine LeL.one ?_ | with_reducible refine LeO.iterA (fun _ => ?_) | with_reducible refine LeO.bind ?_ (fun _ => ?_) | with_reducible refine LeO.gd ?_ | with_reducible refine LeO.both ?_ ?_ | with_reducible refine LeO.bif ?_ ?_ | with_reducible refine LeO.elim (fun _ => ?_) (fun _ => ?_) | with_reducible refine LeO.iter (fun _ => ?_))

noncomputable def slices_pdqsortCmpFunc_api_Nomination_L0_c (cmp : (List UInt8 × List UInt8 × List UInt8 × List UInt8 × Int × Int) × (List UInt8 × List UInt8 × List UInt8 × List UInt8 × Int × Int) × Unit → Option Int) (rec : Int → Int → Int → ((List UInt8 × List UInt8 × List UInt8 × List UInt8 × Int × Int) × (List UInt8 × List UInt8 × List UInt8 × List UInt8 × Int × Int) × Unit → Option Int) → List (List UInt8 × List UInt8 × List UInt8 × List UInt8 × Int × Int) → Option (List (List UInt8 × List UInt8 × List UInt8 × List UInt8 × Int × Int))) (a2 : Int) (b2 : Int) (limit2 : Int) (wasBalanced : Bool) (wasPartitioned : Bool) (data2 : List (List UInt8 × List UInt8 × List UInt8 × List UInt8 × Int × Int)) : Option ((Int × Int × Int × Bool × Bool × List (List UInt8 × List UInt8 × List UInt8 × List UInt8 × Int × Int)) ⊕ (List (List UInt8 × List UInt8 × List UInt8 × List UInt8 × Int × Int))) :=
  bif decide (wi64 (b2 - a2) ≤ 12) then (
   (slices_insertionSortCmpFunc_api_Nomination_c a2 b2 cmp data2).bind fun r =>
   some (.inr r))
  else (
   bif decide (limit2 = 0) then (
    (slices_heapSortCmpFunc_api_Nomination_c a2 b2 cmp data2).bind fun r2 =>
    some (.inr r2))
   else (
    Option.bind (α := Int × List (List UInt8 × List UInt8 × List UInt8 × List UInt8 × Int × Int)) (
      bif !wasBalanced then (
       (slices_breakPatternsCmpFunc_api_Nomination_c a2 b2 cmp data2).bind fun r3 =>
       some (wi64 (limit2 - 1), r3))
      else (
       some (limit2, data2))) fun s =>
    (slices_choosePivotCmpFunc_api_Nomination_c s.2 a2 b2 cmp).bind fun r4 =>
    Option.bind (α := Int × Int × List (List UInt8 × List UInt8 × List UInt8 × List UInt8 × Int × Int)) (
      bif decide (r4.2 = 2) then (
       (slices_reverseRangeCmpFunc_api_Nomination_c a2 b2 cmp s.2).bind fun r5 =>
       some (wi64 ((wi64 (b2 - 1)) - (wi64 (r4.1 - a2))), 1, r5))
      else (
       some (r4.1, r4.2, s.2))) fun s2 =>
    Option.bind (α := Bool × List (List UInt8 × List UInt8 × List UInt8 × List UInt8 × Int × Int)) (
      bif wasBalanced then (
       bif wasPartitioned then (
        some (decide (s2.2.1 = 1), s2.2.2))
       else (
        some (false, s2.2.2)))
      else (
       some (false, s2.2.2))) fun s3 =>
    Option.bind (α := (List (List UInt8 × List UInt8 × List UInt8 × List UInt8 × Int × Int)) ⊕ (List (List UInt8 × List UInt8 × List UInt8 × List UInt8 × Int × Int))) (
      bif s3.1 then (
       (slices_partialInsertionSortCmpFunc_api_Nomination_c a2 b2 cmp s3.2).bind fun r6 =>
       bif r6.1 then (
        some (.inr r6.2))
       else (
        some (.inl r6.2)))
      else (
       some (.inl s3.2))) fun s4 =>
    s4.elim (fun s5 =>
     Option.bind (α := Bool × List (List UInt8 × List UInt8 × List UInt8 × List UInt8 × Int × Int)) (
       bif decide (0 < a2) then (
        gd (inB (wi64 (a2 - 1)) s5.length) <|
        gd (inB s2.1 s5.length) <|
        (cmp (s5.getD ((wi64 (a2 - 1)).toNat) ([], ([], ([], ([], (0, 0))))), s5.getD s2.1.toNat ([], ([], ([], ([], (0, 0))))), ())).bind fun r7 =>
        some ((!(decide (r7 < 0))), s5))
       else (
        some (false, s5))) fun s7 =>
     bif s7.1 then (
      (slices_partitionEqualCmpFunc_api_Nomination_c a2 b2 s2.1 cmp s7.2).bind fun r8 =>
      some (.inl (r8.1, b2, s.1, wasBalanced, wasPartitioned, r8.2)))
     else (
      (slices_partitionCmpFunc_api_Nomination_c a2 b2 s2.1 cmp s7.2).bind fun r9 =>
      bif decide (wi64 (r9.1 - a2) < wi64 (b2 - r9.1)) then (
       (rec a2 r9.1 s.1 cmp r9.2.2).bind fun r10 =>
       some (.inl (wi64 (r9.1 + 1), b2, s.1, decide (wi64 (Int.tdiv (wi64 (b2 - a2)) 8) ≤ wi64 (r9.1 - a2)), r9.2.1, r10)))
      else (
       (rec (wi64 (r9.1 + 1)) b2 s.1 cmp r9.2.2).bind fun r11 =>
       some (.inl (a2, r9.1, s.1, decide (wi64 (Int.tdiv (wi64 (b2 - a2)) 8) ≤ wi64 (b2 - r9.1)), r9.2.1, r11)))))
    (fun s6 =>
     some (.inr s6))))

theorem le_slices_pdqsortCmpFunc_api_Nomination_L0 (cmp cmp' : (List UInt8 × List UInt8 × List UInt8 × List UInt8 × Int × Int) × (List UInt8 × List UInt8 × List UInt8 × List UInt8 × Int × Int) × Unit → Option Int) (hcmp : ∀ q, LeO (cmp q) (cmp' q)) (rec rec' : Int → Int → Int → ((List UInt8 × List UInt8 × List UInt8 × List UInt8 × Int × Int) × (List UInt8 × List UInt8 × List UInt8 × List UInt8 × Int × Int) × Unit → Option Int) → List (List UInt8 × List UInt8 × List UInt8 × List UInt8 × Int × Int) → Option (List (List UInt8 × List UInt8 × List UInt8 × List UInt8 × Int × Int))) (hrec : ∀ (z0 : Int) (z1 : Int) (z2 : Int) (z3 z3' : (List UInt8 × List UInt8 × List UInt8 × List UInt8 × Int × Int) × (List UInt8 × List UInt8 × List UInt8 × List UInt8 × Int × Int) × Unit → Option Int) (hz3 : ∀ q, LeO (z3 q) (z3' q)) (z4 : List (List UInt8 × List UInt8 × List UInt8 × List UInt8 × Int × Int)), LeO (rec z0 z1 z2 z3 z4) (rec' z0 z1 z2 z3' z4)) (a2 : Int) (b2 : Int) (limit2 : Int) (wasBalanced : Bool) (wasPartitioned : Bool) (data2 : List (List UInt8 × List UInt8 × List UInt8 × List UInt8 × Int × Int)) : LeO (slices_pdqsortCmpFunc_api_Nomination_L0_c cmp rec a2 b2 limit2 wasBalanced wasPartitioned data2) (slices_pdqsortCmpFunc_api_Nomination_L0 cmp' rec' a2 b2 limit2 wasBalanced wasPartitioned data2) := by
  unfold slices_pdqsortCmpFunc_api_Nomination_L0_c slices_pdqsortCmpFunc_api_Nomination_L0
  repeat' (first | with_reducible exact LeO.refl _ | with_reducible exact LeL.refl _ | with_reducible exact hcmp _ | with_reducible refine hrec _ _ _ _ _ (fun _ => ?_) _ | with_reducible refine le_slices_heapSortCmpFunc_api_Nomination _ _ _ _ (fun _ => ?_) _ | with_reducible refine le_slices_partitionCmpFunc_api_Nomination _ _ _ _ _ (fun _ => ?_) _ | with_reducible refine le_slices_choosePivotCmpFunc_api_Nomination _ _ _ _ _ (fun _ => ?_) | with_reducible refine le_slices_partitionEqualCmpFunc_api_Nomination _ _ _ _ _ (fun _ => ?_) _ | with_reducible refine le_slices_reverseRangeCmpFunc_api_Nomination _ _ _ _ (fun _ => ?_) _ | with_reducible refine le_slices_partialInsertionSortCmpFunc_api_Nomination _ _ _ _ (fun _ => ?_) _ | with_reducible refine le_slices_breakPatternsCmpFunc_api_Nomination _ _ _ _ (fun _ => ?_) _ | with_reducible refine le_slices_insertionSortCmpFunc_api_Nomination _ _ _ _ (fun _ => ?_) _ | with_reducible refine LeL.bif ?_ ?_ | with_reducible refine LeL.map (fun _ => ?_) | with_reducible refine LeL.one ?_ | with_reducible refine LeO.iterA (fun _ => ?_) | with_reducible refine LeO.bind ?_ (fun _ => ?_) | with_reducible refine LeO.gd ?_ | with_reducible refine LeO.both ?_ ?_ | with_reducible refine LeO.bif ?_ ?_ | with_reducible refine LeO.elim (fun _ => ?_) (fun _ => ?_) | with_reducible refine LeO.iter (fun _ => ?_))

noncomputable def slices_pdqsortCmpFunc_api_Nomination_S_c (rec : Int → Int → Int → ((List UInt8 × List UInt8 × List UInt8 × List UInt8 × Int × Int) × (List UInt8 × List UInt8 × List UInt8 × List UInt8 × Int × Int) × Unit → Option Int) → List (List UInt8 × List UInt8 × List UInt8 × List UInt8 × Int × Int) → Option (List (List UInt8 × List UInt8 × List UInt8 × List UInt8 × Int × Int))) (a : Int) (b : Int) (limit : Int) (cmp : (List UInt8 × List UInt8 × List UInt8 × List UInt8 × Int × Int) × (List UInt8 × List UInt8 × List UInt8 × List UInt8 × Int × Int) × Unit → Option Int) (data : List (List UInt8 × List UInt8 × List UInt8 × List UInt8 × Int × Int)) : Option (List (List UInt8 × List UInt8 × List UInt8 × List UInt8 × Int × Int)) :=
  (iterN (fun x => slices_pdqsortCmpFunc_api_Nomination_L0_c cmp rec x.1 x.2.1 x.2.2.1 x.2.2.2.1 x.2.2.2.2.1 x.2.2.2.2.2) 100000 (a, b, limit, true, true, data)).bind fun s8 =>
  some s8

theorem le_slices_pdqsortCmpFunc_api_Nomination_S (rec rec' : Int → Int → Int → ((List UInt8 × List UInt8 × List UInt8 × List UInt8 × Int × Int) × (List UInt8 × List UInt8 × List UInt8 × List UInt8 × Int × Int) × Unit → Option Int) → List (List UInt8 × List UInt8 × List UInt8 × List UInt8 × Int × Int) → Option (List (List UInt8 × List UInt8 × List UInt8 × List UInt8 × Int × Int))) (hrec : ∀ (z0 : Int) (z1 : Int) (z2 : Int) (z3 z3' : (List UInt8 × List UInt8 × List UInt8 × List UInt8 × Int × Int) × (List UInt8 × List UInt8 × List UInt8 × List UInt8 × Int × Int) × Unit → Option Int) (hz3 : ∀ q, LeO (z3 q) (z3' q)) (z4 : List (List UInt8 × List UInt8 × List UInt8 × List UInt8 × Int × Int)), LeO (rec z0 z1 z2 z3 z4) (rec' z0 z1 z2 z3' z4)) (a : Int) (b : Int) (limit : Int) (cmp cmp' : (List UInt8 × List UInt8 × List UInt8 × List UInt8 × Int × Int) × (List UInt8 × List UInt8 × List UInt8 × List UInt8 × Int × Int) × Unit → Option Int) (hcmp : ∀ q, LeO (cmp q) (cmp' q)) (data : List (List UInt8 × List UInt8 × List UInt8 × List UInt8 × Int × Int)) : LeO (slices_pdqsortCmpFunc_api_Nomination_S_c rec a b limit cmp data) (slices_pdqsortCmpFunc_api_Nomination_S rec' a b limit cmp' data) := by
  unfold slices_pdqsortCmpFunc_api_Nomination_S_c slices_pdqsortCmpFunc_api_Nomination_S
  repeat' (first | with_reducible exact LeO.refl _ | with_reducible exact LeL.refl _ | with_reducible refine hrec _ _ _ _ _ (fun _ => ?_) _ | with_reducible exact hcmp _ | with_reducible refine le_slices_pdqsortCmpFunc_api_Nomination_L0 _ _ (fun _ => ?_) _ _ hrec _ _ _ _ _ _ | with_reducible refine LeL.bif ?_ ?_ | with_reducible refine LeL.map (fun _ => ?_) | with_reducible refine LeL.one ?_ | with_reducible refine LeO.iterA (fun _ => ?_) | with_reducible refine LeO.bind ?_ (fun _ => ?_) | with_reducible refine LeO.gd ?_ | with_reducible refine LeO.both ?_ ?_ | with_reducible refine LeO.bif ?_ ?_ | with_reducible refine LeO.elim (fun _ => ?_) (fun _ => ?_) | with_reducible refine LeO.iter (fun _ => ?_))

noncomputable def slices_pdqsortCmpFunc_api_Nomination_F_c : Nat → Int → Int → Int → ((List UInt8 × List UInt8 × List UInt8 × List UInt8 × Int × Int) × (List UInt8 × List UInt8 × List UInt8 × List UInt8 × Int × Int) × Unit → Option Int) → List (List UInt8 × List UInt8 × List UInt8 × List UInt8 × Int × Int) → Option (List (List UInt8 × List UInt8 × List UInt8 × List UInt8 × Int × Int))
  | 0 => fun _ _ _ _ _ => none
  | n + 1 => slices_pdqsortCmpFunc_api_Nomination_S_c (slices_pdqsortCmpFunc_api_Nomination_F_c n)

theorem le_slices_pdqsortCmpFunc_api_Nomination_F : ∀ (n : Nat) (x0 : Int) (x1 : Int) (x2 : Int) (x3 x3' : (List UInt8 × List UInt8 × List UInt8 × List UInt8 × Int × Int) × (List UInt8 × List UInt8 × List UInt8 × List UInt8 × Int × Int) × Unit → Option Int) (hx3 : ∀ q, LeO (x3 q) (x3' q)) (x4 : List (List UInt8 × List UInt8 × List UInt8 × List UInt8 × Int × Int)), LeO (slices_pdqsortCmpFunc_api_Nomination_F_c n x0 x1 x2 x3 x4) (slices_pdqsortCmpFunc_api_Nomination_F n x0 x1 x2 x3' x4)
  | 0, _, _, _, _, _, _, _ => LeO.refl _
  | n + 1, x0, x1, x2, x3, x3', hx3, x4 => le_slices_pdqsortCmpFunc_api_Nomination_S _ _ (fun z0 z1 z2 z3 z3' hz3 z4 => le_slices_pdqsortCmpFunc_api_Nomination_F n z0 z1 z2 z3 z3' hz3 z4) x0 x1 x2 x3 x3' hx3 x4

noncomputable def slices_pdqsortCmpFunc_api_Nomination_c (a : Int) (b : Int) (limit : Int) (cmp : (List UInt8 × List UInt8 × List UInt8 × List UInt8 × Int × Int) × (List UInt8 × List UInt8 × List UInt8 × List UInt8 × Int × Int) × Unit → Option Int) (data : List (List UInt8 × List UInt8 × List UInt8 × List UInt8 × Int × Int)) : Option (List (List UInt8 × List UInt8 × List UInt8 × List UInt8 × Int × Int)) := slices_pdqsortCmpFunc_api_Nomination_F_c 18446744073709551616 a b limit cmp data

theorem le_slices_pdqsortCmpFunc_api_Nomination (a : Int) (b : Int) (limit : Int) (cmp cmp' : (List UInt8 × List UInt8 × List UInt8 × List UInt8 × Int × Int) × (List UInt8 × List UInt8 × List UInt8 × List UInt8 × Int × Int) × Unit → Option Int) (hcmp : ∀ q, LeO (cmp q) (cmp' q)) (data : List (List UInt8 × List UInt8 × List UInt8 × List UInt8 × Int × Int)) : LeO (slices_pdqsortCmpFunc_api_Nomination_c a b limit cmp data) (slices_pdqsortCmpFunc_api_Nomination a b limit cmp' data) := by
  unfold slices_pdqsortCmpFunc_api_Nomination_c slices_pdqsortCmpFunc_api_Nomination
  repeat' (first | with_reducible exact LeO.refl _ | with_reducible exact LeL.refl _ | with_reducible exact hcmp _ | with_reducible refine le_slices_pdqsortCmpFunc_api_Nomination_F _ _ _ _ _ _ (fun _ => ?_) _ | with_reducible refine LeL.bif ?_ ?_ | with_reducible refine LeL.map (fun _ => ?_) | with_reducible refine LeL.one ?_ | with_reducible refine LeO.iterA (fun _ => ?_) | with_reducible refine LeO.bind ?_ (fun _ => ?_) | with_reducible refine LeO.gd ?_ | with_reducible refine LeO.both ?_ ?_ | with_reducible refine LeO.bif ?_ ?_ | with_reducible refine LeO.elim (fun _ => ?_) (fun _ => ?_) | with_reducible refine LeO.iter (fun _ => ?_))

noncomputable def slices_SortFunc_api_Nomination_api_Nomination_c (cmp : (List UInt8 × List UInt8 × List UInt8 × List UInt8 × Int × Int) × (List UInt8 × List UInt8 × List UInt8 × List UInt8 × Int × Int) × Unit → Option Int) (x : List (List UInt8 × List UInt8 × List UInt8 × List UInt8 × Int × Int)) : Option (List (List UInt8 × List UInt8 × List UInt8 × List UInt8 × Int × Int)) :=
  (math_bits_Len (wu64 (x.length : Int))).bind fun r =>
  (slices_pdqsortCmpFunc_api_Nomination_c 0 (x.length : Int) r cmp x).bind fun r2 =>
  some r2

theorem le_slices_SortFunc_api_Nomination_api_Nomination (cmp cmp' : (List UInt8 × List UInt8 × List UInt8 × List UInt8 × Int × Int) × (List UInt8 × List UInt8 × List UInt8 × List UInt8 × Int × Int) × Unit → Option Int) (hcmp : ∀ q, LeO (cmp q) (cmp' q)) (x : List (List UInt8 × List UInt8 × List UInt8 × List UInt8 × Int × Int)) : LeO (slices_SortFunc_api_Nomination_api_Nomination_c cmp x) (slices_SortFunc_api_Nomination_api_Nomination cmp' x) := by
  unfold slices_SortFunc_api_Nomination_api_Nomination_c slices_SortFunc_api_Nomination_api_Nomination
  repeat' (first | with_reducible exact LeO.refl _ | with_reducible exact LeL.refl _ | with_reducible exact hcmp _ | with_reducible refine le_slices_pdqsortCmpFunc_api_Nomination _ _ _ _ _ (fun _ => ?_) _ | with_reducible refine LeL.bif ?_ ?_ | with_reducible refine LeL.map (fun _ => ?_) | with_reducible refine LeL.one ?_ | with_reducible refine LeO.iterA (fun _ => ?_) | with_reducible refine LeO.bind ?_ (fun _ => ?_) | with_reducible refine LeO.gd ?_ | with_reducible refine LeO.both ?_ ?_ | with_reducible refine LeO.bif ?_ ?_ | with_reducible refine LeO.elim (fun _ => ?_) (fun _ => ?_) | with_reducible refine LeO.iter (fun _ => ?_))

noncomputable def cmp_Or_int_c (vals : List Int) : Option (Int) :=
  (iterN (fun x => cmp_Or_int_L0 vals x) 100000 0).bind fun s =>
  s.elim (fun s2 =>
   some 0)
  (fun s3 =>
   some s3)

theorem le_cmp_Or_int (vals : List Int) : LeO (cmp_Or_int_c vals) (cmp_Or_int vals) := by
  unfold cmp_Or_int_c cmp_Or_int
  repeat' (first | with_reducible exact LeO.refl _ | with_reducible exact LeL.refl _ | with_reducible refine LeL.bif ?_ ?_ | with_reducible refine LeL.map (fun _ => ?_) | with_reducible refine LeL.one ?_ | with_reducible refine LeO.iterA (fun _ => ?_) | with_reducible refine LeO.bind ?_ (fun _ => ?_) | with_reducible refine LeO.gd ?_ | with_reducible refine LeO.both ?_ ?_ | with_reducible refine LeO.bif ?_ ?_ | with_reducible refine LeO.elim (fun _ => ?_) (fun _ => ?_) | with_reducible refine LeO.iter (fun _ => ?_))

noncomputable def nomination_compare_c (a : List UInt8 × List UInt8 × List UInt8 × List UInt8 × Int × Int) (b : List UInt8 × List UInt8 × List UInt8 × List UInt8 × Int × Int) : Option (Int) :=
  (cmp_Compare_int a.2.2.2.2.1 b.2.2.2.2.1).bind fun r =>
  (cmp_Compare_string a.1 b.1).bind fun r2 =>
  (cmp_Compare_string a.2.1 b.2.1).bind fun r3 =>
  (cmp_Compare_string a.2.2.1 b.2.2.1).bind fun r4 =>
  (cmp_Compare_string a.2.2.2.1 b.2.2.2.1).bind fun r5 =>
  (cmp_Or_int_c [r, r2, r3, r4, r5]).bind fun r6 =>
  some r6

theorem le_nomination_compare (a : List UInt8 × List UInt8 × List UInt8 × List UInt8 × Int × Int) (b : List UInt8 × List UInt8 × List UInt8 × List UInt8 × Int × Int) : LeO (nomination_compare_c a b) (nomination_compare a b) := by
  unfold nomination_compare_c nomination_compare
  repeat' (first | with_reducible exact LeO.refl _ | with_reducible exact LeL.refl _ | with_reducible refine le_cmp_Or_int _ | with_reducible refine LeL.bif ?_ ?_ | with_reducible refine LeL.map (fun _ => ?_) | with_reducible refine LeL.one ?_ | with_reducible refine LeO.iterA (fun _ => ?_) | with_reducible refine LeO.bind ?_ (fun _ => ?_) | with_reducible refine LeO.gd ?_ | with_reducible refine LeO.both ?_ ?_ | with_reducible refine LeO.bif ?_ ?_ | with_reducible refine LeO.elim (fun _ => ?_) (fun _ => ?_) | with_reducible refine LeO.iter (fun _ => ?_))

noncomputable def nomination_Totals_c (l : List (List UInt8 × List UInt8 × List UInt8 × List UInt8 × Int × Int)) : Option ((List (List UInt8 × List UInt8 × List UInt8 × List UInt8 × Int × Int)) × Int) :=
  (nomination_Check_c l).bind fun r =>
  bif !decide (r = 0) then (
   some ([], r))
  else (
   (iterN (fun x => nomination_Totals_L0 l x.1 x.2) 100000 (0, [])).bind fun s =>
   (iterAN (fun x2 => nomination_Totals_L1 x2.1 x2.2) 1000 ([], ((([], ([], ([], ([], (0, 0))))), 0) :: s))).bind fun s2 =>
   s2.elim (fun s3 =>
    (slices_SortFunc_api_Nomination_api_Nomination_c (fun h => (nomination_compare_c h.1 h.2.1).bind fun y => some y) s3).bind fun r2 =>
    some (r2, 0))
   (fun s4 =>
    some (s4.1, s4.2)))

theorem le_nomination_Totals (l : List (List UInt8 × List UInt8 × List UInt8 × List UInt8 × Int × Int)) : LeO (nomination_Totals_c l) (nomination_Totals l) := by
  unfold nomination_Totals_c nomination_Totals
  repeat' (first | with_reducible exact LeO.refl _ | with_reducible exact LeL.refl _ | with_reducible refine le_nomination_Check _ | with_reducible refine le_nomination_compare _ _ | with_reducible refine le_slices_SortFunc_api_Nomination_api_Nomination _ _ (fun _ => ?_) _ | with_reducible refine LeL.bif ?_ ?_ | with_reducible refine LeL.map (fun _ => ?_) | with_reducible refine LeL.one ?_ | with_reducible refine LeO.iterA (fun _ => ?_) | with_reducible refine LeO.bind ?_ (fun _ => ?_) | with_reducible refine LeO.gd ?_ | with_reducible refine LeO.both ?_ ?_ | with_reducible refine LeO.bif ?_ ?_ | with_reducible refine LeO.elim (fun _ => ?_) (fun _ => ?_) | with_reducible refine LeO.iter (fun _ => ?_))

noncomputable def network_Port_c (n : List (List UInt8) × List (List UInt8 × Int × Int × Int × Int × Int × List (Int × Int × Int)) × List (List UInt8 × Int × Int) × List (List UInt8 × Int × Int × Int × Int) × Int × Int) (name : List UInt8) : Option (Int) :=
  (slices_IndexFunc_api_Port_api_Port_c n.2.2.1 (fun h => (network_Port_1 h.1 name).bind fun y => some y)).bind fun r =>
  some r

theorem le_network_Port (n : List (List UInt8) × List (List UInt8 × Int × Int × Int × Int × Int × List (Int × Int × Int)) × List (List UInt8 × Int × Int) × List (List UInt8 × Int × Int × Int × Int) × Int × Int) (name : List UInt8) : LeO (network_Port_c n name) (network_Port n name) := by
  unfold network_Port_c network_Port
  repeat' (first | with_reducible exact LeO.refl _ | with_reducible exact LeL.refl _ | with_reducible refine le_slices_IndexFunc_api_Port_api_Port _ _ _ (fun _ => ?_) | with_reducible refine LeL.bif ?_ ?_ | with_reducible refine LeL.map (fun _ => ?_) | with_reducible refine LeL.one ?_ | with_reducible refine LeO.iterA (fun _ => ?_) | with_reducible refine LeO.bind ?_ (fun _ => ?_) | with_reducible refine LeO.gd ?_ | with_reducible refine LeO.both ?_ ?_ | with_reducible refine LeO.bif ?_ ?_ | with_reducible refine LeO.elim (fun _ => ?_) (fun _ => ?_) | with_reducible refine LeO.iter (fun _ => ?_))

noncomputable def lots_rank_c (products : List (List UInt8 × Int × Int × Int × Int)) (order : List (List UInt8)) (index : Int) : Option (Int) :=
  gd (inB index products.length) <|
  (slices_Index_string_string_c order ((products.getD index.toNat ([], (0, (0, (0, 0))))).1)).bind fun r =>
  bif decide (0 ≤ r) then (
   some r)
  else (
   some (wi64 ((order.length : Int) + index)))

theorem le_lots_rank (products : List (List UInt8 × Int × Int × Int × Int)) (order : List (List UInt8)) (index : Int) : LeO (lots_rank_c products order index) (lots_rank products order index) := by
  unfold lots_rank_c lots_rank
  repeat' (first | with_reducible exact LeO.refl _ | with_reducible exact LeL.refl _ | with_reducible refine le_slices_Index_string_string _ _ | with_reducible refine LeL.bif ?_ ?_ | with_reducible refine LeL.map (fun _ => ?_) | with_reducible refine LeL.one ?_ | with_reducible refine LeO.iterA (fun _ => ?_) | with_reducible refine LeO.bind ?_ (fun _ => ?_) | with_reducible refine LeO.gd ?_ | with_reducible refine LeO.both ?_ ?_ | with_reducible refine LeO.bif ?_ ?_ | with_reducible refine LeO.elim (fun _ => ?_) (fun _ => ?_) | with_reducible refine LeO.iter (fun _ => ?_))

noncomputable def lots_Batches_L0_c (n : List (List UInt8) × List (List UInt8 × Int × Int × Int × Int × Int × List (Int × Int × Int)) × List (List UInt8 × Int × Int) × List (List UInt8 × Int × Int × Int × Int) × Int × Int) (products : List (List UInt8 × Int × Int × Int × Int)) (order : List (List UInt8)) (r4 : (List (List UInt8 × List UInt8 × List UInt8 × List UInt8 × Int × Int)) × Int) (v : Int) (all : List ((List UInt8 × List UInt8 × List UInt8 × List UInt8 × Int × Int) × (Int × List UInt8 × Int × Int) × Int)) : Option ((Int × List ((List UInt8 × List UInt8 × List UInt8 × List UInt8 × Int × Int) × (Int × List UInt8 × Int × Int) × Int)) ⊕ ((List ((List UInt8 × List UInt8 × List UInt8 × List UInt8 × Int × Int) × (Int × List UInt8 × Int × Int) × Int)) ⊕ ((List (Int × List UInt8 × Int × Int)) × (List (Int × Int × Int)) × Int))) :=
  bif decide (v < (r4.1.length : Int)) then (
   gd (inB v r4.1.length) <|
   (product_Find_c products (((r4.1.getD v.toNat ([], ([], ([], ([], (0, 0)))))).2).1)).bind fun r5 =>
   (network_Port_c (n.1, (n.2.1, (n.2.2.1, (n.2.2.2.1, (n.2.2.2.2.1, n.2.2.2.2.2))))) ((((r4.1.getD v.toNat ([], ([], ([], ([], (0, 0)))))).2).2).1)).bind fun r6 =>
   (network_Port_c (n.1, (n.2.1, (n.2.2.1, (n.2.2.2.1, (n.2.2.2.2.1, n.2.2.2.2.2))))) (((((r4.1.getD v.toNat ([], ([], ([], ([], (0, 0)))))).2).2).2).1)).bind fun r7 =>
   Option.bind (α := Bool × List ((List UInt8 × List UInt8 × List UInt8 × List UInt8 × Int × Int) × (Int × List UInt8 × Int × Int) × Int)) (
     bif decide (r5 < 0) then (
      some (true, all))
     else (
      bif decide (r6 < 0) then (
       some (true, all))
      else (
       some (decide (r7 < 0), all)))) fun s =>
   bif s.1 then (
    some (.inr (.inr ([], [], 8))))
   else (
    (lots_rank_c products order r5).bind fun r8 =>
    gd (fits (s.2.length + 1) 128) <|
    some (.inl (wi64 (v + 1), s.2 ++ [(((r4.1.getD v.toNat ([], ([], ([], ([], (0, 0)))))).1, (((r4.1.getD v.toNat ([], ([], ([], ([], (0, 0)))))).2).1, ((((r4.1.getD v.toNat ([], ([], ([], ([], (0, 0)))))).2).2).1, (((((r4.1.getD v.toNat ([], ([], ([], ([], (0, 0)))))).2).2).2).1, ((((((r4.1.getD v.toNat ([], ([], ([], ([], (0, 0)))))).2).2).2).2).1, (((((r4.1.getD v.toNat ([], ([], ([], ([], (0, 0)))))).2).2).2).2).2))))), ((r5, ((r4.1.getD v.toNat ([], ([], ([], ([], (0, 0)))))).1, (r6, r7))), r8))]))))
  else (
   some (.inr (.inl all)))

theorem le_lots_Batches_L0 (n : List (List UInt8) × List (List UInt8 × Int × Int × Int × Int × Int × List (Int × Int × Int)) × List (List UInt8 × Int × Int) × List (List UInt8 × Int × Int × Int × Int) × Int × Int) (products : List (List UInt8 × Int × Int × Int × Int)) (order : List (List UInt8)) (r4 : (List (List UInt8 × List UInt8 × List UInt8 × List UInt8 × Int × Int)) × Int) (v : Int) (all : List ((List UInt8 × List UInt8 × List UInt8 × List UInt8 × Int × Int) × (Int × List UInt8 × Int × Int) × Int)) : LeO (lots_Batches_L0_c n products order r4 v all) (lots_Batches_L0 n products order r4 v all) := by
  unfold lots_Batches_L0_c lots_Batches_L0
  repeat' (first | with_reducible exact LeO.refl _ | with_reducible exact LeL.refl _ | with_reducible refine le_network_Port _ _ | with_reducible refine le_product_Find _ _ | with_reducible refine le_lots_rank _ _ _ | with_reducible refine LeL.bif ?_ ?_ | with_reducible refine LeL.map (fun _ => ?_) | with_reducible refine LeL.one ?_ | with_reducible refine LeO.iterA (fun _ => ?_) | with_reducible refine LeO.bind ?_ (fun _ => ?_) | with_reducible refine LeO.gd ?_ | with_reducible refine LeO.both ?_ ?_ | with_reducible refine LeO.bif ?_ ?_ | with_reducible refine LeO.elim (fun _ => ?_) (fun _ => ?_) | with_reducible refine LeO.iter (fun _ => ?_))

noncomputable def slices_insertionSortCmpFunc_lots_made_L1_c (a : Int) (cmp : ((List UInt8 × List UInt8 × List UInt8 × List UInt8 × Int × Int) × (Int × List UInt8 × Int × Int) × Int) × ((List UInt8 × List UInt8 × List UInt8 × List UInt8 × Int × Int) × (Int × List UInt8 × Int × Int) × Int) × Unit → Option Int) (j : Int) (data3 : List ((List UInt8 × List UInt8 × List UInt8 × List UInt8 × Int × Int) × (Int × List UInt8 × Int × Int) × Int)) : Option ((Int × List ((List UInt8 × List UInt8 × List UInt8 × List UInt8 × Int × Int) × (Int × List UInt8 × Int × Int) × Int)) ⊕ (List ((List UInt8 × List UInt8 × List UInt8 × List UInt8 × Int × Int) × (Int × List UInt8 × Int × Int) × Int))) :=
  Option.bind (α := Bool × List ((List UInt8 × List UInt8 × List UInt8 × List UInt8 × Int × Int) × (Int × List UInt8 × Int × Int) × Int)) (
    bif decide (a < j) then (
     gd (inB j data3.length) <|
     gd (inB (wi64 (j - 1)) data3.length) <|
     (cmp (data3.getD j.toNat (([], ([], ([], ([], (0, 0))))), ((0, ([], (0, 0))), 0)), data3.getD ((wi64 (j - 1)).toNat) (([], ([], ([], ([], (0, 0))))), ((0, ([], (0, 0))), 0)), ())).bind fun r =>
     some (decide (r < 0), data3))
    else (
     some (false, data3))) fun s =>
  bif s.1 then (
   gd (inB (wi64 (j - 1)) s.2.length) <|
   gd (inB j s.2.length) <|
   gd (inB j s.2.length) <|
   gd (inB (wi64 (j - 1)) (s.2.set j.toNat (s.2.getD ((wi64 (j - 1)).toNat) (([], ([], ([], ([], (0, 0))))), ((0, ([], (0, 0))), 0)))).length) <|
   some (.inl (wi64 (j - 1), (s.2.set j.toNat (s.2.getD ((wi64 (j - 1)).toNat) (([], ([], ([], ([], (0, 0))))), ((0, ([], (0, 0))), 0)))).set ((wi64 (j - 1)).toNat) (s.2.getD j.toNat (([], ([], ([], ([], (0, 0))))), ((0, ([], (0, 0))), 0))))))
  else (
   some (.inr s.2))

theorem le_slices_insertionSortCmpFunc_lots_made_L1 (a : Int) (cmp cmp' : ((List UInt8 × List UInt8 × List UInt8 × List UInt8 × Int × Int) × (Int × List UInt8 × Int × Int) × Int) × ((List UInt8 × List UInt8 × List UInt8 × List UInt8 × Int × Int) × (Int × List UInt8 × Int × Int) × Int) × Unit → Option Int) (hcmp : ∀ q, LeO (cmp q) (cmp' q)) (j : Int) (data3 : List ((List UInt8 × List UInt8 × List UInt8 × List UInt8 × Int × Int) × (Int × List UInt8 × Int × Int) × Int)) : LeO (slices_insertionSortCmpFunc_lots_made_L1_c a cmp j data3) (slices_insertionSortCmpFunc_lots_made_L1 a cmp' j data3) := by
  unfold slices_insertionSortCmpFunc_lots_made_L1_c slices_insertionSortCmpFunc_lots_made_L1
  repeat' (first | with_reducible exact LeO.refl _ | with_reducible exact LeL.refl _ | with_reducible exact hcmp _ | with_reducible refine LeL.bif ?_ ?_ | with_reducible refine LeL.map (fun _ => ?_) | with_reducible refine LeL.one ?_ | with_reducible refine LeO.iterA (fun _ => ?_) | with_reducible refine LeO.bind ?_ (fun _ => ?_) | with_reducible refine LeO.gd ?_ | with_reducible refine LeO.both ?_ ?_ | with_reducible refine LeO.bif ?_ ?_ | with_reducible refine LeO.elim (fun _ => ?_) (fun _ => ?_) | with_reducible refine LeO.iter (fun _ => ?_))

noncomputable def slices_insertionSortCmpFunc_lots_made_L0_c (a : Int) (b : Int) (cmp : ((List UInt8 × List UInt8 × List UInt8 × List UInt8 × Int × Int) × (Int × List UInt8 × Int × Int) × Int) × ((List UInt8 × List UInt8 × List UInt8 × List UInt8 × Int × Int) × (Int × List UInt8 × Int × Int) × Int) × Unit → Option Int) (i : Int) (data2 : List ((List UInt8 × List UInt8 × List UInt8 × List UInt8 × Int × Int) × (Int × List UInt8 × Int × Int) × Int)) : Option ((Int × List ((List UInt8 × List UInt8 × List UInt8 × List UInt8 × Int × Int) × (Int × List UInt8 × Int × Int) × Int)) ⊕ (List ((List UInt8 × List UInt8 × List UInt8 × List UInt8 × Int × Int) × (Int × List UInt8 × Int × Int) × Int))) :=
  bif decide (i < b) then (
   (iterN (fun x => slices_insertionSortCmpFunc_lots_made_L1_c a cmp x.1 x.2) 100000 (i, data2)).bind fun s2 =>
   some (.inl (wi64 (i + 1), s2)))
  else (
   some (.inr data2))

theorem le_slices_insertionSortCmpFunc_lots_made_L0 (a : Int) (b : Int) (cmp cmp' : ((List UInt8 × List UInt8 × List UInt8 × List UInt8 × Int × Int) × (Int × List UInt8 × Int × Int) × Int) × ((List UInt8 × List UInt8 × List UInt8 × List UInt8 × Int × Int) × (Int × List UInt8 × Int × Int) × Int) × Unit → Option Int) (hcmp : ∀ q, LeO (cmp q) (cmp' q)) (i : Int) (data2 : List ((List UInt8 × List UInt8 × List UInt8 × List UInt8 × Int × Int) × (Int × List UInt8 × Int × Int) × Int)) : LeO (slices_insertionSortCmpFunc_lots_made_L0_c a b cmp i data2) (slices_insertionSortCmpFunc_lots_made_L0 a b cmp' i data2) := by
  unfold slices_insertionSortCmpFunc_lots_made_L0_c slices_insertionSortCmpFunc_lots_made_L0
  repeat' (first | with_reducible exact LeO.refl _ | with_reducible exact LeL.refl _ | with_reducible exact hcmp _ | with_reducible refine le_slices_insertionSortCmpFunc_lots_made_L1 _ _ _ (fun _ => ?_) _ _ | with_reducible refine LeL.bif ?_ ?_ | with_reducible refine LeL.map (fun _ => ?_) | with_reducible refine LeL.one ?_ | with_reducible refine LeO.iterA (fun _ => ?_) | with_reducible refine LeO.bind ?_ (fun _ => ?_) | with_reducible refine LeO.gd ?_ | with_reducible refine LeO.both ?_ ?_ | with_reducible refine LeO.bif ?_ ?_ | with_reducible refine LeO.elim (fun _ => ?_) (fun _ => ?_) | with_reducible refine LeO.iter (fun _ => ?_))

noncomputable def slices_insertionSortCmpFunc_lots_made_c (a : Int) (b : Int) (cmp : ((List UInt8 × List UInt8 × List UInt8 × List UInt8 × Int × Int) × (Int × List UInt8 × Int × Int) × Int) × ((List UInt8 × List UInt8 × List UInt8 × List UInt8 × Int × Int) × (Int × List UInt8 × Int × Int) × Int) × Unit → Option Int) (data : List ((List UInt8 × List UInt8 × List UInt8 × List UInt8 × Int × Int) × (Int × List UInt8 × Int × Int) × Int)) : Option (List ((List UInt8 × List UInt8 × List UInt8 × List UInt8 × Int × Int) × (Int × List UInt8 × Int × Int) × Int)) :=
  (iterN (fun x2 => slices_insertionSortCmpFunc_lots_made_L0_c a b cmp x2.1 x2.2) 100000 (wi64 (a + 1), data)).bind fun s3 =>
  some s3

theorem le_slices_insertionSortCmpFunc_lots_made (a : Int) (b : Int) (cmp cmp' : ((List UInt8 × List UInt8 × List UInt8 × List UInt8 × Int × Int) × (Int × List UInt8 × Int × Int) × Int) × ((List UInt8 × List UInt8 × List UInt8 × List UInt8 × Int × Int) × (Int × List UInt8 × Int × Int) × Int) × Unit → Option Int) (hcmp : ∀ q, LeO (cmp q) (cmp' q)) (data : List ((List UInt8 × List UInt8 × List UInt8 × List UInt8 × Int × Int) × (Int × List UInt8 × Int × Int) × Int)) : LeO (slices_insertionSortCmpFunc_lots_made_c a b cmp data) (slices_insertionSortCmpFunc_lots_made a b cmp' data) := by
  unfold slices_insertionSortCmpFunc_lots_made_c slices_insertionSortCmpFunc_lots_made
  repeat' (first | with_reducible exact LeO.refl _ | with_reducible exact LeL.refl _ | with_reducible exact hcmp _ | with_reducible refine le_slices_insertionSortCmpFunc_lots_made_L0 _ _ _ _ (fun _ => ?_) _ _ | with_reducible refine LeL.bif ?_ ?_ | with_reducible refine LeL.map (fun _ => ?_) | with_reducible refine LeL.one ?_ | with_reducible refine LeO.iterA (fun _ => ?_) | with_reducible refine LeO.bind ?_ (fun _ => ?_) | with_reducible refine LeO.gd ?_ | with_reducible refine LeO.both ?_ ?_ | with_reducible refine LeO.bif ?_ ?_ | with_reducible refine LeO.elim (fun _ => ?_) (fun _ => ?_) | with_reducible refine LeO.iter (fun _ => ?_))

noncomputable def slices_siftDownCmpFunc_lots_made_L0_c (hi : Int) (first : Int) (cmp : ((List UInt8 × List UInt8 × List UInt8 × List UInt8 × Int × Int) × (Int × List UInt8 × Int × Int) × Int) × ((List UInt8 × List UInt8 × List UInt8 × List UInt8 × Int × Int) × (Int × List UInt8 × Int × Int) × Int) × Unit → Option Int) (root : Int) (data2 : List ((List UInt8 × List UInt8 × List UInt8 × List UInt8 × Int × Int) × (Int × List UInt8 × Int × Int) × Int)) : Option ((Int × List ((List UInt8 × List UInt8 × List UInt8 × List UInt8 × Int × Int) × (Int × List UInt8 × Int × Int) × Int)) ⊕ ((List ((List UInt8 × List UInt8 × List UInt8 × List UInt8 × Int × Int) × (Int × List UInt8 × Int × Int) × Int)) ⊕ (List ((List UInt8 × List UInt8 × List UInt8 × List UInt8 × Int × Int) × (Int × List UInt8 × Int × Int) × Int)))) :=
  bif decide (hi ≤ wi64 ((wi64 (2 * root)) + 1)) then (
   some (.inr (.inl data2)))
  else (
   Option.bind (α := Bool × List ((List UInt8 × List UInt8 × List UInt8 × List UInt8 × Int × Int) × (Int × List UInt8 × Int × Int) × Int)) (
     bif decide (wi64 ((wi64 ((wi64 (2 * root)) + 1)) + 1) < hi) then (
      gd (inB (wi64 (first + (wi64 ((wi64 (2 * root)) + 1)))) data2.length) <|
      gd (inB (wi64 ((wi64 (first + (wi64 ((wi64 (2 * root)) + 1)))) + 1)) data2.length) <|
      (cmp (data2.getD ((wi64 (first + (wi64 ((wi64 (2 * root)) + 1)))).toNat) (([], ([], ([], ([], (0, 0))))), ((0, ([], (0, 0))), 0)), data2.getD ((wi64 ((wi64 (first + (wi64 ((wi64 (2 * root)) + 1)))) + 1)).toNat) (([], ([], ([], ([], (0, 0))))), ((0, ([], (0, 0))), 0)), ())).bind fun r =>
      some (decide (r < 0), data2))
     else (
      some (false, data2))) fun s =>
   Option.bind (α := Int × List ((List UInt8 × List UInt8 × List UInt8 × List UInt8 × Int × Int) × (Int × List UInt8 × Int × Int) × Int)) (
     bif s.1 then (
      some (wi64 ((wi64 ((wi64 (2 * root)) + 1)) + 1), s.2))
     else (
      some (wi64 ((wi64 (2 * root)) + 1), s.2))) fun s2 =>
   gd (inB (wi64 (first + root)) s2.2.length) <|
   gd (inB (wi64 (first + s2.1)) s2.2.length) <|
   (cmp (s2.2.getD ((wi64 (first + root)).toNat) (([], ([], ([], ([], (0, 0))))), ((0, ([], (0, 0))), 0)), s2.2.getD ((wi64 (first + s2.1)).toNat) (([], ([], ([], ([], (0, 0))))), ((0, ([], (0, 0))), 0)), ())).bind fun r2 =>
   bif !(decide (r2 < 0)) then (
    some (.inr (.inr s2.2)))
   else (
    gd (inB (wi64 (first + s2.1)) s2.2.length) <|
    gd (inB (wi64 (first + root)) s2.2.length) <|
    gd (inB (wi64 (first + root)) s2.2.length) <|
    gd (inB (wi64 (first + s2.1)) (s2.2.set ((wi64 (first + root)).toNat) (s2.2.getD ((wi64 (first + s2.1)).toNat) (([], ([], ([], ([], (0, 0))))), ((0, ([], (0, 0))), 0)))).length) <|
    some (.inl (s2.1, (s2.2.set ((wi64 (first + root)).toNat) (s2.2.getD ((wi64 (first + s2.1)).toNat) (([], ([], ([], ([], (0, 0))))), ((0, ([], (0, 0))), 0)))).set ((wi64 (first + s2.1)).toNat) (s2.2.getD ((wi64 (first + root)).toNat) (([], ([], ([], ([], (0, 0))))), ((0, ([], (0, 0))), 0)))))))

theorem le_slices_siftDownCmpFunc_lots_made_L0 (hi : Int) (first : Int) (cmp cmp' : ((List UInt8 × List UInt8 × List UInt8 × List UInt8 × Int × Int) × (Int × List UInt8 × Int × Int) × Int) × ((List UInt8 × List UInt8 × List UInt8 × List UInt8 × Int × Int) × (Int × List UInt8 × Int × Int) × Int) × Unit → Option Int) (hcmp : ∀ q, LeO (cmp q) (cmp' q)) (root : Int) (data2 : List ((List UInt8 × List UInt8 × List UInt8 × List UInt8 × Int × Int) × (Int × List UInt8 × Int × Int) × Int)) : LeO (slices_siftDownCmpFunc_lots_made_L0_c hi first cmp root data2) (slices_siftDownCmpFunc_lots_made_L0 hi first cmp' root data2) := by
  unfold slices_siftDownCmpFunc_lots_made_L0_c slices_siftDownCmpFunc_lots_made_L0
  repeat' (first | with_reducible exact LeO.refl _ | with_reducible exact LeL.refl _ | with_reducible exact hcmp _ | with_reducible refine LeL.bif ?_ ?_ | with_reducible refine LeL.map (fun _ => ?_) | with_reducible refine LeL.one ?_ | with_reducible refine LeO.iterA (fun _ => ?_) | with_reducible refine LeO.bind ?_ (fun _ => ?_) | with_reducible refine LeO.gd ?_ | with_reducible refine LeO.both ?_ ?_ | with_reducible refine LeO.bif ?_ ?_ | with_reducible refine LeO.elim (fun _ => ?_) (fun _ => ?_) | with_reducible refine LeO.iter (fun _ => ?_))

noncomputable def slices_siftDownCmpFunc_lots_made_c (lo : Int) (hi : Int) (first : Int) (cmp : ((List UInt8 × List UInt8 × List UInt8 × List UInt8 × Int × Int) × (Int × List UInt8 × Int × Int) × Int) × ((List UInt8 × List UInt8 × List UInt8 × List UInt8 × Int × Int) × (Int × List UInt8 × Int × Int) × Int) × Unit → Option Int) (data : List ((List UInt8 × List UInt8 × List UInt8 × List UInt8 × Int × Int) × (Int × List UInt8 × Int × Int) × Int)) : Option (List ((List UInt8 × List UInt8 × List UInt8 × List UInt8 × Int × Int) × (Int × List UInt8 × Int × Int) × Int)) :=
  (iterN (fun x => slices_siftDownCmpFunc_lots_made_L0_c hi first cmp x.1 x.2) 100000 (lo, data)).bind fun s3 =>
  s3.elim (fun s4 =>
   some s4)
  (fun s5 =>
   some s5)

theorem le_slices_siftDownCmpFunc_lots_made (lo : Int) (hi : Int) (first : Int) (cmp cmp' : ((List UInt8 × List UInt8 × List UInt8 × List UInt8 × Int × Int) × (Int × List UInt8 × Int × Int) × Int) × ((List UInt8 × List UInt8 × List UInt8 × List UInt8 × Int × Int) × (Int × List UInt8 × Int × Int) × Int) × Unit → Option Int) (hcmp : ∀ q, LeO (cmp q) (cmp' q)) (data : List ((List UInt8 × List UInt8 × List UInt8 × List UInt8 × Int × Int) × (Int × List UInt8 × Int × Int) × Int)) : LeO (slices_siftDownCmpFunc_lots_made_c lo hi first cmp data) (slices_siftDownCmpFunc_lots_made lo hi first cmp' data) := by
  unfold slices_siftDownCmpFunc_lots_made_c slices_siftDownCmpFunc_lots_made
  repeat' (first | with_reducible exact LeO.refl _ | with_reducible exact LeL.refl _ | with_reducible exact hcmp _ | with_reducible refine le_slices_siftDownCmpFunc_lots_made_L0 _ _ _ _ (fun _ => ?_) _ _ | with_reducible refine LeL.bif ?_ ?_ | with_reducible refine LeL.map (fun _ => ?_) | with_reducible refine LeL.one ?_ | with_reducible refine LeO.iterA (fun _ => ?_) | with_reducible refine LeO.bind ?_ (fun _ => ?_) | with_reducible refine LeO.gd ?_ | with_reducible refine LeO.both ?_ ?_ | with_reducible refine LeO.bif ?_ ?_ | with_reducible refine LeO.elim (fun _ => ?_) (fun _ => ?_) | with_reducible refine LeO.iter (fun _ => ?_))

noncomputable def slices_heapSortCmpFunc_lots_made_L0_c (a : Int) (b : Int) (cmp : ((List UInt8 × List UInt8 × List UInt8 × List UInt8 × Int × Int) × (Int × List UInt8 × Int × Int) × Int) × ((List UInt8 × List UInt8 × List UInt8 × List UInt8 × Int × Int) × (Int × List UInt8 × Int × Int) × Int) × Unit → Option Int) (i : Int) (data2 : List ((List UInt8 × List UInt8 × List UInt8 × List UInt8 × Int × Int) × (Int × List UInt8 × Int × Int) × Int)) : Option ((Int × List ((List UInt8 × List UInt8 × List UInt8 × List UInt8 × Int × Int) × (Int × List UInt8 × Int × Int) × Int)) ⊕ (List ((List UInt8 × List UInt8 × List UInt8 × List UInt8 × Int × Int) × (Int × List UInt8 × Int × Int) × Int))) :=
  bif decide (0 ≤ i) then (
   (slices_siftDownCmpFunc_lots_made_c i (wi64 (b - a)) a cmp data2).bind fun r =>
   some (.inl (wi64 (i - 1), r)))
  else (
   some (.inr data2))

theorem le_slices_heapSortCmpFunc_lots_made_L0 (a : Int) (b : Int) (cmp cmp' : ((List UInt8 × List UInt8 × List UInt8 × List UInt8 × Int × Int) × (Int × List UInt8 × Int × Int) × Int) × ((List UInt8 × List UInt8 × List UInt8 × List UInt8 × Int × Int) × (Int × List UInt8 × Int × Int) × Int) × Unit → Option Int) (hcmp : ∀ q, LeO (cmp q) (cmp' q)) (i : Int) (data2 : List ((List UInt8 × List UInt8 × List UInt8 × List UInt8 × Int × Int) × (Int × List UInt8 × Int × Int) × Int)) : LeO (slices_heapSortCmpFunc_lots_made_L0_c a b cmp i data2) (slices_heapSortCmpFunc_lots_made_L0 a b cmp' i data2) := by
  unfold slices_heapSortCmpFunc_lots_made_L0_c slices_heapSortCmpFunc_lots_made_L0
  repeat' (first | with_reducible exact LeO.refl _ | with_reducible exact LeL.refl _ | with_reducible exact hcmp _ | with_reducible refine le_slices_siftDownCmpFunc_lots_made _ _ _ _ _ (fun _ => ?_) _ | with_reducible refine LeL.bif ?_ ?_ | with_reducible refine LeL.map (fun _ => ?_) | with_reducible refine LeL.one ?_ | with_reducible refine LeO.iterA (fun _ => ?_) | with_reducible refine LeO.bind ?_ (fun _ => ?_) | with_reducible refine LeO.gd ?_ | with_reducible refine LeO.both ?_ ?_ | with_reducible refine LeO.bif ?_ ?_ | with_reducible refine LeO.elim (fun _ => ?_) (fun _ => ?_) | with_reducible refine LeO.iter (fun _ => ?_))

noncomputable def slices_heapSortCmpFunc_lots_made_L1_c (a : Int) (cmp : ((List UInt8 × List UInt8 × List UInt8 × List UInt8 × Int × Int) × (Int × List UInt8 × Int × Int) × Int) × ((List UInt8 × List UInt8 × List UInt8 × List UInt8 × Int × Int) × (Int × List UInt8 × Int × Int) × Int) × Unit → Option Int) (i2 : Int) (data3 : List ((List UInt8 × List UInt8 × List UInt8 × List UInt8 × Int × Int) × (Int × List UInt8 × Int × Int) × Int)) : Option ((Int × List ((List UInt8 × List UInt8 × List UInt8 × List UInt8 × Int × Int) × (Int × List UInt8 × Int × Int) × Int)) ⊕ (List ((List UInt8 × List UInt8 × List UInt8 × List UInt8 × Int × Int) × (Int × List UInt8 × Int × Int) × Int))) :=
  bif decide (0 ≤ i2) then (
   gd (inB (wi64 (a + i2)) data3.length) <|
   gd (inB a data3.length) <|
   gd (inB a data3.length) <|
   gd (inB (wi64 (a + i2)) (data3.set a.toNat (data3.getD ((wi64 (a + i2)).toNat) (([], ([], ([], ([], (0, 0))))), ((0, ([], (0, 0))), 0)))).length) <|
   (slices_siftDownCmpFunc_lots_made_c 0 i2 a cmp ((data3.set a.toNat (data3.getD ((wi64 (a + i2)).toNat) (([], ([], ([], ([], (0, 0))))), ((0, ([], (0, 0))), 0)))).set ((wi64 (a + i2)).toNat) (data3.getD a.toNat (([], ([], ([], ([], (0, 0))))), ((0, ([], (0, 0))), 0))))).bind fun r2 =>
   some (.inl (wi64 (i2 - 1), r2)))
  else (
   some (.inr data3))

theorem le_slices_heapSortCmpFunc_lots_made_L1 (a : Int) (cmp cmp' : ((List UInt8 × List UInt8 × List UInt8 × List UInt8 × Int × Int) × (Int × List UInt8 × Int × Int) × Int) × ((List UInt8 × List UInt8 × List UInt8 × List UInt8 × Int × Int) × (Int × List UInt8 × Int × Int) × Int) × Unit → Option Int) (hcmp : ∀ q, LeO (cmp q) (cmp' q)) (i2 : Int) (data3 : List ((List UInt8 × List UInt8 × List UInt8 × List UInt8 × Int × Int) × (Int × List UInt8 × Int × Int) × Int)) : LeO (slices_heapSortCmpFunc_lots_made_L1_c a cmp i2 data3) (slices_heapSortCmpFunc_lots_made_L1 a cmp' i2 data3) := by
  unfold slices_heapSortCmpFunc_lots_made_L1_c slices_heapSortCmpFunc_lots_made_L1
  repeat' (first | with_reducible exact LeO.refl _ | with_reducible exact LeL.refl _ | with_reducible exact hcmp _ | with_reducible refine le_slices_siftDownCmpFunc_lots_made _ _ _ _ _ (fun _ => ?_) _ | with_reducible refine LeL.bif ?_ ?_ | with_reducible refine LeL.map (fun _ => ?_) | with_reducible refine LeL.one ?_ | with_reducible refine LeO.iterA (fun _ => ?_) | with_reducible refine LeO.bind ?_ (fun _ => ?_) | with_reducible refine LeO.gd ?_ | with_reducible refine LeO.both ?_ ?_ | with_reducible refine LeO.bif ?_ ?_ | with_reducible refine LeO.elim (fun _ => ?_) (fun _ => ?_) | with_reducible refine LeO.iter (fun _ => ?_))

noncomputable def slices_heapSortCmpFunc_lots_made_c (a : Int) (b : Int) (cmp : ((List UInt8 × List UInt8 × List UInt8 × List UInt8 × Int × Int) × (Int × List UInt8 × Int × Int) × Int) × ((List UInt8 × List UInt8 × List UInt8 × List UInt8 × Int × Int) × (Int × List UInt8 × Int × Int) × Int) × Unit → Option Int) (data : List ((List UInt8 × List UInt8 × List UInt8 × List UInt8 × Int × Int) × (Int × List UInt8 × Int × Int) × Int)) : Option (List ((List UInt8 × List UInt8 × List UInt8 × List UInt8 × Int × Int) × (Int × List UInt8 × Int × Int) × Int)) :=
  (iterN (fun x => slices_heapSortCmpFunc_lots_made_L0_c a b cmp x.1 x.2) 100000 (wi64 (Int.tdiv (wi64 ((wi64 (b - a)) - 1)) 2), data)).bind fun s =>
  (iterN (fun x2 => slices_heapSortCmpFunc_lots_made_L1_c a cmp x2.1 x2.2) 100000 (wi64 ((wi64 (b - a)) - 1), s)).bind fun s2 =>
  some s2

theorem le_slices_heapSortCmpFunc_lots_made (a : Int) (b : Int) (cmp cmp' : ((List UInt8 × List UInt8 × List UInt8 × List UInt8 × Int × Int) × (Int × List UInt8 × Int × Int) × Int) × ((List UInt8 × List UInt8 × List UInt8 × List UInt8 × Int × Int) × (Int × List UInt8 × Int × Int) × Int) × Unit → Option Int) (hcmp : ∀ q, LeO (cmp q) (cmp' q)) (data : List ((List UInt8 × List UInt8 × List UInt8 × List UInt8 × Int × Int) × (Int × List UInt8 × Int × Int) × Int)) : LeO (slices_heapSortCmpFunc_lots_made_c a b cmp data) (slices_heapSortCmpFunc_lots_made a b cmp' data) := by
  unfold slices_heapSortCmpFunc_lots_made_c slices_heapSortCmpFunc_lots_made
  repeat' (first | with_reducible exact LeO.refl _ | with_reducible exact LeL.refl _ | with_reducible exact hcmp _ | with_reducible refine le_slices_heapSortCmpFunc_lots_made_L1 _ _ _ (fun _ => ?_) _ _ | with_reducible refine le_slices_heapSortCmpFunc_lots_made_L0 _ _ _ _ (fun _ => ?_) _ _ | with_reducible refine LeL.bif ?_ ?_ | with_reducible refine LeL.map (fun _ => ?_) | with_reducible refine LeL.one ?_ | with_reducible refine LeO.iterA (fun _ => ?_) | with_reducible refine LeO.bind ?_ (fun _ => ?_) | with_reducible refine LeO.gd ?_ | with_reducible refine LeO.both ?_ ?_ | with_reducible refine LeO.bif ?_ ?_ | with_reducible refine LeO.elim (fun _ => ?_) (fun _ => ?_) | with_reducible refine LeO.iter (fun _ => ?_))

noncomputable def slices_breakPatternsCmpFunc_lots_made_c (a : Int) (b : Int) (cmp : ((List UInt8 × List UInt8 × List UInt8 × List UInt8 × Int × Int) × (Int × List UInt8 × Int × Int) × Int) × ((List UInt8 × List UInt8 × List UInt8 × List UInt8 × Int × Int) × (Int × List UInt8 × Int × Int) × Int) × Unit → Option Int) (data : List ((List UInt8 × List UInt8 × List UInt8 × List UInt8 × Int × Int) × (Int × List UInt8 × Int × Int) × Int)) : Option (List ((List UInt8 × List UInt8 × List UInt8 × List UInt8 × Int × Int) × (Int × List UInt8 × Int × Int) × Int)) :=
  bif decide (8 ≤ wi64 (b - a)) then (
   (slices_nextPowerOfTwo (wi64 (b - a))).bind fun r =>
   (iterN (fun x => slices_breakPatternsCmpFunc_lots_made_L0 a b r x.1 x.2.1 x.2.2) 100000 (wi64 ((wi64 (a + (wi64 ((wi64 (Int.tdiv (wi64 (b - a)) 4)) * 2)))) - 1), wu64 (wi64 (b - a)), data)).bind fun s2 =>
   some s2)
  else (
   some data)

theorem le_slices_breakPatternsCmpFunc_lots_made (a : Int) (b : Int) (cmp cmp' : ((List UInt8 × List UInt8 × List UInt8 × List UInt8 × Int × Int) × (Int × List UInt8 × Int × Int) × Int) × ((List UInt8 × List UInt8 × List UInt8 × List UInt8 × Int × Int) × (Int × List UInt8 × Int × Int) × Int) × Unit → Option Int) (hcmp : ∀ q, LeO (cmp q) (cmp' q)) (data : List ((List UInt8 × List UInt8 × List UInt8 × List UInt8 × Int × Int) × (Int × List UInt8 × Int × Int) × Int)) : LeO (slices_breakPatternsCmpFunc_lots_made_c a b cmp data) (slices_breakPatternsCmpFunc_lots_made a b cmp' data) := by
  unfold slices_breakPatternsCmpFunc_lots_made_c slices_breakPatternsCmpFunc_lots_made
  repeat' (first | with_reducible exact LeO.refl _ | with_reducible exact LeL.refl _ | with_reducible exact hcmp _ | with_reducible refine LeL.bif ?_ ?_ | with_reducible refine LeL.map (fun _ => ?_) | with_reducible refine LeL.one ?_ | with_reducible refine LeO.iterA (fun _ => ?_) | with_reducible refine LeO.bind ?_ (fun _ => ?_) | with_reducible refine LeO.gd ?_ | with_reducible refine LeO.both ?_ ?_ | with_reducible refine LeO.bif ?_ ?_ | with_reducible refine LeO.elim (fun _ => ?_) (fun _ => ?_) | with_reducible refine LeO.iter (fun _ => ?_))

noncomputable def slices_order2CmpFunc_lots_made_c (data : List ((List UInt8 × List UInt8 × List UInt8 × List UInt8 × Int × Int) × (Int × List UInt8 × Int × Int) × Int)) (a : Int) (b : Int) (cmp : ((List UInt8 × List UInt8 × List UInt8 × List UInt8 × Int × Int) × (Int × List UInt8 × Int × Int) × Int) × ((List UInt8 × List UInt8 × List UInt8 × List UInt8 × Int × Int) × (Int × List UInt8 × Int × Int) × Int) × Unit → Option Int) (swaps : Int) : Option (Int × Int × Int) :=
  gd (inB b data.length) <|
  gd (inB a data.length) <|
  (cmp (data.getD b.toNat (([], ([], ([], ([], (0, 0))))), ((0, ([], (0, 0))), 0)), data.getD a.toNat (([], ([], ([], ([], (0, 0))))), ((0, ([], (0, 0))), 0)), ())).bind fun r =>
  bif decide (r < 0) then (
   some (b, a, wi64 (swaps + 1)))
  else (
   some (a, b, swaps))

theorem le_slices_order2CmpFunc_lots_made (data : List ((List UInt8 × List UInt8 × List UInt8 × List UInt8 × Int × Int) × (Int × List UInt8 × Int × Int) × Int)) (a : Int) (b : Int) (cmp cmp' : ((List UInt8 × List UInt8 × List UInt8 × List UInt8 × Int × Int) × (Int × List UInt8 × Int × Int) × Int) × ((List UInt8 × List UInt8 × List UInt8 × List UInt8 × Int × Int) × (Int × List UInt8 × Int × Int) × Int) × Unit → Option Int) (hcmp : ∀ q, LeO (cmp q) (cmp' q)) (swaps : Int) : LeO (slices_order2CmpFunc_lots_made_c data a b cmp swaps) (slices_order2CmpFunc_lots_made data a b cmp' swaps) := by
  unfold slices_order2CmpFunc_lots_made_c slices_order2CmpFunc_lots_made
  repeat' (first | with_reducible exact LeO.refl _ | with_reducible exact LeL.refl _ | with_reducible exact hcmp _ | with_reducible refine LeL.bif ?_ ?_ | with_reducible refine LeL.map (fun _ => ?_) | with_reducible refine LeL.one ?_ | with_reducible refine LeO.iterA (fun _ => ?_) | with_reducible refine LeO.bind ?_ (fun _ => ?_) | with_reducible refine LeO.gd ?_ | with_reducible refine LeO.both ?_ ?_ | with_reducible refine LeO.bif ?_ ?_ | with_reducible refine LeO.elim (fun _ => ?_) (fun _ => ?_) | with_reducible refine LeO.iter (fun _ => ?_))

noncomputable def slices_medianCmpFunc_lots_made_c (data : List ((List UInt8 × List UInt8 × List UInt8 × List UInt8 × Int × Int) × (Int × List UInt8 × Int × Int) × Int)) (a : Int) (b : Int) (c : Int) (cmp : ((List UInt8 × List UInt8 × List UInt8 × List UInt8 × Int × Int) × (Int × List UInt8 × Int × Int) × Int) × ((List UInt8 × List UInt8 × List UInt8 × List UInt8 × Int × Int) × (Int × List UInt8 × Int × Int) × Int) × Unit → Option Int) (swaps : Int) : Option (Int × Int) :=
  (slices_order2CmpFunc_lots_made_c data a b cmp swaps).bind fun r =>
  (slices_order2CmpFunc_lots_made_c data r.2.1 c cmp r.2.2).bind fun r2 =>
  (slices_order2CmpFunc_lots_made_c data r.1 r2.1 cmp r2.2.2).bind fun r3 =>
  some (r3.2.1, r3.2.2)

theorem le_slices_medianCmpFunc_lots_made (data : List ((List UInt8 × List UInt8 × List UInt8 × List UInt8 × Int × Int) × (Int × List UInt8 × Int × Int) × Int)) (a : Int) (b : Int) (c : Int) (cmp cmp' : ((List UInt8 × List UInt8 × List UInt8 × List UInt8 × Int × Int) × (Int × List UInt8 × Int × Int) × Int) × ((List UInt8 × List UInt8 × List UInt8 × List UInt8 × Int × Int) × (Int × List UInt8 × Int × Int) × Int) × Unit → Option Int) (hcmp : ∀ q, LeO (cmp q) (cmp' q)) (swaps : Int) : LeO (slices_medianCmpFunc_lots_made_c data a b c cmp swaps) (slices_medianCmpFunc_lots_made data a b c cmp' swaps) := by
  unfold slices_medianCmpFunc_lots_made_c slices_medianCmpFunc_lots_made
  repeat' (first | with_reducible exact LeO.refl _ | with_reducible exact LeL.refl _ | with_reducible exact hcmp _ | with_reducible refine le_slices_order2CmpFunc_lots_made _ _ _ _ _ (fun _ => ?_) _ | with_reducible refine LeL.bif ?_ ?_ | with_reducible refine LeL.map (fun _ => ?_) | with_reducible refine LeL.one ?_ | with_reducible refine LeO.iterA (fun _ => ?_) | with_reducible refine LeO.bind ?_ (fun _ => ?_) | with_reducible refine LeO.gd ?_ | with_reducible refine LeO.both ?_ ?_ | with_reducible refine LeO.bif ?_ ?_ | with_reducible refine LeO.elim (fun _ => ?_) (fun _ => ?_) | with_reducible refine LeO.iter (fun _ => ?_))

noncomputable def slices_medianAdjacentCmpFunc_lots_made_c (data : List ((List UInt8 × List UInt8 × List UInt8 × List UInt8 × Int × Int) × (Int × List UInt8 × Int × Int) × Int)) (a : Int) (cmp : ((List UInt8 × List UInt8 × List UInt8 × List UInt8 × Int × Int) × (Int × List UInt8 × Int × Int) × Int) × ((List UInt8 × List UInt8 × List UInt8 × List UInt8 × Int × Int) × (Int × List UInt8 × Int × Int) × Int) × Unit → Option Int) (swaps : Int) : Option (Int × Int) :=
  (slices_medianCmpFunc_lots_made_c data (wi64 (a - 1)) a (wi64 (a + 1)) cmp swaps).bind fun r =>
  some (r.1, r.2)

theorem le_slices_medianAdjacentCmpFunc_lots_made (data : List ((List UInt8 × List UInt8 × List UInt8 × List UInt8 × Int × Int) × (Int × List UInt8 × Int × Int) × Int)) (a : Int) (cmp cmp' : ((List UInt8 × List UInt8 × List UInt8 × List UInt8 × Int × Int) × (Int × List UInt8 × Int × Int) × Int) × ((List UInt8 × List UInt8 × List UInt8 × List UInt8 × Int × Int) × (Int × List UInt8 × Int × Int) × Int) × Unit → Option Int) (hcmp : ∀ q, LeO (cmp q) (cmp' q)) (swaps : Int) : LeO (slices_medianAdjacentCmpFunc_lots_made_c data a cmp swaps) (slices_medianAdjacentCmpFunc_lots_made data a cmp' swaps) := by
  unfold slices_medianAdjacentCmpFunc_lots_made_c slices_medianAdjacentCmpFunc_lots_made
  repeat' (first | with_reducible exact LeO.refl _ | with_reducible exact LeL.refl _ | with_reducible exact hcmp _ | with_reducible refine le_slices_medianCmpFunc_lots_made _ _ _ _ _ _ (fun _ => ?_) _ | with_reducible refine LeL.bif ?_ ?_ | with_reducible refine LeL.map (fun _ => ?_) | with_reducible refine LeL.one ?_ | with_reducible refine LeO.iterA (fun _ => ?_) | with_reducible refine LeO.bind ?_ (fun _ => ?_) | with_reducible refine LeO.gd ?_ | with_reducible refine LeO.both ?_ ?_ | with_reducible refine LeO.bif ?_ ?_ | with_reducible refine LeO.elim (fun _ => ?_) (fun _ => ?_) | with_reducible refine LeO.iter (fun _ => ?_))

noncomputable def slices_choosePivotCmpFunc_lots_made_c (data : List ((List UInt8 × List UInt8 × List UInt8 × List UInt8 × Int × Int) × (Int × List UInt8 × Int × Int) × Int)) (a : Int) (b : Int) (cmp : ((List UInt8 × List UInt8 × List UInt8 × List UInt8 × Int × Int) × (Int × List UInt8 × Int × Int) × Int) × ((List UInt8 × List UInt8 × List UInt8 × List UInt8 × Int × Int) × (Int × List UInt8 × Int × Int) × Int) × Unit → Option Int) : Option (Int × Int) :=
  Option.bind (α := Int × Int) (
    bif decide (8 ≤ wi64 (b - a)) then (
     Option.bind (α := Int × Int × Int × Int) (
       bif decide (50 ≤ wi64 (b - a)) then (
        (slices_medianAdjacentCmpFunc_lots_made_c data (wi64 (a + (wi64 ((wi64 (Int.tdiv (wi64 (b - a)) 4)) * 1)))) cmp 0).bind fun r =>
        (slices_medianAdjacentCmpFunc_lots_made_c data (wi64 (a + (wi64 ((wi64 (Int.tdiv (wi64 (b - a)) 4)) * 2)))) cmp r.2).bind fun r2 =>
        (slices_medianAdjacentCmpFunc_lots_made_c data (wi64 (a + (wi64 ((wi64 (Int.tdiv (wi64 (b - a)) 4)) * 3)))) cmp r2.2).bind fun r3 =>
        some (r.1, r2.1, r3.1, r3.2))
       else (
        some (wi64 (a + (wi64 ((wi64 (Int.tdiv (wi64 (b - a)) 4)) * 1))), wi64 (a + (wi64 ((wi64 (Int.tdiv (wi64 (b - a)) 4)) * 2))), wi64 (a + (wi64 ((wi64 (Int.tdiv (wi64 (b - a)) 4)) * 3))), 0))) fun s =>
     (slices_medianCmpFunc_lots_made_c data s.1 s.2.1 s.2.2.1 cmp s.2.2.2).bind fun r4 =>
     some (r4.1, r4.2))
    else (
     some (wi64 (a + (wi64 ((wi64 (Int.tdiv (wi64 (b - a)) 4)) * 2))), 0))) fun s2 =>
  bif decide (s2.2 = 0) then (
   some (s2.1, 1))
  else (
   bif decide (s2.2 = 12) then (
    some (s2.1, 2))
   else (
    some (s2.1, 0)))

theorem le_slices_choosePivotCmpFunc_lots_made (data : List ((List UInt8 × List UInt8 × List UInt8 × List UInt8 × Int × Int) × (Int × List UInt8 × Int × Int) × Int)) (a : Int) (b : Int) (cmp cmp' : ((List UInt8 × List UInt8 × List UInt8 × List UInt8 × Int × Int) × (Int × List UInt8 × Int × Int) × Int) × ((List UInt8 × List UInt8 × List UInt8 × List UInt8 × Int × Int) × (Int × List UInt8 × Int × Int) × Int) × Unit → Option Int) (hcmp : ∀ q, LeO (cmp q) (cmp' q)) : LeO (slices_choosePivotCmpFunc_lots_made_c data a b cmp) (slices_choosePivotCmpFunc_lots_made data a b cmp') := by
  unfold slices_choosePivotCmpFunc_lots_made_c slices_choosePivotCmpFunc_lots_made
  repeat' (first | with_reducible exact LeO.refl _ | with_reducible exact LeL.refl _ | with_reducible exact hcmp _ | with_reducible refine le_slices_medianCmpFunc_lots_made _ _ _ _ _ _ (fun _ => ?_) _ | with_reducible refine le_slices_medianAdjacentCmpFunc_lots_made _ _ _ _ (fun _ => ?_) _ | with_reducible refine LeL.bif ?_ ?_ | with_reducible refine LeL.map (fun _ => ?_) | with_reducible refine LeL.one ?_ | with_reducible refine LeO.iterA (fun _ => ?_) | with_reducible refine LeO.bind ?_ (fun _ => ?_) | with_reducible refine LeO.gd ?_ | with_reducible refine LeO.both ?_ ?_ | with_reducible refine LeO.bif ?_ ?_ | with_reducible refine LeO.elim (fun _ => ?_) (fun _ => ?_) | with_reducible refine LeO.iter (fun _ => ?_))

noncomputable def slices_reverseRangeCmpFunc_lots_made_c (a : Int) (b : Int) (cmp : ((List UInt8 × List UInt8 × List UInt8 × List UInt8 × Int × Int) × (Int × List UInt8 × Int × Int) × Int) × ((List UInt8 × List UInt8 × List UInt8 × List UInt8 × Int × Int) × (Int × List UInt8 × Int × Int) × Int) × Unit → Option Int) (data : List ((List UInt8 × List UInt8 × List UInt8 × List UInt8 × Int × Int) × (Int × List UInt8 × Int × Int) × Int)) : Option (List ((List UInt8 × List UInt8 × List UInt8 × List UInt8 × Int × Int) × (Int × List UInt8 × Int × Int) × Int)) :=
  (iterN (fun x => slices_reverseRangeCmpFunc_lots_made_L0 x.1 x.2.1 x.2.2) 100000 (a, wi64 (b - 1), data)).bind fun s =>
  some s

theorem le_slices_reverseRangeCmpFunc_lots_made (a : Int) (b : Int) (cmp cmp' : ((List UInt8 × List UInt8 × List UInt8 × List UInt8 × Int × Int) × (Int × List UInt8 × Int × Int) × Int) × ((List UInt8 × List UInt8 × List UInt8 × List UInt8 × Int × Int) × (Int × List UInt8 × Int × Int) × Int) × Unit → Option Int) (hcmp : ∀ q, LeO (cmp q) (cmp' q)) (data : List ((List UInt8 × List UInt8 × List UInt8 × List UInt8 × Int × Int) × (Int × List UInt8 × Int × Int) × Int)) : LeO (slices_reverseRangeCmpFunc_lots_made_c a b cmp data) (slices_reverseRangeCmpFunc_lots_made a b cmp' data) := by
  unfold slices_reverseRangeCmpFunc_lots_made_c slices_reverseRangeCmpFunc_lots_made
  repeat' (first | with_reducible exact LeO.refl _ | with_reducible exact LeL.refl _ | with_reducible exact hcmp _ | with_reducible refine LeL.bif ?_ ?_ | with_reducible refine LeL.map (fun _ => ?_) | with_reducible refine LeL.one ?_ | with_reducible refine LeO.iterA (fun _ => ?_) | with_reducible refine LeO.bind ?_ (fun _ => ?_) | with_reducible refine LeO.gd ?_ | with_reducible refine LeO.both ?_ ?_ | with_reducible refine LeO.bif ?_ ?_ | with_reducible refine LeO.elim (fun _ => ?_) (fun _ => ?_) | with_reducible refine LeO.iter (fun _ => ?_))

noncomputable def slices_partialInsertionSortCmpFunc_lots_made_L1_c (b : Int) (cmp : ((List UInt8 × List UInt8 × List UInt8 × List UInt8 × Int × Int) × (Int × List UInt8 × Int × Int) × Int) × ((List UInt8 × List UInt8 × List UInt8 × List UInt8 × Int × Int) × (Int × List UInt8 × Int × Int) × Int) × Unit → Option Int) (i2 : Int) (data3 : List ((List UInt8 × List UInt8 × List UInt8 × List UInt8 × Int × Int) × (Int × List UInt8 × Int × Int) × Int)) : Option ((Int × List ((List UInt8 × List UInt8 × List UInt8 × List UInt8 × Int × Int) × (Int × List UInt8 × Int × Int) × Int)) ⊕ (Int × List ((List UInt8 × List UInt8 × List UInt8 × List UInt8 × Int × Int) × (Int × List UInt8 × Int × Int) × Int))) :=
  Option.bind (α := Bool × List ((List UInt8 × List UInt8 × List UInt8 × List UInt8 × Int × Int) × (Int × List UInt8 × Int × Int) × Int)) (
    bif decide (i2 < b) then (
     gd (inB i2 data3.length) <|
     gd (inB (wi64 (i2 - 1)) data3.length) <|
     (cmp (data3.getD i2.toNat (([], ([], ([], ([], (0, 0))))), ((0, ([], (0, 0))), 0)), data3.getD ((wi64 (i2 - 1)).toNat) (([], ([], ([], ([], (0, 0))))), ((0, ([], (0, 0))), 0)), ())).bind fun r =>
     some ((!(decide (r < 0))), data3))
    else (
     some (false, data3))) fun s =>
  bif s.1 then (
   some (.inl (wi64 (i2 + 1), s.2)))
  else (
   some (.inr (i2, s.2)))

theorem le_slices_partialInsertionSortCmpFunc_lots_made_L1 (b : Int) (cmp cmp' : ((List UInt8 × List UInt8 × List UInt8 × List UInt8 × Int × Int) × (Int × List UInt8 × Int × Int) × Int) × ((List UInt8 × List UInt8 × List UInt8 × List UInt8 × Int × Int) × (Int × List UInt8 × Int × Int) × Int) × Unit → Option Int) (hcmp : ∀ q, LeO (cmp q) (cmp' q)) (i2 : Int) (data3 : List ((List UInt8 × List UInt8 × List UInt8 × List UInt8 × Int × Int) × (Int × List UInt8 × Int × Int) × Int)) : LeO (slices_partialInsertionSortCmpFunc_lots_made_L1_c b cmp i2 data3) (slices_partialInsertionSortCmpFunc_lots_made_L1 b cmp' i2 data3) := by
  unfold slices_partialInsertionSortCmpFunc_lots_made_L1_c slices_partialInsertionSortCmpFunc_lots_made_L1
  repeat' (first | with_reducible exact LeO.refl _ | with_reducible exact LeL.refl _ | with_reducible exact hcmp _ | with_reducible refine LeL.bif ?_ ?_ | with_reducible refine LeL.map (fun _ => ?_) | with_reducible refine LeL.one ?_ | with_reducible refine LeO.iterA (fun _ => ?_) | with_reducible refine LeO.bind ?_ (fun _ => ?_) | with_reducible refine LeO.gd ?_ | with_reducible refine LeO.both ?_ ?_ | with_reducible refine LeO.bif ?_ ?_ | with_reducible refine LeO.elim (fun _ => ?_) (fun _ => ?_) | with_reducible refine LeO.iter (fun _ => ?_))

noncomputable def slices_partialInsertionSortCmpFunc_lots_made_L2_c (cmp : ((List UInt8 × List UInt8 × List UInt8 × List UInt8 × Int × Int) × (Int × List UInt8 × Int × Int) × Int) × ((List UInt8 × List UInt8 × List UInt8 × List UInt8 × Int × Int) × (Int × List UInt8 × Int × Int) × Int) × Unit → Option Int) (j2 : Int) (data4 : List ((List UInt8 × List UInt8 × List UInt8 × List UInt8 × Int × Int) × (Int × List UInt8 × Int × Int) × Int)) : Option ((Int × List ((List UInt8 × List UInt8 × List UInt8 × List UInt8 × Int × Int) × (Int × List UInt8 × Int × Int) × Int)) ⊕ (List ((List UInt8 × List UInt8 × List UInt8 × List UInt8 × Int × Int) × (Int × List UInt8 × Int × Int) × Int))) :=
  bif decide (1 ≤ j2) then (
   gd (inB j2 data4.length) <|
   gd (inB (wi64 (j2 - 1)) data4.length) <|
   (cmp (data4.getD j2.toNat (([], ([], ([], ([], (0, 0))))), ((0, ([], (0, 0))), 0)), data4.getD ((wi64 (j2 - 1)).toNat) (([], ([], ([], ([], (0, 0))))), ((0, ([], (0, 0))), 0)), ())).bind fun r2 =>
   bif !(decide (r2 < 0)) then (
    some (.inr data4))
   else (
    gd (inB (wi64 (j2 - 1)) data4.length) <|
    gd (inB j2 data4.length) <|
    gd (inB j2 data4.length) <|
    gd (inB (wi64 (j2 - 1)) (data4.set j2.toNat (data4.getD ((wi64 (j2 - 1)).toNat) (([], ([], ([], ([], (0, 0))))), ((0, ([], (0, 0))), 0)))).length) <|
    some (.inl (wi64 (j2 - 1), (data4.set j2.toNat (data4.getD ((wi64 (j2 - 1)).toNat) (([], ([], ([], ([], (0, 0))))), ((0, ([], (0, 0))), 0)))).set ((wi64 (j2 - 1)).toNat) (data4.getD j2.toNat (([], ([], ([], ([], (0, 0))))), ((0, ([], (0, 0))), 0)))))))
  else (
   some (.inr data4))

theorem le_slices_partialInsertionSortCmpFunc_lots_made_L2 (cmp cmp' : ((List UInt8 × List UInt8 × List UInt8 × List UInt8 × Int × Int) × (Int × List UInt8 × Int × Int) × Int) × ((List UInt8 × List UInt8 × List UInt8 × List UInt8 × Int × Int) × (Int × List UInt8 × Int × Int) × Int) × Unit → Option Int) (hcmp : ∀ q, LeO (cmp q) (cmp' q)) (j2 : Int) (data4 : List ((List UInt8 × List UInt8 × List UInt8 × List UInt8 × Int × Int) × (Int × List UInt8 × Int × Int) × Int)) : LeO (slices_partialInsertionSortCmpFunc_lots_made_L2_c cmp j2 data4) (slices_partialInsertionSortCmpFunc_lots_made_L2 cmp' j2 data4) := by
  unfold slices_partialInsertionSortCmpFunc_lots_made_L2_c slices_partialInsertionSortCmpFunc_lots_made_L2
  repeat' (first | with_reducible exact LeO.refl _ | with_reducible exact LeL.refl _ | with_reducible exact hcmp _ | with_reducible refine LeL.bif ?_ ?_ | with_reducible refine LeL.map (fun _ => ?_) | with_reducible refine LeL.one ?_ | with_reducible refine LeO.iterA (fun _ => ?_) | with_reducible refine LeO.bind ?_ (fun _ => ?_) | with_reducible refine LeO.gd ?_ | with_reducible refine LeO.both ?_ ?_ | with_reducible refine LeO.bif ?_ ?_ | with_reducible refine LeO.elim (fun _ => ?_) (fun _ => ?_) | with_reducible refine LeO.iter (fun _ => ?_))

noncomputable def slices_partialInsertionSortCmpFunc_lots_made_L3_c (b : Int) (cmp : ((List UInt8 × List UInt8 × List UInt8 × List UInt8 × Int × Int) × (Int × List UInt8 × Int × Int) × Int) × ((List UInt8 × List UInt8 × List UInt8 × List UInt8 × Int × Int) × (Int × List UInt8 × Int × Int) × Int) × Unit → Option Int) (j3 : Int) (data5 : List ((List UInt8 × List UInt8 × List UInt8 × List UInt8 × Int × Int) × (Int × List UInt8 × Int × Int) × Int)) : Option ((Int × List ((List UInt8 × List UInt8 × List UInt8 × List UInt8 × Int × Int) × (Int × List UInt8 × Int × Int) × Int)) ⊕ (List ((List UInt8 × List UInt8 × List UInt8 × List UInt8 × Int × Int) × (Int × List UInt8 × Int × Int) × Int))) :=
  bif decide (j3 < b) then (
   gd (inB j3 data5.length) <|
   gd (inB (wi64 (j3 - 1)) data5.length) <|
   (cmp (data5.getD j3.toNat (([], ([], ([], ([], (0, 0))))), ((0, ([], (0, 0))), 0)), data5.getD ((wi64 (j3 - 1)).toNat) (([], ([], ([], ([], (0, 0))))), ((0, ([], (0, 0))), 0)), ())).bind fun r3 =>
   bif !(decide (r3 < 0)) then (
    some (.inr data5))
   else (
    gd (inB (wi64 (j3 - 1)) data5.length) <|
    gd (inB j3 data5.length) <|
    gd (inB j3 data5.length) <|
    gd (inB (wi64 (j3 - 1)) (data5.set j3.toNat (data5.getD ((wi64 (j3 - 1)).toNat) (([], ([], ([], ([], (0, 0))))), ((0, ([], (0, 0))), 0)))).length) <|
    some (.inl (wi64 (j3 + 1), (data5.set j3.toNat (data5.getD ((wi64 (j3 - 1)).toNat) (([], ([], ([], ([], (0, 0))))), ((0, ([], (0, 0))), 0)))).set ((wi64 (j3 - 1)).toNat) (data5.getD j3.toNat (([], ([], ([], ([], (0, 0))))), ((0, ([], (0, 0))), 0)))))))
  else (
   some (.inr data5))

theorem le_slices_partialInsertionSortCmpFunc_lots_made_L3 (b : Int) (cmp cmp' : ((List UInt8 × List UInt8 × List UInt8 × List UInt8 × Int × Int) × (Int × List UInt8 × Int × Int) × Int) × ((List UInt8 × List UInt8 × List UInt8 × List UInt8 × Int × Int) × (Int × List UInt8 × Int × Int) × Int) × Unit → Option Int) (hcmp : ∀ q, LeO (cmp q) (cmp' q)) (j3 : Int) (data5 : List ((List UInt8 × List UInt8 × List UInt8 × List UInt8 × Int × Int) × (Int × List UInt8 × Int × Int) × Int)) : LeO (slices_partialInsertionSortCmpFunc_lots_made_L3_c b cmp j3 data5) (slices_partialInsertionSortCmpFunc_lots_made_L3 b cmp' j3 data5) := by
  unfold slices_partialInsertionSortCmpFunc_lots_made_L3_c slices_partialInsertionSortCmpFunc_lots_made_L3
  repeat' (first | with_reducible exact LeO.refl _ | with_reducible exact LeL.refl _ | with_reducible exact hcmp _ | with_reducible refine LeL.bif ?_ ?_ | with_reducible refine LeL.map (fun _ => ?_) | with_reducible refine LeL.one ?_ | with_reducible refine LeO.iterA (fun _ => ?_) | with_reducible refine LeO.bind ?_ (fun _ => ?_) | with_reducible refine LeO.gd ?_ | with_reducible refine LeO.both ?_ ?_ | with_reducible refine LeO.bif ?_ ?_ | with_reducible refine LeO.elim (fun _ => ?_) (fun _ => ?_) | with_reducible refine LeO.iter (fun _ => ?_))

noncomputable def slices_partialInsertionSortCmpFunc_lots_made_L0_c (a : Int) (b : Int) (cmp : ((List UInt8 × List UInt8 × List UInt8 × List UInt8 × Int × Int) × (Int × List UInt8 × Int × Int) × Int) × ((List UInt8 × List UInt8 × List UInt8 × List UInt8 × Int × Int) × (Int × List UInt8 × Int × Int) × Int) × Unit → Option Int) (i : Int) (j : Int) (data2 : List ((List UInt8 × List UInt8 × List UInt8 × List UInt8 × Int × Int) × (Int × List UInt8 × Int × Int) × Int)) : Option ((Int × Int × List ((List UInt8 × List UInt8 × List UInt8 × List UInt8 × Int × Int) × (Int × List UInt8 × Int × Int) × Int)) ⊕ ((List ((List UInt8 × List UInt8 × List UInt8 × List UInt8 × Int × Int) × (Int × List UInt8 × Int × Int) × Int)) ⊕ (Bool × List ((List UInt8 × List UInt8 × List UInt8 × List UInt8 × Int × Int) × (Int × List UInt8 × Int × Int) × Int)))) :=
  bif decide (j < 5) then (
   (iterN (fun x => slices_partialInsertionSortCmpFunc_lots_made_L1_c b cmp x.1 x.2) 100000 (i, data2)).bind fun s2 =>
   bif decide (s2.1 = b) then (
    some (.inr (.inr (true, s2.2))))
   else (
    bif decide (wi64 (b - a) < 50) then (
     some (.inr (.inr (false, s2.2))))
    else (
     gd (inB (wi64 (s2.1 - 1)) s2.2.length) <|
     gd (inB s2.1 s2.2.length) <|
     gd (inB s2.1 s2.2.length) <|
     gd (inB (wi64 (s2.1 - 1)) (s2.2.set s2.1.toNat (s2.2.getD ((wi64 (s2.1 - 1)).toNat) (([], ([], ([], ([], (0, 0))))), ((0, ([], (0, 0))), 0)))).length) <|
     Option.bind (α := List ((List UInt8 × List UInt8 × List UInt8 × List UInt8 × Int × Int) × (Int × List UInt8 × Int × Int) × Int)) (
       bif decide (2 ≤ wi64 (s2.1 - a)) then (
        (iterN (fun x2 => slices_partialInsertionSortCmpFunc_lots_made_L2_c cmp x2.1 x2.2) 100000 (wi64 (s2.1 - 1), (s2.2.set s2.1.toNat (s2.2.getD ((wi64 (s2.1 - 1)).toNat) (([], ([], ([], ([], (0, 0))))), ((0, ([], (0, 0))), 0)))).set ((wi64 (s2.1 - 1)).toNat) (s2.2.getD s2.1.toNat (([], ([], ([], ([], (0, 0))))), ((0, ([], (0, 0))), 0))))).bind fun s3 =>
        some s3)
       else (
        some ((s2.2.set s2.1.toNat (s2.2.getD ((wi64 (s2.1 - 1)).toNat) (([], ([], ([], ([], (0, 0))))), ((0, ([], (0, 0))), 0)))).set ((wi64 (s2.1 - 1)).toNat) (s2.2.getD s2.1.toNat (([], ([], ([], ([], (0, 0))))), ((0, ([], (0, 0))), 0)))))) fun s4 =>
     Option.bind (α := List ((List UInt8 × List UInt8 × List UInt8 × List UInt8 × Int × Int) × (Int × List UInt8 × Int × Int) × Int)) (
       bif decide (2 ≤ wi64 (b - s2.1)) then (
        (iterN (fun x3 => slices_partialInsertionSortCmpFunc_lots_made_L3_c b cmp x3.1 x3.2) 100000 (wi64 (s2.1 + 1), s4)).bind fun s5 =>
        some s5)
       else (
        some s4)) fun s6 =>
     some (.inl (s2.1, wi64 (j + 1), s6)))))
  else (
   some (.inr (.inl data2)))

theorem le_slices_partialInsertionSortCmpFunc_lots_made_L0 (a : Int) (b : Int) (cmp cmp' : ((List UInt8 × List UInt8 × List UInt8 × List UInt8 × Int × Int) × (Int × List UInt8 × Int × Int) × Int) × ((List UInt8 × List UInt8 × List UInt8 × List UInt8 × Int × Int) × (Int × List UInt8 × Int × Int) × Int) × Unit → Option Int) (hcmp : ∀ q, LeO (cmp q) (cmp' q)) (i : Int) (j : Int) (data2 : List ((List UInt8 × List UInt8 × List UInt8 × List UInt8 × Int × Int) × (Int × List UInt8 × Int × Int) × Int)) : LeO (slices_partialInsertionSortCmpFunc_lots_made_L0_c a b cmp i j data2) (slices_partialInsertionSortCmpFunc_lots_made_L0 a b cmp' i j data2) := by
  unfold slices_partialInsertionSortCmpFunc_lots_made_L0_c slices_partialInsertionSortCmpFunc_lots_made_L0
  repeat' (first | with_reducible exact LeO.refl _ | with_reducible exact LeL.refl _ | with_reducible exact hcmp _ | with_reducible refine le_slices_partialInsertionSortCmpFunc_lots_made_L2 _ _ (fun _ => ?_) _ _ | with_reducible refine le_slices_partialInsertionSortCmpFunc_lots_made_L1 _ _ _ (fun _ => ?_) _ _ | with_reducible refine le_slices_partialInsertionSortCmpFunc_lots_made_L3 _ _ _ (fun _ => ?_) _ _ | with_reducible refine LeL.bif ?_ ?_ | with_reducible refine LeL.map (fun _ => ?_) | with_reducible refine LeL.one ?_ | with_reducible refine LeO.iterA (fun _ => ?_) | with_reducible refine LeO.bind ?_ (fun _ => ?_) | with_reducible refine LeO.gd ?_ | with_reducible refine LeO.both ?_ ?_ | with_reducible refine LeO.bif ?_ ?_ | with_reducible refine LeO.elim (fun _ => ?_) (fun _ => ?_) | with_reducible refine LeO.iter (fun _ => ?_))

noncomputable def slices_partialInsertionSortCmpFunc_lots_made_c (a : Int) (b : Int) (cmp : ((List UInt8 × List UInt8 × List UInt8 × List UInt8 × Int × Int) × (Int × List UInt8 × Int × Int) × Int) × ((List UInt8 × List UInt8 × List UInt8 × List UInt8 × Int × Int) × (Int × List UInt8 × Int × Int) × Int) × Unit → Option Int) (data : List ((List UInt8 × List UInt8 × List UInt8 × List UInt8 × Int × Int) × (Int × List UInt8 × Int × Int) × Int)) : Option (Bool × List ((List UInt8 × List UInt8 × List UInt8 × List UInt8 × Int × Int) × (Int × List UInt8 × Int × Int) × Int)) :=
  (iterN (fun x4 => slices_partialInsertionSortCmpFunc_lots_made_L0_c a b cmp x4.1 x4.2.1 x4.2.2) 100000 (wi64 (a + 1), 0, data)).bind fun s7 =>
  s7.elim (fun s8 =>
   some (false, s8))
  (fun s9 =>
   some (s9.1, s9.2))

theorem le_slices_partialInsertionSortCmpFunc_lots_made (a : Int) (b : Int) (cmp cmp' : ((List UInt8 × List UInt8 × List UInt8 × List UInt8 × Int × Int) × (Int × List UInt8 × Int × Int) × Int) × ((List UInt8 × List UInt8 × List UInt8 × List UInt8 × Int × Int) × (Int × List UInt8 × Int × Int) × Int) × Unit → Option Int) (hcmp : ∀ q, LeO (cmp q) (cmp' q)) (data : List ((List UInt8 × List UInt8 × List UInt8 × List UInt8 × Int × Int) × (Int × List UInt8 × Int × Int) × Int)) : LeO (slices_partialInsertionSortCmpFunc_lots_made_c a b cmp data) (slices_partialInsertionSortCmpFunc_lots_made a b cmp' data) := by
  unfold slices_partialInsertionSortCmpFunc_lots_made_c slices_partialInsertionSortCmpFunc_lots_made
  repeat' (first | with_reducible exact LeO.refl _ | with_reducible exact LeL.refl _ | with_reducible exact hcmp _ | with_reducible refine le_slices_partialInsertionSortCmpFunc_lots_made_L0 _ _ _ _ (fun _ => ?_) _ _ _ | with_reducible refine LeL.bif ?_ ?_ | with_reducible refine LeL.map (fun _ => ?_) | with_reducible refine LeL.one ?_ | with_reducible refine LeO.iterA (fun _ => ?_) | with_reducible refine LeO.bind ?_ (fun _ => ?_) | with_reducible refine LeO.gd ?_ | with_reducible refine LeO.both ?_ ?_ | with_reducible refine LeO.bif ?_ ?_ | with_reducible refine LeO.elim (fun _ => ?_) (fun _ => ?_) | with_reducible refine LeO.iter (fun _ => ?_))

noncomputable def slices_partitionEqualCmpFunc_lots_made_L1_c (a : Int) (cmp : ((List UInt8 × List UInt8 × List UInt8 × List UInt8 × Int × Int) × (Int × List UInt8 × Int × Int) × Int) × ((List UInt8 × List UInt8 × List UInt8 × List UInt8 × Int × Int) × (Int × List UInt8 × Int × Int) × Int) × Unit → Option Int) (j : Int) (i2 : Int) (data3 : List ((List UInt8 × List UInt8 × List UInt8 × List UInt8 × Int × Int) × (Int × List UInt8 × Int × Int) × Int)) : Option ((Int × List ((List UInt8 × List UInt8 × List UInt8 × List UInt8 × Int × Int) × (Int × List UInt8 × Int × Int) × Int)) ⊕ (Int × List ((List UInt8 × List UInt8 × List UInt8 × List UInt8 × Int × Int) × (Int × List UInt8 × Int × Int) × Int))) :=
  Option.bind (α := Bool × List ((List UInt8 × List UInt8 × List UInt8 × List UInt8 × Int × Int) × (Int × List UInt8 × Int × Int) × Int)) (
    bif decide (i2 ≤ j) then (
     gd (inB a data3.length) <|
     gd (inB i2 data3.length) <|
     (cmp (data3.getD a.toNat (([], ([], ([], ([], (0, 0))))), ((0, ([], (0, 0))), 0)), data3.getD i2.toNat (([], ([], ([], ([], (0, 0))))), ((0, ([], (0, 0))), 0)), ())).bind fun r =>
     some ((!(decide (r < 0))), data3))
    else (
     some (false, data3))) fun s =>
  bif s.1 then (
   some (.inl (wi64 (i2 + 1), s.2)))
  else (
   some (.inr (i2, s.2)))

theorem le_slices_partitionEqualCmpFunc_lots_made_L1 (a : Int) (cmp cmp' : ((List UInt8 × List UInt8 × List UInt8 × List UInt8 × Int × Int) × (Int × List UInt8 × Int × Int) × Int) × ((List UInt8 × List UInt8 × List UInt8 × List UInt8 × Int × Int) × (Int × List UInt8 × Int × Int) × Int) × Unit → Option Int) (hcmp : ∀ q, LeO (cmp q) (cmp' q)) (j : Int) (i2 : Int) (data3 : List ((List UInt8 × List UInt8 × List UInt8 × List UInt8 × Int × Int) × (Int × List UInt8 × Int × Int) × Int)) : LeO (slices_partitionEqualCmpFunc_lots_made_L1_c a cmp j i2 data3) (slices_partitionEqualCmpFunc_lots_made_L1 a cmp' j i2 data3) := by
  unfold slices_partitionEqualCmpFunc_lots_made_L1_c slices_partitionEqualCmpFunc_lots_made_L1
  repeat' (first | with_reducible exact LeO.refl _ | with_reducible exact LeL.refl _ | with_reducible exact hcmp _ | with_reducible refine LeL.bif ?_ ?_ | with_reducible refine LeL.map (fun _ => ?_) | with_reducible refine LeL.one ?_ | with_reducible refine LeO.iterA (fun _ => ?_) | with_reducible refine LeO.bind ?_ (fun _ => ?_) | with_reducible refine LeO.gd ?_ | with_reducible refine LeO.both ?_ ?_ | with_reducible refine LeO.bif ?_ ?_ | with_reducible refine LeO.elim (fun _ => ?_) (fun _ => ?_) | with_reducible refine LeO.iter (fun _ => ?_))

noncomputable def slices_partitionEqualCmpFunc_lots_made_L2_c (a : Int) (cmp : ((List UInt8 × List UInt8 × List UInt8 × List UInt8 × Int × Int) × (Int × List UInt8 × Int × Int) × Int) × ((List UInt8 × List UInt8 × List UInt8 × List UInt8 × Int × Int) × (Int × List UInt8 × Int × Int) × Int) × Unit → Option Int) (s2 : Int × List ((List UInt8 × List UInt8 × List UInt8 × List UInt8 × Int × Int) × (Int × List UInt8 × Int × Int) × Int)) (j2 : Int) (data4 : List ((List UInt8 × List UInt8 × List UInt8 × List UInt8 × Int × Int) × (Int × List UInt8 × Int × Int) × Int)) : Option ((Int × List ((List UInt8 × List UInt8 × List UInt8 × List UInt8 × Int × Int) × (Int × List UInt8 × Int × Int) × Int)) ⊕ (Int × List ((List UInt8 × List UInt8 × List UInt8 × List UInt8 × Int × Int) × (Int × List UInt8 × Int × Int) × Int))) :=
  Option.bind (α := Bool × List ((List UInt8 × List UInt8 × List UInt8 × List UInt8 × Int × Int) × (Int × List UInt8 × Int × Int) × Int)) (
    bif decide (s2.1 ≤ j2) then (
     gd (inB a data4.length) <|
     gd (inB j2 data4.length) <|
     (cmp (data4.getD a.toNat (([], ([], ([], ([], (0, 0))))), ((0, ([], (0, 0))), 0)), data4.getD j2.toNat (([], ([], ([], ([], (0, 0))))), ((0, ([], (0, 0))), 0)), ())).bind fun r2 =>
     some (decide (r2 < 0), data4))
    else (
     some (false, data4))) fun s3 =>
  bif s3.1 then (
   some (.inl (wi64 (j2 - 1), s3.2)))
  else (
   some (.inr (j2, s3.2)))

theorem le_slices_partitionEqualCmpFunc_lots_made_L2 (a : Int) (cmp cmp' : ((List UInt8 × List UInt8 × List UInt8 × List UInt8 × Int × Int) × (Int × List UInt8 × Int × Int) × Int) × ((List UInt8 × List UInt8 × List UInt8 × List UInt8 × Int × Int) × (Int × List UInt8 × Int × Int) × Int) × Unit → Option Int) (hcmp : ∀ q, LeO (cmp q) (cmp' q)) (s2 : Int × List ((List UInt8 × List UInt8 × List UInt8 × List UInt8 × Int × Int) × (Int × List UInt8 × Int × Int) × Int)) (j2 : Int) (data4 : List ((List UInt8 × List UInt8 × List UInt8 × List UInt8 × Int × Int) × (Int × List UInt8 × Int × Int) × Int)) : LeO (slices_partitionEqualCmpFunc_lots_made_L2_c a cmp s2 j2 data4) (slices_partitionEqualCmpFunc_lots_made_L2 a cmp' s2 j2 data4) := by
  unfold slices_partitionEqualCmpFunc_lots_made_L2_c slices_partitionEqualCmpFunc_lots_made_L2
  repeat' (first | with_reducible exact LeO.refl _ | with_reducible exact LeL.refl _ | with_reducible exact hcmp _ | with_reducible refine LeL.bif ?_ ?_ | with_reducible refine LeL.map (fun _ => ?_) | with_reducible refine LeL.one ?_ | with_reducible refine LeO.iterA (fun _ => ?_) | with_reducible refine LeO.bind ?_ (fun _ => ?_) | with_reducible refine LeO.gd ?_ | with_reducible refine LeO.both ?_ ?_ | with_reducible refine LeO.bif ?_ ?_ | with_reducible refine LeO.elim (fun _ => ?_) (fun _ => ?_) | with_reducible refine LeO.iter (fun _ => ?_))

noncomputable def slices_partitionEqualCmpFunc_lots_made_L0_c (a : Int) (cmp : ((List UInt8 × List UInt8 × List UInt8 × List UInt8 × Int × Int) × (Int × List UInt8 × Int × Int) × Int) × ((List UInt8 × List UInt8 × List UInt8 × List UInt8 × Int × Int) × (Int × List UInt8 × Int × Int) × Int) × Unit → Option Int) (i : Int) (j : Int) (data2 : List ((List UInt8 × List UInt8 × List UInt8 × List UInt8 × Int × Int) × (Int × List UInt8 × Int × Int) × Int)) : Option ((Int × Int × List ((List UInt8 × List UInt8 × List UInt8 × List UInt8 × Int × Int) × (Int × List UInt8 × Int × Int) × Int)) ⊕ (Int × List ((List UInt8 × List UInt8 × List UInt8 × List UInt8 × Int × Int) × (Int × List UInt8 × Int × Int) × Int))) :=
  (iterN (fun x => slices_partitionEqualCmpFunc_lots_made_L1_c a cmp j x.1 x.2) 100000 (i, data2)).bind fun s2 =>
  (iterN (fun x2 => slices_partitionEqualCmpFunc_lots_made_L2_c a cmp s2 x2.1 x2.2) 100000 (j, s2.2)).bind fun s4 =>
  bif decide (s4.1 < s2.1) then (
   some (.inr (s2.1, s4.2)))
  else (
   gd (inB s4.1 s4.2.length) <|
   gd (inB s2.1 s4.2.length) <|
   gd (inB s2.1 s4.2.length) <|
   gd (inB s4.1 (s4.2.set s2.1.toNat (s4.2.getD s4.1.toNat (([], ([], ([], ([], (0, 0))))), ((0, ([], (0, 0))), 0)))).length) <|
   some (.inl (wi64 (s2.1 + 1), wi64 (s4.1 - 1), (s4.2.set s2.1.toNat (s4.2.getD s4.1.toNat (([], ([], ([], ([], (0, 0))))), ((0, ([], (0, 0))), 0)))).set s4.1.toNat (s4.2.getD s2.1.toNat (([], ([], ([], ([], (0, 0))))), ((0, ([], (0, 0))), 0))))))

theorem le_slices_partitionEqualCmpFunc_lots_made_L0 (a : Int) (cmp cmp' : ((List UInt8 × List UInt8 × List UInt8 × List UInt8 × Int × Int) × (Int × List UInt8 × Int × Int) × Int) × ((List UInt8 × List UInt8 × List UInt8 × List UInt8 × Int × Int) × (Int × List UInt8 × Int × Int) × Int) × Unit → Option Int) (hcmp : ∀ q, LeO (cmp q) (cmp' q)) (i : Int) (j : Int) (data2 : List ((List UInt8 × List UInt8 × List UInt8 × List UInt8 × Int × Int) × (Int × List UInt8 × Int × Int) × Int)) : LeO (slices_partitionEqualCmpFunc_lots_made_L0_c a cmp i j data2) (slices_partitionEqualCmpFunc_lots_made_L0 a cmp' i j data2) := by
  unfold slices_partitionEqualCmpFunc_lots_made_L0_c slices_partitionEqualCmpFunc_lots_made_L0
  repeat' (first | with_reducible exact LeO.refl _ | with_reducible exact LeL.refl _ | with_reducible exact hcmp _ | with_reducible refine le_slices_partitionEqualCmpFunc_lots_made_L2 _ _ _ (fun _ => ?_) _ _ _ | with_reducible refine le_slices_partitionEqualCmpFunc_lots_made_L1 _ _ _ (fun _ => ?_) _ _ _ | with_reducible refine LeL.bif ?_ ?_ | with_reducible refine LeL.map (fun _ => ?_) | with_reducible refine LeL.one ?_ | with_reducible refine LeO.iterA (fun _ => ?_) | with_reducible refine LeO.bind ?_ (fun _ => ?_) | with_reducible refine LeO.gd ?_ | with_reducible refine LeO.both ?_ ?_ | with_reducible refine LeO.bif ?_ ?_ | with_reducible refine LeO.elim (fun _ => ?_) (fun _ => ?_) | with_reducible refine LeO.iter (fun _ => ?_))

noncomputable def slices_partitionEqualCmpFunc_lots_made_c (a : Int) (b : Int) (pivot : Int) (cmp : ((List UInt8 × List UInt8 × List UInt8 × List UInt8 × Int × Int) × (Int × List UInt8 × Int × Int) × Int) × ((List UInt8 × List UInt8 × List UInt8 × List UInt8 × Int × Int) × (Int × List UInt8 × Int × Int) × Int) × Unit → Option Int) (data : List ((List UInt8 × List UInt8 × List UInt8 × List UInt8 × Int × Int) × (Int × List UInt8 × Int × Int) × Int)) : Option (Int × List ((List UInt8 × List UInt8 × List UInt8 × List UInt8 × Int × Int) × (Int × List UInt8 × Int × Int) × Int)) :=
  gd (inB pivot data.length) <|
  gd (inB a data.length) <|
  gd (inB a data.length) <|
  gd (inB pivot (data.set a.toNat (data.getD pivot.toNat (([], ([], ([], ([], (0, 0))))), ((0, ([], (0, 0))), 0)))).length) <|
  (iterN (fun x3 => slices_partitionEqualCmpFunc_lots_made_L0_c a cmp x3.1 x3.2.1 x3.2.2) 100000 (wi64 (a + 1), wi64 (b - 1), (data.set a.toNat (data.getD pivot.toNat (([], ([], ([], ([], (0, 0))))), ((0, ([], (0, 0))), 0)))).set pivot.toNat (data.getD a.toNat (([], ([], ([], ([], (0, 0))))), ((0, ([], (0, 0))), 0))))).bind fun s5 =>
  some (s5.1, s5.2)

theorem le_slices_partitionEqualCmpFunc_lots_made (a : Int) (b : Int) (pivot : Int) (cmp cmp' : ((List UInt8 × List UInt8 × List UInt8 × List UInt8 × Int × Int) × (Int × List UInt8 × Int × Int) × Int) × ((List UInt8 × List UInt8 × List UInt8 × List UInt8 × Int × Int) × (Int × List UInt8 × Int × Int) × Int) × Unit → Option Int) (hcmp : ∀ q, LeO (cmp q) (cmp' q)) (data : List ((List UInt8 × List UInt8 × List UInt8 × List UInt8 × Int × Int) × (Int × List UInt8 × Int × Int) × Int)) : LeO (slices_partitionEqualCmpFunc_lots_made_c a b pivot cmp data) (slices_partitionEqualCmpFunc_lots_made a b pivot cmp' data) := by
  unfold slices_partitionEqualCmpFunc_lots_made_c slices_partitionEqualCmpFunc_lots_made
  repeat' (first | with_reducible exact LeO.refl _ | with_reducible exact LeL.refl _ | with_reducible exact hcmp _ | with_reducible refine le_slices_partitionEqualCmpFunc_lots_made_L0 _ _ _ (fun _ => ?_) _ _ _ | with_reducible refine LeL.bif ?_ ?_ | with_reducible refine LeL.map (fun _ => ?_) | with_reducible refine LeL.one ?_ | with_reducible refine LeO.iterA (fun _ => ?_) | with_reducible refine LeO.bind ?_ (fun _ => ?_) | with_reducible refine LeO.gd ?_ | with_reducible refine LeO.both ?_ ?_ | with_reducible refine LeO.bif ?_ ?_ | with_reducible refine LeO.elim (fun _ => ?_) (fun _ => ?_) | with_reducible refine LeO.iter (fun _ => ?_))

noncomputable def slices_partitionCmpFunc_lots_made_L0_c (a : Int) (b : Int) (cmp : ((List UInt8 × List UInt8 × List UInt8 × List UInt8 × Int × Int) × (Int × List UInt8 × Int × Int) × Int) × ((List UInt8 × List UInt8 × List UInt8 × List UInt8 × Int × Int) × (Int × List UInt8 × Int × Int) × Int) × Unit → Option Int) (i : Int) (data2 : List ((List UInt8 × List UInt8 × List UInt8 × List UInt8 × Int × Int) × (Int × List UInt8 × Int × Int) × Int)) : Option ((Int × List ((List UInt8 × List UInt8 × List UInt8 × List UInt8 × Int × Int) × (Int × List UInt8 × Int × Int) × Int)) ⊕ (Int × List ((List UInt8 × List UInt8 × List UInt8 × List UInt8 × Int × Int) × (Int × List UInt8 × Int × Int) × Int))) :=
  Option.bind (α := Bool × List ((List UInt8 × List UInt8 × List UInt8 × List UInt8 × Int × Int) × (Int × List UInt8 × Int × Int) × Int)) (
    bif decide (i ≤ wi64 (b - 1)) then (
     gd (inB i data2.length) <|
     gd (inB a data2.length) <|
     (cmp (data2.getD i.toNat (([], ([], ([], ([], (0, 0))))), ((0, ([], (0, 0))), 0)), data2.getD a.toNat (([], ([], ([], ([], (0, 0))))), ((0, ([], (0, 0))), 0)), ())).bind fun r =>
     some (decide (r < 0), data2))
    else (
     some (false, data2))) fun s =>
  bif s.1 then (
   some (.inl (wi64 (i + 1), s.2)))
  else (
   some (.inr (i, s.2)))

theorem le_slices_partitionCmpFunc_lots_made_L0 (a : Int) (b : Int) (cmp cmp' : ((List UInt8 × List UInt8 × List UInt8 × List UInt8 × Int × Int) × (Int × List UInt8 × Int × Int) × Int) × ((List UInt8 × List UInt8 × List UInt8 × List UInt8 × Int × Int) × (Int × List UInt8 × Int × Int) × Int) × Unit → Option Int) (hcmp : ∀ q, LeO (cmp q) (cmp' q)) (i : Int) (data2 : List ((List UInt8 × List UInt8 × List UInt8 × List UInt8 × Int × Int) × (Int × List UInt8 × Int × Int) × Int)) : LeO (slices_partitionCmpFunc_lots_made_L0_c a b cmp i data2) (slices_partitionCmpFunc_lots_made_L0 a b cmp' i data2) := by
  unfold slices_partitionCmpFunc_lots_made_L0_c slices_partitionCmpFunc_lots_made_L0
  repeat' (first | with_reducible exact LeO.refl _ | with_reducible exact LeL.refl _ | with_reducible exact hcmp _ | with_reducible refine LeL.bif ?_ ?_ | with_reducible refine LeL.map (fun _ => ?_) | with_reducible refine LeL.one ?_ | with_reducible refine LeO.iterA (fun _ => ?_) | with_reducible refine LeO.bind ?_ (fun _ => ?_) | with_reducible refine LeO.gd ?_ | with_reducible refine LeO.both ?_ ?_ | with_reducible refine LeO.bif ?_ ?_ | with_reducible refine LeO.elim (fun _ => ?_) (fun _ => ?_) | with_reducible refine LeO.iter (fun _ => ?_))

noncomputable def slices_partitionCmpFunc_lots_made_L1_c (a : Int) (cmp : ((List UInt8 × List UInt8 × List UInt8 × List UInt8 × Int × Int) × (Int × List UInt8 × Int × Int) × Int) × ((List UInt8 × List UInt8 × List UInt8 × List UInt8 × Int × Int) × (Int × List UInt8 × Int × Int) × Int) × Unit → Option Int) (s2 : Int × List ((List UInt8 × List UInt8 × List UInt8 × List UInt8 × Int × Int) × (Int × List UInt8 × Int × Int) × Int)) (j : Int) (data3 : List ((List UInt8 × List UInt8 × List UInt8 × List UInt8 × Int × Int) × (Int × List UInt8 × Int × Int) × Int)) : Option ((Int × List ((List UInt8 × List UInt8 × List UInt8 × List UInt8 × Int × Int) × (Int × List UInt8 × Int × Int) × Int)) ⊕ (Int × List ((List UInt8 × List UInt8 × List UInt8 × List UInt8 × Int × Int) × (Int × List UInt8 × Int × Int) × Int))) :=
  Option.bind (α := Bool × List ((List UInt8 × List UInt8 × List UInt8 × List UInt8 × Int × Int) × (Int × List UInt8 × Int × Int) × Int)) (
    bif decide (s2.1 ≤ j) then (
     gd (inB j data3.length) <|
     gd (inB a data3.length) <|
     (cmp (data3.getD j.toNat (([], ([], ([], ([], (0, 0))))), ((0, ([], (0, 0))), 0)), data3.getD a.toNat (([], ([], ([], ([], (0, 0))))), ((0, ([], (0, 0))), 0)), ())).bind fun r2 =>
     some ((!(decide (r2 < 0))), data3))
    else (
     some (false, data3))) fun s3 =>
  bif s3.1 then (
   some (.inl (wi64 (j - 1), s3.2)))
  else (
   some (.inr (j, s3.2)))

theorem le_slices_partitionCmpFunc_lots_made_L1 (a : Int) (cmp cmp' : ((List UInt8 × List UInt8 × List UInt8 × List UInt8 × Int × Int) × (Int × List UInt8 × Int × Int) × Int) × ((List UInt8 × List UInt8 × List UInt8 × List UInt8 × Int × Int) × (Int × List UInt8 × Int × Int) × Int) × Unit → Option Int) (hcmp : ∀ q, LeO (cmp q) (cmp' q)) (s2 : Int × List ((List UInt8 × List UInt8 × List UInt8 × List UInt8 × Int × Int) × (Int × List UInt8 × Int × Int) × Int)) (j : Int) (data3 : List ((List UInt8 × List UInt8 × List UInt8 × List UInt8 × Int × Int) × (Int × List UInt8 × Int × Int) × Int)) : LeO (slices_partitionCmpFunc_lots_made_L1_c a cmp s2 j data3) (slices_partitionCmpFunc_lots_made_L1 a cmp' s2 j data3) := by
  unfold slices_partitionCmpFunc_lots_made_L1_c slices_partitionCmpFunc_lots_made_L1
  repeat' (first | with_reducible exact LeO.refl _ | with_reducible exact LeL.refl _ | with_reducible exact hcmp _ | with_reducible refine LeL.bif ?_ ?_ | with_reducible refine LeL.map (fun _ => ?_) | with_reducible refine LeL.one ?_ | with_reducible refine LeO.iterA (fun _ => ?_) | with_reducible refine LeO.bind ?_ (fun _ => ?_) | with_reducible refine LeO.gd ?_ | with_reducible refine LeO.both ?_ ?_ | with_reducible refine LeO.bif ?_ ?_ | with_reducible refine LeO.elim (fun _ => ?_) (fun _ => ?_) | with_reducible refine LeO.iter (fun _ => ?_))

noncomputable def slices_partitionCmpFunc_lots_made_L3_c (a : Int) (cmp : ((List UInt8 × List UInt8 × List UInt8 × List UInt8 × Int × Int) × (Int × List UInt8 × Int × Int) × Int) × ((List UInt8 × List UInt8 × List UInt8 × List UInt8 × Int × Int) × (Int × List UInt8 × Int × Int) × Int) × Unit → Option Int) (j2 : Int) (i3 : Int) (data5 : List ((List UInt8 × List UInt8 × List UInt8 × List UInt8 × Int × Int) × (Int × List UInt8 × Int × Int) × Int)) : Option ((Int × List ((List UInt8 × List UInt8 × List UInt8 × List UInt8 × Int × Int) × (Int × List UInt8 × Int × Int) × Int)) ⊕ (Int × List ((List UInt8 × List UInt8 × List UInt8 × List UInt8 × Int × Int) × (Int × List UInt8 × Int × Int) × Int))) :=
  Option.bind (α := Bool × List ((List UInt8 × List UInt8 × List UInt8 × List UInt8 × Int × Int) × (Int × List UInt8 × Int × Int) × Int)) (
    bif decide (i3 ≤ j2) then (
     gd (inB i3 data5.length) <|
     gd (inB a data5.length) <|
     (cmp (data5.getD i3.toNat (([], ([], ([], ([], (0, 0))))), ((0, ([], (0, 0))), 0)), data5.getD a.toNat (([], ([], ([], ([], (0, 0))))), ((0, ([], (0, 0))), 0)), ())).bind fun r3 =>
     some (decide (r3 < 0), data5))
    else (
     some (false, data5))) fun s5 =>
  bif s5.1 then (
   some (.inl (wi64 (i3 + 1), s5.2)))
  else (
   some (.inr (i3, s5.2)))

theorem le_slices_partitionCmpFunc_lots_made_L3 (a : Int) (cmp cmp' : ((List UInt8 × List UInt8 × List UInt8 × List UInt8 × Int × Int) × (Int × List UInt8 × Int × Int) × Int) × ((List UInt8 × List UInt8 × List UInt8 × List UInt8 × Int × Int) × (Int × List UInt8 × Int × Int) × Int) × Unit → Option Int) (hcmp : ∀ q, LeO (cmp q) (cmp' q)) (j2 : Int) (i3 : Int) (data5 : List ((List UInt8 × List UInt8 × List UInt8 × List UInt8 × Int × Int) × (Int × List UInt8 × Int × Int) × Int)) : LeO (slices_partitionCmpFunc_lots_made_L3_c a cmp j2 i3 data5) (slices_partitionCmpFunc_lots_made_L3 a cmp' j2 i3 data5) := by
  unfold slices_partitionCmpFunc_lots_made_L3_c slices_partitionCmpFunc_lots_made_L3
  repeat' (first | with_reducible exact LeO.refl _ | with_reducible exact LeL.refl _ | with_reducible exact hcmp _ | with_reducible refine LeL.bif ?_ ?_ | with_reducible refine LeL.map (fun _ => ?_) | with_reducible refine LeL.one ?_ | with_reducible refine LeO.iterA (fun _ => ?_) | with_reducible refine LeO.bind ?_ (fun _ => ?_) | with_reducible refine LeO.gd ?_ | with_reducible refine LeO.both ?_ ?_ | with_reducible refine LeO.bif ?_ ?_ | with_reducible refine LeO.elim (fun _ => ?_) (fun _ => ?_) | with_reducible refine LeO.iter (fun _ => ?_))

noncomputable def slices_partitionCmpFunc_lots_made_L4_c (a : Int) (cmp : ((List UInt8 × List UInt8 × List UInt8 × List UInt8 × Int × Int) × (Int × List UInt8 × Int × Int) × Int) × ((List UInt8 × List UInt8 × List UInt8 × List UInt8 × Int × Int) × (Int × List UInt8 × Int × Int) × Int) × Unit → Option Int) (s6 : Int × List ((List UInt8 × List UInt8 × List UInt8 × List UInt8 × Int × Int) × (Int × List UInt8 × Int × Int) × Int)) (j3 : Int) (data6 : List ((List UInt8 × List UInt8 × List UInt8 × List UInt8 × Int × Int) × (Int × List UInt8 × Int × Int) × Int)) : Option ((Int × List ((List UInt8 × List UInt8 × List UInt8 × List UInt8 × Int × Int) × (Int × List UInt8 × Int × Int) × Int)) ⊕ (Int × List ((List UInt8 × List UInt8 × List UInt8 × List UInt8 × Int × Int) × (Int × List UInt8 × Int × Int) × Int))) :=
  Option.bind (α := Bool × List ((List UInt8 × List UInt8 × List UInt8 × List UInt8 × Int × Int) × (Int × List UInt8 × Int × Int) × Int)) (
    bif decide (s6.1 ≤ j3) then (
     gd (inB j3 data6.length) <|
     gd (inB a data6.length) <|
     (cmp (data6.getD j3.toNat (([], ([], ([], ([], (0, 0))))), ((0, ([], (0, 0))), 0)), data6.getD a.toNat (([], ([], ([], ([], (0, 0))))), ((0, ([], (0, 0))), 0)), ())).bind fun r4 =>
     some ((!(decide (r4 < 0))), data6))
    else (
     some (false, data6))) fun s7 =>
  bif s7.1 then (
   some (.inl (wi64 (j3 - 1), s7.2)))
  else (
   some (.inr (j3, s7.2)))

theorem le_slices_partitionCmpFunc_lots_made_L4 (a : Int) (cmp cmp' : ((List UInt8 × List UInt8 × List UInt8 × List UInt8 × Int × Int) × (Int × List UInt8 × Int × Int) × Int) × ((List UInt8 × List UInt8 × List UInt8 × List UInt8 × Int × Int) × (Int × List UInt8 × Int × Int) × Int) × Unit → Option Int) (hcmp : ∀ q, LeO (cmp q) (cmp' q)) (s6 : Int × List ((List UInt8 × List UInt8 × List UInt8 × List UInt8 × Int × Int) × (Int × List UInt8 × Int × Int) × Int)) (j3 : Int) (data6 : List ((List UInt8 × List UInt8 × List UInt8 × List UInt8 × Int × Int) × (Int × List UInt8 × Int × Int) × Int)) : LeO (slices_partitionCmpFunc_lots_made_L4_c a cmp s6 j3 data6) (slices_partitionCmpFunc_lots_made_L4 a cmp' s6 j3 data6) := by
  unfold slices_partitionCmpFunc_lots_made_L4_c slices_partitionCmpFunc_lots_made_L4
  repeat' (first | with_reducible exact LeO.refl _ | with_reducible exact LeL.refl _ | with_reducible exact hcmp _ | with_reducible refine LeL.bif ?_ ?_ | with_reducible refine LeL.map (fun _ => ?_) | with_reducible refine LeL.one ?_ | with_reducible refine LeO.iterA (fun _ => ?_) | with_reducible refine LeO.bind ?_ (fun _ => ?_) | with_reducible refine LeO.gd ?_ | with_reducible refine LeO.both ?_ ?_ | with_reducible refine LeO.bif ?_ ?_ | with_reducible refine LeO.elim (fun _ => ?_) (fun _ => ?_) | with_reducible refine LeO.iter (fun _ => ?_))

noncomputable def slices_partitionCmpFunc_lots_made_L2_c (a : Int) (cmp : ((List UInt8 × List UInt8 × List UInt8 × List UInt8 × Int × Int) × (Int × List UInt8 × Int × Int) × Int) × ((List UInt8 × List UInt8 × List UInt8 × List UInt8 × Int × Int) × (Int × List UInt8 × Int × Int) × Int) × Unit → Option Int) (i2 : Int) (j2 : Int) (data4 : List ((List UInt8 × List UInt8 × List UInt8 × List UInt8 × Int × Int) × (Int × List UInt8 × Int × Int) × Int)) : Option ((Int × Int × List ((List UInt8 × List UInt8 × List UInt8 × List UInt8 × Int × Int) × (Int × List UInt8 × Int × Int) × Int)) ⊕ (Int × List ((List UInt8 × List UInt8 × List UInt8 × List UInt8 × Int × Int) × (Int × List UInt8 × Int × Int) × Int))) :=
  (iterN (fun x3 => slices_partitionCmpFunc_lots_made_L3_c a cmp j2 x3.1 x3.2) 100000 (i2, data4)).bind fun s6 =>
  (iterN (fun x4 => slices_partitionCmpFunc_lots_made_L4_c a cmp s6 x4.1 x4.2) 100000 (j2, s6.2)).bind fun s8 =>
  bif decide (s8.1 < s6.1) then (
   some (.inr (s8.1, s8.2)))
  else (
   gd (inB s8.1 s8.2.length) <|
   gd (inB s6.1 s8.2.length) <|
   gd (inB s6.1 s8.2.length) <|
   gd (inB s8.1 (s8.2.set s6.1.toNat (s8.2.getD s8.1.toNat (([], ([], ([], ([], (0, 0))))), ((0, ([], (0, 0))), 0)))).length) <|
   some (.inl (wi64 (s6.1 + 1), wi64 (s8.1 - 1), (s8.2.set s6.1.toNat (s8.2.getD s8.1.toNat (([], ([], ([], ([], (0, 0))))), ((0, ([], (0, 0))), 0)))).set s8.1.toNat (s8.2.getD s6.1.toNat (([], ([], ([], ([], (0, 0))))), ((0, ([], (0, 0))), 0))))))

theorem le_slices_partitionCmpFunc_lots_made_L2 (a : Int) (cmp cmp' : ((List UInt8 × List UInt8 × List UInt8 × List UInt8 × Int × Int) × (Int × List UInt8 × Int × Int) × Int) × ((List UInt8 × List UInt8 × List UInt8 × List UInt8 × Int × Int) × (Int × List UInt8 × Int × Int) × Int) × Unit → Option Int) (hcmp : ∀ q, LeO (cmp q) (cmp' q)) (i2 : Int) (j2 : Int) (data4 : List ((List UInt8 × List UInt8 × List UInt8 × List UInt8 × Int × Int) × (Int × List UInt8 × Int × Int) × Int)) : LeO (slices_partitionCmpFunc_lots_made_L2_c a cmp i2 j2 data4) (slices_partitionCmpFunc_lots_made_L2 a cmp' i2 j2 data4) := by
  unfold slices_partitionCmpFunc_lots_made_L2_c slices_partitionCmpFunc_lots_made_L2
  repeat' (first | with_reducible exact LeO.refl _ | with_reducible exact LeL.refl _ | with_reducible exact hcmp _ | with_reducible refine le_slices_partitionCmpFunc_lots_made_L4 _ _ _ (fun _ => ?_) _ _ _ | with_reducible refine le_slices_partitionCmpFunc_lots_made_L3 _ _ _ (fun _ => ?_) _ _ _ | with_reducible refine LeL.bif ?_ ?_ | with_reducible refine LeL.map (fun _ => ?_) | with_reducible refine LeL.one ?_ | with_reducible refine LeO.iterA (fun _ => ?_) | with_reducible refine LeO.bind ?_ (fun _ => ?_) | with_reducible refine LeO.gd ?_ | with_reducible refine LeO.both ?_ ?_ | with_reducible refine LeO.bif ?_ ?_ | with_reducible refine LeO.elim (fun _ => ?_) (fun _ => ?_) | with_reducible refine LeO.iter (fun _ => ?_))

noncomputable def slices_partitionCmpFunc_lots_made_c (a : Int) (b : Int) (pivot : Int) (cmp : ((List UInt8 × List UInt8 × List UInt8 × List UInt8 × Int × Int) × (Int × List UInt8 × Int × Int) × Int) × ((List UInt8 × List UInt8 × List UInt8 × List UInt8 × Int × Int) × (Int × List UInt8 × Int × Int) × Int) × Unit → Option Int) (data : List ((List UInt8 × List UInt8 × List UInt8 × List UInt8 × Int × Int) × (Int × List UInt8 × Int × Int) × Int)) : Option (Int × Bool × List ((List UInt8 × List UInt8 × List UInt8 × List UInt8 × Int × Int) × (Int × List UInt8 × Int × Int) × Int)) :=
  gd (inB pivot data.length) <|
  gd (inB a data.length) <|
  gd (inB a data.length) <|
  gd (inB pivot (data.set a.toNat (data.getD pivot.toNat (([], ([], ([], ([], (0, 0))))), ((0, ([], (0, 0))), 0)))).length) <|
  (iterN (fun x => slices_partitionCmpFunc_lots_made_L0_c a b cmp x.1 x.2) 100000 (wi64 (a + 1), (data.set a.toNat (data.getD pivot.toNat (([], ([], ([], ([], (0, 0))))), ((0, ([], (0, 0))), 0)))).set pivot.toNat (data.getD a.toNat (([], ([], ([], ([], (0, 0))))), ((0, ([], (0, 0))), 0))))).bind fun s2 =>
  (iterN (fun x2 => slices_partitionCmpFunc_lots_made_L1_c a cmp s2 x2.1 x2.2) 100000 (wi64 (b - 1), s2.2)).bind fun s4 =>
  bif decide (s4.1 < s2.1) then (
   gd (inB a s4.2.length) <|
   gd (inB s4.1 s4.2.length) <|
   gd (inB s4.1 s4.2.length) <|
   gd (inB a (s4.2.set s4.1.toNat (s4.2.getD a.toNat (([], ([], ([], ([], (0, 0))))), ((0, ([], (0, 0))), 0)))).length) <|
   some (s4.1, true, (s4.2.set s4.1.toNat (s4.2.getD a.toNat (([], ([], ([], ([], (0, 0))))), ((0, ([], (0, 0))), 0)))).set a.toNat (s4.2.getD s4.1.toNat (([], ([], ([], ([], (0, 0))))), ((0, ([], (0, 0))), 0)))))
  else (
   gd (inB s4.1 s4.2.length) <|
   gd (inB s2.1 s4.2.length) <|
   gd (inB s2.1 s4.2.length) <|
   gd (inB s4.1 (s4.2.set s2.1.toNat (s4.2.getD s4.1.toNat (([], ([], ([], ([], (0, 0))))), ((0, ([], (0, 0))), 0)))).length) <|
   (iterN (fun x5 => slices_partitionCmpFunc_lots_made_L2_c a cmp x5.1 x5.2.1 x5.2.2) 100000 (wi64 (s2.1 + 1), wi64 (s4.1 - 1), (s4.2.set s2.1.toNat (s4.2.getD s4.1.toNat (([], ([], ([], ([], (0, 0))))), ((0, ([], (0, 0))), 0)))).set s4.1.toNat (s4.2.getD s2.1.toNat (([], ([], ([], ([], (0, 0))))), ((0, ([], (0, 0))), 0))))).bind fun s9 =>
   gd (inB a s9.2.length) <|
   gd (inB s9.1 s9.2.length) <|
   gd (inB s9.1 s9.2.length) <|
   gd (inB a (s9.2.set s9.1.toNat (s9.2.getD a.toNat (([], ([], ([], ([], (0, 0))))), ((0, ([], (0, 0))), 0)))).length) <|
   some (s9.1, false, (s9.2.set s9.1.toNat (s9.2.getD a.toNat (([], ([], ([], ([], (0, 0))))), ((0, ([], (0, 0))), 0)))).set a.toNat (s9.2.getD s9.1.toNat (([], ([], ([], ([], (0, 0))))), ((0, ([], (0, 0))), 0)))))

theorem le_slices_partitionCmpFunc_lots_made (a : Int) (b : Int) (pivot : Int) (cmp cmp' : ((List UInt8 × List UInt8 × List UInt8 × List UInt8 × Int × Int) × (Int × List UInt8 × Int × Int) × Int) × ((List UInt8 × List UInt8 × List UInt8 × List UInt8 × Int × Int) × (Int × List UInt8 × Int × Int) × Int) × Unit → Option Int) (hcmp : ∀ q, LeO (cmp q) (cmp' q)) (data : List ((List UInt8 × List UInt8 × List UInt8 × List UInt8 × Int × Int) × (Int × List UInt8 × Int × Int) × Int)) : LeO (slices_partitionCmpFunc_lots_made_c a b pivot cmp data) (slices_partitionCmpFunc_lots_made a b pivot cmp' data) := by
  unfold slices_partitionCmpFunc_lots_made_c slices_partitionCmpFunc_lots_made
  repeat' (first | with_reducible exact LeO.refl _ | with_reducible exact LeL.refl _ | with_reducible exact hcmp _ | with_reducible refine le_slices_partitionCmpFunc_lots_made_L1 _ _ _ (fun _ => ?_) _ _ _ | with_reducible refine le_slices_partitionCmpFunc_lots_made_L2 _ _ _ (fun _ => ?_) _ _ _ | with_reducible refine le_slices_partitionCmpFunc_lots_made_L0 _ _ _ _ (fun _ => ?_) _ _ | with_reducible refine LeL.bif ?_ ?_ | with_reducible refine LeL.map (fun _ => ?_) | with_reducible refine LeL.one ?_ | with_reducible refine LeO.iterA (fun _ => ?_) | with_reducible refine LeO.bind ?_ (fun _ => ?_) | with_reducible refine LeO.gd ?_ | with_reducible refine LeO.both ?_ ?_ | with_reducible refine LeO.bif ?_ ?_ | with_reducible refine LeO.elim (fun _ => ?_) (fun _ => ?_) | with_reducible refine LeO.iter (fun _ => ?_))

noncomputable def slices_pdqsortCmpFunc_lots_made_L0_c (cmp : ((List UInt8 × List UInt8 × List UInt8 × List UInt8 × Int × Int) × (Int × List UInt8 × Int × Int) × Int) × ((List UInt8 × List UInt8 × List UInt8 × List UInt8 × Int × Int) × (Int × List UInt8 × Int × Int) × Int) × Unit → Option Int) (rec : Int → Int → Int → (((List UInt8 × List UInt8 × List UInt8 × List UInt8 × Int × Int) × (Int × List UInt8 × Int × Int) × Int) × ((List UInt8 × List UInt8 × List UInt8 × List UInt8 × Int × Int) × (Int × List UInt8 × Int × Int) × Int) × Unit → Option Int) → List ((List UInt8 × List UInt8 × List UInt8 × List UInt8 × Int × Int) × (Int × List UInt8 × Int × Int) × Int) → Option (List ((List UInt8 × List UInt8 × List UInt8 × List UInt8 × Int × Int) × (Int × List UInt8 × Int × Int) × Int))) (a2 : Int) (b2 : Int) (limit2 : Int) (wasBalanced : Bool) (wasPartitioned : Bool) (data2 : List ((List UInt8 × List UInt8 × List UInt8 × List UInt8 × Int × Int) × (Int × List UInt8 × Int × Int) × Int)) : Option ((Int × Int × Int × Bool × Bool × List ((List UInt8 × List UInt8 × List UInt8 × List UInt8 × Int × Int) × (Int × List UInt8 × Int × Int) × Int)) ⊕ (List ((List UInt8 × List UInt8 × List UInt8 × List UInt8 × Int × Int) × (Int × List UInt8 × Int × Int) × Int))) :=
  bif decide (wi64 (b2 - a2) ≤ 12) then (
   (slices_insertionSortCmpFunc_lots_made_c a2 b2 cmp data2).bind fun r =>
   some (.inr r))
  else (
   bif decide (limit2 = 0) then (
    (slices_heapSortCmpFunc_lots_made_c a2 b2 cmp data2).bind fun r2 =>
    some (.inr r2))
   else (
    Option.bind (α := Int × List ((List UInt8 × List UInt8 × List UInt8 × List UInt8 × Int × Int) × (Int × List UInt8 × Int × Int) × Int)) (
      bif !wasBalanced then (
       (slices_breakPatternsCmpFunc_lots_made_c a2 b2 cmp data2).bind fun r3 =>
       some (wi64 (limit2 - 1), r3))
      else (
       some (limit2, data2))) fun s =>
    (slices_choosePivotCmpFunc_lots_made_c s.2 a2 b2 cmp).bind fun r4 =>
    Option.bind (α := Int × Int × List ((List UInt8 × List UInt8 × List UInt8 × List UInt8 × Int × Int) × (Int × List UInt8 × Int × Int) × Int)) (
      bif decide (r4.2 = 2) then (
       (slices_reverseRangeCmpFunc_lots_made_c a2 b2 cmp s.2).bind fun r5 =>
       some (wi64 ((wi64 (b2 - 1)) - (wi64 (r4.1 - a2))), 1, r5))
      else (
       some (r4.1, r4.2, s.2))) fun s2 =>
    Option.bind (α := Bool × List ((List UInt8 × List UInt8 × List UInt8 × List UInt8 × Int × Int) × (Int × List UInt8 × Int × Int) × Int)) (
      bif wasBalanced then (
       bif wasPartitioned then (
        some (decide (s2.2.1 = 1), s2.2.2))
       else (
        some (false, s2.2.2)))
      else (
       some (false, s2.2.2))) fun s3 =>
    Option.bind (α := (List ((List UInt8 × List UInt8 × List UInt8 × List UInt8 × Int × Int) × (Int × List UInt8 × Int × Int) × Int)) ⊕ (List ((List UInt8 × List UInt8 × List UInt8 × List UInt8 × Int × Int) × (Int × List UInt8 × Int × Int) × Int))) (
      bif s3.1 then (
       (slices_partialInsertionSortCmpFunc_lots_made_c a2 b2 cmp s3.2).bind fun r6 =>
       bif r6.1 then (
        some (.inr r6.2))
       else (
        some (.inl r6.2)))
      else (
       some (.inl s3.2))) fun s4 =>
    s4.elim (fun s5 =>
     Option.bind (α := Bool × List ((List UInt8 × List UInt8 × List UInt8 × List UInt8 × Int × Int) × (Int × List UInt8 × Int × Int) × Int)) (
       bif decide (0 < a2) then (
        gd (inB (wi64 (a2 - 1)) s5.length) <|
        gd (inB s2.1 s5.length) <|
        (cmp (s5.getD ((wi64 (a2 - 1)).toNat) (([], ([], ([], ([], (0, 0))))), ((0, ([], (0, 0))), 0)), s5.getD s2.1.toNat (([], ([], ([], ([], (0, 0))))), ((0, ([], (0, 0))), 0)), ())).bind fun r7 =>
        some ((!(decide (r7 < 0))), s5))
       else (
        some (false, s5))) fun s7 =>
     bif s7.1 then (
      (slices_partitionEqualCmpFunc_lots_made_c a2 b2 s2.1 cmp s7.2).bind fun r8 =>
      some (.inl (r8.1, b2, s.1, wasBalanced, wasPartitioned, r8.2)))
     else (
      (slices_partitionCmpFunc_lots_made_c a2 b2 s2.1 cmp s7.2).bind fun r9 =>
      bif decide (wi64 (r9.1 - a2) < wi64 (b2 - r9.1)) then (
       (rec a2 r9.1 s.1 cmp r9.2.2).bind fun r10 =>
       some (.inl (wi64 (r9.1 + 1), b2, s.1, decide (wi64 (Int.tdiv (wi64 (b2 - a2)) 8) ≤ wi64 (r9.1 - a2)), r9.2.1, r10)))
      else (
       (rec (wi64 (r9.1 + 1)) b2 s.1 cmp r9.2.2).bind fun r11 =>
       some (.inl (a2, r9.1, s.1, decide (wi64 (Int.tdiv (wi64 (b2 - a2)) 8) ≤ wi64 (b2 - r9.1)), r9.2.1, r11)))))
    (fun s6 =>
     some (.inr s6))))

theorem le_slices_pdqsortCmpFunc_lots_made_L0 (cmp cmp' : ((List UInt8 × List UInt8 × List UInt8 × List UInt8 × Int × Int) × (Int × List UInt8 × Int × Int) × Int) × ((List UInt8 × List UInt8 × List UInt8 × List UInt8 × Int × Int) × (Int × List UInt8 × Int × Int) × Int) × Unit → Option Int) (hcmp : ∀ q, LeO (cmp q) (cmp' q)) (rec rec' : Int → Int → Int → (((List UInt8 × List UInt8 × List UInt8 × List UInt8 × Int × Int) × (Int × List UInt8 × Int × Int) × Int) × ((List UInt8 × List UInt8 × List UInt8 × List UInt8 × Int × Int) × (Int × List UInt8 × Int × Int) × Int) × Unit → Option Int) → List ((List UInt8 × List UInt8 × List UInt8 × List UInt8 × Int × Int) × (Int × List UInt8 × Int × Int) × Int) → Option (List ((List UInt8 × List UInt8 × List UInt8 × List UInt8 × Int × Int) × (Int × List UInt8 × Int × Int) × Int))) (hrec : ∀ (z0 : Int) (z1 : Int) (z2 : Int) (z3 z3' : ((List UInt8 × List UInt8 × List UInt8 × List UInt8 × Int × Int) × (Int × List UInt8 × Int × Int) × Int) × ((List UInt8 × List UInt8 × List UInt8 × List UInt8 × Int × Int) × (Int × List UInt8 × Int × Int) × Int) × Unit → Option Int) (hz3 : ∀ q, LeO (z3 q) (z3' q)) (z4 : List ((List UInt8 × List UInt8 × List UInt8 × List UInt8 × Int × Int) × (Int × List UInt8 × Int × Int) × Int)), LeO (rec z0 z1 z2 z3 z4) (rec' z0 z1 z2 z3' z4)) (a2 : Int) (b2 : Int) (limit2 : Int) (wasBalanced : Bool) (wasPartitioned : Bool) (data2 : List ((List UInt8 × List UInt8 × List UInt8 × List UInt8 × Int × Int) × (Int × List UInt8 × Int × Int) × Int)) : LeO (slices_pdqsortCmpFunc_lots_made_L0_c cmp rec a2 b2 limit2 wasBalanced wasPartitioned data2) (slices_pdqsortCmpFunc_lots_made_L0 cmp' rec' a2 b2 limit2 wasBalanced wasPartitioned data2) := by
  unfold slices_pdqsortCmpFunc_lots_made_L0_c slices_pdqsortCmpFunc_lots_made_L0
  repeat' (first | with_reducible exact LeO.refl _ | with_reducible exact LeL.refl _ | with_reducible exact hcmp _ | with_reducible refine hrec _ _ _ _ _ (fun _ => ?_) _ | with_reducible refine le_slices_heapSortCmpFunc_lots_made _ _ _ _ (fun _ => ?_) _ | with_reducible refine le_slices_partialInsertionSortCmpFunc_lots_made _ _ _ _ (fun _ => ?_) _ | with_reducible refine le_slices_choosePivotCmpFunc_lots_made _ _ _ _ _ (fun _ => ?_) | with_reducible refine le_slices_breakPatternsCmpFunc_lots_made _ _ _ _ (fun _ => ?_) _ | with_reducible refine le_slices_reverseRangeCmpFunc_lots_made _ _ _ _ (fun _ => ?_) _ | with_reducible refine le_slices_partitionEqualCmpFunc_lots_made _ _ _ _ _ (fun _ => ?_) _ | with_reducible refine le_slices_insertionSortCmpFunc_lots_made _ _ _ _ (fun _ => ?_) _ | with_reducible refine le_slices_partitionCmpFunc_lots_made _ _ _ _ _ (fun _ => ?_) _ | with_reducible refine LeL.bif ?_ ?_ | with_reducible refine LeL.map (fun _ => ?_) | with_reducible refine LeL.one ?_ | with_reducible refine LeO.iterA (fun _ => ?_) | with_reducible refine LeO.bind ?_ (fun _ => ?_) | with_reducible refine LeO.gd ?_ | with_reducible refine LeO.both ?_ ?_ | with_reducible refine LeO.bif ?_ ?_ | with_reducible refine LeO.elim (fun _ => ?_) (fun _ => ?_) | with_reducible refine LeO.iter (fun _ => ?_))

noncomputable def slices_pdqsortCmpFunc_lots_made_S_c (rec : Int → Int → Int → (((List UInt8 × List UInt8 × List UInt8 × List UInt8 × Int × Int) × (Int × List UInt8 × Int × Int) × Int) × ((List UInt8 × List UInt8 × List UInt8 × List UInt8 × Int × Int) × (Int × List UInt8 × Int × Int) × Int) × Unit → Option Int) → List ((List UInt8 × List UInt8 × List UInt8 × List UInt8 × Int × Int) × (Int × List UInt8 × Int × Int) × Int) → Option (List ((List UInt8 × List UInt8 × List UInt8 × List UInt8 × Int × Int) × (Int × List UInt8 × Int × Int) × Int))) (a : Int) (b : Int) (limit : Int) (cmp : ((List UInt8 × List UInt8 × List UInt8 × List UInt8 × Int × Int) × (Int × List UInt8 × Int × Int) × Int) × ((List UInt8 × List UInt8 × List UInt8 × List UInt8 × Int × Int) × (Int × List UInt8 × Int × Int) × Int) × Unit → Option Int) (data : List ((List UInt8 × List UInt8 × List UInt8 × List UInt8 × Int × Int) × (Int × List UInt8 × Int × Int) × Int)) : Option (List ((List UInt8 × List UInt8 × List UInt8 × List UInt8 × Int × Int) × (Int × List UInt8 × Int × Int) × Int)) :=
  (iterN (fun x => slices_pdqsortCmpFunc_lots_made_L0_c cmp rec x.1 x.2.1 x.2.2.1 x.2.2.2.1 x.2.2.2.2.1 x.2.2.2.2.2) 100000 (a, b, limit, true, true, data)).bind fun s8 =>
  some s8

theorem le_slices_pdqsortCmpFunc_lots_made_S (rec rec' : Int → Int → Int → (((List UInt8 × List UInt8 × List UInt8 × List UInt8 × Int × Int) × (Int × List UInt8 × Int × Int) × Int) × ((List UInt8 × List UInt8 × List UInt8 × List UInt8 × Int × Int) × (Int × List UInt8 × Int × Int) × Int) × Unit → Option Int) → List ((List UInt8 × List UInt8 × List UInt8 × List UInt8 × Int × Int) × (Int × List UInt8 × Int × Int) × Int) → Option (List ((List UInt8 × List UInt8 × List UInt8 × List UInt8 × Int × Int) × (Int × List UInt8 × Int × Int) × Int))) (hrec : ∀ (z0 : Int) (z1 : Int) (z2 : Int) (z3 z3' : ((List UInt8 × List UInt8 × List UInt8 × List UInt8 × Int × Int) × (Int × List UInt8 × Int × Int) × Int) × ((List UInt8 × List UInt8 × List UInt8 × List UInt8 × Int × Int) × (Int × List UInt8 × Int × Int) × Int) × Unit → Option Int) (hz3 : ∀ q, LeO (z3 q) (z3' q)) (z4 : List ((List UInt8 × List UInt8 × List UInt8 × List UInt8 × Int × Int) × (Int × List UInt8 × Int × Int) × Int)), LeO (rec z0 z1 z2 z3 z4) (rec' z0 z1 z2 z3' z4)) (a : Int) (b : Int) (limit : Int) (cmp cmp' : ((List UInt8 × List UInt8 × List UInt8 × List UInt8 × Int × Int) × (Int × List UInt8 × Int × Int) × Int) × ((List UInt8 × List UInt8 × List UInt8 × List UInt8 × Int × Int) × (Int × List UInt8 × Int × Int) × Int) × Unit → Option Int) (hcmp : ∀ q, LeO (cmp q) (cmp' q)) (data : List ((List UInt8 × List UInt8 × List UInt8 × List UInt8 × Int × Int) × (Int × List UInt8 × Int × Int) × Int)) : LeO (slices_pdqsortCmpFunc_lots_made_S_c rec a b limit cmp data) (slices_pdqsortCmpFunc_lots_made_S rec' a b limit cmp' data) := by
  unfold slices_pdqsortCmpFunc_lots_made_S_c slices_pdqsortCmpFunc_lots_made_S
  repeat' (first | with_reducible exact LeO.refl _ | with_reducible exact LeL.refl _ | with_reducible refine hrec _ _ _ _ _ (fun _ => ?_) _ | with_reducible exact hcmp _ | with_reducible refine le_slices_pdqsortCmpFunc_lots_made_L0 _ _ (fun _ => ?_) _ _ hrec _ _ _ _ _ _ | with_reducible refine LeL.bif ?_ ?_ | with_reducible refine LeL.map (fun _ => ?_) | with_reducible refine LeL.one ?_ | with_reducible refine LeO.iterA (fun _ => ?_) | with_reducible refine LeO.bind ?_ (fun _ => ?_) | with_reducible refine LeO.gd ?_ | with_reducible refine LeO.both ?_ ?_ | with_reducible refine LeO.bif ?_ ?_ | with_reducible refine LeO.elim (fun _ => ?_) (fun _ => ?_) | with_reducible refine LeO.iter (fun _ => ?_))

noncomputable def slices_pdqsortCmpFunc_lots_made_F_c : Nat → Int → Int → Int → (((List UInt8 × List UInt8 × List UInt8 × List UInt8 × Int × Int) × (Int × List UInt8 × Int × Int) × Int) × ((List UInt8 × List UInt8 × List UInt8 × List UInt8 × Int × Int) × (Int × List UInt8 × Int × Int) × Int) × Unit → Option Int) → List ((List UInt8 × List UInt8 × List UInt8 × List UInt8 × Int × Int) × (Int × List UInt8 × Int × Int) × Int) → Option (List ((List UInt8 × List UInt8 × List UInt8 × List UInt8 × Int × Int) × (Int × List UInt8 × Int × Int) × Int))
  | 0 => fun _ _ _ _ _ => none
  | n + 1 => slices_pdqsortCmpFunc_lots_made_S_c (slices_pdqsortCmpFunc_lots_made_F_c n)

theorem le_slices_pdqsortCmpFunc_lots_made_F : ∀ (n : Nat) (x0 : Int) (x1 : Int) (x2 : Int) (x3 x3' : ((List UInt8 × List UInt8 × List UInt8 × List UInt8 × Int × Int) × (Int × List UInt8 × Int × Int) × Int) × ((List UInt8 × List UInt8 × List UInt8 × List UInt8 × Int × Int) × (Int × List UInt8 × Int × Int) × Int) × Unit → Option Int) (hx3 : ∀ q, LeO (x3 q) (x3' q)) (x4 : List ((List UInt8 × List UInt8 × List UInt8 × List UInt8 × Int × Int) × (Int × List UInt8 × Int × Int) × Int)), LeO (slices_pdqsortCmpFunc_lots_made_F_c n x0 x1 x2 x3 x4) (slices_pdqsortCmpFunc_lots_made_F n x0 x1 x2 x3' x4)
  | 0, _, _, _, _, _, _, _ => LeO.refl _
  | n + 1, x0, x1, x2, x3, x3', hx3, x4 => le_slices_pdqsortCmpFunc_lots_made_S _ _ (fun z0 z1 z2 z3 z3' hz3 z4 => le_slices_pdqsortCmpFunc_lots_made_F n z0 z1 z2 z3 z3' hz3 z4) x0 x1 x2 x3 x3' hx3 x4

noncomputable def slices_pdqsortCmpFunc_lots_made_c (a : Int) (b : Int) (limit : Int) (cmp : ((List UInt8 × List UInt8 × List UInt8 × List UInt8 × Int × Int) × (Int × List UInt8 × Int × Int) × Int) × ((List UInt8 × List UInt8 × List UInt8 × List UInt8 × Int × Int) × (Int × List UInt8 × Int × Int) × Int) × Unit → Option Int) (data : List ((List UInt8 × List UInt8 × List UInt8 × List UInt8 × Int × Int) × (Int × List UInt8 × Int × Int) × Int)) : Option (List ((List UInt8 × List UInt8 × List UInt8 × List UInt8 × Int × Int) × (Int × List UInt8 × Int × Int) × Int)) := slices_pdqsortCmpFunc_lots_made_F_c 18446744073709551616 a b limit cmp data

theorem le_slices_pdqsortCmpFunc_lots_made (a : Int) (b : Int) (limit : Int) (cmp cmp' : ((List UInt8 × List UInt8 × List UInt8 × List UInt8 × Int × Int) × (Int × List UInt8 × Int × Int) × Int) × ((List UInt8 × List UInt8 × List UInt8 × List UInt8 × Int × Int) × (Int × List UInt8 × Int × Int) × Int) × Unit → Option Int) (hcmp : ∀ q, LeO (cmp q) (cmp' q)) (data : List ((List UInt8 × List UInt8 × List UInt8 × List UInt8 × Int × Int) × (Int × List UInt8 × Int × Int) × Int)) : LeO (slices_pdqsortCmpFunc_lots_made_c a b limit cmp data) (slices_pdqsortCmpFunc_lots_made a b limit cmp' data) := by
  unfold slices_pdqsortCmpFunc_lots_made_c slices_pdqsortCmpFunc_lots_made
  repeat' (first | with_reducible exact LeO.refl _ | with_reducible exact LeL.refl _ | with_reducible exact hcmp _ | with_reducible refine le_slices_pdqsortCmpFunc_lots_made_F _ _ _ _ _ _ (fun _ => ?_) _ | with_reducible refine LeL.bif ?_ ?_ | with_reducible refine LeL.map (fun _ => ?_) | with_reducible refine LeL.one ?_ | with_reducible refine LeO.iterA (fun _ => ?_) | with_reducible refine LeO.bind ?_ (fun _ => ?_) | with_reducible refine LeO.gd ?_ | with_reducible refine LeO.both ?_ ?_ | with_reducible refine LeO.bif ?_ ?_ | with_reducible refine LeO.elim (fun _ => ?_) (fun _ => ?_) | with_reducible refine LeO.iter (fun _ => ?_))

noncomputable def slices_SortFunc_lots_made_lots_made_c (cmp : ((List UInt8 × List UInt8 × List UInt8 × List UInt8 × Int × Int) × (Int × List UInt8 × Int × Int) × Int) × ((List UInt8 × List UInt8 × List UInt8 × List UInt8 × Int × Int) × (Int × List UInt8 × Int × Int) × Int) × Unit → Option Int) (x : List ((List UInt8 × List UInt8 × List UInt8 × List UInt8 × Int × Int) × (Int × List UInt8 × Int × Int) × Int)) : Option (List ((List UInt8 × List UInt8 × List UInt8 × List UInt8 × Int × Int) × (Int × List UInt8 × Int × Int) × Int)) :=
  (math_bits_Len (wu64 (x.length : Int))).bind fun r =>
  (slices_pdqsortCmpFunc_lots_made_c 0 (x.length : Int) r cmp x).bind fun r2 =>
  some r2

theorem le_slices_SortFunc_lots_made_lots_made (cmp cmp' : ((List UInt8 × List UInt8 × List UInt8 × List UInt8 × Int × Int) × (Int × List UInt8 × Int × Int) × Int) × ((List UInt8 × List UInt8 × List UInt8 × List UInt8 × Int × Int) × (Int × List UInt8 × Int × Int) × Int) × Unit → Option Int) (hcmp : ∀ q, LeO (cmp q) (cmp' q)) (x : List ((List UInt8 × List UInt8 × List UInt8 × List UInt8 × Int × Int) × (Int × List UInt8 × Int × Int) × Int)) : LeO (slices_SortFunc_lots_made_lots_made_c cmp x) (slices_SortFunc_lots_made_lots_made cmp' x) := by
  unfold slices_SortFunc_lots_made_lots_made_c slices_SortFunc_lots_made_lots_made
  repeat' (first | with_reducible exact LeO.refl _ | with_reducible exact LeL.refl _ | with_reducible exact hcmp _ | with_reducible refine le_slices_pdqsortCmpFunc_lots_made _ _ _ _ _ (fun _ => ?_) _ | with_reducible refine LeL.bif ?_ ?_ | with_reducible refine LeL.map (fun _ => ?_) | with_reducible refine LeL.one ?_ | with_reducible refine LeO.iterA (fun _ => ?_) | with_reducible refine LeO.bind ?_ (fun _ => ?_) | with_reducible refine LeO.gd ?_ | with_reducible refine LeO.both ?_ ?_ | with_reducible refine LeO.bif ?_ ?_ | with_reducible refine LeO.elim (fun _ => ?_) (fun _ => ?_) | with_reducible refine LeO.iter (fun _ => ?_))

noncomputable def lots_Batches_1_c (a : (List UInt8 × List UInt8 × List UInt8 × List UInt8 × Int × Int) × (Int × List UInt8 × Int × Int) × Int) (b : (List UInt8 × List UInt8 × List UInt8 × List UInt8 × Int × Int) × (Int × List UInt8 × Int × Int) × Int) : Option (Int) :=
  (cmp_Compare_int a.1.2.2.2.2.1 b.1.2.2.2.2.1).bind fun r =>
  (cmp_Compare_int a.2.2 b.2.2).bind fun r2 =>
  (cmp_Compare_string a.1.1 b.1.1).bind fun r3 =>
  (cmp_Compare_string a.1.2.2.1 b.1.2.2.1).bind fun r4 =>
  (cmp_Compare_string a.1.2.2.2.1 b.1.2.2.2.1).bind fun r5 =>
  (cmp_Or_int_c [r, r2, r3, r4, r5]).bind fun r6 =>
  some r6

theorem le_lots_Batches_1 (a : (List UInt8 × List UInt8 × List UInt8 × List UInt8 × Int × Int) × (Int × List UInt8 × Int × Int) × Int) (b : (List UInt8 × List UInt8 × List UInt8 × List UInt8 × Int × Int) × (Int × List UInt8 × Int × Int) × Int) : LeO (lots_Batches_1_c a b) (lots_Batches_1 a b) := by
  unfold lots_Batches_1_c lots_Batches_1
  repeat' (first | with_reducible exact LeO.refl _ | with_reducible exact LeL.refl _ | with_reducible refine le_cmp_Or_int _ | with_reducible refine LeL.bif ?_ ?_ | with_reducible refine LeL.map (fun _ => ?_) | with_reducible refine LeL.one ?_ | with_reducible refine LeO.iterA (fun _ => ?_) | with_reducible refine LeO.bind ?_ (fun _ => ?_) | with_reducible refine LeO.gd ?_ | with_reducible refine LeO.both ?_ ?_ | with_reducible refine LeO.bif ?_ ?_ | with_reducible refine LeO.elim (fun _ => ?_) (fun _ => ?_) | with_reducible refine LeO.iter (fun _ => ?_))

noncomputable def lots_Batches_c (n : List (List UInt8) × List (List UInt8 × Int × Int × Int × Int × Int × List (Int × Int × Int)) × List (List UInt8 × Int × Int) × List (List UInt8 × Int × Int × Int × Int) × Int × Int) (products : List (List UInt8 × Int × Int × Int × Int)) (l : List (List UInt8 × List UInt8 × List UInt8 × List UInt8 × Int × Int)) (order : List (List UInt8)) : Option ((List (Int × List UInt8 × Int × Int)) × (List (Int × Int × Int)) × Int) :=
  (network_Check_c (n.1, (n.2.1, (n.2.2.1, (n.2.2.2.1, (n.2.2.2.2.1, n.2.2.2.2.2)))))).bind fun r =>
  bif !decide (r = 0) then (
   some ([], [], r))
  else (
   (product_Check_c products).bind fun r2 =>
   bif !decide (r2 = 0) then (
    some ([], [], r2))
   else (
    (nomination_Check_c l).bind fun r3 =>
    bif !decide (r3 = 0) then (
     some ([], [], r3))
    else (
     (nomination_Totals_c l).bind fun r4 =>
     bif !decide (r4.2 = 0) then (
      some ([], [], r4.2))
     else (
      bif decide (200 < (r4.1.length : Int)) then (
       some ([], [], 4))
      else (
       (iterN (fun x => lots_Batches_L0_c n products order r4 x.1 x.2) 100000 (0, [])).bind fun s2 =>
       s2.elim (fun s3 =>
        (slices_SortFunc_lots_made_lots_made_c (fun h => (lots_Batches_1_c h.1 h.2.1).bind fun y => some y) s3).bind fun r9 =>
        (iterN (fun x2 => lots_Batches_L1 r9 x2.1 x2.2.1 x2.2.2.1 x2.2.2.2) 100000 (0, [], [], r9)).bind fun s5 =>
        some (s5.1, s5.2, 0))
       (fun s4 =>
        some (s4.1, s4.2.1, s4.2.2)))))))

theorem le_lots_Batches (n : List (List UInt8) × List (List UInt8 × Int × Int × Int × Int × Int × List (Int × Int × Int)) × List (List UInt8 × Int × Int) × List (List UInt8 × Int × Int × Int × Int) × Int × Int) (products : List (List UInt8 × Int × Int × Int × Int)) (l : List (List UInt8 × List UInt8 × List UInt8 × List UInt8 × Int × Int)) (order : List (List UInt8)) : LeO (lots_Batches_c n products l order) (lots_Batches n products l order) := by
  unfold lots_Batches_c lots_Batches
  repeat' (first | with_reducible exact LeO.refl _ | with_reducible exact LeL.refl _ | with_reducible refine le_nomination_Check _ | with_reducible refine le_nomination_Totals _ | with_reducible refine le_slices_SortFunc_lots_made_lots_made _ _ (fun _ => ?_) _ | with_reducible refine le_network_Check _ | with_reducible refine le_lots_Batches_L0 _ _ _ _ _ _ | with_reducible refine le_product_Check _ | with_reducible refine le_lots_Batches_1 _ _ | with_reducible refine LeL.bif ?_ ?_ | with_reducible refine LeL.map (fun _ => ?_) | with_reducible refine LeL.one ?_ | with_reducible refine LeO.iterA (fun _ => ?_) | with_reducible refine LeO.bind ?_ (fun _ => ?_) | with_reducible refine LeO.gd ?_ | with_reducible refine LeO.both ?_ ?_ | with_reducible refine LeO.bif ?_ ?_ | with_reducible refine LeO.elim (fun _ => ?_) (fun _ => ?_) | with_reducible refine LeO.iter (fun _ => ?_))

noncomputable def law29_awake_c : Option (Bool) :=
  (lots_Batches_c ([[97], [98]], ([([103], (0, (1, (10, (0, (0, [(0, (0, 1000)), (10, (0, 1000))]))))))], ([([112], (0, 0)), ([113], (1, 0))], ([], (0, 0))))) [([111], (800, (0, (0, 1000))))] [([115], ([111], ([112], ([113], (1, 50))))), ([115], ([111], ([112], ([113], (1, 70)))))] []).bind fun r =>
  bif decide (r.2.2 = 0) then (
   bif decide ((r.1.length : Int) = 1) then (
    bif decide ((r.2.1.length : Int) = 1) then (
     gd (inB 0 r.2.1.length) <|
     bif decide ((r.2.1.getD 0 (0, (0, 0))).1 = 0) && (decide (((r.2.1.getD 0 (0, (0, 0))).2).1 = 120) && decide (((r.2.1.getD 0 (0, (0, 0))).2).2 = 0)) then (
      gd (inB 0 r.1.length) <|
      some (decide ((r.1.getD 0 (0, ([], (0, 0)))).1 = 0) && (decide (((r.1.getD 0 (0, ([], (0, 0)))).2).1 = [115]) && (decide ((((r.1.getD 0 (0, ([], (0, 0)))).2).2).1 = 0) && decide ((((r.1.getD 0 (0, ([], (0, 0)))).2).2).2 = 1)))))
     else (
      some false))
    else (
     some false))
   else (
    some false))
  else (
   some false)

theorem le_law29_awake  : LeO (law29_awake_c) (law29_awake) := by
  unfold law29_awake_c law29_awake
  repeat' (first | with_reducible exact LeO.refl _ | with_reducible exact LeL.refl _ | with_reducible refine le_lots_Batches _ _ _ _ | with_reducible refine LeL.bif ?_ ?_ | with_reducible refine LeL.map (fun _ => ?_) | with_reducible refine LeL.one ?_ | with_reducible refine LeO.iterA (fun _ => ?_) | with_reducible refine LeO.bind ?_ (fun _ => ?_) | with_reducible refine LeO.gd ?_ | with_reducible refine LeO.both ?_ ?_ | with_reducible refine LeO.bif ?_ ?_ | with_reducible refine LeO.elim (fun _ => ?_) (fun _ => ?_) | with_reducible refine LeO.iter (fun _ => ?_))

set_option maxRecDepth 100000 in
theorem awake_true : law29_awake = some true := le_law29_awake _ (by kernel_rfl)
end Go.Proofs.YtiojagjejddocaaDoor
