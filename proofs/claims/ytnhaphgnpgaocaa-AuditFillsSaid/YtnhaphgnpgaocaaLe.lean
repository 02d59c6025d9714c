/- Twins that compute. No condition. -/
import Derived.Test.YtnhaphgnpgaocaaQu
namespace Go.Proofs.Ytnhaphgnpgaocaa
open Go Go.Sq
set_option linter.unusedVariables false

noncomputable def piece_total_c (f : List (Int × Int)) : Option (Int) :=
  (iterN (fun x => piece_total_L0 f x.1 x.2) 100000 (0, 0)).bind fun s =>
  some s

theorem le_piece_total (f : List (Int × Int)) : LeO (piece_total_c f) (piece_total f) := by
  unfold piece_total_c piece_total
  repeat' (first | with_reducible exact LeO.refl _ | refine LeL.bif ?_ ?_ | refine LeL.map (fun _ => ?_) | refine LeL.one ?_ | refine LeO.iterA (fun _ => ?_) | refine LeO.bind ?_ (fun _ => ?_) | refine LeO.gd ?_ | refine LeO.both ?_ ?_ | refine LeO.bif ?_ ?_ | refine LeO.elim (fun _ => ?_) (fun _ => ?_) | refine LeO.iter (fun _ => ?_))

noncomputable def piece_Valid_c (f : List (Int × Int)) : Option (Bool) :=
  bif decide (200 < (f.length : Int)) then (
   some false)
  else (
   (iterN (fun x => piece_Valid_L0 f x) 100000 0).bind fun s2 =>
   s2.elim (fun s3 =>
    (piece_total_c f).bind fun r2 =>
    some (decide (r2 ≤ 1000000)))
   (fun s4 =>
    some s4))

theorem le_piece_Valid (f : List (Int × Int)) : LeO (piece_Valid_c f) (piece_Valid f) := by
  unfold piece_Valid_c piece_Valid
  repeat' (first | with_reducible exact LeO.refl _ | with_reducible exact le_piece_total _ | refine LeL.bif ?_ ?_ | refine LeL.map (fun _ => ?_) | refine LeL.one ?_ | refine LeO.iterA (fun _ => ?_) | refine LeO.bind ?_ (fun _ => ?_) | refine LeO.gd ?_ | refine LeO.both ?_ ?_ | refine LeO.bif ?_ ?_ | refine LeO.elim (fun _ => ?_) (fun _ => ?_) | refine LeO.iter (fun _ => ?_))

noncomputable def audit_counted_L0_c (fills : List (List (Int × Int))) (v : Int) (out : List (Int × Int)) : Option ((Int × List (Int × Int)) ⊕ ((List (Int × Int)) ⊕ ((List (Int × Int)) × Int))) :=
  bif decide (v < (fills.length : Int)) then (
   gd (inB v fills.length) <|
   (piece_Valid_c (fills.getD v.toNat [])).bind fun r =>
   bif !r then (
    some (.inr (.inr ([], 14))))
   else (
    (iterN (fun x => audit_counted_L1 fills v x.1 x.2) 100000 (0, out)).bind fun s =>
    some (.inl (wi64 (v + 1), s))))
  else (
   some (.inr (.inl out)))

theorem le_audit_counted_L0 (fills : List (List (Int × Int))) (v : Int) (out : List (Int × Int)) : LeO (audit_counted_L0_c fills v out) (audit_counted_L0 fills v out) := by
  unfold audit_counted_L0_c audit_counted_L0
  repeat' (first | with_reducible exact LeO.refl _ | with_reducible exact le_piece_Valid _ | refine LeL.bif ?_ ?_ | refine LeL.map (fun _ => ?_) | refine LeL.one ?_ | refine LeO.iterA (fun _ => ?_) | refine LeO.bind ?_ (fun _ => ?_) | refine LeO.gd ?_ | refine LeO.both ?_ ?_ | refine LeO.bif ?_ ?_ | refine LeO.elim (fun _ => ?_) (fun _ => ?_) | refine LeO.iter (fun _ => ?_))

noncomputable def audit_counted_c (fills : List (List (Int × Int))) : Option ((List (Int × Int)) × Int) :=
  bif decide (32 < (fills.length : Int)) then (
   some ([], 4))
  else (
   (iterN (fun x2 => audit_counted_L0_c fills x2.1 x2.2) 100000 (0, [])).bind fun s2 =>
   s2.elim (fun s3 =>
    some (s3, 0))
   (fun s4 =>
    some (s4.1, s4.2)))

theorem le_audit_counted (fills : List (List (Int × Int))) : LeO (audit_counted_c fills) (audit_counted fills) := by
  unfold audit_counted_c audit_counted
  repeat' (first | with_reducible exact LeO.refl _ | with_reducible exact le_audit_counted_L0 _ _ _ | refine LeL.bif ?_ ?_ | refine LeL.map (fun _ => ?_) | refine LeL.one ?_ | refine LeO.iterA (fun _ => ?_) | refine LeO.bind ?_ (fun _ => ?_) | refine LeO.gd ?_ | refine LeO.both ?_ ?_ | refine LeO.bif ?_ ?_ | refine LeO.elim (fun _ => ?_) (fun _ => ?_) | refine LeO.iter (fun _ => ?_))

noncomputable def audit_Kept_L0_c (before : List (List (Int × Int))) (after : List (List (Int × Int))) (vin : List (Int × Int)) (out : List (Int × Int)) (v : Int) (sums : List (Int × Int)) : Option ((Int × List (Int × Int)) ⊕ ((List (Int × Int)) ⊕ (Bool × Int))) :=
  bif decide (v < ([(before, 1), (after, (-1)), ([vin], 1), ([out], (-1))].length : Int)) then (
   gd (inB v [(before, 1), (after, (-1)), ([vin], 1), ([out], (-1))].length) <|
   (audit_counted_c (([(before, 1), (after, (-1)), ([vin], 1), ([out], (-1))].getD v.toNat ([], 0)).1)).bind fun r =>
   bif !decide (r.2 = 0) then (
    some (.inr (.inr (false, r.2))))
   else (
    (iterAN (fun x => audit_Kept_L1 before after vin out v x.1 x.2) 1000 (sums, ((0, 0) :: r.1))).bind fun s =>
    some (.inl (wi64 (v + 1), s))))
  else (
   some (.inr (.inl sums)))

theorem le_audit_Kept_L0 (before : List (List (Int × Int))) (after : List (List (Int × Int))) (vin : List (Int × Int)) (out : List (Int × Int)) (v : Int) (sums : List (Int × Int)) : LeO (audit_Kept_L0_c before after vin out v sums) (audit_Kept_L0 before after vin out v sums) := by
  unfold audit_Kept_L0_c audit_Kept_L0
  repeat' (first | with_reducible exact LeO.refl _ | with_reducible exact le_audit_counted _ | refine LeL.bif ?_ ?_ | refine LeL.map (fun _ => ?_) | refine LeL.one ?_ | refine LeO.iterA (fun _ => ?_) | refine LeO.bind ?_ (fun _ => ?_) | refine LeO.gd ?_ | refine LeO.both ?_ ?_ | refine LeO.bif ?_ ?_ | refine LeO.elim (fun _ => ?_) (fun _ => ?_) | refine LeO.iter (fun _ => ?_))

noncomputable def audit_Kept_c (before : List (List (Int × Int))) (after : List (List (Int × Int))) (vin : List (Int × Int)) (out : List (Int × Int)) : Option (Bool × Int) :=
  (iterN (fun x2 => audit_Kept_L0_c before after vin out x2.1 x2.2) 100000 (0, [])).bind fun s2 =>
  s2.elim (fun s3 =>
   some (decide ((s3.length : Int) = 0), 0))
  (fun s4 =>
   some (s4.1, s4.2))

theorem le_audit_Kept (before : List (List (Int × Int))) (after : List (List (Int × Int))) (vin : List (Int × Int)) (out : List (Int × Int)) : LeO (audit_Kept_c before after vin out) (audit_Kept before after vin out) := by
  unfold audit_Kept_c audit_Kept
  repeat' (first | with_reducible exact LeO.refl _ | with_reducible exact le_audit_Kept_L0 _ _ _ _ _ _ | refine LeL.bif ?_ ?_ | refine LeL.map (fun _ => ?_) | refine LeL.one ?_ | refine LeO.iterA (fun _ => ?_) | refine LeO.bind ?_ (fun _ => ?_) | refine LeO.gd ?_ | refine LeO.both ?_ ?_ | refine LeO.bif ?_ ?_ | refine LeO.elim (fun _ => ?_) (fun _ => ?_) | refine LeO.iter (fun _ => ?_))

noncomputable def audit_Order_L0_c (before : List (Int × Int)) (after : List (Int × Int)) (vin : List (Int × Int)) (out : List (Int × Int)) (v : Int) : Option (Int ⊕ (Unit ⊕ (Bool × Int))) :=
  bif decide (v < ([before, after, vin, out].length : Int)) then (
   gd (inB v [before, after, vin, out].length) <|
   (piece_Valid_c ([before, after, vin, out].getD v.toNat [])).bind fun r =>
   bif !r then (
    some (.inr (.inr (false, 14))))
   else (
    some (.inl (wi64 (v + 1)))))
  else (
   some (.inr (.inl ())))

theorem le_audit_Order_L0 (before : List (Int × Int)) (after : List (Int × Int)) (vin : List (Int × Int)) (out : List (Int × Int)) (v : Int) : LeO (audit_Order_L0_c before after vin out v) (audit_Order_L0 before after vin out v) := by
  unfold audit_Order_L0_c audit_Order_L0
  repeat' (first | with_reducible exact LeO.refl _ | with_reducible exact le_piece_Valid _ | refine LeL.bif ?_ ?_ | refine LeL.map (fun _ => ?_) | refine LeL.one ?_ | refine LeO.iterA (fun _ => ?_) | refine LeO.bind ?_ (fun _ => ?_) | refine LeO.gd ?_ | refine LeO.both ?_ ?_ | refine LeO.bif ?_ ?_ | refine LeO.elim (fun _ => ?_) (fun _ => ?_) | refine LeO.iter (fun _ => ?_))

noncomputable def slices_Clone_api_Piece_api_Piece_c (s : List (Int × Int)) : Option (List (Int × Int)) :=
  bif Nat.beq s.length 0 then (bothC (
   some []) (
   gd (fits (0 + s.length) 16) <|
   some ([] ++ s)))
  else (
   gd (fits (0 + s.length) 16) <|
   some ([] ++ s))

theorem le_slices_Clone_api_Piece_api_Piece (s : List (Int × Int)) : LeO (slices_Clone_api_Piece_api_Piece_c s) (slices_Clone_api_Piece_api_Piece s) := by
  unfold slices_Clone_api_Piece_api_Piece_c slices_Clone_api_Piece_api_Piece
  repeat' (first | with_reducible exact LeO.refl _ | refine LeL.bif ?_ ?_ | refine LeL.map (fun _ => ?_) | refine LeL.one ?_ | refine LeO.iterA (fun _ => ?_) | refine LeO.bind ?_ (fun _ => ?_) | refine LeO.gd ?_ | refine LeO.both ?_ ?_ | refine LeO.bif ?_ ?_ | refine LeO.elim (fun _ => ?_) (fun _ => ?_) | refine LeO.iter (fun _ => ?_))

noncomputable def piece_merged_c (f : List (Int × Int)) : Option (List (Int × Int)) :=
  (iterN (fun x => piece_merged_L0 f x.1 x.2) 100000 (0, [])).bind fun s4 =>
  some s4

theorem le_piece_merged (f : List (Int × Int)) : LeO (piece_merged_c f) (piece_merged f) := by
  unfold piece_merged_c piece_merged
  repeat' (first | with_reducible exact LeO.refl _ | refine LeL.bif ?_ ?_ | refine LeL.map (fun _ => ?_) | refine LeL.one ?_ | refine LeO.iterA (fun _ => ?_) | refine LeO.bind ?_ (fun _ => ?_) | refine LeO.gd ?_ | refine LeO.both ?_ ?_ | refine LeO.bif ?_ ?_ | refine LeO.elim (fun _ => ?_) (fun _ => ?_) | refine LeO.iter (fun _ => ?_))

noncomputable def piece_cut_c (f : List (Int × Int)) (litres : Int) : Option ((List (Int × Int)) × List (Int × Int)) :=
  (slices_Clone_api_Piece_api_Piece_c f).bind fun r =>
  (slices_Clone_api_Piece_api_Piece_c f).bind fun r2 =>
  (iterN (fun x => piece_cut_L0 f x.1 x.2.1 x.2.2.1 x.2.2.2) 100000 (litres, 0, r, r2)).bind fun s =>
  (piece_merged_c s.1).bind fun r3 =>
  (piece_merged_c s.2).bind fun r4 =>
  some (r3, r4)

theorem le_piece_cut (f : List (Int × Int)) (litres : Int) : LeO (piece_cut_c f litres) (piece_cut f litres) := by
  unfold piece_cut_c piece_cut
  repeat' (first | with_reducible exact LeO.refl _ | with_reducible exact le_piece_merged _ | with_reducible exact le_slices_Clone_api_Piece_api_Piece _ | refine LeL.bif ?_ ?_ | refine LeL.map (fun _ => ?_) | refine LeL.one ?_ | refine LeO.iterA (fun _ => ?_) | refine LeO.bind ?_ (fun _ => ?_) | refine LeO.gd ?_ | refine LeO.both ?_ ?_ | refine LeO.bif ?_ ?_ | refine LeO.elim (fun _ => ?_) (fun _ => ?_) | refine LeO.iter (fun _ => ?_))

noncomputable def piece_Push_c (f : List (Int × Int)) (vin : List (Int × Int)) (back : Bool) : Option (Int × (List (Int × Int)) × List (Int × Int)) :=
  Option.bind (α := Bool) (
    (piece_Valid_c f).bind fun r =>
    bif !r then (
     some true)
    else (
     (piece_Valid_c vin).bind fun r2 =>
     some (!r2))) fun s =>
  bif s then (
   some (9, [], []))
  else (
   Option.bind (α := (List (Int × Int)) × List (Int × Int)) (
     bif back then (
      (slices_Clone_api_Piece_api_Piece_c f).bind fun r3 =>
      gd (fits (r3.length + vin.length) 16) <|
      (piece_total_c vin).bind fun r4 =>
      (piece_cut_c (r3 ++ vin) r4).bind fun r5 =>
      some (r5.2, r5.1))
     else (
      (slices_Clone_api_Piece_api_Piece_c vin).bind fun r6 =>
      gd (fits (r6.length + f.length) 16) <|
      (piece_total_c f).bind fun r7 =>
      (piece_cut_c (r6 ++ f) r7).bind fun r8 =>
      some (r8.1, r8.2))) fun s2 =>
   Option.bind (α := Bool × (List (Int × Int)) × List (Int × Int)) (
     bif decide (200 < (s2.1.length : Int)) then (
      some (true, s2.1, s2.2))
     else (
      some (decide (200 < (s2.2.length : Int)), s2.1, s2.2))) fun s3 =>
   bif s3.1 then (
    some (4, [], []))
   else (
    some (0, s3.2.1, s3.2.2)))

theorem le_piece_Push (f : List (Int × Int)) (vin : List (Int × Int)) (back : Bool) : LeO (piece_Push_c f vin back) (piece_Push f vin back) := by
  unfold piece_Push_c piece_Push
  repeat' (first | with_reducible exact LeO.refl _ | with_reducible exact le_piece_Valid _ | with_reducible exact le_piece_cut _ _ | with_reducible exact le_slices_Clone_api_Piece_api_Piece _ | with_reducible exact le_piece_total _ | refine LeL.bif ?_ ?_ | refine LeL.map (fun _ => ?_) | refine LeL.one ?_ | refine LeO.iterA (fun _ => ?_) | refine LeO.bind ?_ (fun _ => ?_) | refine LeO.gd ?_ | refine LeO.both ?_ ?_ | refine LeO.bif ?_ ?_ | refine LeO.elim (fun _ => ?_) (fun _ => ?_) | refine LeO.iter (fun _ => ?_))

noncomputable def slices_Equal_api_Piece_api_Piece_c (s1 : List (Int × Int)) (s2 : List (Int × Int)) : Option (Bool) :=
  bif !decide ((s1.length : Int) = (s2.length : Int)) then (
   some false)
  else (
   (iterN (fun x => slices_Equal_api_Piece_api_Piece_L0 s1 s2 x) 100000 0).bind fun s =>
   s.elim (fun s3 =>
    some true)
   (fun s4 =>
    some s4))

theorem le_slices_Equal_api_Piece_api_Piece (s1 : List (Int × Int)) (s2 : List (Int × Int)) : LeO (slices_Equal_api_Piece_api_Piece_c s1 s2) (slices_Equal_api_Piece_api_Piece s1 s2) := by
  unfold slices_Equal_api_Piece_api_Piece_c slices_Equal_api_Piece_api_Piece
  repeat' (first | with_reducible exact LeO.refl _ | refine LeL.bif ?_ ?_ | refine LeL.map (fun _ => ?_) | refine LeL.one ?_ | refine LeO.iterA (fun _ => ?_) | refine LeO.bind ?_ (fun _ => ?_) | refine LeO.gd ?_ | refine LeO.both ?_ ?_ | refine LeO.bif ?_ ?_ | refine LeO.elim (fun _ => ?_) (fun _ => ?_) | refine LeO.iter (fun _ => ?_))

noncomputable def audit_Order_c (before : List (Int × Int)) (after : List (Int × Int)) (vin : List (Int × Int)) (out : List (Int × Int)) (back : Bool) : Option (Bool × Int) :=
  (iterN (fun x => audit_Order_L0_c before after vin out x) 100000 0).bind fun s =>
  s.elim (fun s2 =>
   (piece_Push_c before vin back).bind fun r2 =>
   bif decide (r2.1 = 0) then (
    (slices_Equal_api_Piece_api_Piece_c r2.2.1 after).bind fun r3 =>
    bif r3 then (
     (slices_Equal_api_Piece_api_Piece_c r2.2.2 out).bind fun r4 =>
     some (r4, 0))
    else (
     some (false, 0)))
   else (
    some (false, 0)))
  (fun s3 =>
   some (s3.1, s3.2))

theorem le_audit_Order (before : List (Int × Int)) (after : List (Int × Int)) (vin : List (Int × Int)) (out : List (Int × Int)) (back : Bool) : LeO (audit_Order_c before after vin out back) (audit_Order before after vin out back) := by
  unfold audit_Order_c audit_Order
  repeat' (first | with_reducible exact LeO.refl _ | with_reducible exact le_slices_Equal_api_Piece_api_Piece _ _ | with_reducible exact le_piece_Push _ _ _ | with_reducible exact le_audit_Order_L0 _ _ _ _ _ | refine LeL.bif ?_ ?_ | refine LeL.map (fun _ => ?_) | refine LeL.one ?_ | refine LeO.iterA (fun _ => ?_) | refine LeO.bind ?_ (fun _ => ?_) | refine LeO.gd ?_ | refine LeO.both ?_ ?_ | refine LeO.bif ?_ ?_ | refine LeO.elim (fun _ => ?_) (fun _ => ?_) | refine LeO.iter (fun _ => ?_))

noncomputable def law45_awake_c : Option (Bool) :=
  (audit_Kept_c [[(1, 100)]] [[(2, 30), (1, 70)]] [(2, 30)] [(1, 30)]).bind fun r =>
  (audit_Order_c [(1, 100)] [(2, 30), (1, 70)] [(2, 30)] [(1, 30)] false).bind fun r2 =>
  (audit_Order_c [(1, 100)] [(2, 30), (1, 70)] [(2, 30)] [(1, 30)] true).bind fun r3 =>
  bif decide (r.2 = 0) then (
   bif decide (r2.2 = 0) then (
    bif decide (r3.2 = 0) then (
     bif r.1 then (
      bif r2.1 then (
       some (!r3.1))
      else (
       some false))
     else (
      some false))
    else (
     some false))
   else (
    some false))
  else (
   some false)

theorem le_law45_awake  : LeO (law45_awake_c) (law45_awake) := by
  unfold law45_awake_c law45_awake
  repeat' (first | with_reducible exact LeO.refl _ | with_reducible exact le_audit_Kept _ _ _ _ | with_reducible exact le_audit_Order _ _ _ _ _ | refine LeL.bif ?_ ?_ | refine LeL.map (fun _ => ?_) | refine LeL.one ?_ | refine LeO.iterA (fun _ => ?_) | refine LeO.bind ?_ (fun _ => ?_) | refine LeO.gd ?_ | refine LeO.both ?_ ?_ | refine LeO.bif ?_ ?_ | refine LeO.elim (fun _ => ?_) (fun _ => ?_) | refine LeO.iter (fun _ => ?_))

set_option maxRecDepth 100000 in
theorem awake_true : law45_awake = some true := le_law45_awake _ (by kernel_rfl)
end Go.Proofs.Ytnhaphgnpgaocaa
