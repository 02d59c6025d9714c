/- Twins that compute. No condition. -/
import Derived.Test.YtmleldfhkangbaaQu
namespace Go.Proofs.Ytmleldfhkangbaa
open Go Go.Sq
set_option linter.unusedVariables false

noncomputable def slices_IndexFunc_int_int_c (s : List Int) (f : Int × Unit → Option Bool) : Option (Int) :=
  (iterN (fun x => slices_IndexFunc_int_int_L0 s f x) 100000 0).bind fun s2 =>
  s2.elim (fun s3 =>
   some (-1))
  (fun s4 =>
   some s4)

theorem le_slices_IndexFunc_int_int (s : List Int) (f : Int × Unit → Option Bool) : LeO (slices_IndexFunc_int_int_c s f) (slices_IndexFunc_int_int s f) := by
  unfold slices_IndexFunc_int_int_c slices_IndexFunc_int_int
  repeat' (first | with_reducible exact LeO.refl _ | refine LeL.bif ?_ ?_ | refine LeL.map (fun _ => ?_) | refine LeL.one ?_ | refine LeO.iterA (fun _ => ?_) | refine LeO.bind ?_ (fun _ => ?_) | refine LeO.gd ?_ | refine LeO.both ?_ ?_ | refine LeO.bif ?_ ?_ | refine LeO.elim (fun _ => ?_) (fun _ => ?_) | refine LeO.iter (fun _ => ?_))

noncomputable def slices_ContainsFunc_int_int_c (s : List Int) (f : Int × Unit → Option Bool) : Option (Bool) :=
  (slices_IndexFunc_int_int_c s f).bind fun r =>
  some (decide (0 ≤ r))

theorem le_slices_ContainsFunc_int_int (s : List Int) (f : Int × Unit → Option Bool) : LeO (slices_ContainsFunc_int_int_c s f) (slices_ContainsFunc_int_int s f) := by
  unfold slices_ContainsFunc_int_int_c slices_ContainsFunc_int_int
  repeat' (first | with_reducible exact LeO.refl _ | with_reducible exact le_slices_IndexFunc_int_int _ _ | refine LeL.bif ?_ ?_ | refine LeL.map (fun _ => ?_) | refine LeL.one ?_ | refine LeO.iterA (fun _ => ?_) | refine LeO.bind ?_ (fun _ => ?_) | refine LeO.gd ?_ | refine LeO.both ?_ ?_ | refine LeO.bif ?_ ?_ | refine LeO.elim (fun _ => ?_) (fun _ => ?_) | refine LeO.iter (fun _ => ?_))

noncomputable def allocate_part_L0_c (amount : Int) (weight : Int) (sum : Int) (share : Int) (rest : Int) (bit : Int) : Option ((Int × Int × Int) ⊕ (Int × Int)) :=
  bif decide (0 < bit) then (
   Option.bind (α := Int) (
     bif !decide (bitAnd .i64 amount bit = 0) then (
      some (wi64 ((wi64 (2 * rest)) + weight)))
     else (
      some (wi64 (2 * rest)))) fun s =>
   (iterN (fun x => allocate_part_L1 sum x.1 x.2) 100000 (wi64 (2 * share), s)).bind fun s2 =>
   some (.inl (s2.1, s2.2, Int.fdiv bit (2 ^ shAmt .i64 1))))
  else (
   some (.inr (share, rest)))

theorem le_allocate_part_L0 (amount : Int) (weight : Int) (sum : Int) (share : Int) (rest : Int) (bit : Int) : LeO (allocate_part_L0_c amount weight sum share rest bit) (allocate_part_L0 amount weight sum share rest bit) := by
  unfold allocate_part_L0_c allocate_part_L0
  repeat' (first | with_reducible exact LeO.refl _ | refine LeL.bif ?_ ?_ | refine LeL.map (fun _ => ?_) | refine LeL.one ?_ | refine LeO.iterA (fun _ => ?_) | refine LeO.bind ?_ (fun _ => ?_) | refine LeO.gd ?_ | refine LeO.both ?_ ?_ | refine LeO.bif ?_ ?_ | refine LeO.elim (fun _ => ?_) (fun _ => ?_) | refine LeO.iter (fun _ => ?_))

noncomputable def allocate_part_c (amount : Int) (weight : Int) (sum : Int) : Option (Int × Int) :=
  (iterN (fun x2 => allocate_part_L0_c amount weight sum x2.1 x2.2.1 x2.2.2) 100000 (0, 0, 1099511627776)).bind fun s3 =>
  some (s3.1, s3.2)

theorem le_allocate_part (amount : Int) (weight : Int) (sum : Int) : LeO (allocate_part_c amount weight sum) (allocate_part amount weight sum) := by
  unfold allocate_part_c allocate_part
  repeat' (first | with_reducible exact LeO.refl _ | with_reducible exact le_allocate_part_L0 _ _ _ _ _ _ | refine LeL.bif ?_ ?_ | refine LeL.map (fun _ => ?_) | refine LeL.one ?_ | refine LeO.iterA (fun _ => ?_) | refine LeO.bind ?_ (fun _ => ?_) | refine LeO.gd ?_ | refine LeO.both ?_ ?_ | refine LeO.bif ?_ ?_ | refine LeO.elim (fun _ => ?_) (fun _ => ?_) | refine LeO.iter (fun _ => ?_))

noncomputable def allocate_Share_L1_c (total : Int) (weights : List Int) (s2 : Int) (left : Int) (v2 : Int) (out : List Int) (order : List Int) (rests : List Int) : Option ((Int × Int × List Int × List Int × List Int) ⊕ (Int × List Int × List Int × List Int)) :=
  bif decide (v2 < (weights.length : Int)) then (
   gd (inB v2 weights.length) <|
   gd (inB v2 order.length) <|
   (allocate_part_c (max total (wi64 (0 - total))) (weights.getD v2.toNat 0) s2).bind fun r3 =>
   gd (inB v2 out.length) <|
   gd (inB v2 rests.length) <|
   gd (inB v2 (out.set v2.toNat r3.1).length) <|
   some (.inl (wi64 (left - ((out.set v2.toNat r3.1).getD v2.toNat 0)), wi64 (v2 + 1), out.set v2.toNat r3.1, order.set v2.toNat v2, rests.set v2.toNat r3.2)))
  else (
   some (.inr (left, out, order, rests)))

theorem le_allocate_Share_L1 (total : Int) (weights : List Int) (s2 : Int) (left : Int) (v2 : Int) (out : List Int) (order : List Int) (rests : List Int) : LeO (allocate_Share_L1_c total weights s2 left v2 out order rests) (allocate_Share_L1 total weights s2 left v2 out order rests) := by
  unfold allocate_Share_L1_c allocate_Share_L1
  repeat' (first | with_reducible exact LeO.refl _ | with_reducible exact le_allocate_part _ _ _ | refine LeL.bif ?_ ?_ | refine LeL.map (fun _ => ?_) | refine LeL.one ?_ | refine LeO.iterA (fun _ => ?_) | refine LeO.bind ?_ (fun _ => ?_) | refine LeO.gd ?_ | refine LeO.both ?_ ?_ | refine LeO.bif ?_ ?_ | refine LeO.elim (fun _ => ?_) (fun _ => ?_) | refine LeO.iter (fun _ => ?_))

noncomputable def slices_insertionSortCmpFunc_int_L0_c (a : Int) (b : Int) (cmp : Int × Int × Unit → Option Int) (i : Int) (data2 : List Int) : Option ((Int × List Int) ⊕ (List Int)) :=
  bif decide (i < b) then (
   (iterN (fun x => slices_insertionSortCmpFunc_int_L1 a cmp x.1 x.2) 100000 (i, data2)).bind fun s2 =>
   some (.inl (wi64 (i + 1), s2)))
  else (
   some (.inr data2))

theorem le_slices_insertionSortCmpFunc_int_L0 (a : Int) (b : Int) (cmp : Int × Int × Unit → Option Int) (i : Int) (data2 : List Int) : LeO (slices_insertionSortCmpFunc_int_L0_c a b cmp i data2) (slices_insertionSortCmpFunc_int_L0 a b cmp i data2) := by
  unfold slices_insertionSortCmpFunc_int_L0_c slices_insertionSortCmpFunc_int_L0
  repeat' (first | with_reducible exact LeO.refl _ | refine LeL.bif ?_ ?_ | refine LeL.map (fun _ => ?_) | refine LeL.one ?_ | refine LeO.iterA (fun _ => ?_) | refine LeO.bind ?_ (fun _ => ?_) | refine LeO.gd ?_ | refine LeO.both ?_ ?_ | refine LeO.bif ?_ ?_ | refine LeO.elim (fun _ => ?_) (fun _ => ?_) | refine LeO.iter (fun _ => ?_))

noncomputable def slices_insertionSortCmpFunc_int_c (a : Int) (b : Int) (cmp : Int × Int × Unit → Option Int) (data : List Int) : Option (List Int) :=
  (iterN (fun x2 => slices_insertionSortCmpFunc_int_L0_c a b cmp x2.1 x2.2) 100000 (wi64 (a + 1), data)).bind fun s3 =>
  some s3

theorem le_slices_insertionSortCmpFunc_int (a : Int) (b : Int) (cmp : Int × Int × Unit → Option Int) (data : List Int) : LeO (slices_insertionSortCmpFunc_int_c a b cmp data) (slices_insertionSortCmpFunc_int a b cmp data) := by
  unfold slices_insertionSortCmpFunc_int_c slices_insertionSortCmpFunc_int
  repeat' (first | with_reducible exact LeO.refl _ | with_reducible exact le_slices_insertionSortCmpFunc_int_L0 _ _ _ _ _ | refine LeL.bif ?_ ?_ | refine LeL.map (fun _ => ?_) | refine LeL.one ?_ | refine LeO.iterA (fun _ => ?_) | refine LeO.bind ?_ (fun _ => ?_) | refine LeO.gd ?_ | refine LeO.both ?_ ?_ | refine LeO.bif ?_ ?_ | refine LeO.elim (fun _ => ?_) (fun _ => ?_) | refine LeO.iter (fun _ => ?_))

noncomputable def slices_stableCmpFunc_int_L0_c (n : Int) (cmp : Int × Int × Unit → Option Int) (a : Int) (b : Int) (data2 : List Int) : Option ((Int × Int × List Int) ⊕ (Int × List Int)) :=
  bif decide (b ≤ n) then (
   (slices_insertionSortCmpFunc_int_c a b cmp data2).bind fun r =>
   some (.inl (b, wi64 (b + 20), r)))
  else (
   some (.inr (a, data2)))

theorem le_slices_stableCmpFunc_int_L0 (n : Int) (cmp : Int × Int × Unit → Option Int) (a : Int) (b : Int) (data2 : List Int) : LeO (slices_stableCmpFunc_int_L0_c n cmp a b data2) (slices_stableCmpFunc_int_L0 n cmp a b data2) := by
  unfold slices_stableCmpFunc_int_L0_c slices_stableCmpFunc_int_L0
  repeat' (first | with_reducible exact LeO.refl _ | with_reducible exact le_slices_insertionSortCmpFunc_int _ _ _ _ | refine LeL.bif ?_ ?_ | refine LeL.map (fun _ => ?_) | refine LeL.one ?_ | refine LeO.iterA (fun _ => ?_) | refine LeO.bind ?_ (fun _ => ?_) | refine LeO.gd ?_ | refine LeO.both ?_ ?_ | refine LeO.bif ?_ ?_ | refine LeO.elim (fun _ => ?_) (fun _ => ?_) | refine LeO.iter (fun _ => ?_))

noncomputable def slices_swapRangeCmpFunc_int_c (a : Int) (b : Int) (n : Int) (cmp : Int × Int × Unit → Option Int) (data : List Int) : Option (List Int) :=
  (iterN (fun x => slices_swapRangeCmpFunc_int_L0 a b n x.1 x.2) 100000 (0, data)).bind fun s =>
  some s

theorem le_slices_swapRangeCmpFunc_int (a : Int) (b : Int) (n : Int) (cmp : Int × Int × Unit → Option Int) (data : List Int) : LeO (slices_swapRangeCmpFunc_int_c a b n cmp data) (slices_swapRangeCmpFunc_int a b n cmp data) := by
  unfold slices_swapRangeCmpFunc_int_c slices_swapRangeCmpFunc_int
  repeat' (first | with_reducible exact LeO.refl _ | refine LeL.bif ?_ ?_ | refine LeL.map (fun _ => ?_) | refine LeL.one ?_ | refine LeO.iterA (fun _ => ?_) | refine LeO.bind ?_ (fun _ => ?_) | refine LeO.gd ?_ | refine LeO.both ?_ ?_ | refine LeO.bif ?_ ?_ | refine LeO.elim (fun _ => ?_) (fun _ => ?_) | refine LeO.iter (fun _ => ?_))

noncomputable def slices_rotateCmpFunc_int_L0_c (m : Int) (cmp : Int × Int × Unit → Option Int) (i : Int) (j : Int) (data2 : List Int) : Option ((Int × Int × List Int) ⊕ (Int × List Int)) :=
  bif !decide (i = j) then (
   bif decide (j < i) then (
    (slices_swapRangeCmpFunc_int_c (wi64 (m - i)) m j cmp data2).bind fun r =>
    some (.inl (wi64 (i - j), j, r)))
   else (
    (slices_swapRangeCmpFunc_int_c (wi64 (m - i)) (wi64 ((wi64 (m + j)) - i)) i cmp data2).bind fun r2 =>
    some (.inl (i, wi64 (j - i), r2))))
  else (
   some (.inr (i, data2)))

theorem le_slices_rotateCmpFunc_int_L0 (m : Int) (cmp : Int × Int × Unit → Option Int) (i : Int) (j : Int) (data2 : List Int) : LeO (slices_rotateCmpFunc_int_L0_c m cmp i j data2) (slices_rotateCmpFunc_int_L0 m cmp i j data2) := by
  unfold slices_rotateCmpFunc_int_L0_c slices_rotateCmpFunc_int_L0
  repeat' (first | with_reducible exact LeO.refl _ | with_reducible exact le_slices_swapRangeCmpFunc_int _ _ _ _ _ | refine LeL.bif ?_ ?_ | refine LeL.map (fun _ => ?_) | refine LeL.one ?_ | refine LeO.iterA (fun _ => ?_) | refine LeO.bind ?_ (fun _ => ?_) | refine LeO.gd ?_ | refine LeO.both ?_ ?_ | refine LeO.bif ?_ ?_ | refine LeO.elim (fun _ => ?_) (fun _ => ?_) | refine LeO.iter (fun _ => ?_))

noncomputable def slices_rotateCmpFunc_int_c (a : Int) (m : Int) (b : Int) (cmp : Int × Int × Unit → Option Int) (data : List Int) : Option (List Int) :=
  (iterN (fun x => slices_rotateCmpFunc_int_L0_c m cmp x.1 x.2.1 x.2.2) 100000 (wi64 (m - a), wi64 (b - m), data)).bind fun s =>
  (slices_swapRangeCmpFunc_int_c (wi64 (m - s.1)) m s.1 cmp s.2).bind fun r3 =>
  some r3

theorem le_slices_rotateCmpFunc_int (a : Int) (m : Int) (b : Int) (cmp : Int × Int × Unit → Option Int) (data : List Int) : LeO (slices_rotateCmpFunc_int_c a m b cmp data) (slices_rotateCmpFunc_int a m b cmp data) := by
  unfold slices_rotateCmpFunc_int_c slices_rotateCmpFunc_int
  repeat' (first | with_reducible exact LeO.refl _ | with_reducible exact le_slices_swapRangeCmpFunc_int _ _ _ _ _ | with_reducible exact le_slices_rotateCmpFunc_int_L0 _ _ _ _ _ | refine LeL.bif ?_ ?_ | refine LeL.map (fun _ => ?_) | refine LeL.one ?_ | refine LeO.iterA (fun _ => ?_) | refine LeO.bind ?_ (fun _ => ?_) | refine LeO.gd ?_ | refine LeO.both ?_ ?_ | refine LeO.bif ?_ ?_ | refine LeO.elim (fun _ => ?_) (fun _ => ?_) | refine LeO.iter (fun _ => ?_))

noncomputable def slices_symMergeCmpFunc_int_S_c (rec : Int → Int → Int → (Int × Int × Unit → Option Int) → List Int → Option (List Int)) (a : Int) (m : Int) (b : Int) (cmp : Int × Int × Unit → Option Int) (data : List Int) : Option (List Int) :=
  bif decide (wi64 (m - a) = 1) then (
   (iterN (fun x => slices_symMergeCmpFunc_int_L0 a cmp x.1 x.2.1 x.2.2) 100000 (m, b, data)).bind fun s =>
   (iterN (fun x2 => slices_symMergeCmpFunc_int_L1 s x2.1 x2.2) 100000 (a, s.2)).bind fun s2 =>
   some s2)
  else (
   bif decide (wi64 (b - m) = 1) then (
    (iterN (fun x3 => slices_symMergeCmpFunc_int_L2 m cmp x3.1 x3.2.1 x3.2.2) 100000 (a, m, data)).bind fun s3 =>
    (iterN (fun x4 => slices_symMergeCmpFunc_int_L3 s3 x4.1 x4.2) 100000 (m, s3.2)).bind fun s4 =>
    some s4)
   else (
    Option.bind (α := Int × Int × List Int) (
      bif decide (wi64 (Int.fdiv (wu64 (wi64 (a + b))) (2 ^ shAmt .u64 1)) < m) then (
       some (wi64 ((wi64 ((wi64 (Int.fdiv (wu64 (wi64 (a + b))) (2 ^ shAmt .u64 1))) + m)) - b), wi64 (Int.fdiv (wu64 (wi64 (a + b))) (2 ^ shAmt .u64 1)), data))
      else (
       some (a, m, data))) fun s5 =>
    (iterN (fun x5 => slices_symMergeCmpFunc_int_L4 a m b cmp x5.1 x5.2.1 x5.2.2) 100000 (s5.1, s5.2.1, s5.2.2)).bind fun s6 =>
    Option.bind (α := Bool × List Int) (
      bif decide (s6.1 < m) then (
       some (decide (m < wi64 ((wi64 ((wi64 (Int.fdiv (wu64 (wi64 (a + b))) (2 ^ shAmt .u64 1))) + m)) - s6.1)), s6.2))
      else (
       some (false, s6.2))) fun s7 =>
    Option.bind (α := List Int) (
      bif s7.1 then (
       (slices_rotateCmpFunc_int_c s6.1 m (wi64 ((wi64 ((wi64 (Int.fdiv (wu64 (wi64 (a + b))) (2 ^ shAmt .u64 1))) + m)) - s6.1)) cmp s7.2).bind fun r5 =>
       some r5)
      else (
       some s7.2)) fun s8 =>
    Option.bind (α := Bool × List Int) (
      bif decide (a < s6.1) then (
       some (decide (s6.1 < wi64 (Int.fdiv (wu64 (wi64 (a + b))) (2 ^ shAmt .u64 1))), s8))
      else (
       some (false, s8))) fun s9 =>
    Option.bind (α := List Int) (
      bif s9.1 then (
       (rec a s6.1 (wi64 (Int.fdiv (wu64 (wi64 (a + b))) (2 ^ shAmt .u64 1))) cmp s9.2).bind fun r6 =>
       some r6)
      else (
       some s9.2)) fun s10 =>
    Option.bind (α := Bool × List Int) (
      bif decide (wi64 (Int.fdiv (wu64 (wi64 (a + b))) (2 ^ shAmt .u64 1)) < wi64 ((wi64 ((wi64 (Int.fdiv (wu64 (wi64 (a + b))) (2 ^ shAmt .u64 1))) + m)) - s6.1)) then (
       some (decide (wi64 ((wi64 ((wi64 (Int.fdiv (wu64 (wi64 (a + b))) (2 ^ shAmt .u64 1))) + m)) - s6.1) < b), s10))
      else (
       some (false, s10))) fun s11 =>
    bif s11.1 then (
     (rec (wi64 (Int.fdiv (wu64 (wi64 (a + b))) (2 ^ shAmt .u64 1))) (wi64 ((wi64 ((wi64 (Int.fdiv (wu64 (wi64 (a + b))) (2 ^ shAmt .u64 1))) + m)) - s6.1)) b cmp s11.2).bind fun r7 =>
     some r7)
    else (
     some s11.2)))

theorem le_slices_symMergeCmpFunc_int_S (rec rec' : Int → Int → Int → (Int × Int × Unit → Option Int) → List Int → Option (List Int)) (hrec : ∀ z0 z1 z2 z3 z4, LeO (rec z0 z1 z2 z3 z4) (rec' z0 z1 z2 z3 z4)) (a : Int) (m : Int) (b : Int) (cmp : Int × Int × Unit → Option Int) (data : List Int) : LeO (slices_symMergeCmpFunc_int_S_c rec a m b cmp data) (slices_symMergeCmpFunc_int_S rec' a m b cmp data) := by
  unfold slices_symMergeCmpFunc_int_S_c slices_symMergeCmpFunc_int_S
  repeat' (first | with_reducible exact LeO.refl _ | exact hrec _ _ _ _ _ | with_reducible exact le_slices_rotateCmpFunc_int _ _ _ _ _ | refine LeL.bif ?_ ?_ | refine LeL.map (fun _ => ?_) | refine LeL.one ?_ | refine LeO.iterA (fun _ => ?_) | refine LeO.bind ?_ (fun _ => ?_) | refine LeO.gd ?_ | refine LeO.both ?_ ?_ | refine LeO.bif ?_ ?_ | refine LeO.elim (fun _ => ?_) (fun _ => ?_) | refine LeO.iter (fun _ => ?_))

noncomputable def slices_symMergeCmpFunc_int_F_c : Nat → Int → Int → Int → (Int × Int × Unit → Option Int) → List Int → Option (List Int)
  | 0 => fun _ _ _ _ _ => none
  | n + 1 => slices_symMergeCmpFunc_int_S_c (slices_symMergeCmpFunc_int_F_c n)

theorem le_slices_symMergeCmpFunc_int_F : ∀ (n : Nat) x0 x1 x2 x3 x4, LeO (slices_symMergeCmpFunc_int_F_c n x0 x1 x2 x3 x4) (slices_symMergeCmpFunc_int_F n x0 x1 x2 x3 x4)
  | 0, _, _, _, _, _ => LeO.refl _
  | n + 1, x0, x1, x2, x3, x4 => le_slices_symMergeCmpFunc_int_S _ _ (fun x0 x1 x2 x3 x4 => le_slices_symMergeCmpFunc_int_F n x0 x1 x2 x3 x4) x0 x1 x2 x3 x4

noncomputable def slices_symMergeCmpFunc_int_c (a : Int) (m : Int) (b : Int) (cmp : Int × Int × Unit → Option Int) (data : List Int) : Option (List Int) := slices_symMergeCmpFunc_int_F_c 18446744073709551616 a m b cmp data

theorem le_slices_symMergeCmpFunc_int (a : Int) (m : Int) (b : Int) (cmp : Int × Int × Unit → Option Int) (data : List Int) : LeO (slices_symMergeCmpFunc_int_c a m b cmp data) (slices_symMergeCmpFunc_int a m b cmp data) := by
  unfold slices_symMergeCmpFunc_int_c slices_symMergeCmpFunc_int
  repeat' (first | with_reducible exact LeO.refl _ | with_reducible exact le_slices_symMergeCmpFunc_int_F _ _ _ _ _ _ | refine LeL.bif ?_ ?_ | refine LeL.map (fun _ => ?_) | refine LeL.one ?_ | refine LeO.iterA (fun _ => ?_) | refine LeO.bind ?_ (fun _ => ?_) | refine LeO.gd ?_ | refine LeO.both ?_ ?_ | refine LeO.bif ?_ ?_ | refine LeO.elim (fun _ => ?_) (fun _ => ?_) | refine LeO.iter (fun _ => ?_))

noncomputable def slices_stableCmpFunc_int_L2_c (n : Int) (cmp : Int × Int × Unit → Option Int) (blockSize : Int) (a2 : Int) (b2 : Int) (data4 : List Int) : Option ((Int × Int × List Int) ⊕ (Int × List Int)) :=
  bif decide (b2 ≤ n) then (
   (slices_symMergeCmpFunc_int_c a2 (wi64 (a2 + blockSize)) b2 cmp data4).bind fun r3 =>
   some (.inl (b2, wi64 (b2 + (wi64 (2 * blockSize))), r3)))
  else (
   some (.inr (a2, data4)))

theorem le_slices_stableCmpFunc_int_L2 (n : Int) (cmp : Int × Int × Unit → Option Int) (blockSize : Int) (a2 : Int) (b2 : Int) (data4 : List Int) : LeO (slices_stableCmpFunc_int_L2_c n cmp blockSize a2 b2 data4) (slices_stableCmpFunc_int_L2 n cmp blockSize a2 b2 data4) := by
  unfold slices_stableCmpFunc_int_L2_c slices_stableCmpFunc_int_L2
  repeat' (first | with_reducible exact LeO.refl _ | with_reducible exact le_slices_symMergeCmpFunc_int _ _ _ _ _ | refine LeL.bif ?_ ?_ | refine LeL.map (fun _ => ?_) | refine LeL.one ?_ | refine LeO.iterA (fun _ => ?_) | refine LeO.bind ?_ (fun _ => ?_) | refine LeO.gd ?_ | refine LeO.both ?_ ?_ | refine LeO.bif ?_ ?_ | refine LeO.elim (fun _ => ?_) (fun _ => ?_) | refine LeO.iter (fun _ => ?_))

noncomputable def slices_stableCmpFunc_int_L1_c (n : Int) (cmp : Int × Int × Unit → Option Int) (blockSize : Int) (data3 : List Int) : Option ((Int × List Int) ⊕ (List Int)) :=
  bif decide (blockSize < n) then (
   (iterN (fun x2 => slices_stableCmpFunc_int_L2_c n cmp blockSize x2.1 x2.2.1 x2.2.2) 100000 (0, wi64 (2 * blockSize), data3)).bind fun s2 =>
   Option.bind (α := List Int) (
     bif decide (wi64 (s2.1 + blockSize) < n) then (
      (slices_symMergeCmpFunc_int_c s2.1 (wi64 (s2.1 + blockSize)) n cmp s2.2).bind fun r4 =>
      some r4)
     else (
      some s2.2)) fun s3 =>
   some (.inl (wi64 (blockSize * 2), s3)))
  else (
   some (.inr data3))

theorem le_slices_stableCmpFunc_int_L1 (n : Int) (cmp : Int × Int × Unit → Option Int) (blockSize : Int) (data3 : List Int) : LeO (slices_stableCmpFunc_int_L1_c n cmp blockSize data3) (slices_stableCmpFunc_int_L1 n cmp blockSize data3) := by
  unfold slices_stableCmpFunc_int_L1_c slices_stableCmpFunc_int_L1
  repeat' (first | with_reducible exact LeO.refl _ | with_reducible exact le_slices_symMergeCmpFunc_int _ _ _ _ _ | with_reducible exact le_slices_stableCmpFunc_int_L2 _ _ _ _ _ _ | refine LeL.bif ?_ ?_ | refine LeL.map (fun _ => ?_) | refine LeL.one ?_ | refine LeO.iterA (fun _ => ?_) | refine LeO.bind ?_ (fun _ => ?_) | refine LeO.gd ?_ | refine LeO.both ?_ ?_ | refine LeO.bif ?_ ?_ | refine LeO.elim (fun _ => ?_) (fun _ => ?_) | refine LeO.iter (fun _ => ?_))

noncomputable def slices_stableCmpFunc_int_c (n : Int) (cmp : Int × Int × Unit → Option Int) (data : List Int) : Option (List Int) :=
  (iterN (fun x => slices_stableCmpFunc_int_L0_c n cmp x.1 x.2.1 x.2.2) 100000 (0, 20, data)).bind fun s =>
  (slices_insertionSortCmpFunc_int_c s.1 n cmp s.2).bind fun r2 =>
  (iterN (fun x3 => slices_stableCmpFunc_int_L1_c n cmp x3.1 x3.2) 100000 (20, r2)).bind fun s4 =>
  some s4

theorem le_slices_stableCmpFunc_int (n : Int) (cmp : Int × Int × Unit → Option Int) (data : List Int) : LeO (slices_stableCmpFunc_int_c n cmp data) (slices_stableCmpFunc_int n cmp data) := by
  unfold slices_stableCmpFunc_int_c slices_stableCmpFunc_int
  repeat' (first | with_reducible exact LeO.refl _ | with_reducible exact le_slices_insertionSortCmpFunc_int _ _ _ _ | with_reducible exact le_slices_stableCmpFunc_int_L1 _ _ _ _ | with_reducible exact le_slices_stableCmpFunc_int_L0 _ _ _ _ _ | refine LeL.bif ?_ ?_ | refine LeL.map (fun _ => ?_) | refine LeL.one ?_ | refine LeO.iterA (fun _ => ?_) | refine LeO.bind ?_ (fun _ => ?_) | refine LeO.gd ?_ | refine LeO.both ?_ ?_ | refine LeO.bif ?_ ?_ | refine LeO.elim (fun _ => ?_) (fun _ => ?_) | refine LeO.iter (fun _ => ?_))

noncomputable def slices_SortStableFunc_int_int_c (cmp : Int × Int × Unit → Option Int) (x : List Int) : Option (List Int) :=
  (slices_stableCmpFunc_int_c (x.length : Int) cmp x).bind fun r =>
  some r

theorem le_slices_SortStableFunc_int_int (cmp : Int × Int × Unit → Option Int) (x : List Int) : LeO (slices_SortStableFunc_int_int_c cmp x) (slices_SortStableFunc_int_int cmp x) := by
  unfold slices_SortStableFunc_int_int_c slices_SortStableFunc_int_int
  repeat' (first | with_reducible exact LeO.refl _ | with_reducible exact le_slices_stableCmpFunc_int _ _ _ | refine LeL.bif ?_ ?_ | refine LeL.map (fun _ => ?_) | refine LeL.one ?_ | refine LeO.iterA (fun _ => ?_) | refine LeO.bind ?_ (fun _ => ?_) | refine LeO.gd ?_ | refine LeO.both ?_ ?_ | refine LeO.bif ?_ ?_ | refine LeO.elim (fun _ => ?_) (fun _ => ?_) | refine LeO.iter (fun _ => ?_))

noncomputable def allocate_Share_c (total : Int) (weights : List Int) : Option (List Int × Int) :=
  bif decide (64 < (weights.length : Int)) then (
   some ([], 4))
  else (
   Option.bind (α := Bool) (
     (allocate_Signed total).bind fun r =>
     bif !r then (
      some true)
     else (
      (slices_ContainsFunc_int_int_c weights (fun h => (allocate_Share_1 h.1).bind fun y => some y)).bind fun r2 =>
      some r2)) fun s =>
   bif s then (
    some ([], 1))
   else (
    (iterN (fun x => allocate_Share_L0 weights x.1 x.2) 100000 (0, 0)).bind fun s2 =>
    gd (makeG 8 (weights.length : Int)) <|
    bif decide (total = 0) then (
     some (List.replicate (weights.length : Int).toNat 0, 0))
    else (
     bif decide (s2 = 0) then (
      some ([], 9))
     else (
      Option.bind (α := Int × List Int) (
        bif decide (total < 0) then (
         some ((-1), List.replicate (weights.length : Int).toNat 0))
        else (
         some (1, List.replicate (weights.length : Int).toNat 0))) fun s3 =>
      gd (makeG 8 (weights.length : Int)) <|
      gd (makeG 8 (weights.length : Int)) <|
      (iterN (fun x2 => allocate_Share_L1_c total weights s2 x2.1 x2.2.1 x2.2.2.1 x2.2.2.2.1 x2.2.2.2.2) 100000 (max total (wi64 (0 - total)), 0, s3.2, List.replicate (weights.length : Int).toNat 0, List.replicate (weights.length : Int).toNat 0)).bind fun s4 =>
      (slices_SortStableFunc_int_int_c (fun h2 => (allocate_Share_2 h2.1 h2.2.1 s4.2.2.2).bind fun y => some y) s4.2.2.1).bind fun r4 =>
      gd (cutG none (some (.i64, s4.1)) r4.length) <|
      (iterN (fun x3 => allocate_Share_L2 s4 r4 x3.1 x3.2) 100000 (0, s4.2.1)).bind fun s5 =>
      (iterN (fun x4 => allocate_Share_L3 s3 s5 x4.1 x4.2) 100000 (0, s5)).bind fun s6 =>
      some (s6, 0)))))

theorem le_allocate_Share (total : Int) (weights : List Int) : LeO (allocate_Share_c total weights) (allocate_Share total weights) := by
  unfold allocate_Share_c allocate_Share
  repeat' (first | with_reducible exact LeO.refl _ | with_reducible exact le_slices_SortStableFunc_int_int _ _ | with_reducible exact le_slices_ContainsFunc_int_int _ _ | with_reducible exact le_allocate_Share_L1 _ _ _ _ _ _ _ _ | refine LeL.bif ?_ ?_ | refine LeL.map (fun _ => ?_) | refine LeL.one ?_ | refine LeO.iterA (fun _ => ?_) | refine LeO.bind ?_ (fun _ => ?_) | refine LeO.gd ?_ | refine LeO.both ?_ ?_ | refine LeO.bif ?_ ?_ | refine LeO.elim (fun _ => ?_) (fun _ => ?_) | refine LeO.iter (fun _ => ?_))

noncomputable def ref23_SameInts_c (a : List Int) (b : List Int) : Option (Bool) :=
  bif !decide ((a.length : Int) = (b.length : Int)) then (
   some false)
  else (
   (iterN (fun x => ref23_SameInts_L0 a b x) 100000 0).bind fun s =>
   s.elim (fun s2 =>
    some true)
   (fun s3 =>
    some s3))

theorem le_ref23_SameInts (a : List Int) (b : List Int) : LeO (ref23_SameInts_c a b) (ref23_SameInts a b) := by
  unfold ref23_SameInts_c ref23_SameInts
  repeat' (first | with_reducible exact LeO.refl _ | refine LeL.bif ?_ ?_ | refine LeL.map (fun _ => ?_) | refine LeL.one ?_ | refine LeO.iterA (fun _ => ?_) | refine LeO.bind ?_ (fun _ => ?_) | refine LeO.gd ?_ | refine LeO.both ?_ ?_ | refine LeO.bif ?_ ?_ | refine LeO.elim (fun _ => ?_) (fun _ => ?_) | refine LeO.iter (fun _ => ?_))

noncomputable def law38_awake_c : Option (Bool) :=
  (allocate_Share_c (-10) [50, 30, 20]).bind fun r =>
  bif decide (r.2 = 0) then (
   (ref23_SameInts_c r.1 [(-5), (-3), (-2)]).bind fun r2 =>
   some r2)
  else (
   some false)

set_option maxRecDepth 100000 in
theorem le_law38_awake  : LeO (law38_awake_c) (law38_awake) := by
  unfold law38_awake_c law38_awake
  repeat' (first | with_reducible exact LeO.refl _ | with_reducible exact le_allocate_Share _ _ | with_reducible exact le_ref23_SameInts _ _ | refine LeL.bif ?_ ?_ | refine LeL.map (fun _ => ?_) | refine LeL.one ?_ | refine LeO.iterA (fun _ => ?_) | refine LeO.bind ?_ (fun _ => ?_) | refine LeO.gd ?_ | refine LeO.both ?_ ?_ | refine LeO.bif ?_ ?_ | refine LeO.elim (fun _ => ?_) (fun _ => ?_) | refine LeO.iter (fun _ => ?_))

set_option maxRecDepth 100000 in
theorem awake38_true : law38_awake = some true := le_law38_awake _ (by kernel_rfl)
end Go.Proofs.Ytmleldfhkangbaa
