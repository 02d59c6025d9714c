/- Twins that compute. No condition. -/
import Derived.Test.YtdmfhnpibllfeaaQu
namespace Go.Proofs.Ytdmfhnpibllfeaa
open Go Go.Sq
set_option linter.unusedVariables false

noncomputable def slices_insertionSortCmpFunc_int_L0_c (a : Int) (b : Int) (cmp : Int × Int × Unit → Option Int) (i : Int) (data2 : List Int) : Option ((Int × List Int) ⊕ (List Int)) :=
  bif decide (i < b) then (
   (iterN (fun x => slices_insertionSortCmpFunc_int_L1 a cmp x.1 x.2) 100000 (i, data2)).bind fun s2 =>
   some (.inl (wi64 (i + 1), s2)))
  else (
   some (.inr data2))

theorem le_slices_insertionSortCmpFunc_int_L0 (a : Int) (b : Int) (cmp : Int × Int × Unit → Option Int) (i : Int) (data2 : List Int) : LeO (slices_insertionSortCmpFunc_int_L0_c a b cmp i data2) (slices_insertionSortCmpFunc_int_L0 a b cmp i data2) := by
  unfold slices_insertionSortCmpFunc_int_L0_c slices_insertionSortCmpFunc_int_L0
  repeat' (first | with_reducible exact LeO.refl _ | refine LeO.bind ?_ (fun _ => ?_) | refine LeO.gd ?_ | refine LeO.bif ?_ ?_ | refine LeO.elim (fun _ => ?_) (fun _ => ?_) | refine LeO.iter (fun _ => ?_))

noncomputable def slices_insertionSortCmpFunc_int_c (a : Int) (b : Int) (cmp : Int × Int × Unit → Option Int) (data : List Int) : Option (List Int) :=
  (iterN (fun x2 => slices_insertionSortCmpFunc_int_L0_c a b cmp x2.1 x2.2) 100000 (wi64 (a + 1), data)).bind fun s3 =>
  some s3

theorem le_slices_insertionSortCmpFunc_int (a : Int) (b : Int) (cmp : Int × Int × Unit → Option Int) (data : List Int) : LeO (slices_insertionSortCmpFunc_int_c a b cmp data) (slices_insertionSortCmpFunc_int a b cmp data) := by
  unfold slices_insertionSortCmpFunc_int_c slices_insertionSortCmpFunc_int
  repeat' (first | with_reducible exact LeO.refl _ | exact le_slices_insertionSortCmpFunc_int_L0 _ _ _ _ _ | refine LeO.bind ?_ (fun _ => ?_) | refine LeO.gd ?_ | refine LeO.bif ?_ ?_ | refine LeO.elim (fun _ => ?_) (fun _ => ?_) | refine LeO.iter (fun _ => ?_))

noncomputable def slices_stableCmpFunc_int_L0_c (n : Int) (cmp : Int × Int × Unit → Option Int) (a : Int) (b : Int) (data2 : List Int) : Option ((Int × Int × List Int) ⊕ (Int × List Int)) :=
  bif decide (b ≤ n) then (
   (slices_insertionSortCmpFunc_int_c a b cmp data2).bind fun r =>
   some (.inl (b, wi64 (b + 20), r)))
  else (
   some (.inr (a, data2)))

theorem le_slices_stableCmpFunc_int_L0 (n : Int) (cmp : Int × Int × Unit → Option Int) (a : Int) (b : Int) (data2 : List Int) : LeO (slices_stableCmpFunc_int_L0_c n cmp a b data2) (slices_stableCmpFunc_int_L0 n cmp a b data2) := by
  unfold slices_stableCmpFunc_int_L0_c slices_stableCmpFunc_int_L0
  repeat' (first | with_reducible exact LeO.refl _ | exact le_slices_insertionSortCmpFunc_int _ _ _ _ | refine LeO.bind ?_ (fun _ => ?_) | refine LeO.gd ?_ | refine LeO.bif ?_ ?_ | refine LeO.elim (fun _ => ?_) (fun _ => ?_) | refine LeO.iter (fun _ => ?_))

noncomputable def slices_swapRangeCmpFunc_int_c (a : Int) (b : Int) (n : Int) (cmp : Int × Int × Unit → Option Int) (data : List Int) : Option (List Int) :=
  (iterN (fun x => slices_swapRangeCmpFunc_int_L0 a b n x.1 x.2) 100000 (0, data)).bind fun s =>
  some s

theorem le_slices_swapRangeCmpFunc_int (a : Int) (b : Int) (n : Int) (cmp : Int × Int × Unit → Option Int) (data : List Int) : LeO (slices_swapRangeCmpFunc_int_c a b n cmp data) (slices_swapRangeCmpFunc_int a b n cmp data) := by
  unfold slices_swapRangeCmpFunc_int_c slices_swapRangeCmpFunc_int
  repeat' (first | with_reducible exact LeO.refl _ | refine LeO.bind ?_ (fun _ => ?_) | refine LeO.gd ?_ | refine LeO.bif ?_ ?_ | refine LeO.elim (fun _ => ?_) (fun _ => ?_) | refine LeO.iter (fun _ => ?_))

noncomputable def slices_rotateCmpFunc_int_L0_c (m : Int) (cmp : Int × Int × Unit → Option Int) (i : Int) (j : Int) (data2 : List Int) : Option ((Int × Int × List Int) ⊕ (Int × List Int)) :=
  bif !decide (i = j) then (
   bif decide (j < i) then (
    (slices_swapRangeCmpFunc_int_c (wi64 (m - i)) m j cmp data2).bind fun r =>
    some (.inl (wi64 (i - j), j, r)))
   else (
    (slices_swapRangeCmpFunc_int_c (wi64 (m - i)) (wi64 ((wi64 (m + j)) - i)) i cmp data2).bind fun r2 =>
    some (.inl (i, wi64 (j - i), r2))))
  else (
   some (.inr (i, data2)))

theorem le_slices_rotateCmpFunc_int_L0 (m : Int) (cmp : Int × Int × Unit → Option Int) (i : Int) (j : Int) (data2 : List Int) : LeO (slices_rotateCmpFunc_int_L0_c m cmp i j data2) (slices_rotateCmpFunc_int_L0 m cmp i j data2) := by
  unfold slices_rotateCmpFunc_int_L0_c slices_rotateCmpFunc_int_L0
  repeat' (first | with_reducible exact LeO.refl _ | exact le_slices_swapRangeCmpFunc_int _ _ _ _ _ | refine LeO.bind ?_ (fun _ => ?_) | refine LeO.gd ?_ | refine LeO.bif ?_ ?_ | refine LeO.elim (fun _ => ?_) (fun _ => ?_) | refine LeO.iter (fun _ => ?_))

noncomputable def slices_rotateCmpFunc_int_c (a : Int) (m : Int) (b : Int) (cmp : Int × Int × Unit → Option Int) (data : List Int) : Option (List Int) :=
  (iterN (fun x => slices_rotateCmpFunc_int_L0_c m cmp x.1 x.2.1 x.2.2) 100000 (wi64 (m - a), wi64 (b - m), data)).bind fun s =>
  (slices_swapRangeCmpFunc_int_c (wi64 (m - s.1)) m s.1 cmp s.2).bind fun r3 =>
  some r3

theorem le_slices_rotateCmpFunc_int (a : Int) (m : Int) (b : Int) (cmp : Int × Int × Unit → Option Int) (data : List Int) : LeO (slices_rotateCmpFunc_int_c a m b cmp data) (slices_rotateCmpFunc_int a m b cmp data) := by
  unfold slices_rotateCmpFunc_int_c slices_rotateCmpFunc_int
  repeat' (first | with_reducible exact LeO.refl _ | exact le_slices_rotateCmpFunc_int_L0 _ _ _ _ _ | exact le_slices_swapRangeCmpFunc_int _ _ _ _ _ | refine LeO.bind ?_ (fun _ => ?_) | refine LeO.gd ?_ | refine LeO.bif ?_ ?_ | refine LeO.elim (fun _ => ?_) (fun _ => ?_) | refine LeO.iter (fun _ => ?_))

noncomputable def slices_symMergeCmpFunc_int_S_c (rec : Int → Int → Int → (Int × Int × Unit → Option Int) → List Int → Option (List Int)) (a : Int) (m : Int) (b : Int) (cmp : Int × Int × Unit → Option Int) (data : List Int) : Option (List Int) :=
  bif decide (wi64 (m - a) = 1) then (
   (iterN (fun x => slices_symMergeCmpFunc_int_L0 a cmp x.1 x.2.1 x.2.2) 100000 (m, b, data)).bind fun s =>
   (iterN (fun x2 => slices_symMergeCmpFunc_int_L1 s x2.1 x2.2) 100000 (a, s.2)).bind fun s2 =>
   some s2)
  else (
   bif decide (wi64 (b - m) = 1) then (
    (iterN (fun x3 => slices_symMergeCmpFunc_int_L2 m cmp x3.1 x3.2.1 x3.2.2) 100000 (a, m, data)).bind fun s3 =>
    (iterN (fun x4 => slices_symMergeCmpFunc_int_L3 s3 x4.1 x4.2) 100000 (m, s3.2)).bind fun s4 =>
    some s4)
   else (
    Option.bind (α := Int × Int × List Int) (
      bif decide (wi64 (Int.fdiv (wu64 (wi64 (a + b))) (2 ^ shAmt .u64 1)) < m) then (
       some (wi64 ((wi64 ((wi64 (Int.fdiv (wu64 (wi64 (a + b))) (2 ^ shAmt .u64 1))) + m)) - b), wi64 (Int.fdiv (wu64 (wi64 (a + b))) (2 ^ shAmt .u64 1)), data))
      else (
       some (a, m, data))) fun s5 =>
    (iterN (fun x5 => slices_symMergeCmpFunc_int_L4 a m b cmp x5.1 x5.2.1 x5.2.2) 100000 (s5.1, s5.2.1, s5.2.2)).bind fun s6 =>
    Option.bind (α := Bool × List Int) (
      bif decide (s6.1 < m) then (
       some (decide (m < wi64 ((wi64 ((wi64 (Int.fdiv (wu64 (wi64 (a + b))) (2 ^ shAmt .u64 1))) + m)) - s6.1)), s6.2))
      else (
       some (false, s6.2))) fun s7 =>
    Option.bind (α := List Int) (
      bif s7.1 then (
       (slices_rotateCmpFunc_int_c s6.1 m (wi64 ((wi64 ((wi64 (Int.fdiv (wu64 (wi64 (a + b))) (2 ^ shAmt .u64 1))) + m)) - s6.1)) cmp s7.2).bind fun r5 =>
       some r5)
      else (
       some s7.2)) fun s8 =>
    Option.bind (α := Bool × List Int) (
      bif decide (a < s6.1) then (
       some (decide (s6.1 < wi64 (Int.fdiv (wu64 (wi64 (a + b))) (2 ^ shAmt .u64 1))), s8))
      else (
       some (false, s8))) fun s9 =>
    Option.bind (α := List Int) (
      bif s9.1 then (
       (rec a s6.1 (wi64 (Int.fdiv (wu64 (wi64 (a + b))) (2 ^ shAmt .u64 1))) cmp s9.2).bind fun r6 =>
       some r6)
      else (
       some s9.2)) fun s10 =>
    Option.bind (α := Bool × List Int) (
      bif decide (wi64 (Int.fdiv (wu64 (wi64 (a + b))) (2 ^ shAmt .u64 1)) < wi64 ((wi64 ((wi64 (Int.fdiv (wu64 (wi64 (a + b))) (2 ^ shAmt .u64 1))) + m)) - s6.1)) then (
       some (decide (wi64 ((wi64 ((wi64 (Int.fdiv (wu64 (wi64 (a + b))) (2 ^ shAmt .u64 1))) + m)) - s6.1) < b), s10))
      else (
       some (false, s10))) fun s11 =>
    bif s11.1 then (
     (rec (wi64 (Int.fdiv (wu64 (wi64 (a + b))) (2 ^ shAmt .u64 1))) (wi64 ((wi64 ((wi64 (Int.fdiv (wu64 (wi64 (a + b))) (2 ^ shAmt .u64 1))) + m)) - s6.1)) b cmp s11.2).bind fun r7 =>
     some r7)
    else (
     some s11.2)))

theorem le_slices_symMergeCmpFunc_int_S (rec rec' : Int → Int → Int → (Int × Int × Unit → Option Int) → List Int → Option (List Int)) (hrec : ∀ z0 z1 z2 z3 z4, LeO (rec z0 z1 z2 z3 z4) (rec' z0 z1 z2 z3 z4)) (a : Int) (m : Int) (b : Int) (cmp : Int × Int × Unit → Option Int) (data : List Int) : LeO (slices_symMergeCmpFunc_int_S_c rec a m b cmp data) (slices_symMergeCmpFunc_int_S rec' a m b cmp data) := by
  unfold slices_symMergeCmpFunc_int_S_c slices_symMergeCmpFunc_int_S
  repeat' (first | with_reducible exact LeO.refl _ | exact hrec _ _ _ _ _ | exact le_slices_rotateCmpFunc_int _ _ _ _ _ | refine LeO.bind ?_ (fun _ => ?_) | refine LeO.gd ?_ | refine LeO.bif ?_ ?_ | refine LeO.elim (fun _ => ?_) (fun _ => ?_) | refine LeO.iter (fun _ => ?_))

noncomputable def slices_symMergeCmpFunc_int_F_c : Nat → Int → Int → Int → (Int × Int × Unit → Option Int) → List Int → Option (List Int)
  | 0 => fun _ _ _ _ _ => none
  | n + 1 => slices_symMergeCmpFunc_int_S_c (slices_symMergeCmpFunc_int_F_c n)

theorem le_slices_symMergeCmpFunc_int_F : ∀ (n : Nat) x0 x1 x2 x3 x4, LeO (slices_symMergeCmpFunc_int_F_c n x0 x1 x2 x3 x4) (slices_symMergeCmpFunc_int_F n x0 x1 x2 x3 x4)
  | 0, _, _, _, _, _ => LeO.refl _
  | n + 1, x0, x1, x2, x3, x4 => le_slices_symMergeCmpFunc_int_S _ _ (fun x0 x1 x2 x3 x4 => le_slices_symMergeCmpFunc_int_F n x0 x1 x2 x3 x4) x0 x1 x2 x3 x4

noncomputable def slices_symMergeCmpFunc_int_c (a : Int) (m : Int) (b : Int) (cmp : Int × Int × Unit → Option Int) (data : List Int) : Option (List Int) := slices_symMergeCmpFunc_int_F_c 18446744073709551616 a m b cmp data

theorem le_slices_symMergeCmpFunc_int (a : Int) (m : Int) (b : Int) (cmp : Int × Int × Unit → Option Int) (data : List Int) : LeO (slices_symMergeCmpFunc_int_c a m b cmp data) (slices_symMergeCmpFunc_int a m b cmp data) := by
  unfold slices_symMergeCmpFunc_int_c slices_symMergeCmpFunc_int
  repeat' (first | with_reducible exact LeO.refl _ | exact le_slices_symMergeCmpFunc_int_F _ _ _ _ _ _ | refine LeO.bind ?_ (fun _ => ?_) | refine LeO.gd ?_ | refine LeO.bif ?_ ?_ | refine LeO.elim (fun _ => ?_) (fun _ => ?_) | refine LeO.iter (fun _ => ?_))

noncomputable def slices_stableCmpFunc_int_L2_c (n : Int) (cmp : Int × Int × Unit → Option Int) (blockSize : Int) (a2 : Int) (b2 : Int) (data4 : List Int) : Option ((Int × Int × List Int) ⊕ (Int × List Int)) :=
  bif decide (b2 ≤ n) then (
   (slices_symMergeCmpFunc_int_c a2 (wi64 (a2 + blockSize)) b2 cmp data4).bind fun r3 =>
   some (.inl (b2, wi64 (b2 + (wi64 (2 * blockSize))), r3)))
  else (
   some (.inr (a2, data4)))

theorem le_slices_stableCmpFunc_int_L2 (n : Int) (cmp : Int × Int × Unit → Option Int) (blockSize : Int) (a2 : Int) (b2 : Int) (data4 : List Int) : LeO (slices_stableCmpFunc_int_L2_c n cmp blockSize a2 b2 data4) (slices_stableCmpFunc_int_L2 n cmp blockSize a2 b2 data4) := by
  unfold slices_stableCmpFunc_int_L2_c slices_stableCmpFunc_int_L2
  repeat' (first | with_reducible exact LeO.refl _ | exact le_slices_symMergeCmpFunc_int _ _ _ _ _ | refine LeO.bind ?_ (fun _ => ?_) | refine LeO.gd ?_ | refine LeO.bif ?_ ?_ | refine LeO.elim (fun _ => ?_) (fun _ => ?_) | refine LeO.iter (fun _ => ?_))

noncomputable def slices_stableCmpFunc_int_L1_c (n : Int) (cmp : Int × Int × Unit → Option Int) (blockSize : Int) (data3 : List Int) : Option ((Int × List Int) ⊕ (List Int)) :=
  bif decide (blockSize < n) then (
   (iterN (fun x2 => slices_stableCmpFunc_int_L2_c n cmp blockSize x2.1 x2.2.1 x2.2.2) 100000 (0, wi64 (2 * blockSize), data3)).bind fun s2 =>
   Option.bind (α := List Int) (
     bif decide (wi64 (s2.1 + blockSize) < n) then (
      (slices_symMergeCmpFunc_int_c s2.1 (wi64 (s2.1 + blockSize)) n cmp s2.2).bind fun r4 =>
      some r4)
     else (
      some s2.2)) fun s3 =>
   some (.inl (wi64 (blockSize * 2), s3)))
  else (
   some (.inr data3))

theorem le_slices_stableCmpFunc_int_L1 (n : Int) (cmp : Int × Int × Unit → Option Int) (blockSize : Int) (data3 : List Int) : LeO (slices_stableCmpFunc_int_L1_c n cmp blockSize data3) (slices_stableCmpFunc_int_L1 n cmp blockSize data3) := by
  unfold slices_stableCmpFunc_int_L1_c slices_stableCmpFunc_int_L1
  repeat' (first | with_reducible exact LeO.refl _ | exact le_slices_stableCmpFunc_int_L2 _ _ _ _ _ _ | exact le_slices_symMergeCmpFunc_int _ _ _ _ _ | refine LeO.bind ?_ (fun _ => ?_) | refine LeO.gd ?_ | refine LeO.bif ?_ ?_ | refine LeO.elim (fun _ => ?_) (fun _ => ?_) | refine LeO.iter (fun _ => ?_))

noncomputable def slices_stableCmpFunc_int_c (n : Int) (cmp : Int × Int × Unit → Option Int) (data : List Int) : Option (List Int) :=
  (iterN (fun x => slices_stableCmpFunc_int_L0_c n cmp x.1 x.2.1 x.2.2) 100000 (0, 20, data)).bind fun s =>
  (slices_insertionSortCmpFunc_int_c s.1 n cmp s.2).bind fun r2 =>
  (iterN (fun x3 => slices_stableCmpFunc_int_L1_c n cmp x3.1 x3.2) 100000 (20, r2)).bind fun s4 =>
  some s4

theorem le_slices_stableCmpFunc_int (n : Int) (cmp : Int × Int × Unit → Option Int) (data : List Int) : LeO (slices_stableCmpFunc_int_c n cmp data) (slices_stableCmpFunc_int n cmp data) := by
  unfold slices_stableCmpFunc_int_c slices_stableCmpFunc_int
  repeat' (first | with_reducible exact LeO.refl _ | exact le_slices_insertionSortCmpFunc_int _ _ _ _ | exact le_slices_stableCmpFunc_int_L0 _ _ _ _ _ | exact le_slices_stableCmpFunc_int_L1 _ _ _ _ | refine LeO.bind ?_ (fun _ => ?_) | refine LeO.gd ?_ | refine LeO.bif ?_ ?_ | refine LeO.elim (fun _ => ?_) (fun _ => ?_) | refine LeO.iter (fun _ => ?_))

noncomputable def slices_SortStableFunc_int_int_c (cmp : Int × Int × Unit → Option Int) (x : List Int) : Option (List Int) :=
  (slices_stableCmpFunc_int_c (x.length : Int) cmp x).bind fun r =>
  some r

theorem le_slices_SortStableFunc_int_int (cmp : Int × Int × Unit → Option Int) (x : List Int) : LeO (slices_SortStableFunc_int_int_c cmp x) (slices_SortStableFunc_int_int cmp x) := by
  unfold slices_SortStableFunc_int_int_c slices_SortStableFunc_int_int
  repeat' (first | with_reducible exact LeO.refl _ | exact le_slices_stableCmpFunc_int _ _ _ | refine LeO.bind ?_ (fun _ => ?_) | refine LeO.gd ?_ | refine LeO.bif ?_ ?_ | refine LeO.elim (fun _ => ?_) (fun _ => ?_) | refine LeO.iter (fun _ => ?_))

noncomputable def round_Shares_c (total : Int) (weights : List Int) : Option (List Int × Int) :=
  bif decide (64 < (weights.length : Int)) then (
   some ([], 4))
  else (
   Option.bind (α := Bool) (
     bif decide (total < 0) then (
      some true)
     else (
      some (decide (1099511627776 < total)))) fun s =>
   bif s then (
    some ([], 1))
   else (
    (iterN (fun x => round_Shares_L0 weights x.1 x.2) 100000 (0, 0)).bind fun s3 =>
    s3.elim (fun s4 =>
     bif decide (s4 = 0) then (
      some ([], 9))
     else (
      gd (makeG 8 (weights.length : Int)) <|
      gd (makeG 8 (weights.length : Int)) <|
      (iterN (fun x2 => round_Shares_L1 total weights s4 x2.1 x2.2.1 x2.2.2.1 x2.2.2.2) 100000 (total, 0, List.replicate (weights.length : Int).toNat 0, List.replicate (weights.length : Int).toNat 0)).bind fun s6 =>
      (slices_SortStableFunc_int_int_c (fun h => (round_Shares_1 h.1 h.2.1 total weights s4).bind fun y => some y) s6.2.2).bind fun r =>
      gd (inR 0 s6.1 r.length) <|
      (iterN (fun x3 => round_Shares_L2 s6 r x3.1 x3.2.1 x3.2.2) 100000 (0, s6.2.1, r.take s6.1.toNat)).bind fun s7 =>
      some (s7, 0)))
    (fun s5 =>
     some (s5.1, s5.2))))

theorem le_round_Shares (total : Int) (weights : List Int) : LeO (round_Shares_c total weights) (round_Shares total weights) := by
  unfold round_Shares_c round_Shares
  repeat' (first | with_reducible exact LeO.refl _ | exact le_slices_SortStableFunc_int_int _ _ | refine LeO.bind ?_ (fun _ => ?_) | refine LeO.gd ?_ | refine LeO.bif ?_ ?_ | refine LeO.elim (fun _ => ?_) (fun _ => ?_) | refine LeO.iter (fun _ => ?_))

noncomputable def round_Root_c (n : Int) : Option (Int) :=
  Option.bind (α := Bool) (
    bif decide (n < 0) then (
     some true)
    else (
     some (decide (4611686018427387904 < n)))) fun s =>
  bif s then (
   some 0)
  else (
   (iterN (fun x => round_Root_L0 n x.1 x.2) 100000 (0, 2147483648)).bind fun s4 =>
   some s4)

theorem le_round_Root (n : Int) : LeO (round_Root_c n) (round_Root n) := by
  unfold round_Root_c round_Root
  repeat' (first | with_reducible exact LeO.refl _ | refine LeO.bind ?_ (fun _ => ?_) | refine LeO.gd ?_ | refine LeO.bif ?_ ?_ | refine LeO.elim (fun _ => ?_) (fun _ => ?_) | refine LeO.iter (fun _ => ?_))

noncomputable def round_RootUp_c (n : Int) : Option (Int) :=
  (round_Root_c n).bind fun r =>
  Option.bind (α := Bool) (
    bif decide (0 < n) then (
     bif decide (n ≤ 4611686018427387904) then (
      some (decide (wi64 (r * r) < n)))
     else (
      some false))
    else (
     some false)) fun s =>
  bif s then (
   some (wi64 (r + 1)))
  else (
   some r)

theorem le_round_RootUp (n : Int) : LeO (round_RootUp_c n) (round_RootUp n) := by
  unfold round_RootUp_c round_RootUp
  repeat' (first | with_reducible exact LeO.refl _ | exact le_round_Root _ | refine LeO.bind ?_ (fun _ => ?_) | refine LeO.gd ?_ | refine LeO.bif ?_ ?_ | refine LeO.elim (fun _ => ?_) (fun _ => ?_) | refine LeO.iter (fun _ => ?_))

noncomputable def keep_Ints_c (a : List Int) (b : List Int) : Option (Bool) :=
  bif !decide ((a.length : Int) = (b.length : Int)) then (
   some false)
  else (
   (iterN (fun x => keep_Ints_L0 a b x) 100000 0).bind fun s =>
   s.elim (fun s2 =>
    some true)
   (fun s3 =>
    some s3))

theorem le_keep_Ints (a : List Int) (b : List Int) : LeO (keep_Ints_c a b) (keep_Ints a b) := by
  unfold keep_Ints_c keep_Ints
  repeat' (first | with_reducible exact LeO.refl _ | refine LeO.bind ?_ (fun _ => ?_) | refine LeO.gd ?_ | refine LeO.bif ?_ ?_ | refine LeO.elim (fun _ => ?_) (fun _ => ?_) | refine LeO.iter (fun _ => ?_))

noncomputable def law01_awake_c : Option (Bool) :=
  (round_Shares_c 5 [2, 0, 3, 3]).bind fun r =>
  (round_Down (-7) 2).bind fun r2 =>
  bif decide (r2 = (-4)) then (
   (round_Up (-7) 2).bind fun r3 =>
   bif decide (r3 = (-3)) then (
    (round_Half 7 2).bind fun r4 =>
    bif decide (r4 = 4) then (
     (round_RootUp_c 8).bind fun r5 =>
     bif decide (r5 = 3) then (
      bif decide (r.2 = 0) then (
       (keep_Ints_c r.1 [1, 0, 2, 2]).bind fun r6 =>
       some r6)
      else (
       some false))
     else (
      some false))
    else (
     some false))
   else (
    some false))
  else (
   some false)

theorem le_law01_awake  : LeO (law01_awake_c) (law01_awake) := by
  unfold law01_awake_c law01_awake
  repeat' (first | with_reducible exact LeO.refl _ | exact le_round_Shares _ _ | exact le_round_RootUp _ | exact le_keep_Ints _ _ | refine LeO.bind ?_ (fun _ => ?_) | refine LeO.gd ?_ | refine LeO.bif ?_ ?_ | refine LeO.elim (fun _ => ?_) (fun _ => ?_) | refine LeO.iter (fun _ => ?_))

theorem awake_true : law01_awake = some true := le_law01_awake _ (by kernel_rfl)
end Go.Proofs.Ytdmfhnpibllfeaa
