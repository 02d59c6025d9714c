/- Functions, evaluated. No condition. -/
import Derived.Test.YtiojagjejddocaaGreatDoorProg
import Derived.Test.YtiojagjejddocaaGreatDoorQu
namespace Go.Proofs.YtiojagjejddocaaGreatDoor
open Go Go.Sq
noncomputable def lots_Totals_L0 (batches : List (Int × List UInt8 × Int × Int)) (most : Int) (v : Int) : Option ((Int × Int) ⊕ Int) :=
  bif decide (v < (batches.length : Int)) then (
   gd (inB v batches.length) <|
   some (.inl (max most ((batches.getD v.toNat (0, ([], (0, 0)))).1), wi64 (v + 1))))
  else (
   some (.inr most))

noncomputable def lots_Totals_L1 (batches : List (Int × List UInt8 × Int × Int)) (lots : List (Int × Int × Int)) (v2 : Int) (out : List Int) : Option ((Int × List Int) ⊕ (List Int)) :=
  bif decide (v2 < (lots.length : Int)) then (
   Option.bind (α := List Int) (
     gd (inB v2 lots.length) <|
     Option.bind (α := Bool × List Int) (
       bif decide ((lots.getD v2.toNat (0, (0, 0))).1 < 0) then (
        some (true, out))
       else (
        some (decide ((batches.length : Int) ≤ (lots.getD v2.toNat (0, (0, 0))).1), out))) fun s2 =>
     bif s2.1 then (
      some s2.2)
     else (
      gd (inB ((lots.getD v2.toNat (0, (0, 0))).1) batches.length) <|
      Option.bind (α := List Int) (
        bif decide (0 ≤ (batches.getD ((lots.getD v2.toNat (0, (0, 0))).1).toNat (0, ([], (0, 0)))).1) then (
         gd (inB ((batches.getD ((lots.getD v2.toNat (0, (0, 0))).1).toNat (0, ([], (0, 0)))).1) s2.2.length) <|
         gd (inB ((batches.getD ((lots.getD v2.toNat (0, (0, 0))).1).toNat (0, ([], (0, 0)))).1) s2.2.length) <|
         some (s2.2.set (((batches.getD ((lots.getD v2.toNat (0, (0, 0))).1).toNat (0, ([], (0, 0)))).1).toNat) (wi64 ((s2.2.getD (((batches.getD ((lots.getD v2.toNat (0, (0, 0))).1).toNat (0, ([], (0, 0)))).1).toNat) 0) + (((lots.getD v2.toNat (0, (0, 0))).2).1)))))
        else (
         some s2.2)) fun s3 =>
      some s3)) fun s4 =>
   some (.inl (wi64 (v2 + 1), s4)))
  else (
   some (.inr out))

noncomputable def lots_Totals (batches : List (Int × List UInt8 × Int × Int)) (lots : List (Int × Int × Int)) : Option (List Int) :=
  (iter (fun x => lots_Totals_L0 batches x.1 x.2) ((-1), 0)).bind fun s =>
  gd (makeG 8 (wi64 (s + 1))) <|
  (iter (fun x2 => lots_Totals_L1 batches lots x2.1 x2.2) (0, List.replicate (wi64 (s + 1)).toNat 0)).bind fun s5 =>
  some s5

noncomputable def fn_lots_Totals : Fun :=
  { f := 17, np := 2, nr := 1,
    ji := ⟨[(0, .one (.data (.sl (.pair (.int .i64) (.pair (.str) tT2))))), (1, .one (.data (.sl (.pair (.int .i64) tT2))))], [], []⟩,
    jo := ⟨[(0, .one (.own 0))], [], [(0, .arr 3 (.int .i64))]⟩,
    tw := fun x => lots_Totals x.1 x.2 }
noncomputable def cx_lots_Totals : Cx := { Γ := types, ow := [], fs := [], N := 60 }
theorem ok_lots_Totals : FunOk Tryz.prog fn_lots_Totals :=
  FunOk.intro (C := cx_lots_Totals) (p := (nn (nn (mm (nn (mm (.mk [] (some (⟨[(0, kk), (1, kk), (5, ii), (12, kk), (13, kk), (14, ii)], [], []⟩, [⟨.x 0, ⟨[(0, kk), (1, kk), (5, ii)], [], []⟩⟩])) .nil .nil) .nil)) (nn (mm (nn (mm (.mk [] (some (⟨[(0, kk), (8, .one (.own 416)), (26, kk), (27, kk), (28, ii)], [], [(416, .arr 3 (.int .i64))]⟩, [⟨.x 2, ⟨[(8, .one (.own 416))], [], [(416, .arr 3 (.int .i64))]⟩⟩])) (nn (nn (mm (.mk [.join [⟨.n, ⟨[(0, kk), (8, .one (.own 416)), (26, kk), (27, kk), (28, kk)], [], [(416, .arr 3 (.int .i64))]⟩⟩]] none (nn (mm (mm (.mk [.join [⟨.n, ⟨[(0, kk), (8, .one (.own 416)), (10, .one (.ptr 176 0)), (26, kk), (27, kk), (28, kk), (41, bb)], [(176, 47, [.keep, .keep, .keep])], [(416, .arr 3 (.int .i64))]⟩⟩]] none .nil .nil) .nil) (nn (nn (.mk [.join [⟨.n, ⟨[(0, kk), (8, .one (.own 416)), (26, kk), (27, kk), (28, kk)], [], [(416, .arr 3 (.int .i64))]⟩⟩]] none .nil .nil))))) .nil) .nil))) .nil) .nil)) .nil))))))
    Tryz.func17 rfl nmr17 rfl rfl rfl rfl types_ok ⟨trivial, trivial⟩ mx (fun x => by kernel_rfl)

noncomputable def law29_LotsSums_L0 (turn : Int) (i : Int) (x : List yT0) (y : List yT0) : Option ((Int × (List yT0) × List yT0) ⊕ ((List yT0) × List yT0)) :=
  bif decide (i < (x.length : Int)) then (
   gd (!decide ((x.length : Int) = 0)) <|
   gd (inB (Int.tmod (wi64 (i + (wi64 turn))) (x.length : Int)) x.length) <|
   gd (fits (y.length + 1) 80) <|
   some (.inl (wi64 (i + 1), x, y ++ [((x.getD ((Int.tmod (wi64 (i + (wi64 turn))) (x.length : Int)).toNat) ([], ([], ([], ([], (0, 0)))))).1, (((x.getD ((Int.tmod (wi64 (i + (wi64 turn))) (x.length : Int)).toNat) ([], ([], ([], ([], (0, 0)))))).2).1, ((((x.getD ((Int.tmod (wi64 (i + (wi64 turn))) (x.length : Int)).toNat) ([], ([], ([], ([], (0, 0)))))).2).2).1, (((((x.getD ((Int.tmod (wi64 (i + (wi64 turn))) (x.length : Int)).toNat) ([], ([], ([], ([], (0, 0)))))).2).2).2).1, ((((((x.getD ((Int.tmod (wi64 (i + (wi64 turn))) (x.length : Int)).toNat) ([], ([], ([], ([], (0, 0)))))).2).2).2).2).1, (((((x.getD ((Int.tmod (wi64 (i + (wi64 turn))) (x.length : Int)).toNat) ([], ([], ([], ([], (0, 0)))))).2).2).2).2).2)))))])))
  else (
   some (.inr (x, y)))

noncomputable def law29_LotsSums_L2 (r5 : List Int × Int × List (List UInt8 × Int × Int × Int × Int)) (s : (List yT0) × List yT0) (i2 : Int) (k : Int) (t2 : List Int) (want2 : List Int) : Option ((Int × List Int × List Int) ⊕ (List Int × List Int)) :=
  bif decide (k < (r5.2.2.length : Int)) then (
   gd (inB k r5.2.2.length) <|
   gd (inB i2 s.1.length) <|
   Option.bind (α := List Int × List Int) (
     bif decide ((r5.2.2.getD k.toNat ([], (0, (0, (0, 0))))).1 = ((s.1.getD i2.toNat ([], ([], ([], ([], (0, 0)))))).2).1) then (
      gd (inB k want2.length) <|
      gd (inB i2 s.1.length) <|
      gd (inB k want2.length) <|
      some (t2, want2.set k.toNat (wi64 ((want2.getD k.toNat 0) + ((((((s.1.getD i2.toNat ([], ([], ([], ([], (0, 0)))))).2).2).2).2).2)))))
     else (
      some (t2, want2))) fun s3 =>
   some (.inl (wi64 (k + 1), s3.1, s3.2)))
  else (
   some (.inr (t2, want2)))

noncomputable def law29_LotsSums_L1 (r5 : List Int × Int × List (List UInt8 × Int × Int × Int × Int)) (s : (List yT0) × List yT0) (i2 : Int) (t : List Int) (want : List Int) : Option ((Int × List Int × List Int) ⊕ (List Int × List Int)) :=
  bif decide (i2 < (s.1.length : Int)) then (
   (iter (fun x3 => law29_LotsSums_L2 r5 s i2 x3.1 x3.2.1 x3.2.2) (0, t, want)).bind fun s4 =>
   some (.inl (wi64 (i2 + 1), s4.1, s4.2)))
  else (
   some (.inr (t, want)))

noncomputable def law29_LotsSums_L3 (k2 : Int) (t3 : List Int) (want3 : List Int) : Option ((Int × List Int × List Int) ⊕ (Unit ⊕ Bool)) :=
  bif decide (k2 < (want3.length : Int)) then (
   Option.bind (α := Bool × List Int × List Int) (
     bif decide (k2 < (t3.length : Int)) then (
      gd (inB k2 t3.length) <|
      gd (inB k2 want3.length) <|
      bif !decide (t3.getD k2.toNat 0 = want3.getD k2.toNat 0) then (
       some (true, t3, want3))
      else (
       bif decide ((t3.length : Int) ≤ k2) then (
        gd (inB k2 want3.length) <|
        some ((!decide (want3.getD k2.toNat 0 = 0)), t3, want3))
       else (
        some (false, t3, want3))))
     else (
      bif decide ((t3.length : Int) ≤ k2) then (
       gd (inB k2 want3.length) <|
       some ((!decide (want3.getD k2.toNat 0 = 0)), t3, want3))
      else (
       some (false, t3, want3)))) fun s6 =>
   bif s6.1 then (
    some (.inr (.inr false)))
   else (
    some (.inl (wi64 (k2 + 1), s6.2.1, s6.2.2))))
  else (
   some (.inr (.inl ())))

noncomputable def law29_LotsSums (l : List Int) (turn : Int) : Option (Bool) :=
  (second_Few l).bind fun r =>
  bif !r then (
   (law29_awake).bind fun r2 =>
   some r2)
  else (
   (keep_New l).bind fun r3 =>
   (keep_Src_Network r3.1 r3.2).bind fun r4 =>
   (keep_Src_Products r4.2.1 r4.2.2).bind fun r5 =>
   (law29_nominations (r4.1.1, (r4.1.2.1, (r4.1.2.2.1, (r4.1.2.2.2.1, (r4.1.2.2.2.2.1, r4.1.2.2.2.2.2))))) r5.2.2 r5.1 r5.2.1).bind fun r6 =>
   (iter (fun x2 => law29_LotsSums_L0 turn x2.1 x2.2.1 x2.2.2) (0, r6.2.2, [])).bind fun s =>
   (lots_Batches (r4.1.1, (r4.1.2.1, (r4.1.2.2.1, (r4.1.2.2.2.1, (r4.1.2.2.2.2.1, r4.1.2.2.2.2.2))))) r5.2.2 s.1 []).bind fun r7 =>
   (lots_Batches (r4.1.1, (r4.1.2.1, (r4.1.2.2.1, (r4.1.2.2.2.1, (r4.1.2.2.2.2.1, r4.1.2.2.2.2.2))))) r5.2.2 s.2 []).bind fun r8 =>
   (ref11_Totals s.1).bind fun r9 =>
   Option.bind (α := Bool) (
     bif !decide (r7.2.2 = 0) then (
      some true)
     else (
      bif !decide (r8.2.2 = 0) then (
       some true)
      else (
       bif !decide (r9.2 = 0) then (
        some true)
       else (
        (ref29_SameBatches r7.1 r8.1).bind fun r10 =>
        bif !r10 then (
         some true)
        else (
         (ref29_Same r7.2.1 r8.2.1).bind fun r11 =>
         bif !r11 then (
          some true)
         else (
          bif !decide ((r7.2.1.length : Int) = (r9.1.length : Int)) then (
           some true)
          else (
           some (!decide ((r7.1.length : Int) = (r7.2.1.length : Int)))))))))) fun s2 =>
   bif s2 then (
    some false)
   else (
    (lots_Totals r7.1 r7.2.1).bind fun r12 =>
    gd (makeG 8 (r5.2.2.length : Int)) <|
    (iter (fun x4 => law29_LotsSums_L1 r5 s x4.1 x4.2.1 x4.2.2) (0, r12, List.replicate (r5.2.2.length : Int).toNat 0)).bind fun s5 =>
    (iter (fun x5 => law29_LotsSums_L3 x5.1 x5.2.1 x5.2.2) (0, s5.1, s5.2)).bind fun s7 =>
    s7.elim (fun s8 =>
     (law29_awake).bind fun r13 =>
     some r13)
    (fun s9 =>
     some s9)))

noncomputable def fn_law29_LotsSums : Fun :=
  { f := 4, np := 2, nr := 1,
    ji := ⟨[(0, .one (.data (.sl (.int .i64)))), (1, .one (.data (.int .u8)))], [], []⟩,
    jo := ⟨[(0, bb)], [], []⟩,
    tw := fun x => law29_LotsSums x.1 x.2 }
noncomputable def cx_law29_LotsSums : Cx := { Γ := types, ow := [], fs := [fn_second_Few, fn_law29_awake, fn_keep_New, fn_keep_Src_Network, fn_keep_Src_Products, fn_law29_nominations, fn_lots_Batches, fn_ref11_Totals, fn_ref29_SameBatches, fn_ref29_Same, fn_lots_Totals], N := 191 }
theorem ok_law29_LotsSums : FunOk Tryz.prog fn_law29_LotsSums :=
  FunOk.intro (C := cx_law29_LotsSums) (p := (nn (nn (nn (nn (nn (mm (.mk [.fz [7]] none .nil .nil) (nn (mm (nn (mm (.mk [] (some (⟨[(1, kk), (6, .one (.ptr 112 0)), (7, kk), (8, .one (.own 608)), (9, .one (.own 171)), (10, ii)], [(112, 32, [.keep, .keep, .keep, .keep, .keep, .keep])], [(608, .arr 51 tT0), (171, .arr 51 tT0)]⟩, [⟨.x 0, ⟨[(6, .one (.ptr 112 0)), (7, kk), (8, .one (.own 608)), (9, .one (.own 171))], [(112, 32, [.keep, .keep, .keep, .keep, .keep, .keep])], [(608, .arr 51 tT0), (171, .arr 51 tT0)]⟩⟩])) .nil .nil) .nil)) (mm (.mk [.fz [8]] none .nil .nil) (mm (.mk [.fz [9]] none .nil .nil) (nn (mm (mm (.mk [.join [⟨.n, ⟨[(7, kk), (8, kk), (11, kk), (12, kk), (113, bb)], [], []⟩⟩]] none .nil .nil) .nil) (nn (nn (mm (nn (mm (.mk [] (some (⟨[(7, kk), (8, kk), (19, .one (.own 1872)), (20, .one (.own 1920)), (21, ii)], [], [(1872, .arr 3 (.int .i64)), (1920, .arr 3 (.int .i64))]⟩, [⟨.x 2, ⟨[(19, .one (.own 1872)), (20, .one (.own 1920))], [], [(1872, .arr 3 (.int .i64)), (1920, .arr 3 (.int .i64))]⟩⟩])) (nn (mm (mm (nn (mm (.mk [] (some (⟨[(7, kk), (8, kk), (19, .one (.own 1872)), (20, .one (.own 1920)), (21, kk), (22, ii)], [], [(1872, .arr 3 (.int .i64)), (1920, .arr 3 (.int .i64))]⟩, [⟨.x 4, ⟨[(7, kk), (8, kk), (19, .one (.own 1872)), (20, .one (.own 1920)), (21, kk)], [], [(1872, .arr 3 (.int .i64)), (1920, .arr 3 (.int .i64))]⟩⟩])) (nn (mm (mm (nn (.mk [.join [⟨.n, ⟨[(7, kk), (8, kk), (19, .one (.own 1872)), (20, .one (.own 1920)), (21, kk), (22, kk)], [], [(1872, .arr 3 (.int .i64)), (1920, .arr 3 (.int .i64))]⟩⟩]] none .nil .nil)) .nil) .nil)) .nil) .nil)) .nil) .nil)) .nil) .nil)) (mm (nn (mm (.mk [] (some (⟨[(19, .one (.own 1872)), (20, .one (.own 1920)), (23, ii)], [], [(1872, .arr 3 (.int .i64)), (1920, .arr 3 (.int .i64))]⟩, [⟨.x 6, ⟨[], [], []⟩⟩, ⟨.r, ⟨[(4, bb)], [], []⟩⟩])) (nn (mm (mm (mm (.mk [.join [⟨.n, ⟨[(19, .one (.own 1872)), (20, .one (.own 1920)), (23, kk), (189, bb)], [], [(1872, .arr 3 (.int .i64)), (1920, .arr 3 (.int .i64))]⟩⟩]] none .nil .nil) .nil) .nil) .nil)) .nil) .nil)) .nil)))))))))))))))))
    Tryz.func4 rfl nmr4 rfl rfl rfl rfl types_ok ⟨⟨ok_second_Few, ok_law29_awake, ok_keep_New, ok_keep_Src_Network, ok_keep_Src_Products, ok_law29_nominations, ok_lots_Batches, ok_ref11_Totals, ok_ref29_SameBatches, ok_ref29_Same, ok_lots_Totals, trivial⟩, trivial⟩ mx (fun x => by kernel_rfl)


end Go.Proofs.YtiojagjejddocaaGreatDoor
