/- Functions, evaluated. No condition. -/
import Derived.Test.YtiojagjejddocaaGreatDoorProg
import Derived.Test.YtiojagjejddocaaGreatDoorQu
namespace Go.Proofs.YtiojagjejddocaaGreatDoor
open Go Go.Sq
noncomputable def keep_Src_Product (n : Int) (s : List Int) (s2 : Int) : Option ((List UInt8 × Int × Int × Int × Int) × List Int × Int) :=
  (keep_name [112] n).bind fun r =>
  (keep_Src_Range 400 1200 s s2).bind fun r2 =>
  (keep_Src_Pick [0, 830, 2000, 1] r2.2.1 r2.2.2).bind fun r3 =>
  (keep_Src_Pick [0, 800, 5000, 3] r3.2.1 r3.2.2).bind fun r4 =>
  (keep_Src_Pick [1, 700, 1000, 1300, 2000] r4.2.1 r4.2.2).bind fun r5 =>
  some ((r, (r2.1, (r3.1, (r4.1, r5.1)))), r5.2.1, r5.2.2)

noncomputable def fn_keep_Src_Product : Fun :=
  { f := 32, np := 2, nr := 1,
    ji := { regs := [(0, .one (.ptr 0 0)), (1, .one (.data (.int .i64)))], vars := [(0, 76, [.data (.sl (.int .i64)), .data (.int .i64)])], arrs := [] },
    jo := { regs := [(0, .one (.data (.pair (.str) (.pair (.int .i64) (.pair (.int .i64) tT2)))))], vars := [(0, 76, [.data (.sl (.int .i64)), .data (.int .i64)])], arrs := [] },
    tw := fun x => keep_Src_Product x.1 x.2.1 x.2.2 }
noncomputable def cx_keep_Src_Product : Cx := { Γ := types, ow := [], fs := [fn_keep_name, fn_keep_Src_Range, fn_keep_Src_Pick], N := 19 }
theorem ok_keep_Src_Product : FunOk Tryz.prog fn_keep_Src_Product :=
  FunOk.intro (C := cx_keep_Src_Product) (p := .nil)
    Tryz.func32 rfl nmr32 rfl rfl rfl rfl types_ok ⟨⟨ok_keep_name, ok_keep_Src_Range, ok_keep_Src_Pick, trivial⟩, trivial⟩ mx (fun x => by kernel_rfl)

noncomputable def keep_Src_Products_L0 (i : Int) (s3 : List Int) (s4 : Int) (out : List (List UInt8 × Int × Int × Int × Int)) : Option ((Int × List Int × Int × List (List UInt8 × Int × Int × Int × Int)) ⊕ (List Int × Int × List (List UInt8 × Int × Int × Int × Int))) :=
  bif decide (0 < i) then (
   (keep_Src_Product (out.length : Int) s3 s4).bind fun r2 =>
   gd (fits (out.length + 1) 48) <|
   some (.inl (wi64 (i - 1), r2.2.1, r2.2.2, out ++ [(r2.1.1, (r2.1.2.1, (r2.1.2.2.1, (r2.1.2.2.2.1, r2.1.2.2.2.2))))])))
  else (
   some (.inr (s3, s4, out)))

noncomputable def keep_Src_Products (s : List Int) (s2 : Int) : Option (List Int × Int × List (List UInt8 × Int × Int × Int × Int)) :=
  (keep_Src_Range 1 4 s s2).bind fun r =>
  (iter (fun x => keep_Src_Products_L0 x.1 x.2.1 x.2.2.1 x.2.2.2) (r.1, r.2.1, r.2.2, [])).bind fun s5 =>
  some (s5.1, s5.2.1, s5.2.2)

noncomputable def fn_keep_Src_Products : Fun :=
  { f := 10, np := 1, nr := 1,
    ji := { regs := [(0, .one (.ptr 0 0))], vars := [(0, 76, [.data (.sl (.int .i64)), .data (.int .i64)])], arrs := [] },
    jo := { regs := [(0, .one (.own 1))], vars := [(0, 76, [.data (.sl (.int .i64)), .data (.int .i64)])], arrs := [(1, .arr 44 (.pair (.str) (.pair (.int .i64) (.pair (.int .i64) tT2))))] },
    tw := fun x => keep_Src_Products x.1 x.2 }
noncomputable def cx_keep_Src_Products : Cx := { Γ := types, ow := [], fs := [fn_keep_Src_Range, fn_keep_Src_Product], N := 19 }
theorem ok_keep_Src_Products : FunOk Tryz.prog fn_keep_Src_Products :=
  FunOk.intro (C := cx_keep_Src_Products) (p := (.mk [] none .nil (.mk [] none .nil (.mk [] none (.mk [] none .nil (.mk [] none (.mk [] (some ({ regs := [(0, .one (.ptr 0 0)), (3, .one (.own 75)), (4, .one (.data (.int .i64)))], vars := [(0, 76, [.data (.sl (.int .i64)), .data (.int .i64)])], arrs := [(75, .arr 44 (.pair (.str) (.pair (.int .i64) (.pair (.int .i64) tT2))))] }, [{ e := .x 0, j := { regs := [(3, .one (.own 75))], vars := [(0, 76, [.data (.sl (.int .i64)), .data (.int .i64)])], arrs := [(75, .arr 44 (.pair (.str) (.pair (.int .i64) (.pair (.int .i64) tT2))))] } }])) .nil .nil) .nil)) .nil))))
    Tryz.func10 rfl nmr10 rfl rfl rfl rfl types_ok ⟨⟨ok_keep_Src_Range, ok_keep_Src_Product, trivial⟩, trivial⟩ mx (fun x => by kernel_rfl)

noncomputable def keep_Src_Text (l : List (List UInt8)) (s : List Int) (s2 : Int) : Option (List UInt8 × List Int × Int) :=
  (keep_Src_N (l.length : Int) s s2).bind fun r =>
  gd (inB r.1 l.length) <|
  some (l.getD r.1.toNat [], r.2.1, r.2.2)

noncomputable def fn_keep_Src_Text : Fun :=
  { f := 45, np := 2, nr := 1,
    ji := { regs := [(0, .one (.ptr 0 0)), (1, .one (.data (.sl (.str))))], vars := [(0, 76, [.data (.sl (.int .i64)), .data (.int .i64)])], arrs := [] },
    jo := { regs := [(0, .one (.data (.str)))], vars := [(0, 76, [.data (.sl (.int .i64)), .data (.int .i64)])], arrs := [] },
    tw := fun x => keep_Src_Text x.1 x.2.1 x.2.2 }
noncomputable def cx_keep_Src_Text : Cx := { Γ := types, ow := [], fs := [fn_keep_Src_N], N := 12 }
theorem ok_keep_Src_Text : FunOk Tryz.prog fn_keep_Src_Text :=
  FunOk.intro (C := cx_keep_Src_Text) (p := .nil)
    Tryz.func45 rfl nmr45 rfl rfl rfl rfl types_ok ⟨⟨ok_keep_Src_N, trivial⟩, trivial⟩ mx (fun x => by kernel_rfl)

noncomputable def law29_nominations_L0 (n : List (List UInt8) × List yT1 × List (List UInt8 × Int × Int) × List (List UInt8 × Int × Int × Int × Int) × Int × Int) (products : List (List UInt8 × Int × Int × Int × Int)) (i : Int) (s3 : List Int) (s4 : Int) (l : List yT0) : Option ((Int × List Int × Int × List yT0) ⊕ (List Int × Int × List yT0)) :=
  bif decide (0 < i) then (
   (keep_Src_Text [[97], [98], [99]] s3 s4).bind fun r2 =>
   (keep_Src_N (products.length : Int) r2.2.1 r2.2.2).bind fun r3 =>
   gd (inB r3.1 products.length) <|
   (keep_Src_N (n.2.2.1.length : Int) r3.2.1 r3.2.2).bind fun r4 =>
   gd (inB r4.1 n.2.2.1.length) <|
   (keep_Src_N 3 r4.2.1 r4.2.2).bind fun r5 =>
   (keep_Src_Range 1 500 r5.2.1 r5.2.2).bind fun r6 =>
   (keep_Src_N (n.2.2.1.length : Int) r6.2.1 r6.2.2).bind fun r7 =>
   gd (inB r7.1 n.2.2.1.length) <|
   Option.bind (α := List UInt8 × List UInt8 × List yT0) (
     bif decide ((n.2.2.1.getD r7.1.toNat ([], (0, 0))).1 = (n.2.2.1.getD r4.1.toNat ([], (0, 0))).1) then (
      gd (inB 0 n.2.2.1.length) <|
      gd (inB (wi64 ((n.2.2.1.length : Int) - 1)) n.2.2.1.length) <|
      some ((n.2.2.1.getD (wi64 ((n.2.2.1.length : Int) - 1)).toNat ([], (0, 0))).1, (n.2.2.1.getD 0 ([], (0, 0))).1, l))
     else (
      some ((n.2.2.1.getD r4.1.toNat ([], (0, 0))).1, (n.2.2.1.getD r7.1.toNat ([], (0, 0))).1, l))) fun s5 =>
   gd (fits (s5.2.2.length + 1) 80) <|
   some (.inl (wi64 (i - 1), r7.2.1, r7.2.2, s5.2.2 ++ [(r2.1, ((products.getD r3.1.toNat ([], (0, (0, (0, 0))))).1, (s5.1, (s5.2.1, (r5.1, r6.1)))))])))
  else (
   some (.inr (s3, s4, l)))

noncomputable def law29_nominations (n : List (List UInt8) × List yT1 × List (List UInt8 × Int × Int) × List (List UInt8 × Int × Int × Int × Int) × Int × Int) (products : List (List UInt8 × Int × Int × Int × Int)) (s : List Int) (s2 : Int) : Option (List Int × Int × List yT0) :=
  (keep_Src_N 14 s s2).bind fun r =>
  (iter (fun x => law29_nominations_L0 n products x.1 x.2.1 x.2.2.1 x.2.2.2) (r.1, r.2.1, r.2.2, [])).bind fun s6 =>
  some (s6.1, s6.2.1, s6.2.2)

noncomputable def fn_law29_nominations : Fun :=
  { f := 12, np := 3, nr := 1,
    ji := { regs := [(0, .one (.ptr 0 0)), (1, .one (.data (.pair (.sl (.str)) (.pair (.sl (.pair (.str) (.pair (.int .i64) (.pair (.int .i64) (.pair (.int .i64) (.pair (.int .i64) (.pair (.int .i64) (.sl (.pair (.int .i64) tT2))))))))) (.pair (.sl (.pair (.str) tT2)) (.pair (.sl (.pair (.str) (.pair (.int .i64) (.pair (.int .i64) tT2)))) tT2)))))), (2, .one (.data (.sl (.pair (.str) (.pair (.int .i64) (.pair (.int .i64) tT2))))))], vars := [(0, 76, [.data (.sl (.int .i64)), .data (.int .i64)])], arrs := [] },
    jo := { regs := [(0, .one (.own 1))], vars := [(0, 76, [.data (.sl (.int .i64)), .data (.int .i64)])], arrs := [(1, .arr 51 tT0)] },
    tw := fun x => law29_nominations x.1 x.2.1 x.2.2.1 x.2.2.2 }
noncomputable def cx_law29_nominations : Cx := { Γ := types, ow := [], fs := [fn_keep_Src_N, fn_keep_Src_Text, fn_keep_Src_Range], N := 79 }
theorem ok_law29_nominations : FunOk Tryz.prog fn_law29_nominations :=
  FunOk.intro (C := cx_law29_nominations) (p := (.mk [] none .nil (.mk [] none .nil (.mk [] none (.mk [] none .nil (.mk [] none (.mk [] (some ({ regs := [(0, .one (.ptr 0 0)), (2, .one .keep), (4, .one (.ptr 80 0)), (7, .one (.own 139)), (8, .one (.data (.int .i64)))], vars := [(0, 76, [.data (.sl (.int .i64)), .data (.int .i64)]), (80, 32, [.keep, .keep, .keep, .keep, .keep, .keep])], arrs := [(139, .arr 51 tT0)] }, [{ e := .x 0, j := { regs := [(7, .one (.own 139))], vars := [(0, 76, [.data (.sl (.int .i64)), .data (.int .i64)])], arrs := [(139, .arr 51 tT0)] } }])) (.mk [] none .nil (.mk [] none (.mk [] none (.mk [] none .nil (.mk [] none .nil (.mk [] none (.mk [] none .nil (.mk [.join [{ e := .n, j := { regs := [(0, .one (.ptr 0 0)), (2, .one .keep), (4, .one (.ptr 80 0)), (7, .one (.own 139)), (8, .one .keep), (9, .one (.ptr 160 0))], vars := [(0, 76, [.keep, .keep]), (80, 32, [.keep, .keep, .keep, .keep, .keep, .keep]), (160, 51, [.keep, .keep, .data (.str), .data (.str), .keep, .keep])], arrs := [(139, .arr 51 tT0)] } }]] none .nil .nil)) .nil))) .nil) .nil)) .nil) .nil)) .nil))))
    Tryz.func12 rfl nmr12 rfl rfl rfl rfl types_ok ⟨⟨ok_keep_Src_N, ok_keep_Src_Text, ok_keep_Src_Range, trivial⟩, trivial⟩ mx (fun x => by kernel_rfl)

noncomputable def lots_Of_L0 (batches : List (Int × List UInt8 × Int × Int)) (lots : List (Int × Int × Int)) (port : Int) (v : Int) (out : List (Int × Int × Int)) : Option ((Int × List (Int × Int × Int)) ⊕ (List (Int × Int × Int))) :=
  bif decide (v < (lots.length : Int)) then (
   gd (inB v lots.length) <|
   Option.bind (α := Bool × List (Int × Int × Int)) (
     bif decide (0 ≤ (lots.getD v.toNat (0, (0, 0))).1) then (
      bif decide ((lots.getD v.toNat (0, (0, 0))).1 < (batches.length : Int)) then (
       gd (inB ((lots.getD v.toNat (0, (0, 0))).1) batches.length) <|
       some (decide ((((batches.getD ((lots.getD v.toNat (0, (0, 0))).1).toNat (0, ([], (0, 0)))).2).2).1 = port), out))
      else (
       some (false, out)))
     else (
      some (false, out))) fun s =>
   Option.bind (α := List (Int × Int × Int)) (
     bif s.1 then (
      gd (fits (s.2.length + 1) 24) <|
      some (s.2 ++ [((lots.getD v.toNat (0, (0, 0))).1, (((lots.getD v.toNat (0, (0, 0))).2).1, ((lots.getD v.toNat (0, (0, 0))).2).2))]))
     else (
      some s.2)) fun s2 =>
   some (.inl (wi64 (v + 1), s2)))
  else (
   some (.inr out))

noncomputable def lots_Of (batches : List (Int × List UInt8 × Int × Int)) (lots : List (Int × Int × Int)) (port : Int) : Option (List (Int × Int × Int)) :=
  (iter (fun x => lots_Of_L0 batches lots port x.1 x.2) (0, [])).bind fun s3 =>
  some s3

noncomputable def fn_lots_Of : Fun :=
  { f := 13, np := 3, nr := 1,
    ji := { regs := [(0, .one (.data (.sl (.pair (.int .i64) (.pair (.str) tT2))))), (1, .one (.data (.sl (.pair (.int .i64) tT2)))), (2, .one (.data (.int .i64)))], vars := [], arrs := [] },
    jo := { regs := [(0, .one (.own 0))], vars := [], arrs := [(0, .arr 47 (.pair (.int .i64) tT2))] },
    tw := fun x => lots_Of x.1 x.2.1 x.2.2 }
noncomputable def cx_lots_Of : Cx := { Γ := types, ow := [], fs := [], N := 42 }
theorem ok_lots_Of : FunOk Tryz.prog fn_lots_Of :=
  FunOk.intro (C := cx_lots_Of) (p := (.mk [] none .nil (.mk [] none .nil (.mk [] none (.mk [] none .nil (.mk [] none (.mk [] (some ({ regs := [(0, .one .keep), (2, .one .keep), (7, .one (.own 139)), (10, .one .keep), (11, .one .keep), (12, .one (.data (.int .i64)))], vars := [], arrs := [(139, .arr 47 (.pair (.int .i64) tT2))] }, [{ e := .x 0, j := { regs := [(7, .one (.own 139))], vars := [], arrs := [(139, .arr 47 (.pair (.int .i64) tT2))] } }])) (.mk [] none .nil (.mk [] none .nil (.mk [] none (.mk [] none (.mk [] none .nil (.mk [] none (.mk [.join [{ e := .n, j := { regs := [(0, .one .keep), (2, .one .keep), (7, .one (.own 139)), (9, .one (.ptr 160 0)), (10, .one .keep), (11, .one .keep), (12, .one .keep), (35, .one (.data (.bool)))], vars := [(160, 47, [.keep, .keep, .keep])], arrs := [(139, .arr 47 (.pair (.int .i64) tT2))] } }]] none .nil .nil) (.mk [.join [{ e := .n, j := { regs := [(0, .one .keep), (2, .one .keep), (7, .one (.own 139)), (10, .one .keep), (11, .one .keep), (12, .one .keep)], vars := [], arrs := [(139, .arr 47 (.pair (.int .i64) tT2))] } }]] none .nil .nil))) .nil) .nil))) .nil) .nil)) .nil))))
    Tryz.func13 rfl nmr13 rfl rfl rfl rfl types_ok ⟨trivial, trivial⟩ mx (fun x => by kernel_rfl)

noncomputable def law29_LotsAll_L1 (r7 : (List (Int × List UInt8 × Int × Int)) × (List (Int × Int × Int)) × Int) (i : Int) (last : Int) (k : Int) (seen2 : List Int) (x : List (Int × Int × Int)) : Option ((Int × Int × List Int × List (Int × Int × Int)) ⊕ ((List Int) ⊕ Bool)) :=
  bif decide (k < (x.length : Int)) then (
   gd (inB k x.length) <|
   Option.bind (α := Bool × List Int × List (Int × Int × Int)) (
     bif decide ((x.getD k.toNat (0, (0, 0))).1 ≤ last) then (
      some (true, seen2, x))
     else (
      bif decide ((r7.2.1.length : Int) ≤ (x.getD k.toNat (0, (0, 0))).1) then (
       some (true, seen2, x))
      else (
       gd (inB ((x.getD k.toNat (0, (0, 0))).1) r7.2.1.length) <|
       gd (inB k x.length) <|
       bif !(decide ((r7.2.1.getD ((x.getD k.toNat (0, (0, 0))).1).toNat (0, (0, 0))).1 = (x.getD k.toNat (0, (0, 0))).1) && (decide (((r7.2.1.getD ((x.getD k.toNat (0, (0, 0))).1).toNat (0, (0, 0))).2).1 = ((x.getD k.toNat (0, (0, 0))).2).1) && decide (((r7.2.1.getD ((x.getD k.toNat (0, (0, 0))).1).toNat (0, (0, 0))).2).2 = ((x.getD k.toNat (0, (0, 0))).2).2))) then (
        some (true, seen2, x))
       else (
        gd (inB ((x.getD k.toNat (0, (0, 0))).1) r7.1.length) <|
        some ((!decide ((((r7.1.getD ((x.getD k.toNat (0, (0, 0))).1).toNat (0, ([], (0, 0)))).2).2).1 = i)), seen2, x))))) fun s =>
   bif s.1 then (
    some (.inr (.inr false)))
   else (
    gd (inB ((x.getD k.toNat (0, (0, 0))).1) s.2.1.length) <|
    gd (inB ((x.getD k.toNat (0, (0, 0))).1) s.2.1.length) <|
    some (.inl ((x.getD k.toNat (0, (0, 0))).1, wi64 (k + 1), s.2.1.set (((x.getD k.toNat (0, (0, 0))).1).toNat) (wi64 ((s.2.1.getD (((x.getD k.toNat (0, (0, 0))).1).toNat) 0) + 1)), s.2.2))))
  else (
   some (.inr (.inl seen2)))

noncomputable def law29_LotsAll_L0 (r4 : (List (List UInt8) × List yT1 × List (List UInt8 × Int × Int) × List (List UInt8 × Int × Int × Int × Int) × Int × Int) × List Int × Int) (r7 : (List (Int × List UInt8 × Int × Int)) × (List (Int × Int × Int)) × Int) (i : Int) (seen : List Int) : Option ((Int × List Int) ⊕ ((List Int) ⊕ Bool)) :=
  bif decide (i < (r4.1.2.2.1.length : Int)) then (
   (lots_Of r7.1 r7.2.1 i).bind fun r8 =>
   (iter (fun x2 => law29_LotsAll_L1 r7 i x2.1 x2.2.1 x2.2.2.1 x2.2.2.2) ((-1), 0, seen, r8)).bind fun s2 =>
   s2.elim (fun s3 =>
    some (.inl (wi64 (i + 1), s3)))
   (fun s4 =>
    some (.inr (.inr s4))))
  else (
   some (.inr (.inl seen)))

noncomputable def law29_LotsAll_L2 (i2 : Int) (seen3 : List Int) : Option ((Int × List Int) ⊕ (Unit ⊕ Bool)) :=
  bif decide (i2 < (seen3.length : Int)) then (
   gd (inB i2 seen3.length) <|
   bif !decide (seen3.getD i2.toNat 0 = 1) then (
    some (.inr (.inr false)))
   else (
    some (.inl (wi64 (i2 + 1), seen3))))
  else (
   some (.inr (.inl ())))

noncomputable def law29_LotsAll (l : List Int) : Option (Bool) :=
  (second_Few l).bind fun r =>
  bif !r then (
   (law29_awake).bind fun r2 =>
   some r2)
  else (
   (keep_New l).bind fun r3 =>
   (keep_Src_Network r3.1 r3.2).bind fun r4 =>
   (keep_Src_Products r4.2.1 r4.2.2).bind fun r5 =>
   (law29_nominations (r4.1.1, (r4.1.2.1, (r4.1.2.2.1, (r4.1.2.2.2.1, (r4.1.2.2.2.2.1, r4.1.2.2.2.2.2))))) r5.2.2 r5.1 r5.2.1).bind fun r6 =>
   gd (inB 0 r5.2.2.length) <|
   (lots_Batches (r4.1.1, (r4.1.2.1, (r4.1.2.2.1, (r4.1.2.2.2.1, (r4.1.2.2.2.2.1, r4.1.2.2.2.2.2))))) r5.2.2 r6.2.2 [(r5.2.2.getD 0 ([], (0, (0, (0, 0))))).1]).bind fun r7 =>
   bif !decide (r7.2.2 = 0) then (
    some false)
   else (
    gd (makeG 8 (r7.2.1.length : Int)) <|
    (iter (fun x3 => law29_LotsAll_L0 r4 r7 x3.1 x3.2) (0, List.replicate (r7.2.1.length : Int).toNat 0)).bind fun s5 =>
    s5.elim (fun s6 =>
     (iter (fun x4 => law29_LotsAll_L2 x4.1 x4.2) (0, s6)).bind fun s8 =>
     s8.elim (fun s9 =>
      (law29_awake).bind fun r9 =>
      some r9)
     (fun s10 =>
      some s10))
    (fun s7 =>
     some s7)))

noncomputable def fn_law29_LotsAll : Fun :=
  { f := 3, np := 1, nr := 1,
    ji := { regs := [(0, .one (.data (.sl (.int .i64))))], vars := [], arrs := [] },
    jo := { regs := [(0, .one (.data (.bool)))], vars := [], arrs := [] },
    tw := fun x => law29_LotsAll x }
noncomputable def cx_law29_LotsAll : Cx := { Γ := types, ow := [], fs := [fn_second_Few, fn_law29_awake, fn_keep_New, fn_keep_Src_Network, fn_keep_Src_Products, fn_law29_nominations, fn_lots_Batches, fn_lots_Of], N := 117 }
theorem ok_law29_LotsAll : FunOk Tryz.prog fn_law29_LotsAll :=
  FunOk.intro (C := cx_law29_LotsAll) (p := (.mk [] none .nil (.mk [] none .nil (.mk [] none .nil (.mk [] none .nil (.mk [] none .nil (.mk [] none (.mk [.fz [5]] none .nil .nil) (.mk [] none .nil (.mk [] none .nil (.mk [] none (.mk [] none .nil (.mk [] none (.mk [] (some ({ regs := [(4, .one (.ptr 80 0)), (6, .one .keep), (7, .one .keep), (9, .one (.own 752)), (10, .one (.data (.int .i64)))], vars := [(80, 32, [.keep, .keep, .keep, .keep, .keep, .keep])], arrs := [(752, .arr 3 (.int .i64))] }, [{ e := .x 0, j := { regs := [(9, .one (.own 752))], vars := [], arrs := [(752, .arr 3 (.int .i64))] } }, { e := .r, j := { regs := [(2, .one (.data (.bool)))], vars := [], arrs := [] } }])) (.mk [] none .nil (.mk [] none (.mk [] none (.mk [] none .nil (.mk [] none .nil (.mk [] none .nil (.mk [] none (.mk [] (some ({ regs := [(4, .one (.ptr 80 0)), (6, .one .keep), (7, .one .keep), (9, .one (.own 752)), (10, .one .keep), (11, .one (.own 928)), (12, .one (.data (.int .i64))), (13, .one (.data (.int .i64)))], vars := [(80, 32, [.keep, .keep, .keep, .keep, .keep, .keep])], arrs := [(752, .arr 3 (.int .i64)), (928, .arr 47 (.pair (.int .i64) tT2))] }, [{ e := .x 2, j := { regs := [(4, .one (.ptr 80 0)), (6, .one .keep), (7, .one .keep), (9, .one (.own 752)), (10, .one .keep)], vars := [(80, 32, [.keep, .keep, .keep, .keep, .keep, .keep])], arrs := [(752, .arr 3 (.int .i64))] } }, { e := .r, j := { regs := [(2, .one (.data (.bool)))], vars := [], arrs := [] } }])) (.mk [] none .nil (.mk [] none (.mk [] none (.mk [] none .nil (.mk [] none (.mk [] none (.mk [.join [{ e := .n, j := { regs := [(4, .one (.ptr 80 0)), (6, .one .keep), (7, .one .keep), (9, .one (.own 752)), (10, .one .keep), (11, .one (.own 928)), (13, .one .keep), (14, .one .keep), (97, .one (.data (.bool)))], vars := [(80, 32, [.keep, .keep, .keep, .keep, .keep, .keep])], arrs := [(752, .arr 3 (.int .i64)), (928, .arr 47 (.pair (.int .i64) tT2))] } }]] none .nil .nil) .nil) .nil)) .nil) .nil)) .nil) .nil)))) .nil) .nil)) .nil) .nil)) (.mk [] none (.mk [] none .nil (.mk [] none (.mk [] (some ({ regs := [(9, .one (.own 752)), (15, .one (.data (.int .i64)))], vars := [], arrs := [(752, .arr 3 (.int .i64))] }, [{ e := .x 4, j := { regs := [], vars := [], arrs := [] } }, { e := .r, j := { regs := [(2, .one (.data (.bool)))], vars := [], arrs := [] } }])) .nil .nil) .nil)) .nil)))))))))))
    Tryz.func3 rfl nmr3 rfl rfl rfl rfl types_ok ⟨⟨ok_second_Few, ok_law29_awake, ok_keep_New, ok_keep_Src_Network, ok_keep_Src_Products, ok_law29_nominations, ok_lots_Batches, ok_lots_Of, trivial⟩, trivial⟩ mx (fun x => by kernel_rfl)


end Go.Proofs.YtiojagjejddocaaGreatDoor
