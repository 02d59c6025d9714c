/- Functions, evaluated. No condition. -/
import Derived.Test.YtiojagjejddocaaDoorProg
import Derived.Test.YtiojagjejddocaaDoorQu
namespace Go.Proofs.YtiojagjejddocaaDoor
open Go Go.Sq
noncomputable def slices_partitionCmpFunc_lots_made_L0 (a : Int) (b : Int) (cmp : ((List UInt8 × List UInt8 × List UInt8 × List UInt8 × Int × Int) × (Int × List UInt8 × Int × Int) × Int) × ((List UInt8 × List UInt8 × List UInt8 × List UInt8 × Int × Int) × (Int × List UInt8 × Int × Int) × Int) × Unit → Option Int) (i : Int) (data2 : List ((List UInt8 × List UInt8 × List UInt8 × List UInt8 × Int × Int) × (Int × List UInt8 × Int × Int) × Int)) : Option ((Int × List ((List UInt8 × List UInt8 × List UInt8 × List UInt8 × Int × Int) × (Int × List UInt8 × Int × Int) × Int)) ⊕ (Int × List ((List UInt8 × List UInt8 × List UInt8 × List UInt8 × Int × Int) × (Int × List UInt8 × Int × Int) × Int))) :=
  Option.bind (α := Bool × List ((List UInt8 × List UInt8 × List UInt8 × List UInt8 × Int × Int) × (Int × List UInt8 × Int × Int) × Int)) (
    bif decide (i ≤ wi64 (b - 1)) then (
     gd (inB i data2.length) <|
     gd (inB a data2.length) <|
     (cmp (data2.getD i.toNat (([], ([], ([], ([], (0, 0))))), ((0, ([], (0, 0))), 0)), data2.getD a.toNat (([], ([], ([], ([], (0, 0))))), ((0, ([], (0, 0))), 0)), ())).bind fun r =>
     some (decide (r < 0), data2))
    else (
     some (false, data2))) fun s =>
  bif s.1 then (
   some (.inl (wi64 (i + 1), s.2)))
  else (
   some (.inr (i, s.2)))

noncomputable def slices_partitionCmpFunc_lots_made_L1 (a : Int) (cmp : ((List UInt8 × List UInt8 × List UInt8 × List UInt8 × Int × Int) × (Int × List UInt8 × Int × Int) × Int) × ((List UInt8 × List UInt8 × List UInt8 × List UInt8 × Int × Int) × (Int × List UInt8 × Int × Int) × Int) × Unit → Option Int) (s2 : Int × List ((List UInt8 × List UInt8 × List UInt8 × List UInt8 × Int × Int) × (Int × List UInt8 × Int × Int) × Int)) (j : Int) (data3 : List ((List UInt8 × List UInt8 × List UInt8 × List UInt8 × Int × Int) × (Int × List UInt8 × Int × Int) × Int)) : Option ((Int × List ((List UInt8 × List UInt8 × List UInt8 × List UInt8 × Int × Int) × (Int × List UInt8 × Int × Int) × Int)) ⊕ (Int × List ((List UInt8 × List UInt8 × List UInt8 × List UInt8 × Int × Int) × (Int × List UInt8 × Int × Int) × Int))) :=
  Option.bind (α := Bool × List ((List UInt8 × List UInt8 × List UInt8 × List UInt8 × Int × Int) × (Int × List UInt8 × Int × Int) × Int)) (
    bif decide (s2.1 ≤ j) then (
     gd (inB j data3.length) <|
     gd (inB a data3.length) <|
     (cmp (data3.getD j.toNat (([], ([], ([], ([], (0, 0))))), ((0, ([], (0, 0))), 0)), data3.getD a.toNat (([], ([], ([], ([], (0, 0))))), ((0, ([], (0, 0))), 0)), ())).bind fun r2 =>
     some ((!(decide (r2 < 0))), data3))
    else (
     some (false, data3))) fun s3 =>
  bif s3.1 then (
   some (.inl (wi64 (j - 1), s3.2)))
  else (
   some (.inr (j, s3.2)))

noncomputable def slices_partitionCmpFunc_lots_made_L3 (a : Int) (cmp : ((List UInt8 × List UInt8 × List UInt8 × List UInt8 × Int × Int) × (Int × List UInt8 × Int × Int) × Int) × ((List UInt8 × List UInt8 × List UInt8 × List UInt8 × Int × Int) × (Int × List UInt8 × Int × Int) × Int) × Unit → Option Int) (j2 : Int) (i3 : Int) (data5 : List ((List UInt8 × List UInt8 × List UInt8 × List UInt8 × Int × Int) × (Int × List UInt8 × Int × Int) × Int)) : Option ((Int × List ((List UInt8 × List UInt8 × List UInt8 × List UInt8 × Int × Int) × (Int × List UInt8 × Int × Int) × Int)) ⊕ (Int × List ((List UInt8 × List UInt8 × List UInt8 × List UInt8 × Int × Int) × (Int × List UInt8 × Int × Int) × Int))) :=
  Option.bind (α := Bool × List ((List UInt8 × List UInt8 × List UInt8 × List UInt8 × Int × Int) × (Int × List UInt8 × Int × Int) × Int)) (
    bif decide (i3 ≤ j2) then (
     gd (inB i3 data5.length) <|
     gd (inB a data5.length) <|
     (cmp (data5.getD i3.toNat (([], ([], ([], ([], (0, 0))))), ((0, ([], (0, 0))), 0)), data5.getD a.toNat (([], ([], ([], ([], (0, 0))))), ((0, ([], (0, 0))), 0)), ())).bind fun r3 =>
     some (decide (r3 < 0), data5))
    else (
     some (false, data5))) fun s5 =>
  bif s5.1 then (
   some (.inl (wi64 (i3 + 1), s5.2)))
  else (
   some (.inr (i3, s5.2)))

noncomputable def slices_partitionCmpFunc_lots_made_L4 (a : Int) (cmp : ((List UInt8 × List UInt8 × List UInt8 × List UInt8 × Int × Int) × (Int × List UInt8 × Int × Int) × Int) × ((List UInt8 × List UInt8 × List UInt8 × List UInt8 × Int × Int) × (Int × List UInt8 × Int × Int) × Int) × Unit → Option Int) (s6 : Int × List ((List UInt8 × List UInt8 × List UInt8 × List UInt8 × Int × Int) × (Int × List UInt8 × Int × Int) × Int)) (j3 : Int) (data6 : List ((List UInt8 × List UInt8 × List UInt8 × List UInt8 × Int × Int) × (Int × List UInt8 × Int × Int) × Int)) : Option ((Int × List ((List UInt8 × List UInt8 × List UInt8 × List UInt8 × Int × Int) × (Int × List UInt8 × Int × Int) × Int)) ⊕ (Int × List ((List UInt8 × List UInt8 × List UInt8 × List UInt8 × Int × Int) × (Int × List UInt8 × Int × Int) × Int))) :=
  Option.bind (α := Bool × List ((List UInt8 × List UInt8 × List UInt8 × List UInt8 × Int × Int) × (Int × List UInt8 × Int × Int) × Int)) (
    bif decide (s6.1 ≤ j3) then (
     gd (inB j3 data6.length) <|
     gd (inB a data6.length) <|
     (cmp (data6.getD j3.toNat (([], ([], ([], ([], (0, 0))))), ((0, ([], (0, 0))), 0)), data6.getD a.toNat (([], ([], ([], ([], (0, 0))))), ((0, ([], (0, 0))), 0)), ())).bind fun r4 =>
     some ((!(decide (r4 < 0))), data6))
    else (
     some (false, data6))) fun s7 =>
  bif s7.1 then (
   some (.inl (wi64 (j3 - 1), s7.2)))
  else (
   some (.inr (j3, s7.2)))

noncomputable def slices_partitionCmpFunc_lots_made_L2 (a : Int) (cmp : ((List UInt8 × List UInt8 × List UInt8 × List UInt8 × Int × Int) × (Int × List UInt8 × Int × Int) × Int) × ((List UInt8 × List UInt8 × List UInt8 × List UInt8 × Int × Int) × (Int × List UInt8 × Int × Int) × Int) × Unit → Option Int) (i2 : Int) (j2 : Int) (data4 : List ((List UInt8 × List UInt8 × List UInt8 × List UInt8 × Int × Int) × (Int × List UInt8 × Int × Int) × Int)) : Option ((Int × Int × List ((List UInt8 × List UInt8 × List UInt8 × List UInt8 × Int × Int) × (Int × List UInt8 × Int × Int) × Int)) ⊕ (Int × List ((List UInt8 × List UInt8 × List UInt8 × List UInt8 × Int × Int) × (Int × List UInt8 × Int × Int) × Int))) :=
  (iter (fun x3 => slices_partitionCmpFunc_lots_made_L3 a cmp j2 x3.1 x3.2) (i2, data4)).bind fun s6 =>
  (iter (fun x4 => slices_partitionCmpFunc_lots_made_L4 a cmp s6 x4.1 x4.2) (j2, s6.2)).bind fun s8 =>
  bif decide (s8.1 < s6.1) then (
   some (.inr (s8.1, s8.2)))
  else (
   gd (inB s8.1 s8.2.length) <|
   gd (inB s6.1 s8.2.length) <|
   gd (inB s6.1 s8.2.length) <|
   gd (inB s8.1 (s8.2.set s6.1.toNat (s8.2.getD s8.1.toNat (([], ([], ([], ([], (0, 0))))), ((0, ([], (0, 0))), 0)))).length) <|
   some (.inl (wi64 (s6.1 + 1), wi64 (s8.1 - 1), (s8.2.set s6.1.toNat (s8.2.getD s8.1.toNat (([], ([], ([], ([], (0, 0))))), ((0, ([], (0, 0))), 0)))).set s8.1.toNat (s8.2.getD s6.1.toNat (([], ([], ([], ([], (0, 0))))), ((0, ([], (0, 0))), 0))))))

noncomputable def slices_partitionCmpFunc_lots_made (a : Int) (b : Int) (pivot : Int) (cmp : ((List UInt8 × List UInt8 × List UInt8 × List UInt8 × Int × Int) × (Int × List UInt8 × Int × Int) × Int) × ((List UInt8 × List UInt8 × List UInt8 × List UInt8 × Int × Int) × (Int × List UInt8 × Int × Int) × Int) × Unit → Option Int) (data : List ((List UInt8 × List UInt8 × List UInt8 × List UInt8 × Int × Int) × (Int × List UInt8 × Int × Int) × Int)) : Option (Int × Bool × List ((List UInt8 × List UInt8 × List UInt8 × List UInt8 × Int × Int) × (Int × List UInt8 × Int × Int) × Int)) :=
  gd (inB pivot data.length) <|
  gd (inB a data.length) <|
  gd (inB a data.length) <|
  gd (inB pivot (data.set a.toNat (data.getD pivot.toNat (([], ([], ([], ([], (0, 0))))), ((0, ([], (0, 0))), 0)))).length) <|
  (iter (fun x => slices_partitionCmpFunc_lots_made_L0 a b cmp x.1 x.2) (wi64 (a + 1), (data.set a.toNat (data.getD pivot.toNat (([], ([], ([], ([], (0, 0))))), ((0, ([], (0, 0))), 0)))).set pivot.toNat (data.getD a.toNat (([], ([], ([], ([], (0, 0))))), ((0, ([], (0, 0))), 0))))).bind fun s2 =>
  (iter (fun x2 => slices_partitionCmpFunc_lots_made_L1 a cmp s2 x2.1 x2.2) (wi64 (b - 1), s2.2)).bind fun s4 =>
  bif decide (s4.1 < s2.1) then (
   gd (inB a s4.2.length) <|
   gd (inB s4.1 s4.2.length) <|
   gd (inB s4.1 s4.2.length) <|
   gd (inB a (s4.2.set s4.1.toNat (s4.2.getD a.toNat (([], ([], ([], ([], (0, 0))))), ((0, ([], (0, 0))), 0)))).length) <|
   some (s4.1, true, (s4.2.set s4.1.toNat (s4.2.getD a.toNat (([], ([], ([], ([], (0, 0))))), ((0, ([], (0, 0))), 0)))).set a.toNat (s4.2.getD s4.1.toNat (([], ([], ([], ([], (0, 0))))), ((0, ([], (0, 0))), 0)))))
  else (
   gd (inB s4.1 s4.2.length) <|
   gd (inB s2.1 s4.2.length) <|
   gd (inB s2.1 s4.2.length) <|
   gd (inB s4.1 (s4.2.set s2.1.toNat (s4.2.getD s4.1.toNat (([], ([], ([], ([], (0, 0))))), ((0, ([], (0, 0))), 0)))).length) <|
   (iter (fun x5 => slices_partitionCmpFunc_lots_made_L2 a cmp x5.1 x5.2.1 x5.2.2) (wi64 (s2.1 + 1), wi64 (s4.1 - 1), (s4.2.set s2.1.toNat (s4.2.getD s4.1.toNat (([], ([], ([], ([], (0, 0))))), ((0, ([], (0, 0))), 0)))).set s4.1.toNat (s4.2.getD s2.1.toNat (([], ([], ([], ([], (0, 0))))), ((0, ([], (0, 0))), 0))))).bind fun s9 =>
   gd (inB a s9.2.length) <|
   gd (inB s9.1 s9.2.length) <|
   gd (inB s9.1 s9.2.length) <|
   gd (inB a (s9.2.set s9.1.toNat (s9.2.getD a.toNat (([], ([], ([], ([], (0, 0))))), ((0, ([], (0, 0))), 0)))).length) <|
   some (s9.1, false, (s9.2.set s9.1.toNat (s9.2.getD a.toNat (([], ([], ([], ([], (0, 0))))), ((0, ([], (0, 0))), 0)))).set a.toNat (s9.2.getD s9.1.toNat (([], ([], ([], ([], (0, 0))))), ((0, ([], (0, 0))), 0)))))

noncomputable def fn_slices_partitionCmpFunc_lots_made : Fun :=
  { f := 74, np := 5, nr := 2,
    ji := { regs := [(0, .one (.own 0)), (1, .one (.data (.int .i64))), (2, .one (.data (.int .i64))), (3, .one (.data (.int .i64))), (4, .one (.fn [.pair (.pair (.str) (.pair (.str) (.pair (.str) (.pair (.str) (.pair (.int .i64) (.int .i64)))))) (.pair (.pair (.int .i64) (.pair (.str) (.pair (.int .i64) (.int .i64)))) (.int .i64)), .pair (.pair (.str) (.pair (.str) (.pair (.str) (.pair (.str) (.pair (.int .i64) (.int .i64)))))) (.pair (.pair (.int .i64) (.pair (.str) (.pair (.int .i64) (.int .i64)))) (.int .i64))] (.int .i64)))], vars := [], arrs := [(0, .arr 73 (.pair (.pair (.str) (.pair (.str) (.pair (.str) (.pair (.str) (.pair (.int .i64) (.int .i64)))))) (.pair (.pair (.int .i64) (.pair (.str) (.pair (.int .i64) (.int .i64)))) (.int .i64))))] },
    jo := { regs := [(0, .one (.data (.int .i64))), (1, .one (.data (.bool)))], vars := [], arrs := [(0, .arr 73 (.pair (.pair (.str) (.pair (.str) (.pair (.str) (.pair (.str) (.pair (.int .i64) (.int .i64)))))) (.pair (.pair (.int .i64) (.pair (.str) (.pair (.int .i64) (.int .i64)))) (.int .i64))))] },
    tw := fun x => slices_partitionCmpFunc_lots_made x.1 x.2.1 x.2.2.1 x.2.2.2.1 x.2.2.2.2 }
noncomputable def cx_slices_partitionCmpFunc_lots_made : Cx := { Γ := types, ow := [], fs := [], N := 178 }
theorem ok_slices_partitionCmpFunc_lots_made : FunOk Tryd.prog fn_slices_partitionCmpFunc_lots_made :=
  FunOk.intro (C := cx_slices_partitionCmpFunc_lots_made) (p := (.mk [] none .nil (.mk [] none .nil (.mk [] none .nil (.mk [] none (.mk [] none (.mk [] (some ({ regs := [(0, .one (.own 0)), (1, .one .keep), (4, .one .keep), (12, .one (.data (.int .i64))), (13, .one .keep)], vars := [], arrs := [(0, .arr 73 (.pair (.pair (.str) (.pair (.str) (.pair (.str) (.pair (.str) (.pair (.int .i64) (.int .i64)))))) (.pair (.pair (.int .i64) (.pair (.str) (.pair (.int .i64) (.int .i64)))) (.int .i64))))] }, [{ e := .x 0, j := { regs := [(0, .one (.own 0)), (1, .one .keep), (4, .one .keep), (12, .one (.data (.int .i64))), (13, .one .keep)], vars := [], arrs := [(0, .arr 73 (.pair (.pair (.str) (.pair (.str) (.pair (.str) (.pair (.str) (.pair (.int .i64) (.int .i64)))))) (.pair (.pair (.int .i64) (.pair (.str) (.pair (.int .i64) (.int .i64)))) (.int .i64))))] } }])) (.mk [] none (.mk [] none (.mk [.join [{ e := .n, j := { regs := [(0, .one (.own 0)), (1, .one .keep), (4, .one .keep), (12, .one .keep), (13, .one .keep), (47, .one (.data (.bool)))], vars := [], arrs := [(0, .arr 73 (.pair (.pair (.str) (.pair (.str) (.pair (.str) (.pair (.str) (.pair (.int .i64) (.int .i64)))))) (.pair (.pair (.int .i64) (.pair (.str) (.pair (.int .i64) (.int .i64)))) (.int .i64))))] } }]] none .nil .nil) .nil) .nil) .nil) .nil) (.mk [] none (.mk [] none (.mk [] (some ({ regs := [(0, .one (.own 0)), (1, .one .keep), (4, .one .keep), (12, .one .keep), (13, .one (.data (.int .i64)))], vars := [], arrs := [(0, .arr 73 (.pair (.pair (.str) (.pair (.str) (.pair (.str) (.pair (.str) (.pair (.int .i64) (.int .i64)))))) (.pair (.pair (.int .i64) (.pair (.str) (.pair (.int .i64) (.int .i64)))) (.int .i64))))] }, [{ e := .x 2, j := { regs := [(0, .one (.own 0)), (1, .one .keep), (4, .one .keep), (12, .one .keep), (13, .one (.data (.int .i64)))], vars := [], arrs := [(0, .arr 73 (.pair (.pair (.str) (.pair (.str) (.pair (.str) (.pair (.str) (.pair (.int .i64) (.int .i64)))))) (.pair (.pair (.int .i64) (.pair (.str) (.pair (.int .i64) (.int .i64)))) (.int .i64))))] } }])) (.mk [] none (.mk [] none (.mk [.join [{ e := .n, j := { regs := [(0, .one (.own 0)), (1, .one .keep), (4, .one .keep), (12, .one .keep), (13, .one .keep), (66, .one (.data (.bool)))], vars := [], arrs := [(0, .arr 73 (.pair (.pair (.str) (.pair (.str) (.pair (.str) (.pair (.str) (.pair (.int .i64) (.int .i64)))))) (.pair (.pair (.int .i64) (.pair (.str) (.pair (.int .i64) (.int .i64)))) (.int .i64))))] } }]] none .nil .nil) .nil) .nil) .nil) .nil) (.mk [] none .nil (.mk [] none .nil (.mk [] none .nil (.mk [] none .nil (.mk [] none (.mk [] none (.mk [] (some ({ regs := [(0, .one (.own 0)), (1, .one .keep), (4, .one .keep), (12, .one (.data (.int .i64))), (13, .one (.data (.int .i64)))], vars := [], arrs := [(0, .arr 73 (.pair (.pair (.str) (.pair (.str) (.pair (.str) (.pair (.str) (.pair (.int .i64) (.int .i64)))))) (.pair (.pair (.int .i64) (.pair (.str) (.pair (.int .i64) (.int .i64)))) (.int .i64))))] }, [{ e := .x 4, j := { regs := [(0, .one (.own 0)), (1, .one .keep), (13, .one (.data (.int .i64)))], vars := [], arrs := [(0, .arr 73 (.pair (.pair (.str) (.pair (.str) (.pair (.str) (.pair (.str) (.pair (.int .i64) (.int .i64)))))) (.pair (.pair (.int .i64) (.pair (.str) (.pair (.int .i64) (.int .i64)))) (.int .i64))))] } }])) (.mk [] none (.mk [] none (.mk [] none (.mk [] (some ({ regs := [(0, .one (.own 0)), (1, .one .keep), (4, .one .keep), (12, .one (.data (.int .i64))), (13, .one .keep)], vars := [], arrs := [(0, .arr 73 (.pair (.pair (.str) (.pair (.str) (.pair (.str) (.pair (.str) (.pair (.int .i64) (.int .i64)))))) (.pair (.pair (.int .i64) (.pair (.str) (.pair (.int .i64) (.int .i64)))) (.int .i64))))] }, [{ e := .x 6, j := { regs := [(0, .one (.own 0)), (1, .one .keep), (4, .one .keep), (12, .one (.data (.int .i64))), (13, .one .keep)], vars := [], arrs := [(0, .arr 73 (.pair (.pair (.str) (.pair (.str) (.pair (.str) (.pair (.str) (.pair (.int .i64) (.int .i64)))))) (.pair (.pair (.int .i64) (.pair (.str) (.pair (.int .i64) (.int .i64)))) (.int .i64))))] } }])) (.mk [] none (.mk [] none (.mk [.join [{ e := .n, j := { regs := [(0, .one (.own 0)), (1, .one .keep), (4, .one .keep), (12, .one .keep), (13, .one .keep), (120, .one (.data (.bool)))], vars := [], arrs := [(0, .arr 73 (.pair (.pair (.str) (.pair (.str) (.pair (.str) (.pair (.str) (.pair (.int .i64) (.int .i64)))))) (.pair (.pair (.int .i64) (.pair (.str) (.pair (.int .i64) (.int .i64)))) (.int .i64))))] } }]] none .nil .nil) .nil) .nil) .nil) .nil) (.mk [] none (.mk [] none (.mk [] (some ({ regs := [(0, .one (.own 0)), (1, .one .keep), (4, .one .keep), (12, .one .keep), (13, .one (.data (.int .i64)))], vars := [], arrs := [(0, .arr 73 (.pair (.pair (.str) (.pair (.str) (.pair (.str) (.pair (.str) (.pair (.int .i64) (.int .i64)))))) (.pair (.pair (.int .i64) (.pair (.str) (.pair (.int .i64) (.int .i64)))) (.int .i64))))] }, [{ e := .x 8, j := { regs := [(0, .one (.own 0)), (1, .one .keep), (4, .one .keep), (12, .one .keep), (13, .one (.data (.int .i64)))], vars := [], arrs := [(0, .arr 73 (.pair (.pair (.str) (.pair (.str) (.pair (.str) (.pair (.str) (.pair (.int .i64) (.int .i64)))))) (.pair (.pair (.int .i64) (.pair (.str) (.pair (.int .i64) (.int .i64)))) (.int .i64))))] } }])) (.mk [] none (.mk [] none (.mk [.join [{ e := .n, j := { regs := [(0, .one (.own 0)), (1, .one .keep), (4, .one .keep), (12, .one .keep), (13, .one .keep), (139, .one (.data (.bool)))], vars := [], arrs := [(0, .arr 73 (.pair (.pair (.str) (.pair (.str) (.pair (.str) (.pair (.str) (.pair (.int .i64) (.int .i64)))))) (.pair (.pair (.int .i64) (.pair (.str) (.pair (.int .i64) (.int .i64)))) (.int .i64))))] } }]] none .nil .nil) .nil) .nil) .nil) .nil) .nil)) .nil) .nil) .nil) .nil)))))))))))
    Tryd.func74 rfl nmr74 rfl rfl rfl rfl types_ok ⟨trivial, trivial⟩ mx (fun x => by kernel_rfl)

noncomputable def slices_pdqsortCmpFunc_lots_made_L0 (cmp : ((List UInt8 × List UInt8 × List UInt8 × List UInt8 × Int × Int) × (Int × List UInt8 × Int × Int) × Int) × ((List UInt8 × List UInt8 × List UInt8 × List UInt8 × Int × Int) × (Int × List UInt8 × Int × Int) × Int) × Unit → Option Int) (rec : Int → Int → Int → (((List UInt8 × List UInt8 × List UInt8 × List UInt8 × Int × Int) × (Int × List UInt8 × Int × Int) × Int) × ((List UInt8 × List UInt8 × List UInt8 × List UInt8 × Int × Int) × (Int × List UInt8 × Int × Int) × Int) × Unit → Option Int) → List ((List UInt8 × List UInt8 × List UInt8 × List UInt8 × Int × Int) × (Int × List UInt8 × Int × Int) × Int) → Option (List ((List UInt8 × List UInt8 × List UInt8 × List UInt8 × Int × Int) × (Int × List UInt8 × Int × Int) × Int))) (a2 : Int) (b2 : Int) (limit2 : Int) (wasBalanced : Bool) (wasPartitioned : Bool) (data2 : List ((List UInt8 × List UInt8 × List UInt8 × List UInt8 × Int × Int) × (Int × List UInt8 × Int × Int) × Int)) : Option ((Int × Int × Int × Bool × Bool × List ((List UInt8 × List UInt8 × List UInt8 × List UInt8 × Int × Int) × (Int × List UInt8 × Int × Int) × Int)) ⊕ (List ((List UInt8 × List UInt8 × List UInt8 × List UInt8 × Int × Int) × (Int × List UInt8 × Int × Int) × Int))) :=
  bif decide (wi64 (b2 - a2) ≤ 12) then (
   (slices_insertionSortCmpFunc_lots_made a2 b2 cmp data2).bind fun r =>
   some (.inr r))
  else (
   bif decide (limit2 = 0) then (
    (slices_heapSortCmpFunc_lots_made a2 b2 cmp data2).bind fun r2 =>
    some (.inr r2))
   else (
    Option.bind (α := Int × List ((List UInt8 × List UInt8 × List UInt8 × List UInt8 × Int × Int) × (Int × List UInt8 × Int × Int) × Int)) (
      bif !wasBalanced then (
       (slices_breakPatternsCmpFunc_lots_made a2 b2 cmp data2).bind fun r3 =>
       some (wi64 (limit2 - 1), r3))
      else (
       some (limit2, data2))) fun s =>
    (slices_choosePivotCmpFunc_lots_made s.2 a2 b2 cmp).bind fun r4 =>
    Option.bind (α := Int × Int × List ((List UInt8 × List UInt8 × List UInt8 × List UInt8 × Int × Int) × (Int × List UInt8 × Int × Int) × Int)) (
      bif decide (r4.2 = 2) then (
       (slices_reverseRangeCmpFunc_lots_made a2 b2 cmp s.2).bind fun r5 =>
       some (wi64 ((wi64 (b2 - 1)) - (wi64 (r4.1 - a2))), 1, r5))
      else (
       some (r4.1, r4.2, s.2))) fun s2 =>
    Option.bind (α := Bool × List ((List UInt8 × List UInt8 × List UInt8 × List UInt8 × Int × Int) × (Int × List UInt8 × Int × Int) × Int)) (
      bif wasBalanced then (
       bif wasPartitioned then (
        some (decide (s2.2.1 = 1), s2.2.2))
       else (
        some (false, s2.2.2)))
      else (
       some (false, s2.2.2))) fun s3 =>
    Option.bind (α := (List ((List UInt8 × List UInt8 × List UInt8 × List UInt8 × Int × Int) × (Int × List UInt8 × Int × Int) × Int)) ⊕ (List ((List UInt8 × List UInt8 × List UInt8 × List UInt8 × Int × Int) × (Int × List UInt8 × Int × Int) × Int))) (
      bif s3.1 then (
       (slices_partialInsertionSortCmpFunc_lots_made a2 b2 cmp s3.2).bind fun r6 =>
       bif r6.1 then (
        some (.inr r6.2))
       else (
        some (.inl r6.2)))
      else (
       some (.inl s3.2))) fun s4 =>
    s4.elim (fun s5 =>
     Option.bind (α := Bool × List ((List UInt8 × List UInt8 × List UInt8 × List UInt8 × Int × Int) × (Int × List UInt8 × Int × Int) × Int)) (
       bif decide (0 < a2) then (
        gd (inB (wi64 (a2 - 1)) s5.length) <|
        gd (inB s2.1 s5.length) <|
        (cmp (s5.getD ((wi64 (a2 - 1)).toNat) (([], ([], ([], ([], (0, 0))))), ((0, ([], (0, 0))), 0)), s5.getD s2.1.toNat (([], ([], ([], ([], (0, 0))))), ((0, ([], (0, 0))), 0)), ())).bind fun r7 =>
        some ((!(decide (r7 < 0))), s5))
       else (
        some (false, s5))) fun s7 =>
     bif s7.1 then (
      (slices_partitionEqualCmpFunc_lots_made a2 b2 s2.1 cmp s7.2).bind fun r8 =>
      some (.inl (r8.1, b2, s.1, wasBalanced, wasPartitioned, r8.2)))
     else (
      (slices_partitionCmpFunc_lots_made a2 b2 s2.1 cmp s7.2).bind fun r9 =>
      bif decide (wi64 (r9.1 - a2) < wi64 (b2 - r9.1)) then (
       (rec a2 r9.1 s.1 cmp r9.2.2).bind fun r10 =>
       some (.inl (wi64 (r9.1 + 1), b2, s.1, decide (wi64 (Int.tdiv (wi64 (b2 - a2)) 8) ≤ wi64 (r9.1 - a2)), r9.2.1, r10)))
      else (
       (rec (wi64 (r9.1 + 1)) b2 s.1 cmp r9.2.2).bind fun r11 =>
       some (.inl (a2, r9.1, s.1, decide (wi64 (Int.tdiv (wi64 (b2 - a2)) 8) ≤ wi64 (b2 - r9.1)), r9.2.1, r11)))))
    (fun s6 =>
     some (.inr s6))))

noncomputable def slices_pdqsortCmpFunc_lots_made_S (rec : Int → Int → Int → (((List UInt8 × List UInt8 × List UInt8 × List UInt8 × Int × Int) × (Int × List UInt8 × Int × Int) × Int) × ((List UInt8 × List UInt8 × List UInt8 × List UInt8 × Int × Int) × (Int × List UInt8 × Int × Int) × Int) × Unit → Option Int) → List ((List UInt8 × List UInt8 × List UInt8 × List UInt8 × Int × Int) × (Int × List UInt8 × Int × Int) × Int) → Option (List ((List UInt8 × List UInt8 × List UInt8 × List UInt8 × Int × Int) × (Int × List UInt8 × Int × Int) × Int))) (a : Int) (b : Int) (limit : Int) (cmp : ((List UInt8 × List UInt8 × List UInt8 × List UInt8 × Int × Int) × (Int × List UInt8 × Int × Int) × Int) × ((List UInt8 × List UInt8 × List UInt8 × List UInt8 × Int × Int) × (Int × List UInt8 × Int × Int) × Int) × Unit → Option Int) (data : List ((List UInt8 × List UInt8 × List UInt8 × List UInt8 × Int × Int) × (Int × List UInt8 × Int × Int) × Int)) : Option (List ((List UInt8 × List UInt8 × List UInt8 × List UInt8 × Int × Int) × (Int × List UInt8 × Int × Int) × Int)) :=
  (iter (fun x => slices_pdqsortCmpFunc_lots_made_L0 cmp rec x.1 x.2.1 x.2.2.1 x.2.2.2.1 x.2.2.2.2.1 x.2.2.2.2.2) (a, b, limit, true, true, data)).bind fun s8 =>
  some s8

noncomputable def slices_pdqsortCmpFunc_lots_made_F : Nat → Int → Int → Int → (((List UInt8 × List UInt8 × List UInt8 × List UInt8 × Int × Int) × (Int × List UInt8 × Int × Int) × Int) × ((List UInt8 × List UInt8 × List UInt8 × List UInt8 × Int × Int) × (Int × List UInt8 × Int × Int) × Int) × Unit → Option Int) → List ((List UInt8 × List UInt8 × List UInt8 × List UInt8 × Int × Int) × (Int × List UInt8 × Int × Int) × Int) → Option (List ((List UInt8 × List UInt8 × List UInt8 × List UInt8 × Int × Int) × (Int × List UInt8 × Int × Int) × Int))
  | 0 => fun _ _ _ _ _ => none
  | n + 1 => slices_pdqsortCmpFunc_lots_made_S (slices_pdqsortCmpFunc_lots_made_F n)

noncomputable def slices_pdqsortCmpFunc_lots_made (a : Int) (b : Int) (limit : Int) (cmp : ((List UInt8 × List UInt8 × List UInt8 × List UInt8 × Int × Int) × (Int × List UInt8 × Int × Int) × Int) × ((List UInt8 × List UInt8 × List UInt8 × List UInt8 × Int × Int) × (Int × List UInt8 × Int × Int) × Int) × Unit → Option Int) (data : List ((List UInt8 × List UInt8 × List UInt8 × List UInt8 × Int × Int) × (Int × List UInt8 × Int × Int) × Int)) : Option (List ((List UInt8 × List UInt8 × List UInt8 × List UInt8 × Int × Int) × (Int × List UInt8 × Int × Int) × Int)) := slices_pdqsortCmpFunc_lots_made_F 18446744073709551616 a b limit cmp data

noncomputable def fn_slices_pdqsortCmpFunc_lots_made_F (n : Nat) : Fun :=
  { f := 45, np := 5, nr := 0,
    ji := { regs := [(0, .one (.own 0)), (1, .one (.data (.int .i64))), (2, .one (.data (.int .i64))), (3, .one (.data (.int .i64))), (4, .one (.fn [.pair (.pair (.str) (.pair (.str) (.pair (.str) (.pair (.str) (.pair (.int .i64) (.int .i64)))))) (.pair (.pair (.int .i64) (.pair (.str) (.pair (.int .i64) (.int .i64)))) (.int .i64)), .pair (.pair (.str) (.pair (.str) (.pair (.str) (.pair (.str) (.pair (.int .i64) (.int .i64)))))) (.pair (.pair (.int .i64) (.pair (.str) (.pair (.int .i64) (.int .i64)))) (.int .i64))] (.int .i64)))], vars := [], arrs := [(0, .arr 73 (.pair (.pair (.str) (.pair (.str) (.pair (.str) (.pair (.str) (.pair (.int .i64) (.int .i64)))))) (.pair (.pair (.int .i64) (.pair (.str) (.pair (.int .i64) (.int .i64)))) (.int .i64))))] },
    jo := { regs := [], vars := [], arrs := [(0, .arr 73 (.pair (.pair (.str) (.pair (.str) (.pair (.str) (.pair (.str) (.pair (.int .i64) (.int .i64)))))) (.pair (.pair (.int .i64) (.pair (.str) (.pair (.int .i64) (.int .i64)))) (.int .i64))))] },
    tw := fun x => slices_pdqsortCmpFunc_lots_made_F n x.1 x.2.1 x.2.2.1 x.2.2.2.1 x.2.2.2.2 }
noncomputable def fn_slices_pdqsortCmpFunc_lots_made : Fun := fn_slices_pdqsortCmpFunc_lots_made_F 18446744073709551616
noncomputable def cx_slices_pdqsortCmpFunc_lots_made (n : Nat) : Cx := { Γ := types, ow := [], fs := [fn_slices_insertionSortCmpFunc_lots_made, fn_slices_heapSortCmpFunc_lots_made, fn_slices_breakPatternsCmpFunc_lots_made, fn_slices_choosePivotCmpFunc_lots_made, fn_slices_reverseRangeCmpFunc_lots_made, fn_slices_partialInsertionSortCmpFunc_lots_made, fn_slices_partitionEqualCmpFunc_lots_made, fn_slices_partitionCmpFunc_lots_made, fn_slices_pdqsortCmpFunc_lots_made_F n], N := 148 }
theorem ok_slices_pdqsortCmpFunc_lots_made_F : ∀ n : Nat, FunOk Tryd.prog (fn_slices_pdqsortCmpFunc_lots_made_F n)
  | 0 => FunOk.nothing Tryd.func45 rfl nmr45 (fun x => rfl)
  | n + 1 => FunOk.intro (C := cx_slices_pdqsortCmpFunc_lots_made n) (p := (.mk [] none .nil (.mk [] none .nil (.mk [] none (.mk [] (some ({ regs := [(0, .one (.own 0)), (1, .one (.data (.int .i64))), (2, .one (.data (.int .i64))), (3, .one (.data (.int .i64))), (4, .one .keep), (10, .one (.data (.bool))), (11, .one (.data (.bool)))], vars := [], arrs := [(0, .arr 73 (.pair (.pair (.str) (.pair (.str) (.pair (.str) (.pair (.str) (.pair (.int .i64) (.int .i64)))))) (.pair (.pair (.int .i64) (.pair (.str) (.pair (.int .i64) (.int .i64)))) (.int .i64))))] }, [{ e := .r, j := { regs := [], vars := [], arrs := [(0, .arr 73 (.pair (.pair (.str) (.pair (.str) (.pair (.str) (.pair (.str) (.pair (.int .i64) (.int .i64)))))) (.pair (.pair (.int .i64) (.pair (.str) (.pair (.int .i64) (.int .i64)))) (.int .i64))))] } }])) (.mk [] none (.mk [] none .nil (.mk [] none .nil (.mk [] none .nil (.mk [] none (.mk [] none .nil (.mk [.join [{ e := .n, j := { regs := [(0, .one (.own 0)), (1, .one .keep), (2, .one .keep), (3, .one (.data (.int .i64))), (4, .one .keep), (10, .one .keep), (11, .one .keep), (12, .one .keep)], vars := [], arrs := [(0, .arr 73 (.pair (.pair (.str) (.pair (.str) (.pair (.str) (.pair (.str) (.pair (.int .i64) (.int .i64)))))) (.pair (.pair (.int .i64) (.pair (.str) (.pair (.int .i64) (.int .i64)))) (.int .i64))))] } }]] none .nil .nil)) (.mk [] none .nil (.mk [] none (.mk [] none .nil (.mk [.join [{ e := .n, j := { regs := [(0, .one (.own 0)), (1, .one .keep), (2, .one .keep), (3, .one .keep), (4, .one .keep), (10, .one .keep), (11, .one .keep), (12, .one .keep), (13, .one (.data (.int .i64))), (14, .one (.data (.int .i64)))], vars := [], arrs := [(0, .arr 73 (.pair (.pair (.str) (.pair (.str) (.pair (.str) (.pair (.str) (.pair (.int .i64) (.int .i64)))))) (.pair (.pair (.int .i64) (.pair (.str) (.pair (.int .i64) (.int .i64)))) (.int .i64))))] } }]] none .nil .nil)) (.mk [] none (.mk [] none (.mk [.join [{ e := .n, j := { regs := [(0, .one (.own 0)), (1, .one .keep), (2, .one .keep), (3, .one .keep), (4, .one .keep), (10, .one .keep), (11, .one .keep), (12, .one .keep), (13, .one .keep), (75, .one (.data (.bool)))], vars := [], arrs := [(0, .arr 73 (.pair (.pair (.str) (.pair (.str) (.pair (.str) (.pair (.str) (.pair (.int .i64) (.int .i64)))))) (.pair (.pair (.int .i64) (.pair (.str) (.pair (.int .i64) (.int .i64)))) (.int .i64))))] } }]] none .nil .nil) (.mk [.join [{ e := .n, j := { regs := [(0, .one (.own 0)), (1, .one .keep), (2, .one .keep), (3, .one .keep), (4, .one .keep), (10, .one .keep), (11, .one .keep), (12, .one .keep), (13, .one .keep)], vars := [], arrs := [(0, .arr 73 (.pair (.pair (.str) (.pair (.str) (.pair (.str) (.pair (.str) (.pair (.int .i64) (.int .i64)))))) (.pair (.pair (.int .i64) (.pair (.str) (.pair (.int .i64) (.int .i64)))) (.int .i64))))] } }, { e := .r, j := { regs := [], vars := [], arrs := [(0, .arr 73 (.pair (.pair (.str) (.pair (.str) (.pair (.str) (.pair (.str) (.pair (.int .i64) (.int .i64)))))) (.pair (.pair (.int .i64) (.pair (.str) (.pair (.int .i64) (.int .i64)))) (.int .i64))))] } }]] none .nil .nil)) (.mk [] none (.mk [] none (.mk [.join [{ e := .n, j := { regs := [(0, .one (.own 0)), (1, .one .keep), (2, .one .keep), (3, .one .keep), (4, .one .keep), (10, .one .keep), (11, .one .keep), (12, .one .keep), (13, .one .keep), (97, .one (.data (.bool)))], vars := [], arrs := [(0, .arr 73 (.pair (.pair (.str) (.pair (.str) (.pair (.str) (.pair (.str) (.pair (.int .i64) (.int .i64)))))) (.pair (.pair (.int .i64) (.pair (.str) (.pair (.int .i64) (.int .i64)))) (.int .i64))))] } }]] none .nil .nil) .nil) .nil)))))))) .nil) .nil) .nil))))
    Tryd.func45 rfl nmr45 rfl rfl rfl rfl types_ok ⟨⟨ok_slices_insertionSortCmpFunc_lots_made, ok_slices_heapSortCmpFunc_lots_made, ok_slices_breakPatternsCmpFunc_lots_made, ok_slices_choosePivotCmpFunc_lots_made, ok_slices_reverseRangeCmpFunc_lots_made, ok_slices_partialInsertionSortCmpFunc_lots_made, ok_slices_partitionEqualCmpFunc_lots_made, ok_slices_partitionCmpFunc_lots_made, ok_slices_pdqsortCmpFunc_lots_made_F n, trivial⟩, trivial⟩ mx (fun x => by kernel_rfl)
theorem ok_slices_pdqsortCmpFunc_lots_made : FunOk Tryd.prog fn_slices_pdqsortCmpFunc_lots_made := ok_slices_pdqsortCmpFunc_lots_made_F 18446744073709551616

noncomputable def slices_SortFunc_lots_made_lots_made (cmp : ((List UInt8 × List UInt8 × List UInt8 × List UInt8 × Int × Int) × (Int × List UInt8 × Int × Int) × Int) × ((List UInt8 × List UInt8 × List UInt8 × List UInt8 × Int × Int) × (Int × List UInt8 × Int × Int) × Int) × Unit → Option Int) (x : List ((List UInt8 × List UInt8 × List UInt8 × List UInt8 × Int × Int) × (Int × List UInt8 × Int × Int) × Int)) : Option (List ((List UInt8 × List UInt8 × List UInt8 × List UInt8 × Int × Int) × (Int × List UInt8 × Int × Int) × Int)) :=
  (math_bits_Len (wu64 (x.length : Int))).bind fun r =>
  (slices_pdqsortCmpFunc_lots_made 0 (x.length : Int) r cmp x).bind fun r2 =>
  some r2

noncomputable def fn_slices_SortFunc_lots_made_lots_made : Fun :=
  { f := 21, np := 2, nr := 0,
    ji := { regs := [(0, .one (.own 0)), (1, .one (.fn [.pair (.pair (.str) (.pair (.str) (.pair (.str) (.pair (.str) (.pair (.int .i64) (.int .i64)))))) (.pair (.pair (.int .i64) (.pair (.str) (.pair (.int .i64) (.int .i64)))) (.int .i64)), .pair (.pair (.str) (.pair (.str) (.pair (.str) (.pair (.str) (.pair (.int .i64) (.int .i64)))))) (.pair (.pair (.int .i64) (.pair (.str) (.pair (.int .i64) (.int .i64)))) (.int .i64))] (.int .i64)))], vars := [], arrs := [(0, .arr 73 (.pair (.pair (.str) (.pair (.str) (.pair (.str) (.pair (.str) (.pair (.int .i64) (.int .i64)))))) (.pair (.pair (.int .i64) (.pair (.str) (.pair (.int .i64) (.int .i64)))) (.int .i64))))] },
    jo := { regs := [], vars := [], arrs := [(0, .arr 73 (.pair (.pair (.str) (.pair (.str) (.pair (.str) (.pair (.str) (.pair (.int .i64) (.int .i64)))))) (.pair (.pair (.int .i64) (.pair (.str) (.pair (.int .i64) (.int .i64)))) (.int .i64))))] },
    tw := fun x => slices_SortFunc_lots_made_lots_made x.1 x.2 }
noncomputable def cx_slices_SortFunc_lots_made_lots_made : Cx := { Γ := types, ow := [], fs := [fn_math_bits_Len, fn_slices_pdqsortCmpFunc_lots_made], N := 14 }
theorem ok_slices_SortFunc_lots_made_lots_made : FunOk Tryd.prog fn_slices_SortFunc_lots_made_lots_made :=
  FunOk.intro (C := cx_slices_SortFunc_lots_made_lots_made) (p := .nil)
    Tryd.func21 rfl nmr21 rfl rfl rfl rfl types_ok ⟨⟨ok_math_bits_Len, ok_slices_pdqsortCmpFunc_lots_made, trivial⟩, trivial⟩ mx (fun x => by kernel_rfl)

noncomputable def lots_Batches_1 (a : (List UInt8 × List UInt8 × List UInt8 × List UInt8 × Int × Int) × (Int × List UInt8 × Int × Int) × Int) (b : (List UInt8 × List UInt8 × List UInt8 × List UInt8 × Int × Int) × (Int × List UInt8 × Int × Int) × Int) : Option (Int) :=
  (cmp_Compare_int a.1.2.2.2.2.1 b.1.2.2.2.2.1).bind fun r =>
  (cmp_Compare_int a.2.2 b.2.2).bind fun r2 =>
  (cmp_Compare_string a.1.1 b.1.1).bind fun r3 =>
  (cmp_Compare_string a.1.2.2.1 b.1.2.2.1).bind fun r4 =>
  (cmp_Compare_string a.1.2.2.2.1 b.1.2.2.2.1).bind fun r5 =>
  (cmp_Or_int [r, r2, r3, r4, r5]).bind fun r6 =>
  some r6

noncomputable def fn_lots_Batches_1 : Fun :=
  { f := 22, np := 2, nr := 1,
    ji := { regs := [(0, .one (.data (.pair (.pair (.str) (.pair (.str) (.pair (.str) (.pair (.str) (.pair (.int .i64) (.int .i64)))))) (.pair (.pair (.int .i64) (.pair (.str) (.pair (.int .i64) (.int .i64)))) (.int .i64))))), (1, .one (.data (.pair (.pair (.str) (.pair (.str) (.pair (.str) (.pair (.str) (.pair (.int .i64) (.int .i64)))))) (.pair (.pair (.int .i64) (.pair (.str) (.pair (.int .i64) (.int .i64)))) (.int .i64)))))], vars := [], arrs := [] },
    jo := { regs := [(0, .one (.data (.int .i64)))], vars := [], arrs := [] },
    tw := fun x => lots_Batches_1 x.1 x.2 }
noncomputable def cx_lots_Batches_1 : Cx := { Γ := types, ow := [], fs := [fn_cmp_Compare_int, fn_cmp_Compare_string, fn_cmp_Or_int], N := 38 }
theorem ok_lots_Batches_1 : FunOk Tryd.prog fn_lots_Batches_1 :=
  FunOk.intro (C := cx_lots_Batches_1) (p := .nil)
    Tryd.func22 rfl nmr22 rfl rfl rfl rfl types_ok ⟨⟨ok_cmp_Compare_int, ok_cmp_Compare_string, ok_cmp_Or_int, trivial⟩, trivial⟩ mx (fun x => by kernel_rfl)

noncomputable def lots_Batches_L0 (n : List (List UInt8) × List (List UInt8 × Int × Int × Int × Int × Int × List (Int × Int × Int)) × List (List UInt8 × Int × Int) × List (List UInt8 × Int × Int × Int × Int) × Int × Int) (products : List (List UInt8 × Int × Int × Int × Int)) (order : List (List UInt8)) (r4 : (List (List UInt8 × List UInt8 × List UInt8 × List UInt8 × Int × Int)) × Int) (v : Int) (all : List ((List UInt8 × List UInt8 × List UInt8 × List UInt8 × Int × Int) × (Int × List UInt8 × Int × Int) × Int)) : Option ((Int × List ((List UInt8 × List UInt8 × List UInt8 × List UInt8 × Int × Int) × (Int × List UInt8 × Int × Int) × Int)) ⊕ ((List ((List UInt8 × List UInt8 × List UInt8 × List UInt8 × Int × Int) × (Int × List UInt8 × Int × Int) × Int)) ⊕ ((List (Int × List UInt8 × Int × Int)) × (List (Int × Int × Int)) × Int))) :=
  bif decide (v < (r4.1.length : Int)) then (
   gd (inB v r4.1.length) <|
   (product_Find products (((r4.1.getD v.toNat ([], ([], ([], ([], (0, 0)))))).2).1)).bind fun r5 =>
   (network_Port (n.1, (n.2.1, (n.2.2.1, (n.2.2.2.1, (n.2.2.2.2.1, n.2.2.2.2.2))))) ((((r4.1.getD v.toNat ([], ([], ([], ([], (0, 0)))))).2).2).1)).bind fun r6 =>
   (network_Port (n.1, (n.2.1, (n.2.2.1, (n.2.2.2.1, (n.2.2.2.2.1, n.2.2.2.2.2))))) (((((r4.1.getD v.toNat ([], ([], ([], ([], (0, 0)))))).2).2).2).1)).bind fun r7 =>
   Option.bind (α := Bool × List ((List UInt8 × List UInt8 × List UInt8 × List UInt8 × Int × Int) × (Int × List UInt8 × Int × Int) × Int)) (
     bif decide (r5 < 0) then (
      some (true, all))
     else (
      bif decide (r6 < 0) then (
       some (true, all))
      else (
       some (decide (r7 < 0), all)))) fun s =>
   bif s.1 then (
    some (.inr (.inr ([], [], 8))))
   else (
    (lots_rank products order r5).bind fun r8 =>
    gd (fits (s.2.length + 1) 128) <|
    some (.inl (wi64 (v + 1), s.2 ++ [(((r4.1.getD v.toNat ([], ([], ([], ([], (0, 0)))))).1, (((r4.1.getD v.toNat ([], ([], ([], ([], (0, 0)))))).2).1, ((((r4.1.getD v.toNat ([], ([], ([], ([], (0, 0)))))).2).2).1, (((((r4.1.getD v.toNat ([], ([], ([], ([], (0, 0)))))).2).2).2).1, ((((((r4.1.getD v.toNat ([], ([], ([], ([], (0, 0)))))).2).2).2).2).1, (((((r4.1.getD v.toNat ([], ([], ([], ([], (0, 0)))))).2).2).2).2).2))))), ((r5, ((r4.1.getD v.toNat ([], ([], ([], ([], (0, 0)))))).1, (r6, r7))), r8))]))))
  else (
   some (.inr (.inl all)))

noncomputable def lots_Batches_L1 (r9 : List ((List UInt8 × List UInt8 × List UInt8 × List UInt8 × Int × Int) × (Int × List UInt8 × Int × Int) × Int)) (v2 : Int) (batches : List (Int × List UInt8 × Int × Int)) (lots : List (Int × Int × Int)) (v3 : List ((List UInt8 × List UInt8 × List UInt8 × List UInt8 × Int × Int) × (Int × List UInt8 × Int × Int) × Int)) : Option ((Int × (List (Int × List UInt8 × Int × Int)) × (List (Int × Int × Int)) × List ((List UInt8 × List UInt8 × List UInt8 × List UInt8 × Int × Int) × (Int × List UInt8 × Int × Int) × Int)) ⊕ ((List (Int × List UInt8 × Int × Int)) × List (Int × Int × Int))) :=
  bif decide (v2 < (r9.length : Int)) then (
   gd (inB v2 v3.length) <|
   gd (fits (batches.length + 1) 40) <|
   gd (fits (lots.length + 1) 24) <|
   some (.inl (wi64 (v2 + 1), batches ++ [((((v3.getD v2.toNat (([], ([], ([], ([], (0, 0))))), ((0, ([], (0, 0))), 0))).2).1).1, (((((v3.getD v2.toNat (([], ([], ([], ([], (0, 0))))), ((0, ([], (0, 0))), 0))).2).1).2).1, ((((((v3.getD v2.toNat (([], ([], ([], ([], (0, 0))))), ((0, ([], (0, 0))), 0))).2).1).2).2).1, (((((v3.getD v2.toNat (([], ([], ([], ([], (0, 0))))), ((0, ([], (0, 0))), 0))).2).1).2).2).2)))], lots ++ [(v2, (((((((v3.getD v2.toNat (([], ([], ([], ([], (0, 0))))), ((0, ([], (0, 0))), 0))).1).2).2).2).2).2, 0))], v3)))
  else (
   some (.inr (batches, lots)))

noncomputable def lots_Batches (n : List (List UInt8) × List (List UInt8 × Int × Int × Int × Int × Int × List (Int × Int × Int)) × List (List UInt8 × Int × Int) × List (List UInt8 × Int × Int × Int × Int) × Int × Int) (products : List (List UInt8 × Int × Int × Int × Int)) (l : List (List UInt8 × List UInt8 × List UInt8 × List UInt8 × Int × Int)) (order : List (List UInt8)) : Option ((List (Int × List UInt8 × Int × Int)) × (List (Int × Int × Int)) × Int) :=
  (network_Check (n.1, (n.2.1, (n.2.2.1, (n.2.2.2.1, (n.2.2.2.2.1, n.2.2.2.2.2)))))).bind fun r =>
  bif !decide (r = 0) then (
   some ([], [], r))
  else (
   (product_Check products).bind fun r2 =>
   bif !decide (r2 = 0) then (
    some ([], [], r2))
   else (
    (nomination_Check l).bind fun r3 =>
    bif !decide (r3 = 0) then (
     some ([], [], r3))
    else (
     (nomination_Totals l).bind fun r4 =>
     bif !decide (r4.2 = 0) then (
      some ([], [], r4.2))
     else (
      bif decide (200 < (r4.1.length : Int)) then (
       some ([], [], 4))
      else (
       (iter (fun x => lots_Batches_L0 n products order r4 x.1 x.2) (0, [])).bind fun s2 =>
       s2.elim (fun s3 =>
        (slices_SortFunc_lots_made_lots_made (fun h => (lots_Batches_1 h.1 h.2.1).bind fun y => some y) s3).bind fun r9 =>
        (iter (fun x2 => lots_Batches_L1 r9 x2.1 x2.2.1 x2.2.2.1 x2.2.2.2) (0, [], [], r9)).bind fun s5 =>
        some (s5.1, s5.2, 0))
       (fun s4 =>
        some (s4.1, s4.2.1, s4.2.2)))))))

noncomputable def fn_lots_Batches : Fun :=
  { f := 7, np := 4, nr := 3,
    ji := { regs := [(0, .one (.data (.pair (.sl (.str)) (.pair (.sl (.pair (.str) (.pair (.int .i64) (.pair (.int .i64) (.pair (.int .i64) (.pair (.int .i64) (.pair (.int .i64) (.sl (.pair (.int .i64) (.pair (.int .i64) (.int .i64))))))))))) (.pair (.sl (.pair (.str) (.pair (.int .i64) (.int .i64)))) (.pair (.sl (.pair (.str) (.pair (.int .i64) (.pair (.int .i64) (.pair (.int .i64) (.int .i64)))))) (.pair (.int .i64) (.int .i64)))))))), (1, .one (.data (.sl (.pair (.str) (.pair (.int .i64) (.pair (.int .i64) (.pair (.int .i64) (.int .i64)))))))), (2, .one (.data (.sl (.pair (.str) (.pair (.str) (.pair (.str) (.pair (.str) (.pair (.int .i64) (.int .i64))))))))), (3, .one (.data (.sl (.str))))], vars := [], arrs := [] },
    jo := { regs := [(0, .one (.data (.sl (.pair (.int .i64) (.pair (.str) (.pair (.int .i64) (.int .i64))))))), (1, .one (.data (.sl (.pair (.int .i64) (.pair (.int .i64) (.int .i64)))))), (2, .one (.data (.int .i64)))], vars := [], arrs := [] },
    tw := fun x => lots_Batches x.1 x.2.1 x.2.2.1 x.2.2.2 }
noncomputable def cx_lots_Batches : Cx := { Γ := types, ow := [], fs := [fn_network_Check, fn_product_Check, fn_nomination_Check, fn_nomination_Totals, fn_product_Find, fn_network_Port, fn_lots_rank, fn_slices_SortFunc_lots_made_lots_made, fn_lots_Batches_1], N := 121 }
theorem ok_lots_Batches : FunOk Tryd.prog fn_lots_Batches :=
  FunOk.intro (C := cx_lots_Batches) (p := (.mk [] none .nil (.mk [] none .nil (.mk [] none .nil (.mk [] none .nil (.mk [] none .nil (.mk [] none .nil (.mk [] none .nil (.mk [] none .nil (.mk [] none (.mk [] none .nil (.mk [] none (.mk [] (some ({ regs := [(1, .one .keep), (3, .one .keep), (4, .one (.ptr 80 0)), (16, .one (.own 283)), (50, .one .keep), (51, .one .keep), (52, .one (.data (.int .i64)))], vars := [(80, 46, [.keep, .keep, .keep, .keep, .keep, .keep])], arrs := [(283, .arr 73 (.pair (.pair (.str) (.pair (.str) (.pair (.str) (.pair (.str) (.pair (.int .i64) (.int .i64)))))) (.pair (.pair (.int .i64) (.pair (.str) (.pair (.int .i64) (.int .i64)))) (.int .i64))))] }, [{ e := .x 0, j := { regs := [(16, .one (.own 283))], vars := [], arrs := [(283, .arr 73 (.pair (.pair (.str) (.pair (.str) (.pair (.str) (.pair (.str) (.pair (.int .i64) (.int .i64)))))) (.pair (.pair (.int .i64) (.pair (.str) (.pair (.int .i64) (.int .i64)))) (.int .i64))))] } }, { e := .r, j := { regs := [(8, .one (.data (.sl (.pair (.int .i64) (.pair (.str) (.pair (.int .i64) (.int .i64))))))), (9, .one (.data (.sl (.pair (.int .i64) (.pair (.int .i64) (.int .i64)))))), (10, .one (.data (.int .i64)))], vars := [], arrs := [] } }])) (.mk [] none .nil (.mk [] none .nil (.mk [] none (.mk [] none (.mk [] none .nil (.mk [] none .nil (.mk [] none (.mk [] none (.mk [.join [{ e := .n, j := { regs := [(1, .one .keep), (3, .one .keep), (4, .one (.ptr 80 0)), (16, .one (.own 283)), (18, .one (.ptr 304 0)), (19, .one (.ptr 320 0)), (50, .one .keep), (51, .one .keep), (52, .one .keep), (83, .one (.data (.bool)))], vars := [(80, 46, [.keep, .keep, .keep, .keep, .keep, .keep]), (304, 48, [.keep, .keep, .keep, .keep, .keep, .keep]), (320, 57, [.keep, .keep, .keep, .keep])], arrs := [(283, .arr 73 (.pair (.pair (.str) (.pair (.str) (.pair (.str) (.pair (.str) (.pair (.int .i64) (.int .i64)))))) (.pair (.pair (.int .i64) (.pair (.str) (.pair (.int .i64) (.int .i64)))) (.int .i64))))] } }]] none .nil .nil) .nil) .nil))) .nil) .nil))) .nil) .nil)) (.mk [] none .nil (.mk [] none .nil (.mk [] none .nil (.mk [] none (.mk [] none .nil (.mk [] none (.mk [] (some ({ regs := [(20, .one (.own 347)), (21, .one (.own 363)), (98, .one (.own 283)), (99, .one .keep), (100, .one (.data (.int .i64)))], vars := [], arrs := [(347, .arr 57 (.pair (.int .i64) (.pair (.str) (.pair (.int .i64) (.int .i64))))), (363, .arr 27 (.pair (.int .i64) (.pair (.int .i64) (.int .i64)))), (283, .arr 73 (.pair (.pair (.str) (.pair (.str) (.pair (.str) (.pair (.str) (.pair (.int .i64) (.int .i64)))))) (.pair (.pair (.int .i64) (.pair (.str) (.pair (.int .i64) (.int .i64)))) (.int .i64))))] }, [{ e := .x 2, j := { regs := [(20, .one (.own 347)), (21, .one (.own 363))], vars := [], arrs := [(347, .arr 57 (.pair (.int .i64) (.pair (.str) (.pair (.int .i64) (.int .i64))))), (363, .arr 27 (.pair (.int .i64) (.pair (.int .i64) (.int .i64))))] } }])) .nil .nil) .nil)) .nil))))))))))))))
    Tryd.func7 rfl nmr7 rfl rfl rfl rfl types_ok ⟨⟨ok_network_Check, ok_product_Check, ok_nomination_Check, ok_nomination_Totals, ok_product_Find, ok_network_Port, ok_lots_rank, ok_slices_SortFunc_lots_made_lots_made, ok_lots_Batches_1, trivial⟩, trivial⟩ mx (fun x => by kernel_rfl)

noncomputable def law29_awake : Option (Bool) :=
  (lots_Batches ([[97], [98]], ([([103], (0, (1, (10, (0, (0, [(0, (0, 1000)), (10, (0, 1000))]))))))], ([([112], (0, 0)), ([113], (1, 0))], ([], (0, 0))))) [([111], (800, (0, (0, 1000))))] [([115], ([111], ([112], ([113], (1, 50))))), ([115], ([111], ([112], ([113], (1, 70)))))] []).bind fun r =>
  bif decide (r.2.2 = 0) then (
   bif decide ((r.1.length : Int) = 1) then (
    bif decide ((r.2.1.length : Int) = 1) then (
     gd (inB 0 r.2.1.length) <|
     bif decide ((r.2.1.getD 0 (0, (0, 0))).1 = 0) && (decide (((r.2.1.getD 0 (0, (0, 0))).2).1 = 120) && decide (((r.2.1.getD 0 (0, (0, 0))).2).2 = 0)) then (
      gd (inB 0 r.1.length) <|
      some (decide ((r.1.getD 0 (0, ([], (0, 0)))).1 = 0) && (decide (((r.1.getD 0 (0, ([], (0, 0)))).2).1 = [115]) && (decide ((((r.1.getD 0 (0, ([], (0, 0)))).2).2).1 = 0) && decide ((((r.1.getD 0 (0, ([], (0, 0)))).2).2).2 = 1)))))
     else (
      some false))
    else (
     some false))
   else (
    some false))
  else (
   some false)

noncomputable def fn_law29_awake : Fun :=
  { f := 4, np := 0, nr := 1,
    ji := { regs := [], vars := [], arrs := [] },
    jo := { regs := [(0, .one (.data (.bool)))], vars := [], arrs := [] },
    tw := fun x => law29_awake }
noncomputable def cx_law29_awake : Cx := { Γ := types, ow := [], fs := [fn_lots_Batches], N := 57 }
theorem ok_law29_awake : FunOk Tryd.prog fn_law29_awake :=
  FunOk.intro (C := cx_law29_awake) (p := .nil)
    Tryd.func4 rfl nmr4 rfl rfl rfl rfl types_ok ⟨⟨ok_lots_Batches, trivial⟩, trivial⟩ mx (fun x => by kernel_rfl)

noncomputable def slices_IndexFunc_api_Lot_api_Lot_L0 (s : List (Int × Int × Int)) (f : (Int × Int × Int) × Unit → Option Bool) (v : Int) : Option (Int ⊕ (Unit ⊕ Int)) :=
  bif decide (v < (s.length : Int)) then (
   gd (inB v s.length) <|
   (f (s.getD v.toNat (0, (0, 0)), ())).bind fun r =>
   bif r then (
    some (.inr (.inr v)))
   else (
    some (.inl (wi64 (v + 1)))))
  else (
   some (.inr (.inl ())))

noncomputable def slices_IndexFunc_api_Lot_api_Lot (s : List (Int × Int × Int)) (f : (Int × Int × Int) × Unit → Option Bool) : Option (Int) :=
  (iter (fun x => slices_IndexFunc_api_Lot_api_Lot_L0 s f x) 0).bind fun s2 =>
  s2.elim (fun s3 =>
   some (-1))
  (fun s4 =>
   some s4)

noncomputable def fn_slices_IndexFunc_api_Lot_api_Lot : Fun :=
  { f := 8, np := 2, nr := 1,
    ji := { regs := [(0, .one (.data (.sl (.pair (.int .i64) (.pair (.int .i64) (.int .i64)))))), (1, .one (.fn [.pair (.int .i64) (.pair (.int .i64) (.int .i64))] (.bool)))], vars := [], arrs := [] },
    jo := { regs := [(0, .one (.data (.int .i64)))], vars := [], arrs := [] },
    tw := fun x => slices_IndexFunc_api_Lot_api_Lot x.1 x.2 }
noncomputable def cx_slices_IndexFunc_api_Lot_api_Lot : Cx := { Γ := types, ow := [], fs := [], N := 19 }
theorem ok_slices_IndexFunc_api_Lot_api_Lot : FunOk Tryd.prog fn_slices_IndexFunc_api_Lot_api_Lot :=
  FunOk.intro (C := cx_slices_IndexFunc_api_Lot_api_Lot) (p := (.mk [] none .nil (.mk [] none (.mk [] none .nil (.mk [] none (.mk [] (some ({ regs := [(0, .one .keep), (1, .one .keep), (7, .one .keep), (8, .one (.data (.int .i64)))], vars := [], arrs := [] }, [{ e := .x 0, j := { regs := [], vars := [], arrs := [] } }, { e := .r, j := { regs := [(4, .one (.data (.int .i64)))], vars := [], arrs := [] } }])) .nil .nil) .nil)) .nil)))
    Tryd.func8 rfl nmr8 rfl rfl rfl rfl types_ok ⟨trivial, trivial⟩ mx (fun x => by kernel_rfl)

noncomputable def lots_Head_1 (l : Int × Int × Int) : Option (Bool) :=
  some (decide (l.2.2 < l.2.1))

noncomputable def fn_lots_Head_1 : Fun :=
  { f := 9, np := 1, nr := 1,
    ji := { regs := [(0, .one (.data (.pair (.int .i64) (.pair (.int .i64) (.int .i64)))))], vars := [], arrs := [] },
    jo := { regs := [(0, .one (.data (.bool)))], vars := [], arrs := [] },
    tw := fun x => lots_Head_1 x }
noncomputable def cx_lots_Head_1 : Cx := { Γ := types, ow := [], fs := [], N := 8 }
theorem ok_lots_Head_1 : FunOk Tryd.prog fn_lots_Head_1 :=
  FunOk.intro (C := cx_lots_Head_1) (p := .nil)
    Tryd.func9 rfl nmr9 rfl rfl rfl rfl types_ok ⟨trivial, trivial⟩ mx (fun x => by kernel_rfl)

noncomputable def lots_Head (lots : List (Int × Int × Int)) : Option (Int × Bool) :=
  (slices_IndexFunc_api_Lot_api_Lot lots (fun h => (lots_Head_1 h.1).bind fun y => some y)).bind fun r =>
  some (max 0 r, decide (0 ≤ r))

noncomputable def fn_lots_Head : Fun :=
  { f := 5, np := 1, nr := 2,
    ji := { regs := [(0, .one (.data (.sl (.pair (.int .i64) (.pair (.int .i64) (.int .i64))))))], vars := [], arrs := [] },
    jo := { regs := [(0, .one (.data (.int .i64))), (1, .one (.data (.bool)))], vars := [], arrs := [] },
    tw := fun x => lots_Head x }
noncomputable def cx_lots_Head : Cx := { Γ := types, ow := [], fs := [fn_slices_IndexFunc_api_Lot_api_Lot, fn_lots_Head_1], N := 11 }
theorem ok_lots_Head : FunOk Tryd.prog fn_lots_Head :=
  FunOk.intro (C := cx_lots_Head) (p := .nil)
    Tryd.func5 rfl nmr5 rfl rfl rfl rfl types_ok ⟨⟨ok_slices_IndexFunc_api_Lot_api_Lot, ok_lots_Head_1, trivial⟩, trivial⟩ mx (fun x => by kernel_rfl)

noncomputable def slices_Clone_api_Lot_api_Lot (s : List (Int × Int × Int)) : Option (List (Int × Int × Int)) :=
  bif Nat.beq s.length 0 then (bothO (
   some []) (
   gd (fits (0 + s.length) 24) <|
   some ([] ++ s)))
  else (
   gd (fits (0 + s.length) 24) <|
   some ([] ++ s))

noncomputable def fn_slices_Clone_api_Lot_api_Lot : Fun :=
  { f := 10, np := 1, nr := 1,
    ji := { regs := [(0, .one (.data (.sl (.pair (.int .i64) (.pair (.int .i64) (.int .i64))))))], vars := [], arrs := [] },
    jo := { regs := [(0, .one (.own 0))], vars := [], arrs := [(0, .arr 27 (.pair (.int .i64) (.pair (.int .i64) (.int .i64))))] },
    tw := fun x => slices_Clone_api_Lot_api_Lot x }
noncomputable def cx_slices_Clone_api_Lot_api_Lot : Cx := { Γ := types, ow := [5], fs := [], N := 8 }
theorem ok_slices_Clone_api_Lot_api_Lot : FunOk Tryd.prog fn_slices_Clone_api_Lot_api_Lot :=
  FunOk.intro (C := cx_slices_Clone_api_Lot_api_Lot) (p := .nil)
    Tryd.func10 rfl nmr10 rfl rfl rfl rfl types_ok ⟨trivial, trivial⟩ mx (fun x => by kernel_rfl)

noncomputable def lots_Pump_1 (n : Int) : Option (Bool) :=
  bif decide (n < 0) then (
   some true)
  else (
   some (decide (1099511627776 < n)))

noncomputable def fn_lots_Pump_1 : Fun :=
  { f := 11, np := 1, nr := 1,
    ji := { regs := [(0, .one (.data (.int .i64)))], vars := [], arrs := [] },
    jo := { regs := [(0, .one (.data (.bool)))], vars := [], arrs := [] },
    tw := fun x => lots_Pump_1 x }
noncomputable def cx_lots_Pump_1 : Cx := { Γ := types, ow := [], fs := [], N := 9 }
theorem ok_lots_Pump_1 : FunOk Tryd.prog fn_lots_Pump_1 :=
  FunOk.intro (C := cx_lots_Pump_1) (p := .nil)
    Tryd.func11 rfl nmr11 rfl rfl rfl rfl types_ok ⟨trivial, trivial⟩ mx (fun x => by kernel_rfl)

noncomputable def lots_Pump_2 (l : Int × Int × Int) (v : Unit) : Option (Bool) :=
  (lots_Pump_1 l.2.1).bind fun r =>
  bif r then (
   some true)
  else (
   (lots_Pump_1 l.2.2).bind fun r2 =>
   some r2)

noncomputable def fn_lots_Pump_2 : Fun :=
  { f := 13, np := 2, nr := 1,
    ji := { regs := [(0, .one (.data (.pair (.int .i64) (.pair (.int .i64) (.int .i64))))), (1, .one (.sel (.fnc 11)))], vars := [], arrs := [] },
    jo := { regs := [(0, .one (.data (.bool)))], vars := [], arrs := [] },
    tw := fun x => lots_Pump_2 x.1 x.2 }
noncomputable def cx_lots_Pump_2 : Cx := { Γ := types, ow := [], fs := [fn_lots_Pump_1], N := 14 }
theorem ok_lots_Pump_2 : FunOk Tryd.prog fn_lots_Pump_2 :=
  FunOk.intro (C := cx_lots_Pump_2) (p := .nil)
    Tryd.func13 rfl nmr13 rfl rfl rfl rfl types_ok ⟨⟨ok_lots_Pump_1, trivial⟩, trivial⟩ mx (fun x => by kernel_rfl)

noncomputable def slices_ContainsFunc_api_Lot_api_Lot (s : List (Int × Int × Int)) (f : (Int × Int × Int) × Unit → Option Bool) : Option (Bool) :=
  (slices_IndexFunc_api_Lot_api_Lot s f).bind fun r =>
  some (decide (0 ≤ r))

noncomputable def fn_slices_ContainsFunc_api_Lot_api_Lot : Fun :=
  { f := 12, np := 2, nr := 1,
    ji := { regs := [(0, .one (.data (.sl (.pair (.int .i64) (.pair (.int .i64) (.int .i64)))))), (1, .one (.fn [.pair (.int .i64) (.pair (.int .i64) (.int .i64))] (.bool)))], vars := [], arrs := [] },
    jo := { regs := [(0, .one (.data (.bool)))], vars := [], arrs := [] },
    tw := fun x => slices_ContainsFunc_api_Lot_api_Lot x.1 x.2 }
noncomputable def cx_slices_ContainsFunc_api_Lot_api_Lot : Cx := { Γ := types, ow := [], fs := [fn_slices_IndexFunc_api_Lot_api_Lot], N := 9 }
theorem ok_slices_ContainsFunc_api_Lot_api_Lot : FunOk Tryd.prog fn_slices_ContainsFunc_api_Lot_api_Lot :=
  FunOk.intro (C := cx_slices_ContainsFunc_api_Lot_api_Lot) (p := .nil)
    Tryd.func12 rfl nmr12 rfl rfl rfl rfl types_ok ⟨⟨ok_slices_IndexFunc_api_Lot_api_Lot, trivial⟩, trivial⟩ mx (fun x => by kernel_rfl)

noncomputable def lots_Pump (lots : List (Int × Int × Int)) (litres : Int) : Option (Int × Int × List (Int × Int × Int)) :=
  (slices_Clone_api_Lot_api_Lot lots).bind fun r =>
  Option.bind (α := Bool × Unit × List (Int × Int × Int)) (
    bif decide (litres < 1) then (
     some (true, (), r))
    else (
     some (decide (1000 < litres), (), r))) fun s =>
  bif s.1 then (
   some (0, 1, s.2.2))
  else (
   (slices_ContainsFunc_api_Lot_api_Lot lots (fun h => (lots_Pump_2 h.1 s.2.1).bind fun y => some y)).bind fun r2 =>
   bif r2 then (
    some (0, 21, s.2.2))
   else (
    bif decide (200 < (lots.length : Int)) then (
     some (0, 4, s.2.2))
    else (
     (lots_Head lots).bind fun r3 =>
     bif !r3.2 then (
      some (0, 8, s.2.2))
     else (
      gd (inB r3.1 s.2.2.length) <|
      gd (inB r3.1 s.2.2.length) <|
      gd (inB r3.1 (s.2.2.set r3.1.toNat ((s.2.2.getD r3.1.toNat (0, (0, 0))).1, (((s.2.2.getD r3.1.toNat (0, (0, 0))).2).1, wi64 ((((s.2.2.getD r3.1.toNat (0, (0, 0))).2).2) + litres)))).length) <|
      some (((s.2.2.set r3.1.toNat ((s.2.2.getD r3.1.toNat (0, (0, 0))).1, (((s.2.2.getD r3.1.toNat (0, (0, 0))).2).1, wi64 ((((s.2.2.getD r3.1.toNat (0, (0, 0))).2).2) + litres)))).getD r3.1.toNat (0, (0, 0))).1, 0, s.2.2.set r3.1.toNat ((s.2.2.getD r3.1.toNat (0, (0, 0))).1, (((s.2.2.getD r3.1.toNat (0, (0, 0))).2).1, wi64 ((((s.2.2.getD r3.1.toNat (0, (0, 0))).2).2) + litres))))))))

noncomputable def fn_lots_Pump : Fun :=
  { f := 6, np := 2, nr := 3,
    ji := { regs := [(0, .one (.data (.sl (.pair (.int .i64) (.pair (.int .i64) (.int .i64)))))), (1, .one (.data (.int .i64)))], vars := [], arrs := [] },
    jo := { regs := [(0, .one (.own 0)), (1, .one (.data (.int .i64))), (2, .one (.data (.int .i64)))], vars := [], arrs := [(0, .arr 27 (.pair (.int .i64) (.pair (.int .i64) (.int .i64))))] },
    tw := fun x => lots_Pump x.1 x.2 }
noncomputable def cx_lots_Pump : Cx := { Γ := types, ow := [], fs := [fn_slices_Clone_api_Lot_api_Lot, fn_slices_ContainsFunc_api_Lot_api_Lot, fn_lots_Pump_2, fn_lots_Head], N := 54 }
theorem ok_lots_Pump : FunOk Tryd.prog fn_lots_Pump :=
  FunOk.intro (C := cx_lots_Pump) (p := (.mk [] none .nil (.mk [] none .nil (.mk [] none .nil (.mk [] none (.mk [] none (.mk [] none (.mk [.join [{ e := .n, j := { regs := [(0, .one .keep), (1, .one .keep), (7, .one (.own 208)), (8, .one (.ptr 144 0)), (13, .one (.data (.bool)))], vars := [(144, 61, [.data (.fnc 11)])], arrs := [(208, .arr 27 (.pair (.int .i64) (.pair (.int .i64) (.int .i64))))] } }]] none .nil .nil) (.mk [] none .nil (.mk [] none (.mk [.fv [(8, .fnc 11)]] none .nil .nil) .nil))) .nil) .nil)))))
    Tryd.func6 rfl nmr6 rfl rfl rfl rfl types_ok ⟨⟨ok_slices_Clone_api_Lot_api_Lot, ok_slices_ContainsFunc_api_Lot_api_Lot, ok_lots_Pump_2, ok_lots_Head, trivial⟩, trivial⟩ mx (fun x => by kernel_rfl)

noncomputable def law29_LotsPumped_L0 (volumes : List Int) (i : Int) (l : List (Int × Int × Int)) : Option ((Int × List (Int × Int × Int)) ⊕ (List (Int × Int × Int))) :=
  bif decide (i < (volumes.length : Int)) then (
   gd (inB i volumes.length) <|
   gd (fits (l.length + 1) 24) <|
   some (.inl (wi64 (i + 1), l ++ [(i, (Int.tmod (wi64 (volumes.getD i.toNat 0)) 5000, 0))])))
  else (
   some (.inr l))

noncomputable def law29_LotsPumped_L1 (rate : Int) (last : Int) (n : Int) (l2 : List (Int × Int × Int)) : Option ((Int × Int × List (Int × Int × Int)) ⊕ ((List (Int × Int × Int)) ⊕ Bool)) :=
  bif decide (n ≤ 70000) then (
   (lots_Head l2).bind fun r2 =>
   (lots_Pump l2 (wi64 (1 + (Int.tmod (wi64 rate) 1000)))).bind fun r3 =>
   bif !r2.2 then (
    Option.bind (α := Bool) (
      bif !decide (r3.2.1 = 8) then (
       some true)
      else (
       some (!decide (r3.1 = 0)))) fun s2 =>
    bif s2 then (
     some (.inr (.inr false)))
    else (
     some (.inr (.inl l2))))
   else (
    Option.bind (α := Bool × List (Int × Int × Int)) (
      bif !decide (r3.2.1 = 0) then (
       some (true, r3.2.2))
      else (
       bif !decide (r3.1 = r2.1) then (
        some (true, r3.2.2))
       else (
        bif decide (r2.1 < last) then (
         some (true, r3.2.2))
        else (
         bif !decide ((r3.2.2.length : Int) = (l2.length : Int)) then (
          some (true, r3.2.2))
         else (
          gd (inB r2.1 r3.2.2.length) <|
          gd (inB r2.1 l2.length) <|
          some ((!decide (((r3.2.2.getD r2.1.toNat (0, (0, 0))).2).2 = wi64 ((((l2.getD r2.1.toNat (0, (0, 0))).2).2) + (wi64 (1 + (Int.tmod (wi64 rate) 1000)))))), r3.2.2)))))) fun s3 =>
    bif s3.1 then (
     some (.inr (.inr false)))
    else (
     Option.bind (α := Bool × List (Int × Int × Int)) (
       bif decide (wi64 (1 + (Int.tmod (wi64 rate) 1000)) < 50) then (
        some (decide (300 < n), s3.2))
       else (
        some (false, s3.2))) fun s4 =>
     bif s4.1 then (
      (law29_awake).bind fun r4 =>
      some (.inr (.inr r4)))
     else (
      some (.inl (r2.1, wi64 (n + 1), s4.2))))))
  else (
   some (.inr (.inl l2)))

noncomputable def law29_LotsPumped_L2 (rate : Int) (s6 : List (Int × Int × Int)) (i2 : Int) : Option (Int ⊕ (Unit ⊕ Bool)) :=
  bif decide (i2 < (s6.length : Int)) then (
   Option.bind (α := Bool) (
     gd (inB i2 s6.length) <|
     gd (inB i2 s6.length) <|
     bif decide (((s6.getD i2.toNat (0, (0, 0))).2).2 < ((s6.getD i2.toNat (0, (0, 0))).2).1) then (
      some true)
     else (
      gd (inB i2 s6.length) <|
      gd (inB i2 s6.length) <|
      bif decide (wi64 ((((s6.getD i2.toNat (0, (0, 0))).2).1) + (wi64 (1 + (Int.tmod (wi64 rate) 1000)))) ≤ ((s6.getD i2.toNat (0, (0, 0))).2).2) then (
       gd (inB i2 s6.length) <|
       some (decide (0 < ((s6.getD i2.toNat (0, (0, 0))).2).2)))
      else (
       some false))) fun s8 =>
   bif s8 then (
    some (.inr (.inr false)))
   else (
    some (.inl (wi64 (i2 + 1)))))
  else (
   some (.inr (.inl ())))

noncomputable def law29_LotsPumped (volumes : List Int) (rate : Int) : Option (Bool) :=
  bif decide (12 < (volumes.length : Int)) then (
   (law29_awake).bind fun r =>
   some r)
  else (
   (iter (fun x => law29_LotsPumped_L0 volumes x.1 x.2) (0, [])).bind fun s =>
   (iter (fun x2 => law29_LotsPumped_L1 rate x2.1 x2.2.1 x2.2.2) (0, 0, s)).bind fun s5 =>
   s5.elim (fun s6 =>
    (iter (fun x3 => law29_LotsPumped_L2 rate s6 x3) 0).bind fun s9 =>
    s9.elim (fun s10 =>
     (law29_awake).bind fun r5 =>
     some r5)
    (fun s11 =>
     some s11))
   (fun s7 =>
    some s7))

noncomputable def fn_law29_LotsPumped : Fun :=
  { f := 3, np := 2, nr := 1,
    ji := { regs := [(0, .one (.data (.sl (.int .u16)))), (1, .one (.data (.int .u16)))], vars := [], arrs := [] },
    jo := { regs := [(0, .one (.data (.bool)))], vars := [], arrs := [] },
    tw := fun x => law29_LotsPumped x.1 x.2 }
noncomputable def cx_law29_LotsPumped : Cx := { Γ := types, ow := [], fs := [fn_law29_awake, fn_lots_Head, fn_lots_Pump], N := 149 }
theorem ok_law29_LotsPumped : FunOk Tryd.prog fn_law29_LotsPumped :=
  FunOk.intro (C := cx_law29_LotsPumped) (p := (.mk [] none .nil (.mk [] none .nil (.mk [] none .nil (.mk [] none .nil (.mk [] none (.mk [] none .nil (.mk [] none (.mk [] (some ({ regs := [(0, .one .keep), (5, .one .keep), (6, .one (.own 123)), (7, .one (.data (.int .i64)))], vars := [], arrs := [(123, .arr 27 (.pair (.int .i64) (.pair (.int .i64) (.int .i64))))] }, [{ e := .x 0, j := { regs := [(5, .one .keep), (6, .one (.own 123))], vars := [], arrs := [(123, .arr 27 (.pair (.int .i64) (.pair (.int .i64) (.int .i64))))] } }])) .nil .nil) .nil)) (.mk [] none .nil (.mk [] none (.mk [] none .nil (.mk [] none (.mk [] (some ({ regs := [(5, .one .keep), (6, .one (.own 123)), (8, .one (.data (.int .i64))), (9, .one (.data (.int .i64)))], vars := [], arrs := [(123, .arr 27 (.pair (.int .i64) (.pair (.int .i64) (.int .i64))))] }, [{ e := .x 2, j := { regs := [(5, .one .keep), (6, .one (.data (.sl (.pair (.int .i64) (.pair (.int .i64) (.int .i64))))))], vars := [], arrs := [] } }, { e := .r, j := { regs := [(4, .one (.data (.bool)))], vars := [], arrs := [] } }])) (.mk [] none .nil (.mk [] none (.mk [] none (.mk [] none .nil (.mk [] none (.mk [.fz [6]] none .nil .nil) (.mk [] none (.mk [] none .nil (.mk [] none (.mk [] none (.mk [] none (.mk [.join [{ e := .n, j := { regs := [(5, .one .keep), (6, .one .keep), (64, .one (.data (.bool)))], vars := [], arrs := [] } }]] none .nil .nil) .nil) .nil) .nil)) (.mk [] none (.mk [] none (.mk [.join [{ e := .n, j := { regs := [(5, .one .keep), (9, .one .keep), (10, .one .keep), (12, .one (.own 864)), (98, .one (.data (.bool)))], vars := [], arrs := [(864, .arr 27 (.pair (.int .i64) (.pair (.int .i64) (.int .i64))))] } }]] none .nil .nil) .nil) (.mk [] none .nil (.mk [] none (.mk [.join [{ e := .n, j := { regs := [(5, .one .keep), (6, .one (.own 864)), (8, .one .keep), (9, .one .keep), (106, .one (.data (.bool)))], vars := [], arrs := [(864, .arr 27 (.pair (.int .i64) (.pair (.int .i64) (.int .i64))))] } }]] none .nil .nil) .nil)))))) .nil) .nil)) .nil) .nil)) (.mk [] none (.mk [] none .nil (.mk [] none (.mk [] (some ({ regs := [(5, .one .keep), (6, .one .keep), (15, .one (.data (.int .i64)))], vars := [], arrs := [] }, [{ e := .x 4, j := { regs := [], vars := [], arrs := [] } }, { e := .r, j := { regs := [(4, .one (.data (.bool)))], vars := [], arrs := [] } }])) (.mk [] none .nil (.mk [] none (.mk [] none (.mk [] none (.mk [.join [{ e := .n, j := { regs := [(5, .one .keep), (6, .one .keep), (15, .one .keep), (147, .one (.data (.bool)))], vars := [], arrs := [] } }]] none .nil .nil) .nil) .nil) .nil)) .nil) .nil)) .nil)))))))))
    Tryd.func3 rfl nmr3 rfl rfl rfl rfl types_ok ⟨⟨ok_law29_awake, ok_lots_Head, ok_lots_Pump, trivial⟩, trivial⟩ mx (fun x => by kernel_rfl)


end Go.Proofs.YtiojagjejddocaaDoor
