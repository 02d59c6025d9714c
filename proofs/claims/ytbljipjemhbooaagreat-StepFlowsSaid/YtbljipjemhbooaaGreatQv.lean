/- Functions, evaluated. No condition. -/
import Derived.Test.YtbljipjemhbooaaGreatProg
import Derived.Test.YtbljipjemhbooaaGreatQu
namespace Go.Proofs.YtbljipjemhbooaaGreat
open Go Go.Sq
noncomputable def ref25_follow_L1 (n : List (List UInt8) × List yT0 × List (List UInt8 × Int × Int) × List (List UInt8 × Int × Int × Int × Int) × Int × Int) (ports : List Int) (vin : Int) (vat : Int) (i : Int) (v5 : Int) (v6 : Int) (v7 : List (Int × Bool)) (v8 : Int) (x4 : Int) (x5 : Int) (x6 : List (Int × Bool)) : Option ((Int × Int × Int × (List (Int × Bool)) × Int × Int × Int × List (Int × Bool)) ⊕ ((Int × Int × (List (Int × Bool)) × Int × Int × Int × List (Int × Bool)) ⊕ (Bool × Int × Int × Int × List (Int × Bool)))) :=
 bif decide (i < (ports.length : Int)) then (
 Option.bind (α := Bool × List (Int × Bool)) (
 gd (inB i n.2.2.1.length) <|
 bif decide (((n.2.2.1.getD i.toNat ([], (0, 0))).2).1 = vat) then (
 gd (inB i ports.length) <|
 some (decide (ports.getD i.toNat 0 < 0), x6))
 else (
 some (false, x6))) fun s =>
 bif s.1 then (
 gd (inB i ports.length) <|
 some (.inr (.inr (true, vin, i, min x5 (wi64 (0 - (ports.getD i.toNat 0))), s.2))))
 else (
 some (.inl (wi64 (i + 1), v5, v6, v7, v8, x4, x5, s.2))))
 else (
 some (.inr (.inl (v5, v6, v7, v8, x4, x5, x6))))

noncomputable def ref25_follow_L0 (n : List (List UInt8) × List yT0 × List (List UInt8 × Int × Int) × List (List UInt8 × Int × Int × Int × Int) × Int × Int) (rates : List Int) (ports : List Int) (vin : Int) (vat : Int) (k : Int) (v : Int) (v2 : Int) (v3 : List (Int × Bool)) (v4 : Int) (x : Int) (x2 : Int) (x3 : List (Int × Bool)) : Option ((Int × Int × Int × Int × (List (Int × Bool)) × Int × Int × Int × List (Int × Bool)) ⊕ ((Int × Int × (List (Int × Bool)) × Int × Int × Int × List (Int × Bool)) ⊕ (Bool × Int × Int × Int × List (Int × Bool)))) :=
 bif decide (k ≤ (n.1.length : Int)) then (
 (iter (fun x7 => ref25_follow_L1 n ports vin vat x7.1 x7.2.1 x7.2.2.1 x7.2.2.2.1 x7.2.2.2.2.1 x7.2.2.2.2.2.1 x7.2.2.2.2.2.2.1 x7.2.2.2.2.2.2.2) (0, v, v2, v3, v4, x, x2, x3)).bind fun s2 =>
 s2.elim (fun s3 =>
 (ref25_leaves (n.1, (n.2.1, (n.2.2.1, (n.2.2.2.1, (n.2.2.2.2.1, n.2.2.2.2.2))))) rates vat).bind fun r =>
 bif !r.2 then (
 some (.inr (.inr (false, vin, s3.2.2.2.2.1, s3.2.2.2.2.2.1, s3.2.2.2.2.2.2))))
 else (
 gd (fits (s3.2.2.2.2.2.2.length + 1) 16) <|
 gd (inB r.1.1 rates.length) <|
 (ref25_amount (rates.getD r.1.1.toNat 0)).bind fun r2 =>
 (ref25_Ends (n.1, (n.2.1, (n.2.2.1, (n.2.2.2.1, (n.2.2.2.2.1, n.2.2.2.2.2))))) (r.1.1, r.1.2)).bind fun r3 =>
 some (.inl (r3.2, wi64 (k + 1), s3.1, s3.2.1, s3.2.2.1, s3.2.2.2.1, s3.2.2.2.2.1, min s3.2.2.2.2.2.1 r2, s3.2.2.2.2.2.2 ++ [(r.1.1, r.1.2)]))))
 (fun s4 =>
 some (.inr (.inr (s4.1, s4.2.1, s4.2.2.1, s4.2.2.2.1, s4.2.2.2.2)))))
 else (
 some (.inr (.inl (v, v2, v3, v4, x, x2, x3))))

noncomputable def ref25_follow (n : List (List UInt8) × List yT0 × List (List UInt8 × Int × Int) × List (List UInt8 × Int × Int × Int × Int) × Int × Int) (rates : List Int) (ports : List Int) (vin : Int) : Option (Int × Int × Int × Bool × List (Int × Bool)) :=
 gd (inB vin ports.length) <|
 gd (inB vin n.2.2.1.length) <|
 (iter (fun x8 => ref25_follow_L0 n rates ports vin x8.1 x8.2.1 x8.2.2.1 x8.2.2.2.1 x8.2.2.2.2.1 x8.2.2.2.2.2.1 x8.2.2.2.2.2.2.1 x8.2.2.2.2.2.2.2.1 x8.2.2.2.2.2.2.2.2) (((n.2.2.1.getD vin.toNat ([], (0, 0))).2).1, 0, 0, 0, [], 0, 0, ports.getD vin.toNat 0, [])).bind fun s5 =>
 s5.elim (fun s6 =>
 some (vin, s6.2.2.2.2.1, s6.2.2.2.2.2.1, false, s6.2.2.2.2.2.2))
 (fun s7 =>
 some (s7.2.1, s7.2.2.1, s7.2.2.2.1, s7.1, s7.2.2.2.2))

noncomputable def fn_ref25_follow : Fun :=
 ⟨73, 4, 2,
 ⟨[(0, .one (.data (.pair (.sl (.str)) tT0))), (1, .one (.data (.sl (.int .i64)))), (2, .one (.data (.sl (.int .i64)))), (3, ii)], [], []⟩,
 ⟨[(0, .agg [.data (.int .i64), .data (.int .i64), .own 0, .data (.int .i64)]), (1, bb)], [], [(0, .arr 78 (.pair (.int .i64) (.bool)))]⟩,
 fun x => ref25_follow x.1 x.2.1 x.2.2.1 x.2.2.2⟩
noncomputable def cx_ref25_follow : Cx := ⟨types, [], [fn_ref25_leaves, fn_ref25_amount, fn_ref25_Ends], 101, []⟩
theorem ok_ref25_follow : FunOk Tryz.prog fn_ref25_follow :=
 FunOk.intro (C := cx_ref25_follow) (p := (nn (nn (nn (mm (nn (mm (.mk [] (some (⟨[(1, kk), (2, kk), (4, .one (.ptr 80 0)), (8, .one (.ptr 144 0)), (10, .one (.ptr 176 0)), (11, ii), (12, ii)], [(80, 32, [.keep, .keep, .keep, .keep, .keep, .keep]), (144, 46, [.data (.int .i64), .data (.int .i64), .data (.sl (.pair (.int .i64) (.bool))), .data (.int .i64)]), (176, 46, [.keep, .data (.int .i64), .own 2873, .data (.int .i64)])], [(2873, .arr 78 (.pair (.int .i64) (.bool)))]⟩, [⟨.x 0, ⟨[(8, .one (.ptr 144 0)), (10, .one (.ptr 176 0))], [(144, 46, [.data (.int .i64), .data (.int .i64), .data (.sl (.pair (.int .i64) (.bool))), .data (.int .i64)]), (176, 46, [.keep, .data (.int .i64), .own 2873, .data (.int .i64)])], [(2873, .arr 78 (.pair (.int .i64) (.bool)))]⟩⟩, ⟨.r, ⟨[(8, .one (.ptr 144 0)), (9, bb)], [(144, 46, [.data (.int .i64), .data (.int .i64), .own 2361, .data (.int .i64)])], [(2361, .arr 78 (.pair (.int .i64) (.bool)))]⟩⟩])) (nn (mm (mm (mm (nn (mm (.mk [] (some (⟨[(1, kk), (2, kk), (4, .one (.ptr 80 0)), (8, .one (.ptr 144 0)), (10, .one (.ptr 176 0)), (11, kk), (12, kk), (13, ii)], [(80, 32, [.keep, .keep, .keep, .keep, .keep, .keep]), (144, 46, [.data (.int .i64), .data (.int .i64), .data (.sl (.pair (.int .i64) (.bool))), .data (.int .i64)]), (176, 46, [.keep, .data (.int .i64), .own 2873, .data (.int .i64)])], [(2873, .arr 78 (.pair (.int .i64) (.bool)))]⟩, [⟨.x 2, ⟨[(1, kk), (2, kk), (4, .one (.ptr 80 0)), (8, .one (.ptr 144 0)), (10, .one (.ptr 176 0)), (11, kk), (12, kk)], [(80, 32, [.keep, .keep, .keep, .keep, .keep, .keep]), (144, 46, [.data (.int .i64), .data (.int .i64), .data (.sl (.pair (.int .i64) (.bool))), .data (.int .i64)]), (176, 46, [.keep, .data (.int .i64), .own 2873, .data (.int .i64)])], [(2873, .arr 78 (.pair (.int .i64) (.bool)))]⟩⟩, ⟨.r, ⟨[(8, .one (.ptr 144 0)), (9, bb)], [(144, 46, [.data (.int .i64), .data (.int .i64), .own 2873, .data (.int .i64)])], [(2873, .arr 78 (.pair (.int .i64) (.bool)))]⟩⟩])) (nn (mm (mm (mm (.mk [.join [⟨.n, ⟨[(1, kk), (2, kk), (4, .one (.ptr 80 0)), (8, .one (.ptr 144 0)), (10, .one (.ptr 176 0)), (11, kk), (12, kk), (13, kk), (55, bb)], [(80, 32, [.keep, .keep, .keep, .keep, .keep, .keep]), (144, 46, [.keep, .keep, .keep, .keep]), (176, 46, [.keep, .keep, .own 2873, .keep])], [(2873, .arr 78 (.pair (.int .i64) (.bool)))]⟩⟩]] none .nil .nil) .nil) .nil) .nil)) .nil) .nil)) .nil) .nil) .nil)) .nil) .nil)) .nil)))))
  Tryz.func73 rfl (by kernel_rfl) rfl rfl rfl rfl types_ok ⟨⟨ok_ref25_leaves, ok_ref25_amount, ok_ref25_Ends, trivial⟩, trivial⟩ mx (fun x => by kernel_rfl)

noncomputable def ref25_Divide_L2 (r2 : Int × Int × Int × Bool × List (Int × Bool)) (k : Int) (rates3 : List Int) (ports3 : List Int) (out3 : List (Int × Int × List (Int × Bool) × Int)) (x : List (Int × Bool)) : Option ((Int × List Int × List Int × (List (Int × Int × List (Int × Bool) × Int)) × List (Int × Bool)) ⊕ (List Int × List Int × (List (Int × Int × List (Int × Bool) × Int)) × List (Int × Bool))) :=
 bif decide (k < (x.length : Int)) then (
 gd (inB k x.length) <|
 Option.bind (α := List Int × List Int × (List (Int × Int × List (Int × Bool) × Int)) × List (Int × Bool)) (
 bif (x.getD k.toNat (0, false)).2 then (
 gd (inB ((x.getD k.toNat (0, false)).1) rates3.length) <|
 gd (inB ((x.getD k.toNat (0, false)).1) rates3.length) <|
 some (rates3.set (((x.getD k.toNat (0, false)).1).toNat) (wi64 ((rates3.getD (((x.getD k.toNat (0, false)).1).toNat) 0) + r2.2.2.1)), ports3, out3, x))
 else (
 gd (inB ((x.getD k.toNat (0, false)).1) rates3.length) <|
 gd (inB ((x.getD k.toNat (0, false)).1) rates3.length) <|
 some (rates3.set (((x.getD k.toNat (0, false)).1).toNat) (wi64 ((rates3.getD (((x.getD k.toNat (0, false)).1).toNat) 0) - r2.2.2.1)), ports3, out3, x))) fun s2 =>
 some (.inl (wi64 (k + 1), s2.1, s2.2.1, s2.2.2.1, s2.2.2.2)))
 else (
 some (.inr (rates3, ports3, out3, x)))

noncomputable def ref25_Divide_L1 (n : List (List UInt8) × List yT0 × List (List UInt8 × Int × Int) × List (List UInt8 × Int × Int × Int × Int) × Int × Int) (i : Int) (rates2 : List Int) (ports2 : List Int) (out2 : List (Int × Int × List (Int × Bool) × Int)) : Option ((List Int × List Int × List (Int × Int × List (Int × Bool) × Int)) ⊕ ((List Int × List Int × List (Int × Int × List (Int × Bool) × Int)) ⊕ ((List (Int × Int × List (Int × Bool) × Int)) × Int))) :=
 gd (inB i ports2.length) <|
 bif decide (0 < ports2.getD i.toNat 0) then (
 (ref25_follow (n.1, (n.2.1, (n.2.2.1, (n.2.2.2.1, (n.2.2.2.2.1, n.2.2.2.2.2))))) rates2 ports2 i).bind fun r2 =>
 Option.bind (α := Bool × List Int × List Int × (List (Int × Int × List (Int × Bool) × Int)) × List (Int × Bool)) (
 bif !r2.2.2.2.1 then (
 some (true, rates2, ports2, out2, r2.2.2.2.2))
 else (
 bif decide ((out2.length : Int) = 64) then (
 some (true, rates2, ports2, out2, r2.2.2.2.2))
 else (
 some (decide (32 < (r2.2.2.2.2.length : Int)), rates2, ports2, out2, r2.2.2.2.2)))) fun s =>
 bif s.1 then (
 some (.inr (.inr ([], 23))))
 else (
 gd (inB r2.1 s.2.2.1.length) <|
 gd (inB r2.1 s.2.2.1.length) <|
 gd (inB r2.2.1 (s.2.2.1.set r2.1.toNat (wi64 ((s.2.2.1.getD r2.1.toNat 0) - r2.2.2.1))).length) <|
 gd (inB r2.2.1 (s.2.2.1.set r2.1.toNat (wi64 ((s.2.2.1.getD r2.1.toNat 0) - r2.2.2.1))).length) <|
 (iter (fun x2 => ref25_Divide_L2 r2 x2.1 x2.2.1 x2.2.2.1 x2.2.2.2.1 x2.2.2.2.2) (0, s.2.1, (s.2.2.1.set r2.1.toNat (wi64 ((s.2.2.1.getD r2.1.toNat 0) - r2.2.2.1))).set r2.2.1.toNat (wi64 (((s.2.2.1.set r2.1.toNat (wi64 ((s.2.2.1.getD r2.1.toNat 0) - r2.2.2.1))).getD r2.2.1.toNat 0) + r2.2.2.1)), s.2.2.2.1, s.2.2.2.2)).bind fun s3 =>
 gd (fits (s3.2.2.1.length + 1) 48) <|
 some (.inl (s3.1, s3.2.1, s3.2.2.1 ++ [(r2.1, (r2.2.1, (s3.2.2.2, r2.2.2.1)))]))))
 else (
 some (.inr (.inl (rates2, ports2, out2))))

noncomputable def ref25_Divide_L0 (n : List (List UInt8) × List yT0 × List (List UInt8 × Int × Int) × List (List UInt8 × Int × Int × Int × Int) × Int × Int) (i : Int) (rates : List Int) (ports : List Int) (out : List (Int × Int × List (Int × Bool) × Int)) : Option ((Int × List Int × List Int × List (Int × Int × List (Int × Bool) × Int)) ⊕ ((List (Int × Int × List (Int × Bool) × Int)) ⊕ ((List (Int × Int × List (Int × Bool) × Int)) × Int))) :=
 bif decide (i < (ports.length : Int)) then (
 (iter (fun x3 => ref25_Divide_L1 n i x3.1 x3.2.1 x3.2.2) (rates, ports, out)).bind fun s4 =>
 s4.elim (fun s5 =>
 some (.inl (wi64 (i + 1), s5.1, s5.2.1, s5.2.2)))
 (fun s6 =>
 some (.inr (.inr (s6.1, s6.2)))))
 else (
 some (.inr (.inl out)))

noncomputable def ref25_Divide (n : List (List UInt8) × List yT0 × List (List UInt8 × Int × Int) × List (List UInt8 × Int × Int × Int × Int) × Int × Int) (p : List Int × List Int × List Bool) : Option ((List (Int × Int × List (Int × Bool) × Int)) × Int) :=
 (ref16_Check (n.1, (n.2.1, (n.2.2.1, (n.2.2.2.1, (n.2.2.2.2.1, n.2.2.2.2.2))))) (p.1, (p.2.1, p.2.2))).bind fun r =>
 bif !decide (r = 0) then (
 some ([], r))
 else (
 gd (fits (0 + p.1.length) 8) <|
 gd (fits (0 + p.2.1.length) 8) <|
 (iter (fun x4 => ref25_Divide_L0 n x4.1 x4.2.1 x4.2.2.1 x4.2.2.2) (0, ([] ++ p.1), ([] ++ p.2.1), [])).bind fun s7 =>
 s7.elim (fun s8 =>
 some (s8, 0))
 (fun s9 =>
 some (s9.1, s9.2)))

noncomputable def fn_ref25_Divide : Fun :=
 ⟨43, 2, 2,
 ⟨[(0, .one (.data (.pair (.sl (.str)) tT0))), (1, .one (.data tT4))], [], []⟩,
 ⟨[(0, .one (.data (.sl tT3))), (1, ii)], [], []⟩,
 fun x => ref25_Divide x.1 x.2⟩
noncomputable def cx_ref25_Divide : Cx := ⟨types, [21, 25], [fn_ref16_Check, fn_ref25_follow], 128, []⟩
theorem ok_ref25_Divide : FunOk Tryz.prog fn_ref25_Divide :=
 FunOk.intro (C := cx_ref25_Divide) (p := (nn (nn (nn (nn (nn (mm (nn (mm (.mk [] (some (⟨[(2, .one (.ptr 48 0)), (7, .one (.own 400)), (8, .one (.own 464)), (9, .one (.own 171)), (10, ii)], [(48, 32, [.keep, .keep, .keep, .keep, .keep, .keep])], [(400, .arr 3 (.int .i64)), (464, .arr 3 (.int .i64)), (171, .arr 46 tT3)]⟩, [⟨.x 0, ⟨[(9, .one (.own 171))], [], [(171, .arr 46 tT3)]⟩⟩, ⟨.r, ⟨[(4, .one (.data (.sl tT3))), (5, ii)], [], []⟩⟩])) (nn (mm (mm (mm (.mk [] (some (⟨[(2, .one (.ptr 48 0)), (7, .one (.own 400)), (8, .one (.own 464)), (9, .one (.own 171)), (10, kk)], [(48, 32, [.keep, .keep, .keep, .keep, .keep, .keep])], [(400, .arr 3 (.int .i64)), (464, .arr 3 (.int .i64)), (171, .arr 46 tT3)]⟩, [⟨.x 2, ⟨[(2, .one (.ptr 48 0)), (7, .one (.own 400)), (8, .one (.own 464)), (9, .one (.own 171)), (10, kk)], [(48, 32, [.keep, .keep, .keep, .keep, .keep, .keep])], [(400, .arr 3 (.int .i64)), (464, .arr 3 (.int .i64)), (171, .arr 46 tT3)]⟩⟩, ⟨.r, ⟨[(4, .one (.data (.sl tT3))), (5, ii)], [], []⟩⟩])) (nn (mm (nn (mm (mm (.mk [.join [⟨.n, ⟨[(2, .one (.ptr 48 0)), (7, .one (.own 400)), (8, .one (.own 464)), (9, .one (.own 171)), (10, kk), (11, .one (.ptr 192 0)), (60, bb)], [(48, 32, [.keep, .keep, .keep, .keep, .keep, .keep]), (192, 46, [.keep, .keep, .own 736, .keep])], [(400, .arr 3 (.int .i64)), (464, .arr 3 (.int .i64)), (171, .arr 46 tT3), (736, .arr 78 (.pair (.int .i64) (.bool)))]⟩⟩]] none .nil .nil) .nil) (nn (nn (mm (nn (mm (.mk [] (some (⟨[(2, .one (.ptr 48 0)), (7, .one (.own 400)), (8, .one (.own 464)), (9, .one (.own 171)), (10, kk), (11, .one (.ptr 192 0)), (13, ii)], [(48, 32, [.keep, .keep, .keep, .keep, .keep, .keep]), (192, 46, [.keep, .keep, .own 736, .keep])], [(400, .arr 3 (.int .i64)), (464, .arr 3 (.int .i64)), (171, .arr 46 tT3), (736, .arr 78 (.pair (.int .i64) (.bool)))]⟩, [⟨.x 4, ⟨[(2, .one (.ptr 48 0)), (7, .one (.own 400)), (8, .one (.own 464)), (9, .one (.own 171)), (10, kk), (11, .one (.ptr 192 0))], [(48, 32, [.keep, .keep, .keep, .keep, .keep, .keep]), (192, 46, [.keep, .keep, .own 736, .keep])], [(400, .arr 3 (.int .i64)), (464, .arr 3 (.int .i64)), (171, .arr 46 tT3), (736, .arr 78 (.pair (.int .i64) (.bool)))]⟩⟩])) (nn (mm (mm (nn (nn (.mk [.join [⟨.n, ⟨[(2, .one (.ptr 48 0)), (7, .one (.own 400)), (8, .one (.own 464)), (9, .one (.own 171)), (10, kk), (11, .one (.ptr 192 0)), (13, kk)], [(48, 32, [.keep, .keep, .keep, .keep, .keep, .keep]), (192, 46, [.keep, .keep, .own 736, .keep])], [(400, .arr 3 (.int .i64)), (464, .arr 3 (.int .i64)), (171, .arr 46 tT3), (736, .arr 78 (.pair (.int .i64) (.bool)))]⟩⟩]] none .nil .nil))) .nil) .nil)) .nil) .nil)) (.mk [.fz [11]] none .nil .nil)))))) .nil)) .nil) .nil) .nil) .nil)) .nil) .nil)) .nil)))))))
  Tryz.func43 rfl (by kernel_rfl) rfl rfl rfl rfl types_ok ⟨⟨ok_ref16_Check, ok_ref25_follow, trivial⟩, trivial⟩ mx (fun x => by kernel_rfl)

noncomputable def ref25_Copy (p : Int × Int × List (Int × Bool) × Int) : Option (Int × Int × Int × List (Int × Bool)) :=
 gd (fits (0 + p.2.2.1.length) 16) <|
 some (p.1, p.2.1, p.2.2.2, ([] ++ p.2.2.1))

noncomputable def fn_ref25_Copy : Fun :=
 ⟨44, 1, 1,
 ⟨[(0, .one (.data tT3))], [], []⟩,
 ⟨[(0, .agg [.data (.int .i64), .data (.int .i64), .own 0, .data (.int .i64)])], [], [(0, .arr 78 (.pair (.int .i64) (.bool)))]⟩,
 fun x => ref25_Copy x⟩
noncomputable def cx_ref25_Copy : Cx := ⟨types, [3], [], 9, []⟩
theorem ok_ref25_Copy : FunOk Tryz.prog fn_ref25_Copy :=
 FunOk.intro (C := cx_ref25_Copy) (p := .nil)
  Tryz.func44 rfl (by kernel_rfl) rfl rfl rfl rfl types_ok ⟨trivial, trivial⟩ mx (fun x => by kernel_rfl)

noncomputable def second_Step (n : List (List UInt8) × List yT0 × List (List UInt8 × Int × Int) × List (List UInt8 × Int × Int × Int × Int) × Int × Int) (d : List (Int × Int × Bool × Bool) × List Int × List Int × List Bool) (s : List Int) (s2 : Int) : Option ((Int × Int × Int × Int × Int × List (Int × Bool) × Int) × List Int × Int) :=
 (keep_Src_N 9 s s2).bind fun r =>
 bif decide (r.1 = 0) then (
 (keep_Src_N (wi64 ((d.1.length : Int) + 1)) r.2.1 r.2.2).bind fun r2 =>
 some ((1, (r2.1, (0, (0, (0, ([], 0)))))), r2.2.1, r2.2.2))
 else (
 bif decide (r.1 = 1) then (
 (keep_Src_N (wi64 ((d.1.length : Int) + 2)) r.2.1 r.2.2).bind fun r3 =>
 some ((2, (wi64 (r3.1 - 1), (0, (0, (0, ([], 0)))))), r3.2.1, r3.2.2))
 else (
 bif decide (r.1 = 2) then (
 (keep_Src_N (wi64 ((n.2.2.2.1.length : Int) + 1)) r.2.1 r.2.2).bind fun r4 =>
 some ((3, (r4.1, (0, (0, (0, ([], 0)))))), r4.2.1, r4.2.2))
 else (
 bif decide (r.1 = 3) then (
 (keep_Src_N (wi64 ((n.2.2.2.1.length : Int) + 1)) r.2.1 r.2.2).bind fun r5 =>
 some ((4, (r5.1, (0, (0, (0, ([], 0)))))), r5.2.1, r5.2.2))
 else (
 Option.bind (α := Bool) (
 bif decide (r.1 = 4) then (
 some (decide (r.1 = 4)))
 else (
 some (decide (r.1 = 5)))) fun s3 =>
 bif s3 then (
 (keep_Src_Pick [1, 2, 7, 60, 100, 0, 101] r.2.1 r.2.2).bind fun r6 =>
 some ((6, (0, (r6.1, (0, (0, ([], 0)))))), r6.2.1, r6.2.2))
 else (
 bif decide (r.1 = 6) then (
 (keep_Src_N 9 r.2.1 r.2.2).bind fun r7 =>
 (keep_Src_N 4 r7.2.1 r7.2.2).bind fun r8 =>
 (keep_Src_N 5 r8.2.1 r8.2.2).bind fun r9 =>
 (keep_Src_N 2 r9.2.1 r9.2.2).bind fun r10 =>
 (keep_Src_N 2 r10.2.1 r10.2.2).bind fun r11 =>
 some ((r7.1, (r8.1, (r9.1, (r10.1, (0, ([], r11.1)))))), r11.2.1, r11.2.2))
 else (
 (keep_Src_N 2 r.2.1 r.2.2).bind fun r12 =>
 Option.bind (α := List Int × Int × List Int × List Int × List Bool) (
 bif decide (r12.1 = 0) then (
 (keep_Src_Plan (n.1, (n.2.1, (n.2.2.1, (n.2.2.2.1, (n.2.2.2.2.1, n.2.2.2.2.2))))) r12.2.1 r12.2.2).bind fun r13 =>
 some (r13.2.1, r13.2.2, r13.1.1, r13.1.2.1, r13.1.2.2))
 else (
 some (r12.2.1, r12.2.2, d.2.1, d.2.2.1, d.2.2.2))) fun s4 =>
 (ref25_Divide (n.1, (n.2.1, (n.2.2.1, (n.2.2.2.1, (n.2.2.2.2.1, n.2.2.2.2.2))))) (s4.2.2.1, (s4.2.2.2.1, s4.2.2.2.2))).bind fun r14 =>
 bif decide ((r14.1.length : Int) = 0) then (
 some ((5, (0, (1, (0, (1, ([], 0)))))), s4.1, s4.2.1))
 else (
 (keep_Src_N (r14.1.length : Int) s4.1 s4.2.1).bind fun r15 =>
 gd (inB r15.1 r14.1.length) <|
 (ref25_Copy (r14.1.getD r15.1.toNat (0, (0, ([], 0))))).bind fun r16 =>
 (keep_Src_Pick [r16.2.2.1, wi64 (0 - r16.2.2.1), 1, (-1), wi64 (r16.2.2.1 + 1), wi64 ((wi64 (0 - r16.2.2.1)) - 1), 0] r15.2.1 r15.2.2).bind fun r17 =>
 some ((5, (0, (r17.1, (r16.1, (r16.2.1, (r16.2.2.2, 0)))))), r17.2.1, r17.2.2))))))))

noncomputable def fn_second_Step : Fun :=
 ⟨16, 3, 1,
 ⟨[(0, .one (.ptr 0 0)), (1, .one (.data (.pair (.sl (.str)) tT0))), (2, .one (.data (.pair (.sl tT1) tT4)))], [(0, 80, [.data (.sl (.int .i64)), .data (.int .i64)])], []⟩,
 ⟨[(0, .one (.data (.pair (.int .i64) (.pair (.int .i64) (.pair (.int .i64) tT3)))))], [(0, 80, [.data (.sl (.int .i64)), .data (.int .i64)])], []⟩,
 fun x => second_Step x.1 x.2.1 x.2.2.1 x.2.2.2⟩
noncomputable def cx_second_Step : Cx := ⟨types, [], [fn_keep_Src_N, fn_keep_Src_Pick, fn_keep_Src_Plan, fn_ref25_Divide, fn_ref25_Copy], 118, []⟩
theorem ok_second_Step : FunOk Tryz.prog fn_second_Step :=
 FunOk.intro (C := cx_second_Step) (p := (nn (mm (nn (mm (nn (nn (nn (nn (nn (nn (nn (nn (mm (nn (.mk [.join [⟨.n, ⟨[(0, .one (.ptr 0 0)), (4, .one (.ptr 80 0)), (5, .one (.ptr 96 0)), (6, .one (.ptr 112 0)), (13, kk), (51, bb)], [(0, 80, [.keep, .keep]), (80, 32, [.keep, .keep, .keep, .keep, .keep, .keep]), (96, 40, [.keep, .keep, .keep, .keep]), (112, 48, [.keep, .keep, .keep, .keep, .keep, .keep, .keep])], []⟩⟩]] none .nil .nil)) .nil))))))))) .nil)) (nn (mm (nn (.mk [.join [⟨.n, ⟨[(0, .one (.ptr 0 0)), (4, .one (.ptr 80 0)), (6, .one (.ptr 112 0)), (7, .one (.ptr 128 0))], [(0, 80, [.data (.sl (.int .i64)), .data (.int .i64)]), (80, 32, [.keep, .keep, .keep, .keep, .keep, .keep]), (112, 48, [.keep, .keep, .keep, .keep, .keep, .keep, .keep]), (128, 36, [.data (.sl (.int .i64)), .data (.sl (.int .i64)), .data (.sl (.bool))])], []⟩⟩]] none .nil .nil)) .nil)))))
  Tryz.func16 rfl (by kernel_rfl) rfl rfl rfl rfl types_ok ⟨⟨ok_keep_Src_N, ok_keep_Src_Pick, ok_keep_Src_Plan, ok_ref25_Divide, ok_ref25_Copy, trivial⟩, trivial⟩ mx (fun x => by kernel_rfl)

noncomputable def ref23_SameInts_L0 (a : List Int) (b : List Int) (i : Int) : Option (Int ⊕ (Unit ⊕ Bool)) :=
 bif decide (i < (a.length : Int)) then (
 gd (inB i a.length) <|
 gd (inB i b.length) <|
 bif !decide (a.getD i.toNat 0 = b.getD i.toNat 0) then (
 some (.inr (.inr false)))
 else (
 some (.inl (wi64 (i + 1)))))
 else (
 some (.inr (.inl ())))

noncomputable def ref23_SameInts (a : List Int) (b : List Int) : Option (Bool) :=
 bif !decide ((a.length : Int) = (b.length : Int)) then (
 some false)
 else (
 (iter (fun x => ref23_SameInts_L0 a b x) 0).bind fun s =>
 s.elim (fun s2 =>
 some true)
 (fun s3 =>
 some s3))

noncomputable def fn_ref23_SameInts : Fun :=
 ⟨68, 2, 1,
 ⟨[(0, .one (.data (.sl (.int .i64)))), (1, .one (.data (.sl (.int .i64))))], [], []⟩,
 ⟨[(0, bb)], [], []⟩,
 fun x => ref23_SameInts x.1 x.2⟩
noncomputable def cx_ref23_SameInts : Cx := ⟨types, [], [], 26, []⟩
theorem ok_ref23_SameInts : FunOk Tryz.prog fn_ref23_SameInts :=
 FunOk.intro (C := cx_ref23_SameInts) (p := (nn (nn (mm (nn (mm (.mk [] (some (⟨[(0, kk), (1, kk), (5, ii)], [], []⟩, [⟨.x 0, ⟨[], [], []⟩⟩, ⟨.r, ⟨[(4, bb)], [], []⟩⟩])) .nil .nil) .nil)) .nil))))
  Tryz.func68 rfl (by kernel_rfl) rfl rfl rfl rfl types_ok ⟨trivial, trivial⟩ mx (fun x => by kernel_rfl)

noncomputable def ref23_SameBools_L0 (a : List Bool) (b : List Bool) (i : Int) : Option (Int ⊕ (Unit ⊕ Bool)) :=
 bif decide (i < (a.length : Int)) then (
 gd (inB i a.length) <|
 gd (inB i b.length) <|
 bif !(a.getD i.toNat false == b.getD i.toNat false) then (
 some (.inr (.inr false)))
 else (
 some (.inl (wi64 (i + 1)))))
 else (
 some (.inr (.inl ())))

noncomputable def ref23_SameBools (a : List Bool) (b : List Bool) : Option (Bool) :=
 bif !decide ((a.length : Int) = (b.length : Int)) then (
 some false)
 else (
 (iter (fun x => ref23_SameBools_L0 a b x) 0).bind fun s =>
 s.elim (fun s2 =>
 some true)
 (fun s3 =>
 some s3))

noncomputable def fn_ref23_SameBools : Fun :=
 ⟨69, 2, 1,
 ⟨[(0, .one (.data (.sl (.bool)))), (1, .one (.data (.sl (.bool))))], [], []⟩,
 ⟨[(0, bb)], [], []⟩,
 fun x => ref23_SameBools x.1 x.2⟩
noncomputable def cx_ref23_SameBools : Cx := ⟨types, [], [], 26, []⟩
theorem ok_ref23_SameBools : FunOk Tryz.prog fn_ref23_SameBools :=
 FunOk.intro (C := cx_ref23_SameBools) (p := (nn (nn (mm (nn (mm (.mk [] (some (⟨[(0, kk), (1, kk), (5, ii)], [], []⟩, [⟨.x 0, ⟨[], [], []⟩⟩, ⟨.r, ⟨[(4, bb)], [], []⟩⟩])) .nil .nil) .nil)) .nil))))
  Tryz.func69 rfl (by kernel_rfl) rfl rfl rfl rfl types_ok ⟨trivial, trivial⟩ mx (fun x => by kernel_rfl)

noncomputable def ref25_SamePlan (a : List Int × List Int × List Bool) (b : List Int × List Int × List Bool) : Option (Bool) :=
 (ref23_SameInts a.1 b.1).bind fun r =>
 bif r then (
 (ref23_SameInts a.2.1 b.2.1).bind fun r2 =>
 bif r2 then (
 (ref23_SameBools a.2.2 b.2.2).bind fun r3 =>
 some r3)
 else (
 some false))
 else (
 some false)

noncomputable def fn_ref25_SamePlan : Fun :=
 ⟨28, 2, 1,
 ⟨[(0, .one (.data tT4)), (1, .one (.data tT4))], [], []⟩,
 ⟨[(0, bb)], [], []⟩,
 fun x => ref25_SamePlan x.1 x.2⟩
noncomputable def cx_ref25_SamePlan : Cx := ⟨types, [], [fn_ref23_SameInts, fn_ref23_SameBools], 24, []⟩
theorem ok_ref25_SamePlan : FunOk Tryz.prog fn_ref25_SamePlan :=
 FunOk.intro (C := cx_ref25_SamePlan) (p := .nil)
  Tryz.func28 rfl (by kernel_rfl) rfl rfl rfl rfl types_ok ⟨⟨ok_ref23_SameInts, ok_ref23_SameBools, trivial⟩, trivial⟩ mx (fun x => by kernel_rfl)

noncomputable def law26_StepFlows_L0 (r4 : (List (List UInt8) × List yT0 × List (List UInt8 × Int × Int) × List (List UInt8 × Int × Int × Int × Int) × Int × Int) × List Int × Int) (ran : Int) (i : Int) (s : List Int) (s2 : Int) (d : List (Int × Int × Bool × Bool)) (d2 : List Int) (d3 : List Int) (d4 : List Bool) (now : List (Int × Int × Bool × Bool)) (now2 : List Int) (now3 : List Int) (now4 : List Bool) (more : List Int) : Option ((Int × Int × List Int × Int × (List (Int × Int × Bool × Bool)) × List Int × List Int × List Bool × (List (Int × Int × Bool × Bool)) × List Int × List Int × List Bool × List Int) ⊕ (Int × (List (Int × Int × Bool × Bool)) × List Int × List Int × List Bool × (List (Int × Int × Bool × Bool)) × List Int × List Int × List Bool × List Int)) :=
 Option.bind (α := Bool × List Int × Int × List Int) (
 bif decide (i < 20) then (
 (keep_Src_More s s2).bind fun r7 =>
 some (r7.1, r7.2.1, r7.2.2, more))
 else (
 some (false, s, s2, more))) fun s3 =>
 bif s3.1 then (
 Option.bind (α := Int × List Int × Int × (List (Int × Int × Bool × Bool)) × List Int × List Int × List Bool × List Int) (
 (second_Step (r4.1.1, (r4.1.2.1, (r4.1.2.2.1, (r4.1.2.2.2.1, (r4.1.2.2.2.2.1, r4.1.2.2.2.2.2))))) (now, (now2, (now3, now4))) s3.2.1 s3.2.2.1).bind fun r8 =>
 (step_Apply (r4.1.1, (r4.1.2.1, (r4.1.2.2.1, (r4.1.2.2.2.1, (r4.1.2.2.2.2.1, r4.1.2.2.2.2.2))))) (now, (now2, (now3, now4))) (r8.1.1, (r8.1.2.1, (r8.1.2.2.1, (r8.1.2.2.2.1, (r8.1.2.2.2.2.1, (r8.1.2.2.2.2.2.1, r8.1.2.2.2.2.2.2))))))).bind fun r9 =>
 bif !decide (r9.2 = 0) then (
 some (ran, r8.2.1, r8.2.2, now, now2, now3, now4, s3.2.2.2))
 else (
 Option.bind (α := List Int) (
 bif decide (r8.1.1 = 5) then (
 gd (inB r8.1.2.2.2.1 s3.2.2.2.length) <|
 gd (inB r8.1.2.2.2.1 s3.2.2.2.length) <|
 gd (inB r8.1.2.2.2.2.1 (s3.2.2.2.set r8.1.2.2.2.1.toNat (wi64 ((s3.2.2.2.getD r8.1.2.2.2.1.toNat 0) + r8.1.2.2.1))).length) <|
 gd (inB r8.1.2.2.2.2.1 (s3.2.2.2.set r8.1.2.2.2.1.toNat (wi64 ((s3.2.2.2.getD r8.1.2.2.2.1.toNat 0) + r8.1.2.2.1))).length) <|
 some ((s3.2.2.2.set r8.1.2.2.2.1.toNat (wi64 ((s3.2.2.2.getD r8.1.2.2.2.1.toNat 0) + r8.1.2.2.1))).set r8.1.2.2.2.2.1.toNat (wi64 (((s3.2.2.2.set r8.1.2.2.2.1.toNat (wi64 ((s3.2.2.2.getD r8.1.2.2.2.1.toNat 0) + r8.1.2.2.1))).getD r8.1.2.2.2.2.1.toNat 0) - r8.1.2.2.1))))
 else (
 some s3.2.2.2)) fun s4 =>
 Option.bind (α := Int × List Int) (
 bif decide (r8.1.1 = 6) then (
 some (wi64 (ran + r8.1.2.2.1), s4))
 else (
 some (ran, s4))) fun s5 =>
 some (s5.1, r8.2.1, r8.2.2, r9.1.1, r9.1.2.1, r9.1.2.2.1, r9.1.2.2.2, s5.2))) fun s6 =>
 some (.inl (s6.1, wi64 (i + 1), s6.2.1, s6.2.2.1, d, d2, d3, d4, s6.2.2.2.1, s6.2.2.2.2.1, s6.2.2.2.2.2.1, s6.2.2.2.2.2.2.1, s6.2.2.2.2.2.2.2)))
 else (
 some (.inr (ran, d, d2, d3, d4, now, now2, now3, now4, s3.2.2.2)))

noncomputable def law26_StepFlows_L1 (s7 : Int × (List (Int × Int × Bool × Bool)) × List Int × List Int × List Bool × (List (Int × Int × Bool × Bool)) × List Int × List Int × List Bool × List Int) (i2 : Int) (more2 : List Int) : Option ((Int × List Int) ⊕ (Unit ⊕ Bool)) :=
 bif decide (i2 < (more2.length : Int)) then (
 gd (inB i2 s7.2.2.2.2.2.2.2.1.length) <|
 gd (inB i2 s7.2.2.2.1.length) <|
 gd (inB i2 more2.length) <|
 bif !decide (s7.2.2.2.2.2.2.2.1.getD i2.toNat 0 = wi64 ((s7.2.2.2.1.getD i2.toNat 0) + (more2.getD i2.toNat 0))) then (
 some (.inr (.inr false)))
 else (
 some (.inl (wi64 (i2 + 1), more2))))
 else (
 some (.inr (.inl ())))

noncomputable def law26_StepFlows_L2 (s7 : Int × (List (Int × Int × Bool × Bool)) × List Int × List Int × List Bool × (List (Int × Int × Bool × Bool)) × List Int × List Int × List Bool × List Int) (i3 : Int) : Option (Int ⊕ (Unit ⊕ Bool)) :=
 bif decide (i3 < (s7.2.2.2.2.2.1.length : Int)) then (
 gd (inB i3 s7.2.2.2.2.2.1.length) <|
 gd (inB i3 s7.2.1.length) <|
 Option.bind (α := Bool) (
 bif decide (s7.1 < wi64 ((((s7.2.2.2.2.2.1.getD i3.toNat (0, (0, (false, false)))).2).1) - (((s7.2.1.getD i3.toNat (0, (0, (false, false)))).2).1))) then (
 some true)
 else (
 some (decide (s7.1 < wi64 (0 - (wi64 ((((s7.2.2.2.2.2.1.getD i3.toNat (0, (0, (false, false)))).2).1) - (((s7.2.1.getD i3.toNat (0, (0, (false, false)))).2).1)))))))) fun s11 =>
 bif s11 then (
 some (.inr (.inr false)))
 else (
 some (.inl (wi64 (i3 + 1)))))
 else (
 some (.inr (.inl ())))

noncomputable def law26_StepFlows (l : List Int) : Option (Bool) :=
 (second_Few l).bind fun r =>
 bif !r then (
 (law26_awake).bind fun r2 =>
 some r2)
 else (
 (keep_New l).bind fun r3 =>
 (keep_Src_Network r3.1 r3.2).bind fun r4 =>
 (second_Plan (r4.1.1, (r4.1.2.1, (r4.1.2.2.1, (r4.1.2.2.2.1, (r4.1.2.2.2.2.1, r4.1.2.2.2.2.2))))) r4.2.1 r4.2.2).bind fun r5 =>
 (second_Opened (r4.1.1, (r4.1.2.1, (r4.1.2.2.1, (r4.1.2.2.2.1, (r4.1.2.2.2.2.1, r4.1.2.2.2.2.2))))) (r5.1.1, (r5.1.2.1, r5.1.2.2)) r5.2.1 r5.2.2).bind fun r6 =>
 gd (makeG 8 (r4.1.2.2.1.length : Int)) <|
 (iter (fun x => law26_StepFlows_L0 r4 x.1 x.2.1 x.2.2.1 x.2.2.2.1 x.2.2.2.2.1 x.2.2.2.2.2.1 x.2.2.2.2.2.2.1 x.2.2.2.2.2.2.2.1 x.2.2.2.2.2.2.2.2.1 x.2.2.2.2.2.2.2.2.2.1 x.2.2.2.2.2.2.2.2.2.2.1 x.2.2.2.2.2.2.2.2.2.2.2.1 x.2.2.2.2.2.2.2.2.2.2.2.2) (0, 0, r6.1, r6.2.1, r6.2.2.1, r6.2.2.2.1, r6.2.2.2.2.1, r6.2.2.2.2.2, r6.2.2.1, r6.2.2.2.1, r6.2.2.2.2.1, r6.2.2.2.2.2, List.replicate (r4.1.2.2.1.length : Int).toNat (0 : Int))).bind fun s7 =>
 (iter (fun x2 => law26_StepFlows_L1 s7 x2.1 x2.2) (0, s7.2.2.2.2.2.2.2.2.2)).bind fun s8 =>
 s8.elim (fun s9 =>
 (iter (fun x3 => law26_StepFlows_L2 s7 x3) 0).bind fun s12 =>
 s12.elim (fun s13 =>
 (ref25_CopyPlan (s7.2.2.2.2.2.2.1, (s7.2.2.2.2.2.2.2.1, s7.2.2.2.2.2.2.2.2.1))).bind fun r10 =>
 (ref25_SamePlan (r10.1, (r10.2.1, r10.2.2)) (s7.2.2.2.2.2.2.1, (s7.2.2.2.2.2.2.2.1, s7.2.2.2.2.2.2.2.2.1))).bind fun r11 =>
 bif r11 then (
 (law26_awake).bind fun r12 =>
 some r12)
 else (
 some false))
 (fun s14 =>
 some s14))
 (fun s10 =>
 some s10))

noncomputable def fn_law26_StepFlows : Fun :=
 ⟨7, 1, 1,
 ⟨[(0, .one (.data (.sl (.int .i64))))], [], []⟩,
 ⟨[(0, bb)], [], []⟩,
 fun x => law26_StepFlows x⟩
noncomputable def cx_law26_StepFlows : Cx := ⟨types, [], [fn_second_Few, fn_law26_awake, fn_keep_New, fn_keep_Src_Network, fn_second_Plan, fn_second_Opened, fn_keep_Src_More, fn_second_Step, fn_step_Apply, fn_ref25_CopyPlan, fn_ref25_SamePlan], 159, []⟩
theorem ok_law26_StepFlows : FunOk Tryz.prog fn_law26_StepFlows :=
 FunOk.intro (C := cx_law26_StepFlows) (p := (nn (nn (nn (nn (nn (nn (nn (nn (nn (mm (nn (mm (.mk [] (some (⟨[(3, .one (.ptr 368 0)), (4, .one (.ptr 80 0)), (6, .one (.ptr 112 0)), (7, .one (.ptr 128 0)), (8, .one (.own 592)), (9, ii), (10, ii)], [(368, 80, [.data (.sl (.int .i64)), .data (.int .i64)]), (80, 32, [.keep, .keep, .keep, .keep, .keep, .keep]), (112, 40, [.data (.sl tT1), .data (.sl (.int .i64)), .data (.sl (.int .i64)), .data (.sl (.bool))]), (128, 40, [.data (.sl tT1), .data (.sl (.int .i64)), .data (.sl (.int .i64)), .data (.sl (.bool))])], [(592, .arr 3 (.int .i64))]⟩, [⟨.x 0, ⟨[(6, .one (.ptr 112 0)), (7, .one (.ptr 128 0)), (8, .one (.own 592)), (9, ii)], [(112, 40, [.data (.sl tT1), .data (.sl (.int .i64)), .data (.sl (.int .i64)), .data (.sl (.bool))]), (128, 40, [.data (.sl tT1), .data (.sl (.int .i64)), .data (.sl (.int .i64)), .data (.sl (.bool))])], [(592, .arr 3 (.int .i64))]⟩⟩])) (mm (mm (.mk [.join [⟨.n, ⟨[(3, .one (.ptr 368 0)), (4, .one (.ptr 80 0)), (6, .one (.ptr 112 0)), (7, .one (.ptr 128 0)), (8, .one (.own 592)), (9, kk), (10, kk), (42, bb)], [(368, 80, [.data (.sl (.int .i64)), .data (.int .i64)]), (80, 32, [.keep, .keep, .keep, .keep, .keep, .keep]), (112, 40, [.keep, .keep, .keep, .keep]), (128, 40, [.keep, .keep, .keep, .keep])], [(592, .arr 3 (.int .i64))]⟩⟩]] none .nil .nil) .nil) (mm (.mk [.join [⟨.n, ⟨[(3, .one (.ptr 368 0)), (4, .one (.ptr 80 0)), (6, .one (.ptr 112 0)), (7, .one (.ptr 128 0)), (8, .one (.own 592)), (9, ii), (10, kk)], [(368, 80, [.data (.sl (.int .i64)), .data (.int .i64)]), (80, 32, [.keep, .keep, .keep, .keep, .keep, .keep]), (112, 40, [.keep, .keep, .keep, .keep]), (128, 40, [.data (.sl tT1), .data (.sl (.int .i64)), .data (.sl (.int .i64)), .data (.sl (.bool))])], [(592, .arr 3 (.int .i64))]⟩⟩]] none (mm (.mk [.fz [6]] none .nil .nil) (nn (nn (mm (nn (.mk [.join [⟨.n, ⟨[(3, .one (.ptr 368 0)), (4, .one (.ptr 80 0)), (6, .one (.ptr 112 0)), (7, .one (.ptr 128 0)), (8, .one (.own 592)), (9, kk), (10, kk), (11, .one (.ptr 192 0)), (12, .one (.ptr 208 0))], [(368, 80, [.keep, .keep]), (80, 32, [.keep, .keep, .keep, .keep, .keep, .keep]), (112, 40, [.keep, .keep, .keep, .keep]), (128, 40, [.keep, .keep, .keep, .keep]), (192, 48, [.keep, .keep, .keep, .keep, .keep, .keep, .keep]), (208, 40, [.keep, .keep, .keep, .keep])], [(592, .arr 3 (.int .i64))]⟩⟩]] none .nil .nil)) (mm (nn (.mk [.join [⟨.n, ⟨[(3, .one (.ptr 368 0)), (4, .one (.ptr 80 0)), (6, .one (.ptr 112 0)), (7, .one (.ptr 128 0)), (8, .one (.own 592)), (9, ii), (10, kk), (12, .one (.ptr 208 0))], [(368, 80, [.keep, .keep]), (80, 32, [.keep, .keep, .keep, .keep, .keep, .keep]), (112, 40, [.keep, .keep, .keep, .keep]), (128, 40, [.keep, .keep, .keep, .keep]), (208, 40, [.keep, .keep, .keep, .keep])], [(592, .arr 3 (.int .i64))]⟩⟩]] none .nil .nil)) .nil))))) .nil) .nil)) .nil) .nil)) (mm (nn (mm (.mk [] (some (⟨[(6, .one (.ptr 112 0)), (7, .one (.ptr 128 0)), (8, .one (.own 592)), (9, kk), (14, ii)], [(112, 40, [.keep, .keep, .keep, .keep]), (128, 40, [.keep, .keep, .keep, .keep])], [(592, .arr 3 (.int .i64))]⟩, [⟨.x 2, ⟨[(6, .one (.ptr 112 0)), (7, .one (.ptr 128 0)), (9, kk)], [(112, 40, [.keep, .keep, .keep, .keep]), (128, 40, [.keep, .keep, .keep, .keep])], []⟩⟩, ⟨.r, ⟨[(2, bb)], [], []⟩⟩])) .nil .nil) .nil)) (mm (nn (mm (.mk [] (some (⟨[(6, .one (.ptr 112 0)), (7, .one (.ptr 128 0)), (9, kk), (15, ii)], [(112, 40, [.keep, .keep, .keep, .keep]), (128, 40, [.keep, .keep, .keep, .keep])], []⟩, [⟨.x 4, ⟨[(7, .one (.ptr 128 0))], [(128, 40, [.keep, .keep, .keep, .keep])], []⟩⟩, ⟨.r, ⟨[(2, bb)], [], []⟩⟩])) (nn (mm (mm (nn (mm (.mk [.join [⟨.n, ⟨[(6, .one (.ptr 112 0)), (7, .one (.ptr 128 0)), (9, kk), (15, kk), (149, bb)], [(112, 40, [.keep, .keep, .keep, .keep]), (128, 40, [.keep, .keep, .keep, .keep])], []⟩⟩]] none .nil .nil) .nil)) .nil) .nil)) .nil) .nil)) .nil)))))))))))))
  Tryz.func7 rfl (by kernel_rfl) rfl rfl rfl rfl types_ok ⟨⟨ok_second_Few, ok_law26_awake, ok_keep_New, ok_keep_Src_Network, ok_second_Plan, ok_second_Opened, ok_keep_Src_More, ok_second_Step, ok_step_Apply, ok_ref25_CopyPlan, ok_ref25_SamePlan, trivial⟩, trivial⟩ mx (fun x => by kernel_rfl)


end Go.Proofs.YtbljipjemhbooaaGreat
