/- Functions, evaluated. No condition. -/
import Derived.Test.YtbljipjemhbooaaGreatProg
import Derived.Test.YtbljipjemhbooaaGreatQu
namespace Go.Proofs.YtbljipjemhbooaaGreat
open Go Go.Sq
noncomputable def ref25_follow_L1 (n : List (List UInt8) × List yT0 × List (List UInt8 × Int × Int) × List (List UInt8 × Int × Int × Int × Int) × Int × Int) (ports : List Int) (vin : Int) (vat : Int) (i : Int) (v5 : Int) (v6 : Int) (v7 : List (Int × Bool)) (v8 : Int) (x4 : Int) (x5 : Int) (x6 : List (Int × Bool)) : Option ((Int × Int × Int × (List (Int × Bool)) × Int × Int × Int × List (Int × Bool)) ⊕ ((Int × Int × (List (Int × Bool)) × Int × Int × Int × List (Int × Bool)) ⊕ (Bool × Int × Int × Int × List (Int × Bool)))) :=
 bif decide (i < (ports.length : Int)) then (
 Option.bind (α := Bool × List (Int × Bool)) (
 gd (inB i n.2.2.1.length) <|
 bif decide (((n.2.2.1.getD i.toNat ([], (0, 0))).2).1 = vat) then (
 gd (inB i ports.length) <|
 some (decide (ports.getD i.toNat 0 < 0), x6))
 else (
 some (false, x6))) fun s =>
 bif s.1 then (
 gd (inB i ports.length) <|
 some (.inr (.inr (true, vin, i, min x5 (wi64 (0 - (ports.getD i.toNat 0))), s.2))))
 else (
 some (.inl (wi64 (i + 1), v5, v6, v7, v8, x4, x5, s.2))))
 else (
 some (.inr (.inl (v5, v6, v7, v8, x4, x5, x6))))

noncomputable def ref25_follow_L0 (n : List (List UInt8) × List yT0 × List (List UInt8 × Int × Int) × List (List UInt8 × Int × Int × Int × Int) × Int × Int) (rates : List Int) (ports : List Int) (vin : Int) (vat : Int) (k : Int) (v : Int) (v2 : Int) (v3 : List (Int × Bool)) (v4 : Int) (x : Int) (x2 : Int) (x3 : List (Int × Bool)) : Option ((Int × Int × Int × Int × (List (Int × Bool)) × Int × Int × Int × List (Int × Bool)) ⊕ ((Int × Int × (List (Int × Bool)) × Int × Int × Int × List (Int × Bool)) ⊕ (Bool × Int × Int × Int × List (Int × Bool)))) :=
 bif decide (k ≤ (n.1.length : Int)) then (
 (iter (fun x7 => ref25_follow_L1 n ports vin vat x7.1 x7.2.1 x7.2.2.1 x7.2.2.2.1 x7.2.2.2.2.1 x7.2.2.2.2.2.1 x7.2.2.2.2.2.2.1 x7.2.2.2.2.2.2.2) (0, v, v2, v3, v4, x, x2, x3)).bind fun s2 =>
 s2.elim (fun s3 =>
 (ref25_leaves (n.1, (n.2.1, (n.2.2.1, (n.2.2.2.1, (n.2.2.2.2.1, n.2.2.2.2.2))))) rates vat).bind fun r =>
 bif !r.2 then (
 some (.inr (.inr (false, vin, s3.2.2.2.2.1, s3.2.2.2.2.2.1, s3.2.2.2.2.2.2))))
 else (
 gd (fits (s3.2.2.2.2.2.2.length + 1) 16) <|
 gd (inB r.1.1 rates.length) <|
 (ref25_amount (rates.getD r.1.1.toNat 0)).bind fun r2 =>
 (ref25_Ends (n.1, (n.2.1, (n.2.2.1, (n.2.2.2.1, (n.2.2.2.2.1, n.2.2.2.2.2))))) (r.1.1, r.1.2)).bind fun r3 =>
 some (.inl (r3.2, wi64 (k + 1), s3.1, s3.2.1, s3.2.2.1, s3.2.2.2.1, s3.2.2.2.2.1, min s3.2.2.2.2.2.1 r2, s3.2.2.2.2.2.2 ++ [(r.1.1, r.1.2)]))))
 (fun s4 =>
 some (.inr (.inr (s4.1, s4.2.1, s4.2.2.1, s4.2.2.2.1, s4.2.2.2.2)))))
 else (
 some (.inr (.inl (v, v2, v3, v4, x, x2, x3))))

noncomputable def ref25_follow (n : List (List UInt8) × List yT0 × List (List UInt8 × Int × Int) × List (List UInt8 × Int × Int × Int × Int) × Int × Int) (rates : List Int) (ports : List Int) (vin : Int) : Option (Int × Int × Int × Bool × List (Int × Bool)) :=
 gd (inB vin ports.length) <|
 gd (inB vin n.2.2.1.length) <|
 (iter (fun x8 => ref25_follow_L0 n rates ports vin x8.1 x8.2.1 x8.2.2.1 x8.2.2.2.1 x8.2.2.2.2.1 x8.2.2.2.2.2.1 x8.2.2.2.2.2.2.1 x8.2.2.2.2.2.2.2.1 x8.2.2.2.2.2.2.2.2) (((n.2.2.1.getD vin.toNat ([], (0, 0))).2).1, 0, 0, 0, [], 0, 0, ports.getD vin.toNat 0, [])).bind fun s5 =>
 s5.elim (fun s6 =>
 some (vin, s6.2.2.2.2.1, s6.2.2.2.2.2.1, false, s6.2.2.2.2.2.2))
 (fun s7 =>
 some (s7.2.1, s7.2.2.1, s7.2.2.2.1, s7.1, s7.2.2.2.2))

noncomputable def fn_ref25_follow : Fun :=
 ⟨73, 4, 2,
 ⟨[(0, .one (.data (.pair (.sl (.str)) tT0))), (1, .one (.data (.sl (.int .i64)))), (2, .one (.data (.sl (.int .i64)))), (3, ii)], [], []⟩,
 ⟨[(0, .agg [.data (.int .i64), .data (.int .i64), .own 0, .data (.int .i64)]), (1, bb)], [], [(0, .arr 78 (.pair (.int .i64) (.bool)))]⟩,
 fun x => ref25_follow x.1 x.2.1 x.2.2.1 x.2.2.2⟩
noncomputable def cx_ref25_follow : Cx := ⟨types, [], [fn_ref25_leaves, fn_ref25_amount, fn_ref25_Ends], 101, []⟩
theorem ok_ref25_follow : FunOk Tryz.prog fn_ref25_follow :=
 FunOk.intro (C := cx_ref25_follow) (p := (nn (nn (nn (mm (nn (mm (.mk [] (some (⟨[(1, kk), (2, kk), (4, .one (.ptr 80 0)), (8, .one (.ptr 144 0)), (10, .one (.ptr 176 0)), (11, ii), (12, ii)], [(80, 32, [.keep, .keep, .keep, .keep, .keep, .keep]), (144, 46, [.data (.int .i64), .data (.int .i64), .data (.sl (.pair (.int .i64) (.bool))), .data (.int .i64)]), (176, 46, [.keep, .data (.int .i64), .own 2873, .data (.int .i64)])], [(2873, .arr 78 (.pair (.int .i64) (.bool)))]⟩, [⟨.x 0, ⟨[(8, .one (.ptr 144 0)), (10, .one (.ptr 176 0))], [(144, 46, [.data (.int .i64), .data (.int .i64), .data (.sl (.pair (.int .i64) (.bool))), .data (.int .i64)]), (176, 46, [.keep, .data (.int .i64), .own 2873, .data (.int .i64)])], [(2873, .arr 78 (.pair (.int .i64) (.bool)))]⟩⟩, ⟨.r, ⟨[(8, .one (.ptr 144 0)), (9, bb)], [(144, 46, [.data (.int .i64), .data (.int .i64), .own 2361, .data (.int .i64)])], [(2361, .arr 78 (.pair (.int .i64) (.bool)))]⟩⟩])) (nn (mm (mm (mm (nn (mm (.mk [] (some (⟨[(1, kk), (2, kk), (4, .one (.ptr 80 0)), (8, .one (.ptr 144 0)), (10, .one (.ptr 176 0)), (11, kk), (12, kk), (13, ii)], [(80, 32, [.keep, .keep, .keep, .keep, .keep, .keep]), (144, 46, [.data (.int .i64), .data (.int .i64), .data (.sl (.pair (.int .i64) (.bool))), .data (.int .i64)]), (176, 46, [.keep, .data (.int .i64), .own 2873, .data (.int .i64)])], [(2873, .arr 78 (.pair (.int .i64) (.bool)))]⟩, [⟨.x 2, ⟨[(1, kk), (2, kk), (4, .one (.ptr 80 0)), (8, .one (.ptr 144 0)), (10, .one (.ptr 176 0)), (11, kk), (12, kk)], [(80, 32, [.keep, .keep, .keep, .keep, .keep, .keep]), (144, 46, [.data (.int .i64), .data (.int .i64), .data (.sl (.pair (.int .i64) (.bool))), .data (.int .i64)]), (176, 46, [.keep, .data (.int .i64), .own 2873, .data (.int .i64)])], [(2873, .arr 78 (.pair (.int .i64) (.bool)))]⟩⟩, ⟨.r, ⟨[(8, .one (.ptr 144 0)), (9, bb)], [(144, 46, [.data (.int .i64), .data (.int .i64), .own 2873, .data (.int .i64)])], [(2873, .arr 78 (.pair (.int .i64) (.bool)))]⟩⟩])) (nn (mm (mm (mm (.mk [.join [⟨.n, ⟨[(1, kk), (2, kk), (4, .one (.ptr 80 0)), (8, .one (.ptr 144 0)), (10, .one (.ptr 176 0)), (11, kk), (12, kk), (13, kk), (55, bb)], [(80, 32, [.keep, .keep, .keep, .keep, .keep, .keep]), (144, 46, [.keep, .keep, .keep, .keep]), (176, 46, [.keep, .keep, .own 2873, .keep])], [(2873, .arr 78 (.pair (.int .i64) (.bool)))]⟩⟩]] none .nil .nil) .nil) .nil) .nil)) .nil) .nil)) .nil) .nil) .nil)) .nil) .nil)) .nil)))))
  Tryz.func73 rfl (by kernel_rfl) rfl rfl rfl rfl types_ok ⟨⟨ok_ref25_leaves, ok_ref25_amount, ok_ref25_Ends, trivial⟩, trivial⟩ mx (fun x => by kernel_rfl)

noncomputable def ref25_Divide_L2 (r2 : Int × Int × Int × Bool × List (Int × Bool)) (k : Int) (rates3 : List Int) (ports3 : List Int) (out3 : List (Int × Int × List (Int × Bool) × Int)) (x : List (Int × Bool)) : Option ((Int × List Int × List Int × (List (Int × Int × List (Int × Bool) × Int)) × List (Int × Bool)) ⊕ (List Int × List Int × (List (Int × Int × List (Int × Bool) × Int)) × List (Int × Bool))) :=
 bif decide (k < (x.length : Int)) then (
 gd (inB k x.length) <|
 Option.bind (α := List Int × List Int × (List (Int × Int × List (Int × Bool) × Int)) × List (Int × Bool)) (
 bif (x.getD k.toNat (0, false)).2 then (
 gd (inB ((x.getD k.toNat (0, false)).1) rates3.length) <|
 gd (inB ((x.getD k.toNat (0, false)).1) rates3.length) <|
 some (rates3.set (((x.getD k.toNat (0, false)).1).toNat) (wi64 ((rates3.getD (((x.getD k.toNat (0, false)).1).toNat) 0) + r2.2.2.1)), ports3, out3, x))
 else (
 gd (inB ((x.getD k.toNat (0, false)).1) rates3.length) <|
 gd (inB ((x.getD k.toNat (0, false)).1) rates3.length) <|
 some (rates3.set (((x.getD k.toNat (0, false)).1).toNat) (wi64 ((rates3.getD (((x.getD k.toNat (0, false)).1).toNat) 0) - r2.2.2.1)), ports3, out3, x))) fun s2 =>
 some (.inl (wi64 (k + 1), s2.1, s2.2.1, s2.2.2.1, s2.2.2.2)))
 else (
 some (.inr (rates3, ports3, out3, x)))

noncomputable def ref25_Divide_L1 (n : List (List UInt8) × List yT0 × List (List UInt8 × Int × Int) × List (List UInt8 × Int × Int × Int × Int) × Int × Int) (i : Int) (rates2 : List Int) (ports2 : List Int) (out2 : List (Int × Int × List (Int × Bool) × Int)) : Option ((List Int × List Int × List (Int × Int × List (Int × Bool) × Int)) ⊕ ((List Int × List Int × List (Int × Int × List (Int × Bool) × Int)) ⊕ ((List (Int × Int × List (Int × Bool) × Int)) × Int))) :=
 gd (inB i ports2.length) <|
 bif decide (0 < ports2.getD i.toNat 0) then (
 (ref25_follow (n.1, (n.2.1, (n.2.2.1, (n.2.2.2.1, (n.2.2.2.2.1, n.2.2.2.2.2))))) rates2 ports2 i).bind fun r2 =>
 Option.bind (α := Bool × List Int × List Int × (List (Int × Int × List (Int × Bool) × Int)) × List (Int × Bool)) (
 bif !r2.2.2.2.1 then (
 some (true, rates2, ports2, out2, r2.2.2.2.2))
 else (
 bif decide ((out2.length : Int) = 64) then (
 some (true, rates2, ports2, out2, r2.2.2.2.2))
 else (
 some (decide (32 < (r2.2.2.2.2.length : Int)), rates2, ports2, out2, r2.2.2.2.2)))) fun s =>
 bif s.1 then (
 some (.inr (.inr ([], 23))))
 else (
 gd (inB r2.1 s.2.2.1.length) <|
 gd (inB r2.1 s.2.2.1.length) <|
 gd (inB r2.2.1 (s.2.2.1.set r2.1.toNat (wi64 ((s.2.2.1.getD r2.1.toNat 0) - r2.2.2.1))).length) <|
 gd (inB r2.2.1 (s.2.2.1.set r2.1.toNat (wi64 ((s.2.2.1.getD r2.1.toNat 0) - r2.2.2.1))).length) <|
 (iter (fun x2 => ref25_Divide_L2 r2 x2.1 x2.2.1 x2.2.2.1 x2.2.2.2.1 x2.2.2.2.2) (0, s.2.1, (s.2.2.1.set r2.1.toNat (wi64 ((s.2.2.1.getD r2.1.toNat 0) - r2.2.2.1))).set r2.2.1.toNat (wi64 (((s.2.2.1.set r2.1.toNat (wi64 ((s.2.2.1.getD r2.1.toNat 0) - r2.2.2.1))).getD r2.2.1.toNat 0) + r2.2.2.1)), s.2.2.2.1, s.2.2.2.2)).bind fun s3 =>
 gd (fits (s3.2.2.1.length + 1) 48) <|
 some (.inl (s3.1, s3.2.1, s3.2.2.1 ++ [(r2.1, (r2.2.1, (s3.2.2.2, r2.2.2.1)))]))))
 else (
 some (.inr (.inl (rates2, ports2, out2))))

noncomputable def ref25_Divide_L0 (n : List (List UInt8) × List yT0 × List (List UInt8 × Int × Int) × List (List UInt8 × Int × Int × Int × Int) × Int × Int) (i : Int) (rates : List Int) (ports : List Int) (out : List (Int × Int × List (Int × Bool) × Int)) : Option ((Int × List Int × List Int × List (Int × Int × List (Int × Bool) × Int)) ⊕ ((List (Int × Int × List (Int × Bool) × Int)) ⊕ ((List (Int × Int × List (Int × Bool) × Int)) × Int))) :=
 bif decide (i < (ports.length : Int)) then (
 (iter (fun x3 => ref25_Divide_L1 n i x3.1 x3.2.1 x3.2.2) (rates, ports, out)).bind fun s4 =>
 s4.elim (fun s5 =>
 some (.inl (wi64 (i + 1), s5.1, s5.2.1, s5.2.2)))
 (fun s6 =>
 some (.inr (.inr (s6.1, s6.2)))))
 else (
 some (.inr (.inl out)))

noncomputable def ref25_Divide (n : List (List UInt8) × List yT0 × List (List UInt8 × Int × Int) × List (List UInt8 × Int × Int × Int × Int) × Int × Int) (p : List Int × List Int × List Bool) : Option ((List (Int × Int × List (Int × Bool) × Int)) × Int) :=
 (ref16_Check (n.1, (n.2.1, (n.2.2.1, (n.2.2.2.1, (n.2.2.2.2.1, n.2.2.2.2.2))))) (p.1, (p.2.1, p.2.2))).bind fun r =>
 bif !decide (r = 0) then (
 some ([], r))
 else (
 gd (fits (0 + p.1.length) 8) <|
 gd (fits (0 + p.2.1.length) 8) <|
 (iter (fun x4 => ref25_Divide_L0 n x4.1 x4.2.1 x4.2.2.1 x4.2.2.2) (0, ([] ++ p.1), ([] ++ p.2.1), [])).bind fun s7 =>
 s7.elim (fun s8 =>
 some (s8, 0))
 (fun s9 =>
 some (s9.1, s9.2)))

noncomputable def fn_ref25_Divide : Fun :=
 ⟨43, 2, 2,
 ⟨[(0, .one (.data (.pair (.sl (.str)) tT0))), (1, .one (.data tT3))], [], []⟩,
 ⟨[(0, .one (.data (.sl tT4))), (1, ii)], [], []⟩,
 fun x => ref25_Divide x.1 x.2⟩
noncomputable def cx_ref25_Divide : Cx := ⟨types, [21, 25], [fn_ref16_Check, fn_ref25_follow], 128, []⟩
theorem ok_ref25_Divide : FunOk Tryz.prog fn_ref25_Divide :=
 FunOk.intro (C := cx_ref25_Divide) (p := (nn (nn (nn (nn (nn (mm (nn (mm (.mk [] (some (⟨[(2, .one (.ptr 48 0)), (7, .one (.own 400)), (8, .one (.own 464)), (9, .one (.own 171)), (10, ii)], [(48, 32, [.keep, .keep, .keep, .keep, .keep, .keep])], [(400, .arr 3 (.int .i64)), (464, .arr 3 (.int .i64)), (171, .arr 46 tT4)]⟩, [⟨.x 0, ⟨[(9, .one (.own 171))], [], [(171, .arr 46 tT4)]⟩⟩, ⟨.r, ⟨[(4, .one (.data (.sl tT4))), (5, ii)], [], []⟩⟩])) (nn (mm (mm (mm (.mk [] (some (⟨[(2, .one (.ptr 48 0)), (7, .one (.own 400)), (8, .one (.own 464)), (9, .one (.own 171)), (10, kk)], [(48, 32, [.keep, .keep, .keep, .keep, .keep, .keep])], [(400, .arr 3 (.int .i64)), (464, .arr 3 (.int .i64)), (171, .arr 46 tT4)]⟩, [⟨.x 2, ⟨[(2, .one (.ptr 48 0)), (7, .one (.own 400)), (8, .one (.own 464)), (9, .one (.own 171)), (10, kk)], [(48, 32, [.keep, .keep, .keep, .keep, .keep, .keep])], [(400, .arr 3 (.int .i64)), (464, .arr 3 (.int .i64)), (171, .arr 46 tT4)]⟩⟩, ⟨.r, ⟨[(4, .one (.data (.sl tT4))), (5, ii)], [], []⟩⟩])) (nn (mm (nn (mm (mm (.mk [.join [⟨.n, ⟨[(2, .one (.ptr 48 0)), (7, .one (.own 400)), (8, .one (.own 464)), (9, .one (.own 171)), (10, kk), (11, .one (.ptr 192 0)), (60, bb)], [(48, 32, [.keep, .keep, .keep, .keep, .keep, .keep]), (192, 46, [.keep, .keep, .own 736, .keep])], [(400, .arr 3 (.int .i64)), (464, .arr 3 (.int .i64)), (171, .arr 46 tT4), (736, .arr 78 (.pair (.int .i64) (.bool)))]⟩⟩]] none .nil .nil) .nil) (nn (nn (mm (nn (mm (.mk [] (some (⟨[(2, .one (.ptr 48 0)), (7, .one (.own 400)), (8, .one (.own 464)), (9, .one (.own 171)), (10, kk), (11, .one (.ptr 192 0)), (13, ii)], [(48, 32, [.keep, .keep, .keep, .keep, .keep, .keep]), (192, 46, [.keep, .keep, .own 736, .keep])], [(400, .arr 3 (.int .i64)), (464, .arr 3 (.int .i64)), (171, .arr 46 tT4), (736, .arr 78 (.pair (.int .i64) (.bool)))]⟩, [⟨.x 4, ⟨[(2, .one (.ptr 48 0)), (7, .one (.own 400)), (8, .one (.own 464)), (9, .one (.own 171)), (10, kk), (11, .one (.ptr 192 0))], [(48, 32, [.keep, .keep, .keep, .keep, .keep, .keep]), (192, 46, [.keep, .keep, .own 736, .keep])], [(400, .arr 3 (.int .i64)), (464, .arr 3 (.int .i64)), (171, .arr 46 tT4), (736, .arr 78 (.pair (.int .i64) (.bool)))]⟩⟩])) (nn (mm (mm (nn (nn (.mk [.join [⟨.n, ⟨[(2, .one (.ptr 48 0)), (7, .one (.own 400)), (8, .one (.own 464)), (9, .one (.own 171)), (10, kk), (11, .one (.ptr 192 0)), (13, kk)], [(48, 32, [.keep, .keep, .keep, .keep, .keep, .keep]), (192, 46, [.keep, .keep, .own 736, .keep])], [(400, .arr 3 (.int .i64)), (464, .arr 3 (.int .i64)), (171, .arr 46 tT4), (736, .arr 78 (.pair (.int .i64) (.bool)))]⟩⟩]] none .nil .nil))) .nil) .nil)) .nil) .nil)) (.mk [.fz [11]] none .nil .nil)))))) .nil)) .nil) .nil) .nil) .nil)) .nil) .nil)) .nil)))))))
  Tryz.func43 rfl (by kernel_rfl) rfl rfl rfl rfl types_ok ⟨⟨ok_ref16_Check, ok_ref25_follow, trivial⟩, trivial⟩ mx (fun x => by kernel_rfl)

noncomputable def ref25_Copy (p : Int × Int × List (Int × Bool) × Int) : Option (Int × Int × Int × List (Int × Bool)) :=
 gd (fits (0 + p.2.2.1.length) 16) <|
 some (p.1, p.2.1, p.2.2.2, ([] ++ p.2.2.1))

noncomputable def fn_ref25_Copy : Fun :=
 ⟨44, 1, 1,
 ⟨[(0, .one (.data tT4))], [], []⟩,
 ⟨[(0, .agg [.data (.int .i64), .data (.int .i64), .own 0, .data (.int .i64)])], [], [(0, .arr 78 (.pair (.int .i64) (.bool)))]⟩,
 fun x => ref25_Copy x⟩
noncomputable def cx_ref25_Copy : Cx := ⟨types, [3], [], 9, []⟩
theorem ok_ref25_Copy : FunOk Tryz.prog fn_ref25_Copy :=
 FunOk.intro (C := cx_ref25_Copy) (p := .nil)
  Tryz.func44 rfl (by kernel_rfl) rfl rfl rfl rfl types_ok ⟨trivial, trivial⟩ mx (fun x => by kernel_rfl)

noncomputable def second_Step (n : List (List UInt8) × List yT0 × List (List UInt8 × Int × Int) × List (List UInt8 × Int × Int × Int × Int) × Int × Int) (d : List (Int × Int × Bool × Bool) × List Int × List Int × List Bool) (s : List Int) (s2 : Int) : Option ((Int × Int × Int × Int × Int × List (Int × Bool) × Int) × List Int × Int) :=
 (keep_Src_N 9 s s2).bind fun r =>
 bif decide (r.1 = 0) then (
 (keep_Src_N (wi64 ((d.1.length : Int) + 1)) r.2.1 r.2.2).bind fun r2 =>
 some ((1, (r2.1, (0, (0, (0, ([], 0)))))), r2.2.1, r2.2.2))
 else (
 bif decide (r.1 = 1) then (
 (keep_Src_N (wi64 ((d.1.length : Int) + 2)) r.2.1 r.2.2).bind fun r3 =>
 some ((2, (wi64 (r3.1 - 1), (0, (0, (0, ([], 0)))))), r3.2.1, r3.2.2))
 else (
 bif decide (r.1 = 2) then (
 (keep_Src_N (wi64 ((n.2.2.2.1.length : Int) + 1)) r.2.1 r.2.2).bind fun r4 =>
 some ((3, (r4.1, (0, (0, (0, ([], 0)))))), r4.2.1, r4.2.2))
 else (
 bif decide (r.1 = 3) then (
 (keep_Src_N (wi64 ((n.2.2.2.1.length : Int) + 1)) r.2.1 r.2.2).bind fun r5 =>
 some ((4, (r5.1, (0, (0, (0, ([], 0)))))), r5.2.1, r5.2.2))
 else (
 Option.bind (α := Bool) (
 bif decide (r.1 = 4) then (
 some (decide (r.1 = 4)))
 else (
 some (decide (r.1 = 5)))) fun s3 =>
 bif s3 then (
 (keep_Src_Pick [1, 2, 7, 60, 100, 0, 101] r.2.1 r.2.2).bind fun r6 =>
 some ((6, (0, (r6.1, (0, (0, ([], 0)))))), r6.2.1, r6.2.2))
 else (
 bif decide (r.1 = 6) then (
 (keep_Src_N 9 r.2.1 r.2.2).bind fun r7 =>
 (keep_Src_N 4 r7.2.1 r7.2.2).bind fun r8 =>
 (keep_Src_N 5 r8.2.1 r8.2.2).bind fun r9 =>
 (keep_Src_N 2 r9.2.1 r9.2.2).bind fun r10 =>
 (keep_Src_N 2 r10.2.1 r10.2.2).bind fun r11 =>
 some ((r7.1, (r8.1, (r9.1, (r10.1, (0, ([], r11.1)))))), r11.2.1, r11.2.2))
 else (
 (keep_Src_N 2 r.2.1 r.2.2).bind fun r12 =>
 Option.bind (α := List Int × Int × List Int × List Int × List Bool) (
 bif decide (r12.1 = 0) then (
 (keep_Src_Plan (n.1, (n.2.1, (n.2.2.1, (n.2.2.2.1, (n.2.2.2.2.1, n.2.2.2.2.2))))) r12.2.1 r12.2.2).bind fun r13 =>
 some (r13.2.1, r13.2.2, r13.1.1, r13.1.2.1, r13.1.2.2))
 else (
 some (r12.2.1, r12.2.2, d.2.1, d.2.2.1, d.2.2.2))) fun s4 =>
 (ref25_Divide (n.1, (n.2.1, (n.2.2.1, (n.2.2.2.1, (n.2.2.2.2.1, n.2.2.2.2.2))))) (s4.2.2.1, (s4.2.2.2.1, s4.2.2.2.2))).bind fun r14 =>
 bif decide ((r14.1.length : Int) = 0) then (
 some ((5, (0, (1, (0, (1, ([], 0)))))), s4.1, s4.2.1))
 else (
 (keep_Src_N (r14.1.length : Int) s4.1 s4.2.1).bind fun r15 =>
 gd (inB r15.1 r14.1.length) <|
 (ref25_Copy (r14.1.getD r15.1.toNat (0, (0, ([], 0))))).bind fun r16 =>
 (keep_Src_Pick [r16.2.2.1, wi64 (0 - r16.2.2.1), 1, (-1), wi64 (r16.2.2.1 + 1), wi64 ((wi64 (0 - r16.2.2.1)) - 1), 0] r15.2.1 r15.2.2).bind fun r17 =>
 some ((5, (0, (r17.1, (r16.1, (r16.2.1, (r16.2.2.2, 0)))))), r17.2.1, r17.2.2))))))))

noncomputable def fn_second_Step : Fun :=
 ⟨16, 3, 1,
 ⟨[(0, .one (.ptr 0 0)), (1, .one (.data (.pair (.sl (.str)) tT0))), (2, .one (.data (.pair (.sl tT1) tT3)))], [(0, 80, [.data (.sl (.int .i64)), .data (.int .i64)])], []⟩,
 ⟨[(0, .one (.data (.pair (.int .i64) (.pair (.int .i64) (.pair (.int .i64) tT4)))))], [(0, 80, [.data (.sl (.int .i64)), .data (.int .i64)])], []⟩,
 fun x => second_Step x.1 x.2.1 x.2.2.1 x.2.2.2⟩
noncomputable def cx_second_Step : Cx := ⟨types, [], [fn_keep_Src_N, fn_keep_Src_Pick, fn_keep_Src_Plan, fn_ref25_Divide, fn_ref25_Copy], 118, []⟩
theorem ok_second_Step : FunOk Tryz.prog fn_second_Step :=
 FunOk.intro (C := cx_second_Step) (p := (nn (mm (nn (mm (nn (nn (nn (nn (nn (nn (nn (nn (mm (nn (.mk [.join [⟨.n, ⟨[(0, .one (.ptr 0 0)), (4, .one (.ptr 80 0)), (5, .one (.ptr 96 0)), (6, .one (.ptr 112 0)), (13, kk), (51, bb)], [(0, 80, [.keep, .keep]), (80, 32, [.keep, .keep, .keep, .keep, .keep, .keep]), (96, 40, [.keep, .keep, .keep, .keep]), (112, 48, [.keep, .keep, .keep, .keep, .keep, .keep, .keep])], []⟩⟩]] none .nil .nil)) .nil))))))))) .nil)) (nn (mm (nn (.mk [.join [⟨.n, ⟨[(0, .one (.ptr 0 0)), (4, .one (.ptr 80 0)), (6, .one (.ptr 112 0)), (7, .one (.ptr 128 0))], [(0, 80, [.data (.sl (.int .i64)), .data (.int .i64)]), (80, 32, [.keep, .keep, .keep, .keep, .keep, .keep]), (112, 48, [.keep, .keep, .keep, .keep, .keep, .keep, .keep]), (128, 36, [.data (.sl (.int .i64)), .data (.sl (.int .i64)), .data (.sl (.bool))])], []⟩⟩]] none .nil .nil)) .nil)))))
  Tryz.func16 rfl (by kernel_rfl) rfl rfl rfl rfl types_ok ⟨⟨ok_keep_Src_N, ok_keep_Src_Pick, ok_keep_Src_Plan, ok_ref25_Divide, ok_ref25_Copy, trivial⟩, trivial⟩ mx (fun x => by kernel_rfl)

noncomputable def ref23_Same_L0 (a : List (Int × Int × Bool × Bool)) (b : List (Int × Int × Bool × Bool)) (i : Int) : Option (Int ⊕ (Unit ⊕ Bool)) :=
 bif decide (i < (a.length : Int)) then (
 gd (inB i a.length) <|
 gd (inB i b.length) <|
 bif !(decide ((a.getD i.toNat (0, (0, (false, false)))).1 = (b.getD i.toNat (0, (0, (false, false)))).1) && (decide (((a.getD i.toNat (0, (0, (false, false)))).2).1 = ((b.getD i.toNat (0, (0, (false, false)))).2).1) && (((((a.getD i.toNat (0, (0, (false, false)))).2).2).1 == (((b.getD i.toNat (0, (0, (false, false)))).2).2).1) && ((((a.getD i.toNat (0, (0, (false, false)))).2).2).2 == (((b.getD i.toNat (0, (0, (false, false)))).2).2).2)))) then (
 some (.inr (.inr false)))
 else (
 some (.inl (wi64 (i + 1)))))
 else (
 some (.inr (.inl ())))

noncomputable def ref23_Same (a : List (Int × Int × Bool × Bool)) (b : List (Int × Int × Bool × Bool)) : Option (Bool) :=
 bif !decide ((a.length : Int) = (b.length : Int)) then (
 some false)
 else (
 (iter (fun x => ref23_Same_L0 a b x) 0).bind fun s =>
 s.elim (fun s2 =>
 some true)
 (fun s3 =>
 some s3))

noncomputable def fn_ref23_Same : Fun :=
 ⟨52, 2, 1,
 ⟨[(0, .one (.data (.sl tT1))), (1, .one (.data (.sl tT1)))], [], []⟩,
 ⟨[(0, bb)], [], []⟩,
 fun x => ref23_Same x.1 x.2⟩
noncomputable def cx_ref23_Same : Cx := ⟨types, [], [], 26, []⟩
theorem ok_ref23_Same : FunOk Tryz.prog fn_ref23_Same :=
 FunOk.intro (C := cx_ref23_Same) (p := (nn (nn (mm (nn (mm (.mk [] (some (⟨[(0, kk), (1, kk), (5, ii)], [], []⟩, [⟨.x 0, ⟨[], [], []⟩⟩, ⟨.r, ⟨[(4, bb)], [], []⟩⟩])) .nil .nil) .nil)) .nil))))
  Tryz.func52 rfl (by kernel_rfl) rfl rfl rfl rfl types_ok ⟨trivial, trivial⟩ mx (fun x => by kernel_rfl)

noncomputable def ref23_SameInts_L0 (a : List Int) (b : List Int) (i : Int) : Option (Int ⊕ (Unit ⊕ Bool)) :=
 bif decide (i < (a.length : Int)) then (
 gd (inB i a.length) <|
 gd (inB i b.length) <|
 bif !decide (a.getD i.toNat 0 = b.getD i.toNat 0) then (
 some (.inr (.inr false)))
 else (
 some (.inl (wi64 (i + 1)))))
 else (
 some (.inr (.inl ())))

noncomputable def ref23_SameInts (a : List Int) (b : List Int) : Option (Bool) :=
 bif !decide ((a.length : Int) = (b.length : Int)) then (
 some false)
 else (
 (iter (fun x => ref23_SameInts_L0 a b x) 0).bind fun s =>
 s.elim (fun s2 =>
 some true)
 (fun s3 =>
 some s3))

noncomputable def fn_ref23_SameInts : Fun :=
 ⟨68, 2, 1,
 ⟨[(0, .one (.data (.sl (.int .i64)))), (1, .one (.data (.sl (.int .i64))))], [], []⟩,
 ⟨[(0, bb)], [], []⟩,
 fun x => ref23_SameInts x.1 x.2⟩
noncomputable def cx_ref23_SameInts : Cx := ⟨types, [], [], 26, []⟩
theorem ok_ref23_SameInts : FunOk Tryz.prog fn_ref23_SameInts :=
 FunOk.intro (C := cx_ref23_SameInts) (p := (nn (nn (mm (nn (mm (.mk [] (some (⟨[(0, kk), (1, kk), (5, ii)], [], []⟩, [⟨.x 0, ⟨[], [], []⟩⟩, ⟨.r, ⟨[(4, bb)], [], []⟩⟩])) .nil .nil) .nil)) .nil))))
  Tryz.func68 rfl (by kernel_rfl) rfl rfl rfl rfl types_ok ⟨trivial, trivial⟩ mx (fun x => by kernel_rfl)

noncomputable def ref23_SameBools_L0 (a : List Bool) (b : List Bool) (i : Int) : Option (Int ⊕ (Unit ⊕ Bool)) :=
 bif decide (i < (a.length : Int)) then (
 gd (inB i a.length) <|
 gd (inB i b.length) <|
 bif !(a.getD i.toNat false == b.getD i.toNat false) then (
 some (.inr (.inr false)))
 else (
 some (.inl (wi64 (i + 1)))))
 else (
 some (.inr (.inl ())))

noncomputable def ref23_SameBools (a : List Bool) (b : List Bool) : Option (Bool) :=
 bif !decide ((a.length : Int) = (b.length : Int)) then (
 some false)
 else (
 (iter (fun x => ref23_SameBools_L0 a b x) 0).bind fun s =>
 s.elim (fun s2 =>
 some true)
 (fun s3 =>
 some s3))

noncomputable def fn_ref23_SameBools : Fun :=
 ⟨69, 2, 1,
 ⟨[(0, .one (.data (.sl (.bool)))), (1, .one (.data (.sl (.bool))))], [], []⟩,
 ⟨[(0, bb)], [], []⟩,
 fun x => ref23_SameBools x.1 x.2⟩
noncomputable def cx_ref23_SameBools : Cx := ⟨types, [], [], 26, []⟩
theorem ok_ref23_SameBools : FunOk Tryz.prog fn_ref23_SameBools :=
 FunOk.intro (C := cx_ref23_SameBools) (p := (nn (nn (mm (nn (mm (.mk [] (some (⟨[(0, kk), (1, kk), (5, ii)], [], []⟩, [⟨.x 0, ⟨[], [], []⟩⟩, ⟨.r, ⟨[(4, bb)], [], []⟩⟩])) .nil .nil) .nil)) .nil))))
  Tryz.func69 rfl (by kernel_rfl) rfl rfl rfl rfl types_ok ⟨trivial, trivial⟩ mx (fun x => by kernel_rfl)

noncomputable def ref25_SamePlan (a : List Int × List Int × List Bool) (b : List Int × List Int × List Bool) : Option (Bool) :=
 (ref23_SameInts a.1 b.1).bind fun r =>
 bif r then (
 (ref23_SameInts a.2.1 b.2.1).bind fun r2 =>
 bif r2 then (
 (ref23_SameBools a.2.2 b.2.2).bind fun r3 =>
 some r3)
 else (
 some false))
 else (
 some false)

noncomputable def fn_ref25_SamePlan : Fun :=
 ⟨28, 2, 1,
 ⟨[(0, .one (.data tT3)), (1, .one (.data tT3))], [], []⟩,
 ⟨[(0, bb)], [], []⟩,
 fun x => ref25_SamePlan x.1 x.2⟩
noncomputable def cx_ref25_SamePlan : Cx := ⟨types, [], [fn_ref23_SameInts, fn_ref23_SameBools], 24, []⟩
theorem ok_ref25_SamePlan : FunOk Tryz.prog fn_ref25_SamePlan :=
 FunOk.intro (C := cx_ref25_SamePlan) (p := .nil)
  Tryz.func28 rfl (by kernel_rfl) rfl rfl rfl rfl types_ok ⟨⟨ok_ref23_SameInts, ok_ref23_SameBools, trivial⟩, trivial⟩ mx (fun x => by kernel_rfl)

noncomputable def ref26_Same (a : List (Int × Int × Bool × Bool) × List Int × List Int × List Bool) (b : List (Int × Int × Bool × Bool) × List Int × List Int × List Bool) : Option (Bool) :=
 (ref23_Same a.1 b.1).bind fun r =>
 bif r then (
 (ref25_SamePlan (a.2.1, (a.2.2.1, a.2.2.2)) (b.2.1, (b.2.2.1, b.2.2.2))).bind fun r2 =>
 some r2)
 else (
 some false)

noncomputable def fn_ref26_Same : Fun :=
 ⟨22, 2, 1,
 ⟨[(0, .one (.data (.pair (.sl tT1) tT3))), (1, .one (.data (.pair (.sl tT1) tT3)))], [], []⟩,
 ⟨[(0, bb)], [], []⟩,
 fun x => ref26_Same x.1 x.2⟩
noncomputable def cx_ref26_Same : Cx := ⟨types, [], [fn_ref23_Same, fn_ref25_SamePlan], 17, []⟩
theorem ok_ref26_Same : FunOk Tryz.prog fn_ref26_Same :=
 FunOk.intro (C := cx_ref26_Same) (p := .nil)
  Tryz.func22 rfl (by kernel_rfl) rfl rfl rfl rfl types_ok ⟨⟨ok_ref23_Same, ok_ref25_SamePlan, trivial⟩, trivial⟩ mx (fun x => by kernel_rfl)

noncomputable def law26_StepKeeps_L0 (r4 : (List (List UInt8) × List yT0 × List (List UInt8 × Int × Int) × List (List UInt8 × Int × Int × Int × Int) × Int × Int) × List Int × Int) (i : Int) (s2 : List Int) (s3 : Int) (d : List (Int × Int × Bool × Bool)) (d2 : List Int) (d3 : List Int) (d4 : List Bool) : Option ((Int × List Int × Int × (List (Int × Int × Bool × Bool)) × List Int × List Int × List Bool) ⊕ (Unit ⊕ Bool)) :=
 Option.bind (α := Bool × List Int × Int) (
 bif decide (i < 25) then (
 (keep_Src_More s2 s3).bind fun r9 =>
 some (r9.1, r9.2.1, r9.2.2))
 else (
 some (false, s2, s3))) fun s4 =>
 bif s4.1 then (
 Option.bind (α := (List Int × Int × (List (Int × Int × Bool × Bool)) × List Int × List Int × List Bool) ⊕ Bool) (
 (second_Step (r4.1.1, (r4.1.2.1, (r4.1.2.2.1, (r4.1.2.2.2.1, (r4.1.2.2.2.2.1, r4.1.2.2.2.2.2))))) (d, (d2, (d3, d4))) s4.2.1 s4.2.2).bind fun r10 =>
 (step_Apply (r4.1.1, (r4.1.2.1, (r4.1.2.2.1, (r4.1.2.2.2.1, (r4.1.2.2.2.2.1, r4.1.2.2.2.2.2))))) (d, (d2, (d3, d4))) (r10.1.1, (r10.1.2.1, (r10.1.2.2.1, (r10.1.2.2.2.1, (r10.1.2.2.2.2.1, (r10.1.2.2.2.2.2.1, r10.1.2.2.2.2.2.2))))))).bind fun r11 =>
 bif !decide (r11.2 = 0) then (
 (ref26_Same (r11.1.1, (r11.1.2.1, (r11.1.2.2.1, r11.1.2.2.2))) (d, (d2, (d3, d4)))).bind fun r12 =>
 bif !r12 then (
 some (.inr false))
 else (
 some (.inl (r10.2.1, r10.2.2, d, d2, d3, d4))))
 else (
 Option.bind (α := Bool) (
 (step_Check (r4.1.1, (r4.1.2.1, (r4.1.2.2.1, (r4.1.2.2.2.1, (r4.1.2.2.2.2.1, r4.1.2.2.2.2.2))))) (r11.1.1, (r11.1.2.1, (r11.1.2.2.1, r11.1.2.2.2)))).bind fun r13 =>
 bif !decide (r13 = 0) then (
 some true)
 else (
 (ref16_Check (r4.1.1, (r4.1.2.1, (r4.1.2.2.1, (r4.1.2.2.2.1, (r4.1.2.2.2.2.1, r4.1.2.2.2.2.2))))) (r11.1.2.1, (r11.1.2.2.1, r11.1.2.2.2))).bind fun r14 =>
 some (!decide (r14 = 0)))) fun s5 =>
 bif s5 then (
 some (.inr false))
 else (
 Option.bind (α := Unit ⊕ Bool) (
 bif decide (r10.1.1 = 5) then (
 (step_Apply (r4.1.1, (r4.1.2.1, (r4.1.2.2.1, (r4.1.2.2.2.1, (r4.1.2.2.2.2.1, r4.1.2.2.2.2.2))))) (r11.1.1, (r11.1.2.1, (r11.1.2.2.1, r11.1.2.2.2))) (r10.1.1, (r10.1.2.1, (wi64 (0 - r10.1.2.2.1), (r10.1.2.2.2.1, (r10.1.2.2.2.2.1, (r10.1.2.2.2.2.2.1, r10.1.2.2.2.2.2.2))))))).bind fun r15 =>
 Option.bind (α := Bool) (
 bif decide (r15.2 = 0) then (
 (ref25_SamePlan (r15.1.2.1, (r15.1.2.2.1, r15.1.2.2.2)) (d2, (d3, d4))).bind fun r16 =>
 bif !r16 then (
 some true)
 else (
 bif !decide (r15.2 = 0) then (
 some (decide (0 < r10.1.2.2.1)))
 else (
 some false)))
 else (
 bif !decide (r15.2 = 0) then (
 some (decide (0 < r10.1.2.2.1)))
 else (
 some false))) fun s6 =>
 bif s6 then (
 some (.inr false))
 else (
 some (.inl ())))
 else (
 some (.inl ()))) fun s7 =>
 s7.elim (fun s8 =>
 some (.inl (r10.2.1, r10.2.2, r11.1.1, r11.1.2.1, r11.1.2.2.1, r11.1.2.2.2)))
 (fun s9 =>
 some (.inr s9))))) fun s10 =>
 s10.elim (fun s11 =>
 some (.inl (wi64 (i + 1), s11.1, s11.2.1, s11.2.2.1, s11.2.2.2.1, s11.2.2.2.2.1, s11.2.2.2.2.2)))
 (fun s12 =>
 some (.inr (.inr s12))))
 else (
 some (.inr (.inl ())))

noncomputable def law26_StepKeeps (l : List Int) : Option (Bool) :=
 (second_Few l).bind fun r =>
 bif !r then (
 (law26_awake).bind fun r2 =>
 some r2)
 else (
 (keep_New l).bind fun r3 =>
 (keep_Src_Network r3.1 r3.2).bind fun r4 =>
 (second_Plan (r4.1.1, (r4.1.2.1, (r4.1.2.2.1, (r4.1.2.2.2.1, (r4.1.2.2.2.2.1, r4.1.2.2.2.2.2))))) r4.2.1 r4.2.2).bind fun r5 =>
 (second_Opened (r4.1.1, (r4.1.2.1, (r4.1.2.2.1, (r4.1.2.2.2.1, (r4.1.2.2.2.2.1, r4.1.2.2.2.2.2))))) (r5.1.1, (r5.1.2.1, r5.1.2.2)) r5.2.1 r5.2.2).bind fun r6 =>
 (keep_Src_N 2 r6.1 r6.2.1).bind fun r7 =>
 Option.bind (α := List Int × Int × (List (Int × Int × Bool × Bool)) × List Int × List Int × List Bool) (
 bif decide (r7.1 = 0) then (
 (second_Desk (r4.1.1, (r4.1.2.1, (r4.1.2.2.1, (r4.1.2.2.2.1, (r4.1.2.2.2.2.1, r4.1.2.2.2.2.2))))) (r5.1.1, (r5.1.2.1, r5.1.2.2)) r7.2.1 r7.2.2).bind fun r8 =>
 some (r8.1, r8.2.1, r8.2.2.1, r8.2.2.2.1, r8.2.2.2.2.1, r8.2.2.2.2.2))
 else (
 some (r7.2.1, r7.2.2, r6.2.2.1, r6.2.2.2.1, r6.2.2.2.2.1, r6.2.2.2.2.2))) fun s =>
 (iter (fun x => law26_StepKeeps_L0 r4 x.1 x.2.1 x.2.2.1 x.2.2.2.1 x.2.2.2.2.1 x.2.2.2.2.2.1 x.2.2.2.2.2.2) (0, s.1, s.2.1, s.2.2.1, s.2.2.2.1, s.2.2.2.2.1, s.2.2.2.2.2)).bind fun s13 =>
 s13.elim (fun s14 =>
 (law26_awake).bind fun r17 =>
 some r17)
 (fun s15 =>
 some s15))

noncomputable def fn_law26_StepKeeps : Fun :=
 ⟨5, 1, 1,
 ⟨[(0, .one (.data (.sl (.int .i64))))], [], []⟩,
 ⟨[(0, bb)], [], []⟩,
 fun x => law26_StepKeeps x⟩
noncomputable def cx_law26_StepKeeps : Cx := ⟨types, [], [fn_second_Few, fn_law26_awake, fn_keep_New, fn_keep_Src_Network, fn_second_Plan, fn_second_Opened, fn_keep_Src_N, fn_second_Desk, fn_keep_Src_More, fn_second_Step, fn_step_Apply, fn_ref26_Same, fn_step_Check, fn_ref16_Check, fn_ref25_SamePlan], 108, []⟩
theorem ok_law26_StepKeeps : FunOk Tryz.prog fn_law26_StepKeeps :=
 FunOk.intro (C := cx_law26_StepKeeps) (p := (nn (nn (nn (nn (nn (nn (mm (nn (.mk [.join [⟨.n, ⟨[(3, .one (.ptr 320 0)), (4, .one (.ptr 80 0)), (6, .one (.ptr 112 0))], [(320, 80, [.data (.sl (.int .i64)), .data (.int .i64)]), (80, 32, [.keep, .keep, .keep, .keep, .keep, .keep]), (112, 40, [.own 1817, .own 1833, .own 1849, .own 1865])], [(1817, .arr 54 tT1), (1833, .arr 3 (.int .i64)), (1849, .arr 3 (.int .i64)), (1865, .arr 4 (.bool))]⟩⟩]] none .nil .nil)) (mm (nn (mm (.mk [] (some (⟨[(3, .one (.ptr 320 0)), (4, .one (.ptr 80 0)), (6, .one (.ptr 112 0)), (7, ii)], [(320, 80, [.data (.sl (.int .i64)), .data (.int .i64)]), (80, 32, [.keep, .keep, .keep, .keep, .keep, .keep]), (112, 40, [.data (.sl tT1), .data (.sl (.int .i64)), .data (.sl (.int .i64)), .data (.sl (.bool))])], []⟩, [⟨.x 0, ⟨[], [], []⟩⟩, ⟨.r, ⟨[(2, bb)], [], []⟩⟩])) (mm (mm (.mk [.join [⟨.n, ⟨[(3, .one (.ptr 320 0)), (4, .one (.ptr 80 0)), (6, .one (.ptr 112 0)), (7, kk), (41, bb)], [(320, 80, [.data (.sl (.int .i64)), .data (.int .i64)]), (80, 32, [.keep, .keep, .keep, .keep, .keep, .keep]), (112, 40, [.keep, .keep, .keep, .keep])], []⟩⟩]] none .nil .nil) .nil) (mm (.mk [.join [⟨.n, ⟨[(3, .one (.ptr 320 0)), (4, .one (.ptr 80 0)), (6, .one (.ptr 112 0)), (7, kk)], [(320, 80, [.data (.sl (.int .i64)), .data (.int .i64)]), (80, 32, [.keep, .keep, .keep, .keep, .keep, .keep]), (112, 40, [.data (.sl tT1), .data (.sl (.int .i64)), .data (.sl (.int .i64)), .data (.sl (.bool))])], []⟩⟩, ⟨.r, ⟨[(2, bb)], [], []⟩⟩]] none (mm (.mk [.fz [6]] none .nil .nil) (nn (nn (mm (mm (.mk [.join [⟨.n, ⟨[(3, .one (.ptr 320 0)), (4, .one (.ptr 80 0)), (6, .one (.ptr 112 0)), (7, kk), (8, .one (.ptr 144 0)), (9, .one (.ptr 160 0)), (71, bb)], [(320, 80, [.keep, .keep]), (80, 32, [.keep, .keep, .keep, .keep, .keep, .keep]), (112, 40, [.keep, .keep, .keep, .keep]), (144, 48, [.keep, .keep, .keep, .keep, .keep, .keep, .keep]), (160, 40, [.keep, .keep, .keep, .keep])], []⟩⟩]] none .nil .nil) .nil) (mm (nn (.mk [.join [⟨.n, ⟨[(3, .one (.ptr 320 0)), (4, .one (.ptr 80 0)), (6, .one (.ptr 112 0)), (7, kk), (9, .one (.ptr 160 0))], [(320, 80, [.keep, .keep]), (80, 32, [.keep, .keep, .keep, .keep, .keep, .keep]), (112, 40, [.keep, .keep, .keep, .keep]), (160, 40, [.keep, .keep, .keep, .keep])], []⟩⟩, ⟨.r, ⟨[(2, bb)], [], []⟩⟩]] none (nn (nn (nn (mm (.mk [.join [⟨.n, ⟨[(3, .one (.ptr 320 0)), (4, .one (.ptr 80 0)), (6, .one (.ptr 112 0)), (7, kk), (9, .one (.ptr 160 0)), (105, bb)], [(320, 80, [.keep, .keep]), (80, 32, [.keep, .keep, .keep, .keep, .keep, .keep]), (112, 40, [.keep, .keep, .keep, .keep]), (160, 40, [.keep, .keep, .keep, .keep])], []⟩⟩]] none .nil .nil) .nil)))) .nil)) .nil))))) .nil) .nil)) .nil) .nil)) .nil)))))))))
  Tryz.func5 rfl (by kernel_rfl) rfl rfl rfl rfl types_ok ⟨⟨ok_second_Few, ok_law26_awake, ok_keep_New, ok_keep_Src_Network, ok_second_Plan, ok_second_Opened, ok_keep_Src_N, ok_second_Desk, ok_keep_Src_More, ok_second_Step, ok_step_Apply, ok_ref26_Same, ok_step_Check, ok_ref16_Check, ok_ref25_SamePlan, trivial⟩, trivial⟩ mx (fun x => by kernel_rfl)


end Go.Proofs.YtbljipjemhbooaaGreat
