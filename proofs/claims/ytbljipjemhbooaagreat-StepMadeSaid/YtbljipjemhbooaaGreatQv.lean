/- Functions, evaluated. No condition. -/
import Derived.Test.YtbljipjemhbooaaGreatProg
import Derived.Test.YtbljipjemhbooaaGreatQu
namespace Go.Proofs.YtbljipjemhbooaaGreat
open Go Go.Sq
noncomputable def ref25_follow_L1 (n : List (List UInt8) × List yT0 × List (List UInt8 × Int × Int) × List (List UInt8 × Int × Int × Int × Int) × Int × Int) (ports : List Int) (vin : Int) (vat : Int) (i : Int) (v5 : Int) (v6 : Int) (v7 : List (Int × Bool)) (v8 : Int) (x4 : Int) (x5 : Int) (x6 : List (Int × Bool)) : Option ((Int × Int × Int × (List (Int × Bool)) × Int × Int × Int × List (Int × Bool)) ⊕ ((Int × Int × (List (Int × Bool)) × Int × Int × Int × List (Int × Bool)) ⊕ (Bool × Int × Int × Int × List (Int × Bool)))) :=
 bif decide (i < (ports.length : Int)) then (
 Option.bind (α := Bool × List (Int × Bool)) (
 gd (inB i n.2.2.1.length) <|
 bif decide (((n.2.2.1.getD i.toNat ([], (0, 0))).2).1 = vat) then (
 gd (inB i ports.length) <|
 some (decide (ports.getD i.toNat 0 < 0), x6))
 else (
 some (false, x6))) fun s =>
 bif s.1 then (
 gd (inB i ports.length) <|
 some (.inr (.inr (true, vin, i, min x5 (wi64 (0 - (ports.getD i.toNat 0))), s.2))))
 else (
 some (.inl (wi64 (i + 1), v5, v6, v7, v8, x4, x5, s.2))))
 else (
 some (.inr (.inl (v5, v6, v7, v8, x4, x5, x6))))

noncomputable def ref25_follow_L0 (n : List (List UInt8) × List yT0 × List (List UInt8 × Int × Int) × List (List UInt8 × Int × Int × Int × Int) × Int × Int) (rates : List Int) (ports : List Int) (vin : Int) (vat : Int) (k : Int) (v : Int) (v2 : Int) (v3 : List (Int × Bool)) (v4 : Int) (x : Int) (x2 : Int) (x3 : List (Int × Bool)) : Option ((Int × Int × Int × Int × (List (Int × Bool)) × Int × Int × Int × List (Int × Bool)) ⊕ ((Int × Int × (List (Int × Bool)) × Int × Int × Int × List (Int × Bool)) ⊕ (Bool × Int × Int × Int × List (Int × Bool)))) :=
 bif decide (k ≤ (n.1.length : Int)) then (
 (iter (fun x7 => ref25_follow_L1 n ports vin vat x7.1 x7.2.1 x7.2.2.1 x7.2.2.2.1 x7.2.2.2.2.1 x7.2.2.2.2.2.1 x7.2.2.2.2.2.2.1 x7.2.2.2.2.2.2.2) (0, v, v2, v3, v4, x, x2, x3)).bind fun s2 =>
 s2.elim (fun s3 =>
 (ref25_leaves (n.1, (n.2.1, (n.2.2.1, (n.2.2.2.1, (n.2.2.2.2.1, n.2.2.2.2.2))))) rates vat).bind fun r =>
 bif !r.2 then (
 some (.inr (.inr (false, vin, s3.2.2.2.2.1, s3.2.2.2.2.2.1, s3.2.2.2.2.2.2))))
 else (
 gd (fits (s3.2.2.2.2.2.2.length + 1) 16) <|
 gd (inB r.1.1 rates.length) <|
 (ref25_amount (rates.getD r.1.1.toNat 0)).bind fun r2 =>
 (ref25_Ends (n.1, (n.2.1, (n.2.2.1, (n.2.2.2.1, (n.2.2.2.2.1, n.2.2.2.2.2))))) (r.1.1, r.1.2)).bind fun r3 =>
 some (.inl (r3.2, wi64 (k + 1), s3.1, s3.2.1, s3.2.2.1, s3.2.2.2.1, s3.2.2.2.2.1, min s3.2.2.2.2.2.1 r2, s3.2.2.2.2.2.2 ++ [(r.1.1, r.1.2)]))))
 (fun s4 =>
 some (.inr (.inr (s4.1, s4.2.1, s4.2.2.1, s4.2.2.2.1, s4.2.2.2.2)))))
 else (
 some (.inr (.inl (v, v2, v3, v4, x, x2, x3))))

noncomputable def ref25_follow (n : List (List UInt8) × List yT0 × List (List UInt8 × Int × Int) × List (List UInt8 × Int × Int × Int × Int) × Int × Int) (rates : List Int) (ports : List Int) (vin : Int) : Option (Int × Int × Int × Bool × List (Int × Bool)) :=
 gd (inB vin ports.length) <|
 gd (inB vin n.2.2.1.length) <|
 (iter (fun x8 => ref25_follow_L0 n rates ports vin x8.1 x8.2.1 x8.2.2.1 x8.2.2.2.1 x8.2.2.2.2.1 x8.2.2.2.2.2.1 x8.2.2.2.2.2.2.1 x8.2.2.2.2.2.2.2.1 x8.2.2.2.2.2.2.2.2) (((n.2.2.1.getD vin.toNat ([], (0, 0))).2).1, 0, 0, 0, [], 0, 0, ports.getD vin.toNat 0, [])).bind fun s5 =>
 s5.elim (fun s6 =>
 some (vin, s6.2.2.2.2.1, s6.2.2.2.2.2.1, false, s6.2.2.2.2.2.2))
 (fun s7 =>
 some (s7.2.1, s7.2.2.1, s7.2.2.2.1, s7.1, s7.2.2.2.2))

noncomputable def fn_ref25_follow : Fun :=
 ⟨73, 4, 2,
 ⟨[(0, .one (.data tT0)), (1, .one (.data (.sl (.int .i64)))), (2, .one (.data (.sl (.int .i64)))), (3, ii)], [], []⟩,
 ⟨[(0, .agg [.data (.int .i64), .data (.int .i64), .own 0, .data (.int .i64)]), (1, bb)], [], [(0, .arr 78 (.pair (.int .i64) (.bool)))]⟩,
 fun x => ref25_follow x.1 x.2.1 x.2.2.1 x.2.2.2⟩
noncomputable def cx_ref25_follow : Cx := ⟨types, [], [fn_ref25_leaves, fn_ref25_amount, fn_ref25_Ends], 101, []⟩
theorem ok_ref25_follow : FunOk Tryz.prog fn_ref25_follow :=
 FunOk.intro (C := cx_ref25_follow) (p := (nn (nn (nn (mm (nn (mm (.mk [] (some (⟨[(1, kk), (2, kk), (4, .one (.ptr 80 0)), (8, .one (.ptr 144 0)), (10, .one (.ptr 176 0)), (11, ii), (12, ii)], [(80, 32, [.keep, .keep, .keep, .keep, .keep, .keep]), (144, 46, [.data (.int .i64), .data (.int .i64), .data (.sl (.pair (.int .i64) (.bool))), .data (.int .i64)]), (176, 46, [.keep, .data (.int .i64), .own 2873, .data (.int .i64)])], [(2873, .arr 78 (.pair (.int .i64) (.bool)))]⟩, [⟨.x 0, ⟨[(8, .one (.ptr 144 0)), (10, .one (.ptr 176 0))], [(144, 46, [.data (.int .i64), .data (.int .i64), .data (.sl (.pair (.int .i64) (.bool))), .data (.int .i64)]), (176, 46, [.keep, .data (.int .i64), .own 2873, .data (.int .i64)])], [(2873, .arr 78 (.pair (.int .i64) (.bool)))]⟩⟩, ⟨.r, ⟨[(8, .one (.ptr 144 0)), (9, bb)], [(144, 46, [.data (.int .i64), .data (.int .i64), .own 2361, .data (.int .i64)])], [(2361, .arr 78 (.pair (.int .i64) (.bool)))]⟩⟩])) (nn (mm (mm (mm (nn (mm (.mk [] (some (⟨[(1, kk), (2, kk), (4, .one (.ptr 80 0)), (8, .one (.ptr 144 0)), (10, .one (.ptr 176 0)), (11, kk), (12, kk), (13, ii)], [(80, 32, [.keep, .keep, .keep, .keep, .keep, .keep]), (144, 46, [.data (.int .i64), .data (.int .i64), .data (.sl (.pair (.int .i64) (.bool))), .data (.int .i64)]), (176, 46, [.keep, .data (.int .i64), .own 2873, .data (.int .i64)])], [(2873, .arr 78 (.pair (.int .i64) (.bool)))]⟩, [⟨.x 2, ⟨[(1, kk), (2, kk), (4, .one (.ptr 80 0)), (8, .one (.ptr 144 0)), (10, .one (.ptr 176 0)), (11, kk), (12, kk)], [(80, 32, [.keep, .keep, .keep, .keep, .keep, .keep]), (144, 46, [.data (.int .i64), .data (.int .i64), .data (.sl (.pair (.int .i64) (.bool))), .data (.int .i64)]), (176, 46, [.keep, .data (.int .i64), .own 2873, .data (.int .i64)])], [(2873, .arr 78 (.pair (.int .i64) (.bool)))]⟩⟩, ⟨.r, ⟨[(8, .one (.ptr 144 0)), (9, bb)], [(144, 46, [.data (.int .i64), .data (.int .i64), .own 2873, .data (.int .i64)])], [(2873, .arr 78 (.pair (.int .i64) (.bool)))]⟩⟩])) (nn (mm (mm (mm (.mk [.join [⟨.n, ⟨[(1, kk), (2, kk), (4, .one (.ptr 80 0)), (8, .one (.ptr 144 0)), (10, .one (.ptr 176 0)), (11, kk), (12, kk), (13, kk), (55, bb)], [(80, 32, [.keep, .keep, .keep, .keep, .keep, .keep]), (144, 46, [.keep, .keep, .keep, .keep]), (176, 46, [.keep, .keep, .own 2873, .keep])], [(2873, .arr 78 (.pair (.int .i64) (.bool)))]⟩⟩]] none .nil .nil) .nil) .nil) .nil)) .nil) .nil)) .nil) .nil) .nil)) .nil) .nil)) .nil)))))
  Tryz.func73 rfl (by kernel_rfl) rfl rfl rfl rfl types_ok ⟨⟨ok_ref25_leaves, ok_ref25_amount, ok_ref25_Ends, trivial⟩, trivial⟩ mx (fun x => by kernel_rfl)

noncomputable def ref25_Divide_L2 (r2 : Int × Int × Int × Bool × List (Int × Bool)) (k : Int) (rates3 : List Int) (ports3 : List Int) (out3 : List (Int × Int × List (Int × Bool) × Int)) (l10 : List Int) (l11 : List Int) (l12 : List Bool) (x : List (Int × Bool)) : Option ((Int × List Int × List Int × (List (Int × Int × List (Int × Bool) × Int)) × List Int × List Int × List Bool × List (Int × Bool)) ⊕ (List Int × List Int × (List (Int × Int × List (Int × Bool) × Int)) × List Int × List Int × List Bool × List (Int × Bool))) :=
 bif decide (k < (x.length : Int)) then (
 gd (inB k x.length) <|
 Option.bind (α := List Int × List Int × (List (Int × Int × List (Int × Bool) × Int)) × List Int × List Int × List Bool × List (Int × Bool)) (
 bif (x.getD k.toNat (0, false)).2 then (
 gd (inB ((x.getD k.toNat (0, false)).1) rates3.length) <|
 gd (inB ((x.getD k.toNat (0, false)).1) rates3.length) <|
 some (rates3.set (((x.getD k.toNat (0, false)).1).toNat) (wi64 ((rates3.getD (((x.getD k.toNat (0, false)).1).toNat) 0) + r2.2.2.1)), ports3, out3, l10, l11, l12, x))
 else (
 gd (inB ((x.getD k.toNat (0, false)).1) rates3.length) <|
 gd (inB ((x.getD k.toNat (0, false)).1) rates3.length) <|
 some (rates3.set (((x.getD k.toNat (0, false)).1).toNat) (wi64 ((rates3.getD (((x.getD k.toNat (0, false)).1).toNat) 0) - r2.2.2.1)), ports3, out3, l10, l11, l12, x))) fun s2 =>
 some (.inl (wi64 (k + 1), s2.1, s2.2.1, s2.2.2.1, s2.2.2.2.1, s2.2.2.2.2.1, s2.2.2.2.2.2.1, s2.2.2.2.2.2.2)))
 else (
 some (.inr (rates3, ports3, out3, l10, l11, l12, x)))

noncomputable def ref25_Divide_L1 (n : List (List UInt8) × List yT0 × List (List UInt8 × Int × Int) × List (List UInt8 × Int × Int × Int × Int) × Int × Int) (i : Int) (rates2 : List Int) (ports2 : List Int) (out2 : List (Int × Int × List (Int × Bool) × Int)) (l7 : List Int) (l8 : List Int) (l9 : List Bool) : Option ((List Int × List Int × (List (Int × Int × List (Int × Bool) × Int)) × List Int × List Int × List Bool) ⊕ ((List Int × List Int × (List (Int × Int × List (Int × Bool) × Int)) × List Int × List Int × List Bool) ⊕ (Int × List Int × List Int × List Bool))) :=
 gd (inB i ports2.length) <|
 bif decide (0 < ports2.getD i.toNat 0) then (
 (ref25_follow (n.1, (n.2.1, (n.2.2.1, (n.2.2.2.1, (n.2.2.2.2.1, n.2.2.2.2.2))))) rates2 ports2 i).bind fun r2 =>
 Option.bind (α := Bool × List Int × List Int × (List (Int × Int × List (Int × Bool) × Int)) × List Int × List Int × List Bool × List (Int × Bool)) (
 bif !r2.2.2.2.1 then (
 some (true, rates2, ports2, out2, l7, l8, l9, r2.2.2.2.2))
 else (
 bif decide ((out2.length : Int) = 64) then (
 some (true, rates2, ports2, out2, l7, l8, l9, r2.2.2.2.2))
 else (
 some (decide (32 < (r2.2.2.2.2.length : Int)), rates2, ports2, out2, l7, l8, l9, r2.2.2.2.2)))) fun s =>
 bif s.1 then (
 some (.inr (.inr (23, s.2.2.2.2.1, s.2.2.2.2.2.1, s.2.2.2.2.2.2.1))))
 else (
 gd (inB r2.1 s.2.2.1.length) <|
 gd (inB r2.1 s.2.2.1.length) <|
 gd (inB r2.2.1 (s.2.2.1.set r2.1.toNat (wi64 ((s.2.2.1.getD r2.1.toNat 0) - r2.2.2.1))).length) <|
 gd (inB r2.2.1 (s.2.2.1.set r2.1.toNat (wi64 ((s.2.2.1.getD r2.1.toNat 0) - r2.2.2.1))).length) <|
 (iter (fun x2 => ref25_Divide_L2 r2 x2.1 x2.2.1 x2.2.2.1 x2.2.2.2.1 x2.2.2.2.2.1 x2.2.2.2.2.2.1 x2.2.2.2.2.2.2.1 x2.2.2.2.2.2.2.2) (0, s.2.1, (s.2.2.1.set r2.1.toNat (wi64 ((s.2.2.1.getD r2.1.toNat 0) - r2.2.2.1))).set r2.2.1.toNat (wi64 (((s.2.2.1.set r2.1.toNat (wi64 ((s.2.2.1.getD r2.1.toNat 0) - r2.2.2.1))).getD r2.2.1.toNat 0) + r2.2.2.1)), s.2.2.2.1, s.2.2.2.2.1, s.2.2.2.2.2.1, s.2.2.2.2.2.2.1, s.2.2.2.2.2.2.2)).bind fun s3 =>
 gd (fits (s3.2.2.1.length + 1) 48) <|
 some (.inl (s3.1, s3.2.1, s3.2.2.1 ++ [(r2.1, (r2.2.1, (s3.2.2.2.2.2.2, r2.2.2.1)))], s3.2.2.2.1, s3.2.2.2.2.1, s3.2.2.2.2.2.1))))
 else (
 some (.inr (.inl (rates2, ports2, out2, l7, l8, l9))))

noncomputable def ref25_Divide_L0 (n : List (List UInt8) × List yT0 × List (List UInt8 × Int × Int) × List (List UInt8 × Int × Int × Int × Int) × Int × Int) (i : Int) (rates : List Int) (ports : List Int) (out : List (Int × Int × List (Int × Bool) × Int)) (l4 : List Int) (l5 : List Int) (l6 : List Bool) : Option ((Int × List Int × List Int × (List (Int × Int × List (Int × Bool) × Int)) × List Int × List Int × List Bool) ⊕ (((List (Int × Int × List (Int × Bool) × Int)) × List Int × List Int × List Bool) ⊕ (Int × List Int × List Int × List Bool))) :=
 bif decide (i < (ports.length : Int)) then (
 (iter (fun x3 => ref25_Divide_L1 n i x3.1 x3.2.1 x3.2.2.1 x3.2.2.2.1 x3.2.2.2.2.1 x3.2.2.2.2.2) (rates, ports, out, l4, l5, l6)).bind fun s4 =>
 s4.elim (fun s5 =>
 some (.inl (wi64 (i + 1), s5.1, s5.2.1, s5.2.2.1, s5.2.2.2.1, s5.2.2.2.2.1, s5.2.2.2.2.2)))
 (fun s6 =>
 some (.inr (.inr (s6.1, s6.2.1, s6.2.2.1, s6.2.2.2)))))
 else (
 some (.inr (.inl (out, l4, l5, l6))))

noncomputable def ref25_Divide (n : List (List UInt8) × List yT0 × List (List UInt8 × Int × Int) × List (List UInt8 × Int × Int × Int × Int) × Int × Int) (l : List Int) (l2 : List Int) (l3 : List Bool) : Option (Int × List Int × List Int × List Bool × List (Int × Int × List (Int × Bool) × Int)) :=
 (ref16_Check (n.1, (n.2.1, (n.2.2.1, (n.2.2.2.1, (n.2.2.2.2.1, n.2.2.2.2.2))))) (l, (l2, l3))).bind fun r =>
 bif !decide (r = 0) then (
 some (r, l, l2, l3, []))
 else (
 gd (fits (0 + l.length) 8) <|
 gd (fits (0 + l2.length) 8) <|
 (iter (fun x4 => ref25_Divide_L0 n x4.1 x4.2.1 x4.2.2.1 x4.2.2.2.1 x4.2.2.2.2.1 x4.2.2.2.2.2.1 x4.2.2.2.2.2.2) (0, ([] ++ l), ([] ++ l2), [], l, l2, l3)).bind fun s7 =>
 s7.elim (fun s8 =>
 some (0, s8.2.1, s8.2.2.1, s8.2.2.2, s8.1))
 (fun s9 =>
 some (s9.1, s9.2.1, s9.2.2.1, s9.2.2.2, [])))

noncomputable def fn_ref25_Divide : Fun :=
 ⟨43, 2, 2,
 ⟨[(0, .one (.data tT0)), (1, .agg [.own 0, .own 1, .own 2])], [], [(0, .arr 3 (.int .i64)), (1, .arr 3 (.int .i64)), (2, .arr 4 (.bool))]⟩,
 ⟨[(0, .one (.own 3)), (1, ii)], [], [(0, .arr 3 (.int .i64)), (1, .arr 3 (.int .i64)), (2, .arr 4 (.bool)), (3, .arr 46 (.pair (.int .i64) (.pair (.int .i64) (.pair (.sl (.pair (.int .i64) (.bool))) (.int .i64)))))]⟩,
 fun x => ref25_Divide x.1 x.2.1 x.2.2.1 x.2.2.2⟩
noncomputable def cx_ref25_Divide : Cx := ⟨types, [21, 25], [fn_ref16_Check, fn_ref25_follow], 128, []⟩
theorem ok_ref25_Divide : FunOk Tryz.prog fn_ref25_Divide :=
 FunOk.intro (C := cx_ref25_Divide) (p := (nn (nn (nn (nn (nn (mm (nn (mm (.mk [] (some (⟨[(2, .one (.ptr 48 0)), (7, .one (.own 400)), (8, .one (.own 464)), (9, .one (.own 171)), (10, ii)], [(48, 32, [.keep, .keep, .keep, .keep, .keep, .keep])], [(400, .arr 3 (.int .i64)), (464, .arr 3 (.int .i64)), (171, .arr 46 (.pair (.int .i64) (.pair (.int .i64) (.pair (.sl (.pair (.int .i64) (.bool))) (.int .i64))))), (0, .arr 3 (.int .i64)), (1, .arr 3 (.int .i64)), (2, .arr 4 (.bool))]⟩, [⟨.x 0, ⟨[(9, .one (.own 171))], [], [(171, .arr 46 (.pair (.int .i64) (.pair (.int .i64) (.pair (.sl (.pair (.int .i64) (.bool))) (.int .i64))))), (0, .arr 3 (.int .i64)), (1, .arr 3 (.int .i64)), (2, .arr 4 (.bool))]⟩⟩, ⟨.r, ⟨[(4, .one .nil), (5, ii)], [], [(0, .arr 3 (.int .i64)), (1, .arr 3 (.int .i64)), (2, .arr 4 (.bool))]⟩⟩])) (nn (mm (mm (mm (.mk [] (some (⟨[(2, .one (.ptr 48 0)), (7, .one (.own 400)), (8, .one (.own 464)), (9, .one (.own 171)), (10, kk)], [(48, 32, [.keep, .keep, .keep, .keep, .keep, .keep])], [(400, .arr 3 (.int .i64)), (464, .arr 3 (.int .i64)), (171, .arr 46 (.pair (.int .i64) (.pair (.int .i64) (.pair (.sl (.pair (.int .i64) (.bool))) (.int .i64))))), (0, .arr 3 (.int .i64)), (1, .arr 3 (.int .i64)), (2, .arr 4 (.bool))]⟩, [⟨.x 2, ⟨[(2, .one (.ptr 48 0)), (7, .one (.own 400)), (8, .one (.own 464)), (9, .one (.own 171)), (10, kk)], [(48, 32, [.keep, .keep, .keep, .keep, .keep, .keep])], [(400, .arr 3 (.int .i64)), (464, .arr 3 (.int .i64)), (171, .arr 46 (.pair (.int .i64) (.pair (.int .i64) (.pair (.sl (.pair (.int .i64) (.bool))) (.int .i64))))), (0, .arr 3 (.int .i64)), (1, .arr 3 (.int .i64)), (2, .arr 4 (.bool))]⟩⟩, ⟨.r, ⟨[(4, .one .nil), (5, ii)], [], [(0, .arr 3 (.int .i64)), (1, .arr 3 (.int .i64)), (2, .arr 4 (.bool))]⟩⟩])) (nn (mm (nn (mm (mm (.mk [.join [⟨.n, ⟨[(2, .one (.ptr 48 0)), (7, .one (.own 400)), (8, .one (.own 464)), (9, .one (.own 171)), (10, kk), (11, .one (.ptr 192 0)), (60, bb)], [(48, 32, [.keep, .keep, .keep, .keep, .keep, .keep]), (192, 46, [.keep, .keep, .own 736, .keep])], [(400, .arr 3 (.int .i64)), (464, .arr 3 (.int .i64)), (171, .arr 46 (.pair (.int .i64) (.pair (.int .i64) (.pair (.sl (.pair (.int .i64) (.bool))) (.int .i64))))), (0, .arr 3 (.int .i64)), (1, .arr 3 (.int .i64)), (2, .arr 4 (.bool)), (736, .arr 78 (.pair (.int .i64) (.bool)))]⟩⟩]] none .nil .nil) .nil) (nn (nn (mm (nn (mm (.mk [] (some (⟨[(2, .one (.ptr 48 0)), (7, .one (.own 400)), (8, .one (.own 464)), (9, .one (.own 171)), (10, kk), (11, .one (.ptr 192 0)), (13, ii)], [(48, 32, [.keep, .keep, .keep, .keep, .keep, .keep]), (192, 46, [.keep, .keep, .own 736, .keep])], [(400, .arr 3 (.int .i64)), (464, .arr 3 (.int .i64)), (171, .arr 46 (.pair (.int .i64) (.pair (.int .i64) (.pair (.sl (.pair (.int .i64) (.bool))) (.int .i64))))), (0, .arr 3 (.int .i64)), (1, .arr 3 (.int .i64)), (2, .arr 4 (.bool)), (736, .arr 78 (.pair (.int .i64) (.bool)))]⟩, [⟨.x 4, ⟨[(2, .one (.ptr 48 0)), (7, .one (.own 400)), (8, .one (.own 464)), (9, .one (.own 171)), (10, kk), (11, .one (.ptr 192 0))], [(48, 32, [.keep, .keep, .keep, .keep, .keep, .keep]), (192, 46, [.keep, .keep, .own 736, .keep])], [(400, .arr 3 (.int .i64)), (464, .arr 3 (.int .i64)), (171, .arr 46 (.pair (.int .i64) (.pair (.int .i64) (.pair (.sl (.pair (.int .i64) (.bool))) (.int .i64))))), (0, .arr 3 (.int .i64)), (1, .arr 3 (.int .i64)), (2, .arr 4 (.bool)), (736, .arr 78 (.pair (.int .i64) (.bool)))]⟩⟩])) (nn (mm (mm (nn (nn (.mk [.join [⟨.n, ⟨[(2, .one (.ptr 48 0)), (7, .one (.own 400)), (8, .one (.own 464)), (9, .one (.own 171)), (10, kk), (11, .one (.ptr 192 0)), (13, kk)], [(48, 32, [.keep, .keep, .keep, .keep, .keep, .keep]), (192, 46, [.keep, .keep, .own 736, .keep])], [(400, .arr 3 (.int .i64)), (464, .arr 3 (.int .i64)), (171, .arr 46 (.pair (.int .i64) (.pair (.int .i64) (.pair (.sl (.pair (.int .i64) (.bool))) (.int .i64))))), (0, .arr 3 (.int .i64)), (1, .arr 3 (.int .i64)), (2, .arr 4 (.bool)), (736, .arr 78 (.pair (.int .i64) (.bool)))]⟩⟩]] none .nil .nil))) .nil) .nil)) .nil) .nil)) (.mk [.fz [11]] none .nil .nil)))))) .nil)) .nil) .nil) .nil) .nil)) .nil) .nil)) .nil)))))))
  Tryz.func43 rfl (by kernel_rfl) rfl rfl rfl rfl types_ok ⟨⟨ok_ref16_Check, ok_ref25_follow, trivial⟩, trivial⟩ mx (fun x => by kernel_rfl)

noncomputable def ref25_Copy (p : Int × Int × List (Int × Bool) × Int) : Option (Int × Int × Int × List (Int × Bool)) :=
 gd (fits (0 + p.2.2.1.length) 16) <|
 some (p.1, p.2.1, p.2.2.2, ([] ++ p.2.2.1))

noncomputable def fn_ref25_Copy : Fun :=
 ⟨44, 1, 1,
 ⟨[(0, .one (.data (.pair (.int .i64) (.pair (.int .i64) (.pair (.sl (.pair (.int .i64) (.bool))) (.int .i64))))))], [], []⟩,
 ⟨[(0, .agg [.data (.int .i64), .data (.int .i64), .own 0, .data (.int .i64)])], [], [(0, .arr 78 (.pair (.int .i64) (.bool)))]⟩,
 fun x => ref25_Copy x⟩
noncomputable def cx_ref25_Copy : Cx := ⟨types, [3], [], 9, []⟩
theorem ok_ref25_Copy : FunOk Tryz.prog fn_ref25_Copy :=
 FunOk.intro (C := cx_ref25_Copy) (p := .nil)
  Tryz.func44 rfl (by kernel_rfl) rfl rfl rfl rfl types_ok ⟨trivial, trivial⟩ mx (fun x => by kernel_rfl)

noncomputable def second_Step (n : List (List UInt8) × List yT0 × List (List UInt8 × Int × Int) × List (List UInt8 × Int × Int × Int × Int) × Int × Int) (s : List Int) (s2 : Int) (l : List (Int × Int × Bool × Bool)) (l2 : List Int) (l3 : List Int) (l4 : List Bool) : Option ((Int × Int × Int × Int × Int × List (Int × Bool) × Int) × List Int × Int × (List (Int × Int × Bool × Bool)) × List Int × List Int × List Bool) :=
 (keep_Src_N 9 s s2).bind fun r =>
 bif decide (r.1 = 0) then (
 (keep_Src_N (wi64 ((l.length : Int) + 1)) r.2.1 r.2.2).bind fun r2 =>
 some ((1, (r2.1, (0, (0, (0, ([], 0)))))), r2.2.1, r2.2.2, l, l2, l3, l4))
 else (
 bif decide (r.1 = 1) then (
 (keep_Src_N (wi64 ((l.length : Int) + 2)) r.2.1 r.2.2).bind fun r3 =>
 some ((2, (wi64 (r3.1 - 1), (0, (0, (0, ([], 0)))))), r3.2.1, r3.2.2, l, l2, l3, l4))
 else (
 bif decide (r.1 = 2) then (
 (keep_Src_N (wi64 ((n.2.2.2.1.length : Int) + 1)) r.2.1 r.2.2).bind fun r4 =>
 some ((3, (r4.1, (0, (0, (0, ([], 0)))))), r4.2.1, r4.2.2, l, l2, l3, l4))
 else (
 bif decide (r.1 = 3) then (
 (keep_Src_N (wi64 ((n.2.2.2.1.length : Int) + 1)) r.2.1 r.2.2).bind fun r5 =>
 some ((4, (r5.1, (0, (0, (0, ([], 0)))))), r5.2.1, r5.2.2, l, l2, l3, l4))
 else (
 Option.bind (α := Bool × (List (Int × Int × Bool × Bool)) × List Int × List Int × List Bool) (
 bif decide (r.1 = 4) then (
 some (decide (r.1 = 4), l, l2, l3, l4))
 else (
 some (decide (r.1 = 5), l, l2, l3, l4))) fun s3 =>
 bif s3.1 then (
 (keep_Src_Pick [1, 2, 7, 60, 100, 0, 101] r.2.1 r.2.2).bind fun r6 =>
 some ((6, (0, (r6.1, (0, (0, ([], 0)))))), r6.2.1, r6.2.2, s3.2.1, s3.2.2.1, s3.2.2.2.1, s3.2.2.2.2))
 else (
 bif decide (r.1 = 6) then (
 (keep_Src_N 9 r.2.1 r.2.2).bind fun r7 =>
 (keep_Src_N 4 r7.2.1 r7.2.2).bind fun r8 =>
 (keep_Src_N 5 r8.2.1 r8.2.2).bind fun r9 =>
 (keep_Src_N 2 r9.2.1 r9.2.2).bind fun r10 =>
 (keep_Src_N 2 r10.2.1 r10.2.2).bind fun r11 =>
 some ((r7.1, (r8.1, (r9.1, (r10.1, (0, ([], r11.1)))))), r11.2.1, r11.2.2, s3.2.1, s3.2.2.1, s3.2.2.2.1, s3.2.2.2.2))
 else (
 (keep_Src_N 2 r.2.1 r.2.2).bind fun r12 =>
 bif decide (r12.1 = 0) then (
 (keep_Src_Plan (n.1, (n.2.1, (n.2.2.1, (n.2.2.2.1, (n.2.2.2.2.1, n.2.2.2.2.2))))) r12.2.1 r12.2.2).bind fun r13 =>
 (ref25_Divide (n.1, (n.2.1, (n.2.2.1, (n.2.2.2.1, (n.2.2.2.2.1, n.2.2.2.2.2))))) r13.2.2.1 r13.2.2.2.1 r13.2.2.2.2).bind fun r14 =>
 bif decide ((r14.2.2.2.2.length : Int) = 0) then (
 some ((5, (0, (1, (0, (1, ([], 0)))))), r13.1, r13.2.1, s3.2.1, s3.2.2.1, s3.2.2.2.1, s3.2.2.2.2))
 else (
 (keep_Src_N (r14.2.2.2.2.length : Int) r13.1 r13.2.1).bind fun r15 =>
 gd (inB r15.1 r14.2.2.2.2.length) <|
 (ref25_Copy (r14.2.2.2.2.getD r15.1.toNat (0, (0, ([], 0))))).bind fun r16 =>
 (keep_Src_Pick [r16.2.2.1, wi64 (0 - r16.2.2.1), 1, (-1), wi64 (r16.2.2.1 + 1), wi64 ((wi64 (0 - r16.2.2.1)) - 1), 0] r15.2.1 r15.2.2).bind fun r17 =>
 some ((5, (0, (r17.1, (r16.1, (r16.2.1, (r16.2.2.2, 0)))))), r17.2.1, r17.2.2, s3.2.1, s3.2.2.1, s3.2.2.2.1, s3.2.2.2.2)))
 else (
 (ref25_Divide (n.1, (n.2.1, (n.2.2.1, (n.2.2.2.1, (n.2.2.2.2.1, n.2.2.2.2.2))))) s3.2.2.1 s3.2.2.2.1 s3.2.2.2.2).bind fun r18 =>
 bif decide ((r18.2.2.2.2.length : Int) = 0) then (
 some ((5, (0, (1, (0, (1, ([], 0)))))), r12.2.1, r12.2.2, s3.2.1, r18.2.1, r18.2.2.1, r18.2.2.2.1))
 else (
 (keep_Src_N (r18.2.2.2.2.length : Int) r12.2.1 r12.2.2).bind fun r19 =>
 gd (inB r19.1 r18.2.2.2.2.length) <|
 (ref25_Copy (r18.2.2.2.2.getD r19.1.toNat (0, (0, ([], 0))))).bind fun r20 =>
 (keep_Src_Pick [r20.2.2.1, wi64 (0 - r20.2.2.1), 1, (-1), wi64 (r20.2.2.1 + 1), wi64 ((wi64 (0 - r20.2.2.1)) - 1), 0] r19.2.1 r19.2.2).bind fun r21 =>
 some ((5, (0, (r21.1, (r20.1, (r20.2.1, (r20.2.2.2, 0)))))), r21.2.1, r21.2.2, s3.2.1, r18.2.1, r18.2.2.1, r18.2.2.2.1)))))))))

noncomputable def fn_second_Step : Fun :=
 ⟨16, 3, 1,
 ⟨[(0, .one (.ptr 0 0)), (1, .one (.data tT0)), (2, .agg [.own 1, .own 2, .own 3, .own 4])], [(0, 80, [.data (.sl (.int .i64)), .data (.int .i64)])], [(1, .arr 54 tT1), (2, .arr 3 (.int .i64)), (3, .arr 3 (.int .i64)), (4, .arr 4 (.bool))]⟩,
 ⟨[(0, .one (.data tT2))], [(0, 80, [.data (.sl (.int .i64)), .data (.int .i64)])], [(1, .arr 54 tT1), (2, .arr 3 (.int .i64)), (3, .arr 3 (.int .i64)), (4, .arr 4 (.bool))]⟩,
 fun x => second_Step x.1 x.2.1 x.2.2.1 x.2.2.2.1 x.2.2.2.2.1 x.2.2.2.2.2.1 x.2.2.2.2.2.2⟩
noncomputable def cx_second_Step : Cx := ⟨types, [], [fn_keep_Src_N, fn_keep_Src_Pick, fn_keep_Src_Plan, fn_ref25_Divide, fn_ref25_Copy], 118, []⟩
theorem ok_second_Step : FunOk Tryz.prog fn_second_Step :=
 FunOk.intro (C := cx_second_Step) (p := (nn (mm (nn (mm (nn (nn (nn (nn (nn (nn (nn (nn (mm (nn (.mk [.join [⟨.n, ⟨[(0, .one (.ptr 0 0)), (4, .one (.ptr 80 0)), (5, .one (.ptr 96 0)), (6, .one (.ptr 112 0)), (13, kk), (51, bb)], [(0, 80, [.keep, .keep]), (80, 32, [.keep, .keep, .keep, .keep, .keep, .keep]), (96, 40, [.own 1, .own 2, .own 3, .own 4]), (112, 48, [.keep, .keep, .keep, .keep, .keep, .keep, .keep])], [(1, .arr 54 tT1), (2, .arr 3 (.int .i64)), (3, .arr 3 (.int .i64)), (4, .arr 4 (.bool))]⟩⟩]] none .nil .nil)) .nil))))))))) .nil)) .nil)))
  Tryz.func16 rfl (by kernel_rfl) rfl rfl rfl rfl types_ok ⟨⟨ok_keep_Src_N, ok_keep_Src_Pick, ok_keep_Src_Plan, ok_ref25_Divide, ok_ref25_Copy, trivial⟩, trivial⟩ mx (fun x => by kernel_rfl)

noncomputable def second_Mod (n : Int) (k : Int) : Option (Int) :=
 (keep_Mod n k).bind fun r =>
 some r

noncomputable def fn_second_Mod : Fun :=
 ⟨17, 2, 1,
 ⟨[(0, ii), (1, ii)], [], []⟩,
 ⟨[(0, ii)], [], []⟩,
 fun x => second_Mod x.1 x.2⟩
noncomputable def cx_second_Mod : Cx := ⟨types, [], [fn_keep_Mod], 8, []⟩
theorem ok_second_Mod : FunOk Tryz.prog fn_second_Mod :=
 FunOk.intro (C := cx_second_Mod) (p := .nil)
  Tryz.func17 rfl (by kernel_rfl) rfl rfl rfl rfl types_ok ⟨⟨ok_keep_Mod, trivial⟩, trivial⟩ mx (fun x => by kernel_rfl)

noncomputable def keep_Src_Text (l : List (List UInt8)) (s : List Int) (s2 : Int) : Option (List UInt8 × List Int × Int) :=
 (keep_Src_N (l.length : Int) s s2).bind fun r =>
 gd (inB r.1 l.length) <|
 some (l.getD r.1.toNat [], r.2.1, r.2.2)

noncomputable def fn_keep_Src_Text : Fun :=
 ⟨45, 2, 1,
 ⟨[(0, .one (.ptr 0 0)), (1, .one (.data (.sl (.str))))], [(0, 80, [.data (.sl (.int .i64)), .data (.int .i64)])], []⟩,
 ⟨[(0, ss)], [(0, 80, [.data (.sl (.int .i64)), .data (.int .i64)])], []⟩,
 fun x => keep_Src_Text x.1 x.2.1 x.2.2⟩
noncomputable def cx_keep_Src_Text : Cx := ⟨types, [], [fn_keep_Src_N], 12, []⟩
theorem ok_keep_Src_Text : FunOk Tryz.prog fn_keep_Src_Text :=
 FunOk.intro (C := cx_keep_Src_Text) (p := .nil)
  Tryz.func45 rfl (by kernel_rfl) rfl rfl rfl rfl types_ok ⟨⟨ok_keep_Src_N, trivial⟩, trivial⟩ mx (fun x => by kernel_rfl)

noncomputable def keep_Src_Wrong_L0 (s3 : List Int) (s4 : Int) (n2 : List (List UInt8)) (n3 : List yT0) (n4 : List (List UInt8 × Int × Int)) (n5 : List (List UInt8 × Int × Int × Int × Int)) (x : List (Int × Int × Int)) : Option ((List Int × Int × List (List UInt8) × (List yT0) × (List (List UInt8 × Int × Int)) × (List (List UInt8 × Int × Int × Int × Int)) × List (Int × Int × Int)) ⊕ (List Int × Int × List (List UInt8) × (List yT0) × (List (List UInt8 × Int × Int)) × (List (List UInt8 × Int × Int × Int × Int)) × List (Int × Int × Int))) :=
 (keep_Src_N 2 s3 s4).bind fun r25 =>
 bif decide ((n2.length : Int) ≤ wi64 (23 + r25.1)) then (
 (keep_name [121] (n2.length : Int)).bind fun r26 =>
 (keep_name [] (wi64 (Int.tdiv (n2.length : Int) 26))).bind fun r27 =>
 gd (Nat.ble (r26.length + r27.length) 9223372036854775807) <|
 gd (fits (n2.length + 1) 16) <|
 some (.inl (r25.2.1, r25.2.2, n2 ++ [r26 ++ r27], n3, n4, n5, x)))
 else (
 some (.inr (r25.2.1, r25.2.2, n2, n3, n4, n5, x)))

noncomputable def keep_Src_Wrong (n : List (List UInt8) × List yT0 × List (List UInt8 × Int × Int) × List (List UInt8 × Int × Int × Int × Int) × Int × Int) (s : List Int) (s2 : Int) : Option ((List (List UInt8) × List yT0 × List (List UInt8 × Int × Int) × List (List UInt8 × Int × Int × Int × Int) × Int × Int) × List Int × Int) :=
 gd (fits (0 + n.1.length) 16) <|
 gd (fits (0 + n.2.1.length) 80) <|
 gd (fits (0 + n.2.2.1.length) 32) <|
 gd (fits (0 + n.2.2.2.1.length) 48) <|
 (keep_Src_N (([] ++ n.2.1).length : Int) s s2).bind fun r =>
 gd (inB r.1 ([] ++ n.2.1).length) <|
 gd (fits (0 + (((((((([] ++ n.2.1).getD r.1.toNat ([], (0, (0, (0, (0, (0, []))))))).2).2).2).2).2).2).length) 24) <|
 (keep_Src_N 12 r.2.1 r.2.2).bind fun r2 =>
 Option.bind (α := Int × Int × Int × Int × Int × Int × (List (Int × Int × Int)) × List Int × Int × List (List UInt8) × (List yT0) × (List (List UInt8 × Int × Int)) × List (List UInt8 × Int × Int × Int × Int)) (
 bif decide (r2.1 = 0) then (
 (keep_Src_N (([] ++ n.1).length : Int) r2.2.1 r2.2.2).bind fun r3 =>
 (keep_Src_Text ([[], [110, 97], [65], [120, 45, 57]] : List (List UInt8)) r3.2.1 r3.2.2).bind fun r4 =>
 gd (inB r3.1 ([] ++ n.1).length) <|
 some (n.2.2.2.2.1, n.2.2.2.2.2, ((([] ++ n.2.1).getD r.1.toNat ([], (0, (0, (0, (0, (0, []))))))).2).1, ((((([] ++ n.2.1).getD r.1.toNat ([], (0, (0, (0, (0, (0, []))))))).2).2).2).1, (((((([] ++ n.2.1).getD r.1.toNat ([], (0, (0, (0, (0, (0, []))))))).2).2).2).2).1, ((((((([] ++ n.2.1).getD r.1.toNat ([], (0, (0, (0, (0, (0, []))))))).2).2).2).2).2).1, ([] ++ (((((((([] ++ n.2.1).getD r.1.toNat ([], (0, (0, (0, (0, (0, []))))))).2).2).2).2).2).2)), r4.2.1, r4.2.2, ([] ++ n.1).set r3.1.toNat r4.1, ([] ++ n.2.1), ([] ++ n.2.2.1), ([] ++ n.2.2.2.1)))
 else (
 bif decide (r2.1 = 1) then (
 (keep_Src_Pick [(-1), (((([] ++ n.2.1).getD r.1.toNat ([], (0, (0, (0, (0, (0, []))))))).2).2).1, (([] ++ n.1).length : Int), 0] r2.2.1 r2.2.2).bind fun r5 =>
 some (n.2.2.2.2.1, n.2.2.2.2.2, r5.1, ((((([] ++ n.2.1).getD r.1.toNat ([], (0, (0, (0, (0, (0, []))))))).2).2).2).1, (((((([] ++ n.2.1).getD r.1.toNat ([], (0, (0, (0, (0, (0, []))))))).2).2).2).2).1, ((((((([] ++ n.2.1).getD r.1.toNat ([], (0, (0, (0, (0, (0, []))))))).2).2).2).2).2).1, ([] ++ (((((((([] ++ n.2.1).getD r.1.toNat ([], (0, (0, (0, (0, (0, []))))))).2).2).2).2).2).2)), r5.2.1, r5.2.2, ([] ++ n.1), ([] ++ n.2.1), ([] ++ n.2.2.1), ([] ++ n.2.2.2.1)))
 else (
 bif decide (r2.1 = 2) then (
 (keep_Src_Pick [0, (-1), wi64 ((((((([] ++ n.2.1).getD r.1.toNat ([], (0, (0, (0, (0, (0, []))))))).2).2).2).1) + 1), 1000001] r2.2.1 r2.2.2).bind fun r6 =>
 some (n.2.2.2.2.1, n.2.2.2.2.2, ((([] ++ n.2.1).getD r.1.toNat ([], (0, (0, (0, (0, (0, []))))))).2).1, r6.1, (((((([] ++ n.2.1).getD r.1.toNat ([], (0, (0, (0, (0, (0, []))))))).2).2).2).2).1, ((((((([] ++ n.2.1).getD r.1.toNat ([], (0, (0, (0, (0, (0, []))))))).2).2).2).2).2).1, ([] ++ (((((((([] ++ n.2.1).getD r.1.toNat ([], (0, (0, (0, (0, (0, []))))))).2).2).2).2).2).2)), r6.2.1, r6.2.2, ([] ++ n.1), ([] ++ n.2.1), ([] ++ n.2.2.1), ([] ++ n.2.2.2.1)))
 else (
 bif decide (r2.1 = 3) then (
 (keep_Src_Pick [(-1), 1000, 1001] r2.2.1 r2.2.2).bind fun r7 =>
 some (n.2.2.2.2.1, n.2.2.2.2.2, ((([] ++ n.2.1).getD r.1.toNat ([], (0, (0, (0, (0, (0, []))))))).2).1, ((((([] ++ n.2.1).getD r.1.toNat ([], (0, (0, (0, (0, (0, []))))))).2).2).2).1, r7.1, ((((((([] ++ n.2.1).getD r.1.toNat ([], (0, (0, (0, (0, (0, []))))))).2).2).2).2).2).1, ([] ++ (((((((([] ++ n.2.1).getD r.1.toNat ([], (0, (0, (0, (0, (0, []))))))).2).2).2).2).2).2)), r7.2.1, r7.2.2, ([] ++ n.1), ([] ++ n.2.1), ([] ++ n.2.2.1), ([] ++ n.2.2.2.1)))
 else (
 bif decide (r2.1 = 4) then (
 (keep_Src_Pick [(-1), 100000, 100001] r2.2.1 r2.2.2).bind fun r8 =>
 some (n.2.2.2.2.1, n.2.2.2.2.2, ((([] ++ n.2.1).getD r.1.toNat ([], (0, (0, (0, (0, (0, []))))))).2).1, ((((([] ++ n.2.1).getD r.1.toNat ([], (0, (0, (0, (0, (0, []))))))).2).2).2).1, (((((([] ++ n.2.1).getD r.1.toNat ([], (0, (0, (0, (0, (0, []))))))).2).2).2).2).1, r8.1, ([] ++ (((((((([] ++ n.2.1).getD r.1.toNat ([], (0, (0, (0, (0, (0, []))))))).2).2).2).2).2).2)), r8.2.1, r8.2.2, ([] ++ n.1), ([] ++ n.2.1), ([] ++ n.2.2.1), ([] ++ n.2.2.2.1)))
 else (
 bif decide (r2.1 = 5) then (
 bif decide (0 < (([] ++ (((((((([] ++ n.2.1).getD r.1.toNat ([], (0, (0, (0, (0, (0, []))))))).2).2).2).2).2).2)).length : Int)) then (
 (keep_Src_N (([] ++ (((((((([] ++ n.2.1).getD r.1.toNat ([], (0, (0, (0, (0, (0, []))))))).2).2).2).2).2).2)).length : Int) r2.2.1 r2.2.2).bind fun r9 =>
 (keep_Src_Pick [(-1), 0, 1, ((((([] ++ n.2.1).getD r.1.toNat ([], (0, (0, (0, (0, (0, []))))))).2).2).2).1] r9.2.1 r9.2.2).bind fun r10 =>
 gd (inB r9.1 ([] ++ (((((((([] ++ n.2.1).getD r.1.toNat ([], (0, (0, (0, (0, (0, []))))))).2).2).2).2).2).2)).length) <|
 some (n.2.2.2.2.1, n.2.2.2.2.2, ((([] ++ n.2.1).getD r.1.toNat ([], (0, (0, (0, (0, (0, []))))))).2).1, ((((([] ++ n.2.1).getD r.1.toNat ([], (0, (0, (0, (0, (0, []))))))).2).2).2).1, (((((([] ++ n.2.1).getD r.1.toNat ([], (0, (0, (0, (0, (0, []))))))).2).2).2).2).1, ((((((([] ++ n.2.1).getD r.1.toNat ([], (0, (0, (0, (0, (0, []))))))).2).2).2).2).2).1, ([] ++ (((((((([] ++ n.2.1).getD r.1.toNat ([], (0, (0, (0, (0, (0, []))))))).2).2).2).2).2).2)).set r9.1.toNat (r10.1, (([] ++ (((((((([] ++ n.2.1).getD r.1.toNat ([], (0, (0, (0, (0, (0, []))))))).2).2).2).2).2).2)).getD r9.1.toNat (0, (0, 0))).2), r10.2.1, r10.2.2, ([] ++ n.1), ([] ++ n.2.1), ([] ++ n.2.2.1), ([] ++ n.2.2.2.1)))
 else (
 some (n.2.2.2.2.1, n.2.2.2.2.2, ((([] ++ n.2.1).getD r.1.toNat ([], (0, (0, (0, (0, (0, []))))))).2).1, ((((([] ++ n.2.1).getD r.1.toNat ([], (0, (0, (0, (0, (0, []))))))).2).2).2).1, (((((([] ++ n.2.1).getD r.1.toNat ([], (0, (0, (0, (0, (0, []))))))).2).2).2).2).1, ((((((([] ++ n.2.1).getD r.1.toNat ([], (0, (0, (0, (0, (0, []))))))).2).2).2).2).2).1, ([] ++ (((((((([] ++ n.2.1).getD r.1.toNat ([], (0, (0, (0, (0, (0, []))))))).2).2).2).2).2).2)), r2.2.1, r2.2.2, ([] ++ n.1), ([] ++ n.2.1), ([] ++ n.2.2.1), ([] ++ n.2.2.2.1))))
 else (
 bif decide (r2.1 = 6) then (
 (keep_Src_N (min 3 (wi64 ((([] ++ (((((((([] ++ n.2.1).getD r.1.toNat ([], (0, (0, (0, (0, (0, []))))))).2).2).2).2).2).2)).length : Int) + 1))) r2.2.1 r2.2.2).bind fun r11 =>
 gd (cutG none (some (.i64, r11.1)) ([] ++ (((((((([] ++ n.2.1).getD r.1.toNat ([], (0, (0, (0, (0, (0, []))))))).2).2).2).2).2).2)).length) <|
 some (n.2.2.2.2.1, n.2.2.2.2.2, ((([] ++ n.2.1).getD r.1.toNat ([], (0, (0, (0, (0, (0, []))))))).2).1, ((((([] ++ n.2.1).getD r.1.toNat ([], (0, (0, (0, (0, (0, []))))))).2).2).2).1, (((((([] ++ n.2.1).getD r.1.toNat ([], (0, (0, (0, (0, (0, []))))))).2).2).2).2).1, ((((((([] ++ n.2.1).getD r.1.toNat ([], (0, (0, (0, (0, (0, []))))))).2).2).2).2).2).1, ([] ++ (((((((([] ++ n.2.1).getD r.1.toNat ([], (0, (0, (0, (0, (0, []))))))).2).2).2).2).2).2)).take r11.1.toNat, r11.2.1, r11.2.2, ([] ++ n.1), ([] ++ n.2.1), ([] ++ n.2.2.1), ([] ++ n.2.2.2.1)))
 else (
 bif decide (r2.1 = 7) then (
 bif decide (0 < (([] ++ (((((((([] ++ n.2.1).getD r.1.toNat ([], (0, (0, (0, (0, (0, []))))))).2).2).2).2).2).2)).length : Int)) then (
 (keep_Src_N (([] ++ (((((((([] ++ n.2.1).getD r.1.toNat ([], (0, (0, (0, (0, (0, []))))))).2).2).2).2).2).2)).length : Int) r2.2.1 r2.2.2).bind fun r12 =>
 (keep_Src_Pick [(-501), (-500), 5000, 5001] r12.2.1 r12.2.2).bind fun r13 =>
 gd (inB r12.1 ([] ++ (((((((([] ++ n.2.1).getD r.1.toNat ([], (0, (0, (0, (0, (0, []))))))).2).2).2).2).2).2)).length) <|
 some (n.2.2.2.2.1, n.2.2.2.2.2, ((([] ++ n.2.1).getD r.1.toNat ([], (0, (0, (0, (0, (0, []))))))).2).1, ((((([] ++ n.2.1).getD r.1.toNat ([], (0, (0, (0, (0, (0, []))))))).2).2).2).1, (((((([] ++ n.2.1).getD r.1.toNat ([], (0, (0, (0, (0, (0, []))))))).2).2).2).2).1, ((((((([] ++ n.2.1).getD r.1.toNat ([], (0, (0, (0, (0, (0, []))))))).2).2).2).2).2).1, ([] ++ (((((((([] ++ n.2.1).getD r.1.toNat ([], (0, (0, (0, (0, (0, []))))))).2).2).2).2).2).2)).set r12.1.toNat ((([] ++ (((((((([] ++ n.2.1).getD r.1.toNat ([], (0, (0, (0, (0, (0, []))))))).2).2).2).2).2).2)).getD r12.1.toNat (0, (0, 0))).1, (r13.1, ((([] ++ (((((((([] ++ n.2.1).getD r.1.toNat ([], (0, (0, (0, (0, (0, []))))))).2).2).2).2).2).2)).getD r12.1.toNat (0, (0, 0))).2).2)), r13.2.1, r13.2.2, ([] ++ n.1), ([] ++ n.2.1), ([] ++ n.2.2.1), ([] ++ n.2.2.2.1)))
 else (
 some (n.2.2.2.2.1, n.2.2.2.2.2, ((([] ++ n.2.1).getD r.1.toNat ([], (0, (0, (0, (0, (0, []))))))).2).1, ((((([] ++ n.2.1).getD r.1.toNat ([], (0, (0, (0, (0, (0, []))))))).2).2).2).1, (((((([] ++ n.2.1).getD r.1.toNat ([], (0, (0, (0, (0, (0, []))))))).2).2).2).2).1, ((((((([] ++ n.2.1).getD r.1.toNat ([], (0, (0, (0, (0, (0, []))))))).2).2).2).2).2).1, ([] ++ (((((((([] ++ n.2.1).getD r.1.toNat ([], (0, (0, (0, (0, (0, []))))))).2).2).2).2).2).2)), r2.2.1, r2.2.2, ([] ++ n.1), ([] ++ n.2.1), ([] ++ n.2.2.1), ([] ++ n.2.2.2.1))))
 else (
 bif decide (r2.1 = 8) then (
 bif decide (0 < (([] ++ n.2.2.1).length : Int)) then (
 (keep_Src_N (([] ++ n.2.2.1).length : Int) r2.2.1 r2.2.2).bind fun r14 =>
 (keep_Src_Text ([[113, 97], [113, 98], [], [122]] : List (List UInt8)) r14.2.1 r14.2.2).bind fun r15 =>
 (keep_Src_Pick [(-1), 0, 1, (([] ++ n.1).length : Int)] r15.2.1 r15.2.2).bind fun r16 =>
 (keep_Src_Pick [0, (-1), 100000000, 100000001] r16.2.1 r16.2.2).bind fun r17 =>
 gd (inB r14.1 ([] ++ n.2.2.1).length) <|
 some (n.2.2.2.2.1, n.2.2.2.2.2, ((([] ++ n.2.1).getD r.1.toNat ([], (0, (0, (0, (0, (0, []))))))).2).1, ((((([] ++ n.2.1).getD r.1.toNat ([], (0, (0, (0, (0, (0, []))))))).2).2).2).1, (((((([] ++ n.2.1).getD r.1.toNat ([], (0, (0, (0, (0, (0, []))))))).2).2).2).2).1, ((((((([] ++ n.2.1).getD r.1.toNat ([], (0, (0, (0, (0, (0, []))))))).2).2).2).2).2).1, ([] ++ (((((((([] ++ n.2.1).getD r.1.toNat ([], (0, (0, (0, (0, (0, []))))))).2).2).2).2).2).2)), r17.2.1, r17.2.2, ([] ++ n.1), ([] ++ n.2.1), ([] ++ n.2.2.1).set r14.1.toNat (r15.1, (r16.1, r17.1)), ([] ++ n.2.2.2.1)))
 else (
 some (n.2.2.2.2.1, n.2.2.2.2.2, ((([] ++ n.2.1).getD r.1.toNat ([], (0, (0, (0, (0, (0, []))))))).2).1, ((((([] ++ n.2.1).getD r.1.toNat ([], (0, (0, (0, (0, (0, []))))))).2).2).2).1, (((((([] ++ n.2.1).getD r.1.toNat ([], (0, (0, (0, (0, (0, []))))))).2).2).2).2).1, ((((((([] ++ n.2.1).getD r.1.toNat ([], (0, (0, (0, (0, (0, []))))))).2).2).2).2).2).1, ([] ++ (((((((([] ++ n.2.1).getD r.1.toNat ([], (0, (0, (0, (0, (0, []))))))).2).2).2).2).2).2)), r2.2.1, r2.2.2, ([] ++ n.1), ([] ++ n.2.1), ([] ++ n.2.2.1), ([] ++ n.2.2.2.1))))
 else (
 bif decide (r2.1 = 9) then (
 (keep_Src_Text ([[115, 97], [115, 122], []] : List (List UInt8)) r2.2.1 r2.2.2).bind fun r18 =>
 (keep_Src_Pick [(-1), 0, 0, 1, 99] r18.2.1 r18.2.2).bind fun r19 =>
 (keep_Src_Pick [0, (-1)] r19.2.1 r19.2.2).bind fun r20 =>
 (keep_Src_Pick [0, 100001] r20.2.1 r20.2.2).bind fun r21 =>
 (keep_Src_Pick [0, (-1)] r21.2.1 r21.2.2).bind fun r22 =>
 gd (fits (([] ++ n.2.2.2.1).length + 1) 48) <|
 some (n.2.2.2.2.1, n.2.2.2.2.2, ((([] ++ n.2.1).getD r.1.toNat ([], (0, (0, (0, (0, (0, []))))))).2).1, ((((([] ++ n.2.1).getD r.1.toNat ([], (0, (0, (0, (0, (0, []))))))).2).2).2).1, (((((([] ++ n.2.1).getD r.1.toNat ([], (0, (0, (0, (0, (0, []))))))).2).2).2).2).1, ((((((([] ++ n.2.1).getD r.1.toNat ([], (0, (0, (0, (0, (0, []))))))).2).2).2).2).2).1, ([] ++ (((((((([] ++ n.2.1).getD r.1.toNat ([], (0, (0, (0, (0, (0, []))))))).2).2).2).2).2).2)), r22.2.1, r22.2.2, ([] ++ n.1), ([] ++ n.2.1), ([] ++ n.2.2.1), ([] ++ n.2.2.2.1) ++ [(r18.1, (r19.1, (r20.1, (r21.1, r22.1))))]))
 else (
 bif decide (r2.1 = 10) then (
 (keep_Src_Pick [0, (-100001), 100000001] r2.2.1 r2.2.2).bind fun r23 =>
 (keep_Src_Pick [0, (-1), 101] r23.2.1 r23.2.2).bind fun r24 =>
 some (r23.1, r24.1, ((([] ++ n.2.1).getD r.1.toNat ([], (0, (0, (0, (0, (0, []))))))).2).1, ((((([] ++ n.2.1).getD r.1.toNat ([], (0, (0, (0, (0, (0, []))))))).2).2).2).1, (((((([] ++ n.2.1).getD r.1.toNat ([], (0, (0, (0, (0, (0, []))))))).2).2).2).2).1, ((((((([] ++ n.2.1).getD r.1.toNat ([], (0, (0, (0, (0, (0, []))))))).2).2).2).2).2).1, ([] ++ (((((((([] ++ n.2.1).getD r.1.toNat ([], (0, (0, (0, (0, (0, []))))))).2).2).2).2).2).2)), r24.2.1, r24.2.2, ([] ++ n.1), ([] ++ n.2.1), ([] ++ n.2.2.1), ([] ++ n.2.2.2.1)))
 else (
 (iter (fun x2 => keep_Src_Wrong_L0 x2.1 x2.2.1 x2.2.2.1 x2.2.2.2.1 x2.2.2.2.2.1 x2.2.2.2.2.2.1 x2.2.2.2.2.2.2) (r2.2.1, r2.2.2, ([] ++ n.1), ([] ++ n.2.1), ([] ++ n.2.2.1), ([] ++ n.2.2.2.1), ([] ++ (((((((([] ++ n.2.1).getD r.1.toNat ([], (0, (0, (0, (0, (0, []))))))).2).2).2).2).2).2)))).bind fun s5 =>
 some (n.2.2.2.2.1, n.2.2.2.2.2, ((([] ++ n.2.1).getD r.1.toNat ([], (0, (0, (0, (0, (0, []))))))).2).1, ((((([] ++ n.2.1).getD r.1.toNat ([], (0, (0, (0, (0, (0, []))))))).2).2).2).1, (((((([] ++ n.2.1).getD r.1.toNat ([], (0, (0, (0, (0, (0, []))))))).2).2).2).2).1, ((((((([] ++ n.2.1).getD r.1.toNat ([], (0, (0, (0, (0, (0, []))))))).2).2).2).2).2).1, s5.2.2.2.2.2.2, s5.1, s5.2.1, s5.2.2.1, s5.2.2.2.1, s5.2.2.2.2.1, s5.2.2.2.2.2.1))))))))))))) fun s6 =>
 gd (inB r.1 s6.2.2.2.2.2.2.2.2.2.2.1.length) <|
 some ((s6.2.2.2.2.2.2.2.2.2.1, (s6.2.2.2.2.2.2.2.2.2.2.1.set r.1.toNat ((([] ++ n.2.1).getD r.1.toNat ([], (0, (0, (0, (0, (0, []))))))).1, (s6.2.2.1, ((((([] ++ n.2.1).getD r.1.toNat ([], (0, (0, (0, (0, (0, []))))))).2).2).1, (s6.2.2.2.1, (s6.2.2.2.2.1, (s6.2.2.2.2.2.1, s6.2.2.2.2.2.2.1)))))), (s6.2.2.2.2.2.2.2.2.2.2.2.1, (s6.2.2.2.2.2.2.2.2.2.2.2.2, (s6.1, s6.2.1))))), s6.2.2.2.2.2.2.2.1, s6.2.2.2.2.2.2.2.2.1)

noncomputable def fn_keep_Src_Wrong : Fun :=
 ⟨18, 2, 1,
 ⟨[(0, .one (.ptr 0 0)), (1, .one (.data tT0))], [(0, 80, [.data (.sl (.int .i64)), .data (.int .i64)])], []⟩,
 ⟨[(0, .one (.data tT0))], [(0, 80, [.data (.sl (.int .i64)), .data (.int .i64)])], []⟩,
 fun x => keep_Src_Wrong x.1 x.2.1 x.2.2⟩
noncomputable def cx_keep_Src_Wrong : Cx := ⟨types, [7, 12, 17, 22, 37], [fn_keep_Src_N, fn_keep_Src_Text, fn_keep_Src_Pick, fn_keep_name], 228, []⟩
theorem ok_keep_Src_Wrong : FunOk Tryz.prog fn_keep_Src_Wrong :=
 FunOk.intro (C := cx_keep_Src_Wrong) (p := (nn (nn (nn (nn (nn (nn (nn (nn (mm (nn (.mk [.join [⟨.n, ⟨[(3, .one (.ptr 64 0)), (4, .one (.ptr 80 0)), (5, kk), (6, .one (.ptr 112 0))], [(64, 32, [.own 1049, .own 256, .own 336, .own 1097, .data (.int .i64), .data (.int .i64)]), (80, 32, [.keep, .keep, .keep, .keep, .keep, .keep]), (112, 74, [.keep, .data (.int .i64), .keep, .data (.int .i64), .data (.int .i64), .data (.int .i64), .data (.sl (.pair (.int .i64) (.pair (.int .i64) (.int .i64))))]), (0, 80, [.data (.sl (.int .i64)), .data (.int .i64)])], [(1049, .arr 9 (.str)), (256, .arr 74 (.pair (.str) tT3)), (336, .arr 76 (.pair (.str) (.pair (.int .i64) (.int .i64)))), (1097, .arr 85 (.pair (.str) (.pair (.int .i64) (.pair (.int .i64) (.pair (.int .i64) (.int .i64))))))]⟩⟩]] none (nn (nn (nn (nn (nn (nn (nn (nn (nn (nn (nn (nn (nn (mm (.mk [.fz [6]] none .nil .nil) (nn (nn (nn (nn (nn (nn (nn (nn (mm (.mk [] (some (⟨[(0, .one (.ptr 0 0)), (3, .one (.ptr 64 0)), (4, .one (.ptr 80 0)), (5, kk), (6, .one (.ptr 112 0))], [(0, 80, [.data (.sl (.int .i64)), .data (.int .i64)]), (64, 32, [.own 1049, .own 256, .own 336, .own 416, .keep, .keep]), (80, 32, [.keep, .keep, .keep, .keep, .keep, .keep]), (112, 74, [.keep, .keep, .keep, .keep, .keep, .keep, .own 656])], [(1049, .arr 9 (.str)), (256, .arr 74 (.pair (.str) tT3)), (336, .arr 76 (.pair (.str) (.pair (.int .i64) (.int .i64)))), (416, .arr 85 (.pair (.str) (.pair (.int .i64) (.pair (.int .i64) (.pair (.int .i64) (.int .i64)))))), (656, .arr 71 (.pair (.int .i64) (.pair (.int .i64) (.int .i64))))]⟩, [⟨.x 1, ⟨[(3, .one (.ptr 64 0)), (4, .one (.ptr 80 0)), (5, kk), (6, .one (.ptr 112 0))], [(64, 32, [.own 1049, .own 256, .own 336, .own 416, .keep, .keep]), (80, 32, [.keep, .keep, .keep, .keep, .keep, .keep]), (112, 74, [.keep, .keep, .keep, .keep, .keep, .keep, .own 656]), (0, 80, [.data (.sl (.int .i64)), .data (.int .i64)])], [(1049, .arr 9 (.str)), (256, .arr 74 (.pair (.str) tT3)), (336, .arr 76 (.pair (.str) (.pair (.int .i64) (.int .i64)))), (416, .arr 85 (.pair (.str) (.pair (.int .i64) (.pair (.int .i64) (.pair (.int .i64) (.int .i64)))))), (656, .arr 71 (.pair (.int .i64) (.pair (.int .i64) (.int .i64))))]⟩⟩])) .nil .nil) .nil))))))))))))))))))))))) .nil)) .nil))))))))))
  Tryz.func18 rfl (by kernel_rfl) rfl rfl rfl rfl types_ok ⟨⟨ok_keep_Src_N, ok_keep_Src_Text, ok_keep_Src_Pick, ok_keep_name, trivial⟩, trivial⟩ mx (fun x => by kernel_rfl)

noncomputable def keep_Src_Off (p : List Int × List Int × List Bool) (s : List Int) (s2 : Int) : Option ((List Int × List Int × List Bool) × List Int × Int) :=
 gd (fits (0 + p.1.length) 8) <|
 gd (fits (0 + p.2.1.length) 8) <|
 gd (fits (0 + p.2.2.length) 1) <|
 (keep_Src_N 5 s s2).bind fun r =>
 Option.bind (α := List Int × List Int × List Bool × List Int × Int) (
 bif decide (r.1 = 0) then (
 gd (fits (([] ++ p.2.2).length + 1) 1) <|
 some (([] ++ p.1), ([] ++ p.2.1), ([] ++ p.2.2) ++ [true], r.2.1, r.2.2))
 else (
 Option.bind (α := List Int × List Int × List Bool × List Int × Int) (
 bif decide (r.1 = 1) then (
 (keep_Src_N (wi64 ((([] ++ p.2.1).length : Int) + 1)) r.2.1 r.2.2).bind fun r2 =>
 gd (cutG none (some (.i64, r2.1)) ([] ++ p.2.1).length) <|
 some (([] ++ p.1), ([] ++ p.2.1).take r2.1.toNat, ([] ++ p.2.2), r2.2.1, r2.2.2))
 else (
 Option.bind (α := List Int × Int × List Int × List Int × List Bool) (
 bif decide (r.1 = 2) then (
 Option.bind (α := List Int × Int × List Int × List Int × List Bool) (
 bif decide (0 < (([] ++ p.2.1).length : Int)) then (
 (keep_Src_N (([] ++ p.2.1).length : Int) r.2.1 r.2.2).bind fun r3 =>
 gd (inB r3.1 ([] ++ p.2.1).length) <|
 (keep_Src_Pick [1, (-1), 1001, (-4611686018427387904)] r3.2.1 r3.2.2).bind fun r4 =>
 gd (inB r3.1 ([] ++ p.2.1).length) <|
 some (r4.2.1, r4.2.2, ([] ++ p.1), ([] ++ p.2.1).set r3.1.toNat (wi64 ((([] ++ p.2.1).getD r3.1.toNat 0) + r4.1)), ([] ++ p.2.2)))
 else (
 some (r.2.1, r.2.2, ([] ++ p.1), ([] ++ p.2.1), ([] ++ p.2.2)))) fun s3 =>
 some (s3.1, s3.2.1, s3.2.2.1, s3.2.2.2.1, s3.2.2.2.2))
 else (
 Option.bind (α := List Int × Int × List Int × List Int × List Bool) (
 bif decide (0 < (([] ++ p.1).length : Int)) then (
 (keep_Src_N (([] ++ p.1).length : Int) r.2.1 r.2.2).bind fun r5 =>
 gd (inB r5.1 ([] ++ p.1).length) <|
 (keep_Src_Pick [1, (-1), 5, 1001, 4611686018427387904, (-4611686018427387904)] r5.2.1 r5.2.2).bind fun r6 =>
 gd (inB r5.1 ([] ++ p.1).length) <|
 some (r6.2.1, r6.2.2, ([] ++ p.1).set r5.1.toNat (wi64 ((([] ++ p.1).getD r5.1.toNat 0) + r6.1)), ([] ++ p.2.1), ([] ++ p.2.2)))
 else (
 some (r.2.1, r.2.2, ([] ++ p.1), ([] ++ p.2.1), ([] ++ p.2.2)))) fun s4 =>
 some (s4.1, s4.2.1, s4.2.2.1, s4.2.2.2.1, s4.2.2.2.2))) fun s5 =>
 some (s5.2.2.1, s5.2.2.2.1, s5.2.2.2.2, s5.1, s5.2.1))) fun s6 =>
 some (s6.1, s6.2.1, s6.2.2.1, s6.2.2.2.1, s6.2.2.2.2))) fun s7 =>
 some ((s7.1, (s7.2.1, s7.2.2.1)), s7.2.2.2.1, s7.2.2.2.2)

noncomputable def fn_keep_Src_Off : Fun :=
 ⟨19, 2, 1,
 ⟨[(0, .one (.ptr 0 0)), (1, .one (.data tT4))], [(0, 80, [.data (.sl (.int .i64)), .data (.int .i64)])], []⟩,
 ⟨[(0, .one (.data tT4))], [(0, 80, [.data (.sl (.int .i64)), .data (.int .i64)])], []⟩,
 fun x => keep_Src_Off x.1 x.2.1 x.2.2⟩
noncomputable def cx_keep_Src_Off : Cx := ⟨types, [5, 9, 13], [fn_keep_Src_N, fn_keep_Src_Pick], 78, []⟩
theorem ok_keep_Src_Off : FunOk Tryz.prog fn_keep_Src_Off :=
 FunOk.intro (C := cx_keep_Src_Off) (p := (nn (nn (mm (nn (mm (nn (.mk [.join [⟨.n, ⟨[(3, .one (.ptr 64 0)), (4, .one (.ptr 80 0))], [(64, 36, [.data (.sl (.int .i64)), .data (.sl (.int .i64)), .data (.sl (.bool))]), (80, 36, [.keep, .keep, .keep]), (0, 80, [.data (.sl (.int .i64)), .data (.int .i64)])], []⟩⟩]] none .nil (nn (.mk [.join [⟨.n, ⟨[(3, .one (.ptr 64 0)), (4, .one (.ptr 80 0))], [(64, 36, [.data (.sl (.int .i64)), .data (.sl (.int .i64)), .data (.sl (.bool))]), (80, 36, [.keep, .keep, .keep]), (0, 80, [.data (.sl (.int .i64)), .data (.int .i64)])], []⟩⟩]] none (.mk [.fz [3]] none .nil .nil) (nn (.mk [.join [⟨.n, ⟨[(3, .one (.ptr 64 0)), (4, .one (.ptr 80 0))], [(64, 36, [.own 144, .own 208, .own 272]), (80, 36, [.keep, .keep, .keep]), (0, 80, [.data (.sl (.int .i64)), .data (.int .i64)])], [(144, .arr 3 (.int .i64)), (208, .arr 3 (.int .i64)), (272, .arr 4 (.bool))]⟩⟩]] none (nn (.mk [.join [⟨.n, ⟨[(3, .one (.ptr 64 0)), (4, .one (.ptr 80 0))], [(64, 36, [.own 144, .own 208, .own 272]), (80, 36, [.keep, .keep, .keep]), (0, 80, [.data (.sl (.int .i64)), .data (.int .i64)])], [(144, .arr 3 (.int .i64)), (208, .arr 3 (.int .i64)), (272, .arr 4 (.bool))]⟩⟩]] none .nil .nil)) (nn (.mk [.join [⟨.n, ⟨[(3, .one (.ptr 64 0)), (4, .one (.ptr 80 0))], [(64, 36, [.own 144, .own 208, .own 272]), (80, 36, [.keep, .keep, .keep]), (0, 80, [.data (.sl (.int .i64)), .data (.int .i64)])], [(144, .arr 3 (.int .i64)), (208, .arr 3 (.int .i64)), (272, .arr 4 (.bool))]⟩⟩]] none .nil .nil)))))))) .nil)) .nil))))
  Tryz.func19 rfl (by kernel_rfl) rfl rfl rfl rfl types_ok ⟨⟨ok_keep_Src_N, ok_keep_Src_Pick, trivial⟩, trivial⟩ mx (fun x => by kernel_rfl)

noncomputable def ref24_Numbers (n : List (List UInt8) × List yT0 × List (List UInt8 × Int × Int) × List (List UInt8 × Int × Int × Int × Int) × Int × Int) : Option (Int) :=
 some (wi64 ((n.2.1.length : Int) + (n.2.2.1.length : Int)))

noncomputable def fn_ref24_Numbers : Fun :=
 ⟨51, 1, 1,
 ⟨[(0, .one (.data tT0))], [], []⟩,
 ⟨[(0, ii)], [], []⟩,
 fun x => ref24_Numbers x⟩
noncomputable def cx_ref24_Numbers : Cx := ⟨types, [], [], 10, []⟩
theorem ok_ref24_Numbers : FunOk Tryz.prog fn_ref24_Numbers :=
 FunOk.intro (C := cx_ref24_Numbers) (p := .nil)
  Tryz.func51 rfl (by kernel_rfl) rfl rfl rfl rfl types_ok ⟨trivial, trivial⟩ mx (fun x => by kernel_rfl)

noncomputable def ref26_Idle_L0 (n : List (List UInt8) × List yT0 × List (List UInt8 × Int × Int) × List (List UInt8 × Int × Int × Int × Int) × Int × Int) (travel : Int) (i : Int) (d : List (Int × Int × Bool × Bool)) (d2 : List Int) (d3 : List Int) (d4 : List Bool) : Option ((Int × (List (Int × Int × Bool × Bool)) × List Int × List Int × List Bool) ⊕ ((List (Int × Int × Bool × Bool)) × List Int × List Int × List Bool)) :=
 (ref24_Numbers (n.1, (n.2.1, (n.2.2.1, (n.2.2.2.1, (n.2.2.2.2.1, n.2.2.2.2.2)))))).bind fun r2 =>
 bif decide (i < r2) then (
 gd (fits (d.length + 1) 24) <|
 some (.inl (wi64 (i + 1), d ++ [(travel, (0, (false, false)))], d2, d3, d4)))
 else (
 some (.inr (d, d2, d3, d4)))

noncomputable def ref26_Idle (n : List (List UInt8) × List yT0 × List (List UInt8 × Int × Int) × List (List UInt8 × Int × Int × Int × Int) × Int × Int) (travel : Int) : Option ((List (Int × Int × Bool × Bool) × List Int × List Int × List Bool) × Int) :=
 (ref12_Check (n.1, (n.2.1, (n.2.2.1, (n.2.2.2.1, (n.2.2.2.2.1, n.2.2.2.2.2)))))).bind fun r =>
 bif !decide (r = 0) then (
 some (([], ([], ([], []))), r))
 else (
 Option.bind (α := Bool) (
 bif decide (travel < 1) then (
 some true)
 else (
 some (decide (60 < travel)))) fun s =>
 bif s then (
 some (([], ([], ([], []))), 20))
 else (
 gd (makeG 8 (n.2.1.length : Int)) <|
 gd (makeG 8 (n.2.2.1.length : Int)) <|
 gd (makeG 1 (n.2.2.2.1.length : Int)) <|
 (iter (fun x => ref26_Idle_L0 n travel x.1 x.2.1 x.2.2.1 x.2.2.2.1 x.2.2.2.2) (0, [], List.replicate (n.2.1.length : Int).toNat (0 : Int), List.replicate (n.2.2.1.length : Int).toNat (0 : Int), List.replicate (n.2.2.2.1.length : Int).toNat (false : Bool))).bind fun s2 =>
 some ((s2.1, (s2.2.1, (s2.2.2.1, s2.2.2.2))), 0)))

noncomputable def fn_ref26_Idle : Fun :=
 ⟨21, 2, 2,
 ⟨[(0, .one (.data tT0)), (1, ii)], [], []⟩,
 ⟨[(0, .one (.data (.pair (.sl tT1) tT4))), (1, ii)], [], []⟩,
 fun x => ref26_Idle x.1 x.2⟩
noncomputable def cx_ref26_Idle : Cx := ⟨types, [], [fn_ref12_Check, fn_ref24_Numbers], 50, []⟩
theorem ok_ref26_Idle : FunOk Tryz.prog fn_ref26_Idle :=
 FunOk.intro (C := cx_ref26_Idle) (p := (nn (nn (mm (mm (.mk [.join [⟨.n, ⟨[(1, kk), (2, .one (.ptr 48 0)), (4, .one (.ptr 80 0)), (20, bb)], [(48, 32, [.keep, .keep, .keep, .keep, .keep, .keep]), (80, 40, [.keep, .keep, .keep, .keep])], []⟩⟩]] none .nil .nil) .nil) (nn (mm (nn (mm (.mk [] (some (⟨[(1, kk), (2, .one (.ptr 48 0)), (4, .one (.ptr 80 0)), (7, .one (.ptr 128 0)), (8, ii)], [(48, 32, [.keep, .keep, .keep, .keep, .keep, .keep]), (80, 40, [.keep, .keep, .keep, .keep]), (128, 40, [.own 2073, .own 416, .own 480, .own 544])], [(2073, .arr 54 tT1), (416, .arr 3 (.int .i64)), (480, .arr 3 (.int .i64)), (544, .arr 4 (.bool))]⟩, [⟨.x 0, ⟨[(4, .one (.ptr 80 0)), (7, .one (.ptr 128 0))], [(80, 40, [.keep, .keep, .keep, .keep]), (128, 40, [.own 2073, .own 416, .own 480, .own 544])], [(2073, .arr 54 tT1), (416, .arr 3 (.int .i64)), (480, .arr 3 (.int .i64)), (544, .arr 4 (.bool))]⟩⟩])) .nil .nil) .nil)) .nil))))))
  Tryz.func21 rfl (by kernel_rfl) rfl rfl rfl rfl types_ok ⟨⟨ok_ref12_Check, ok_ref24_Numbers, trivial⟩, trivial⟩ mx (fun x => by kernel_rfl)

noncomputable def ref23_Same_L0 (a : List (Int × Int × Bool × Bool)) (b : List (Int × Int × Bool × Bool)) (i : Int) : Option (Int ⊕ (Unit ⊕ Bool)) :=
 bif decide (i < (a.length : Int)) then (
 gd (inB i a.length) <|
 gd (inB i b.length) <|
 bif !(decide ((a.getD i.toNat (0, (0, (false, false)))).1 = (b.getD i.toNat (0, (0, (false, false)))).1) && (decide (((a.getD i.toNat (0, (0, (false, false)))).2).1 = ((b.getD i.toNat (0, (0, (false, false)))).2).1) && (((((a.getD i.toNat (0, (0, (false, false)))).2).2).1 == (((b.getD i.toNat (0, (0, (false, false)))).2).2).1) && ((((a.getD i.toNat (0, (0, (false, false)))).2).2).2 == (((b.getD i.toNat (0, (0, (false, false)))).2).2).2)))) then (
 some (.inr (.inr false)))
 else (
 some (.inl (wi64 (i + 1)))))
 else (
 some (.inr (.inl ())))

noncomputable def ref23_Same (a : List (Int × Int × Bool × Bool)) (b : List (Int × Int × Bool × Bool)) : Option (Bool) :=
 bif !decide ((a.length : Int) = (b.length : Int)) then (
 some false)
 else (
 (iter (fun x => ref23_Same_L0 a b x) 0).bind fun s =>
 s.elim (fun s2 =>
 some true)
 (fun s3 =>
 some s3))

noncomputable def fn_ref23_Same : Fun :=
 ⟨52, 2, 1,
 ⟨[(0, .one (.data (.sl tT1))), (1, .one (.data (.sl tT1)))], [], []⟩,
 ⟨[(0, bb)], [], []⟩,
 fun x => ref23_Same x.1 x.2⟩
noncomputable def cx_ref23_Same : Cx := ⟨types, [], [], 26, []⟩
theorem ok_ref23_Same : FunOk Tryz.prog fn_ref23_Same :=
 FunOk.intro (C := cx_ref23_Same) (p := (nn (nn (mm (nn (mm (.mk [] (some (⟨[(0, kk), (1, kk), (5, ii)], [], []⟩, [⟨.x 0, ⟨[], [], []⟩⟩, ⟨.r, ⟨[(4, bb)], [], []⟩⟩])) .nil .nil) .nil)) .nil))))
  Tryz.func52 rfl (by kernel_rfl) rfl rfl rfl rfl types_ok ⟨trivial, trivial⟩ mx (fun x => by kernel_rfl)

noncomputable def ref23_SameInts_L0 (a : List Int) (b : List Int) (i : Int) : Option (Int ⊕ (Unit ⊕ Bool)) :=
 bif decide (i < (a.length : Int)) then (
 gd (inB i a.length) <|
 gd (inB i b.length) <|
 bif !decide (a.getD i.toNat 0 = b.getD i.toNat 0) then (
 some (.inr (.inr false)))
 else (
 some (.inl (wi64 (i + 1)))))
 else (
 some (.inr (.inl ())))

noncomputable def ref23_SameInts (a : List Int) (b : List Int) : Option (Bool) :=
 bif !decide ((a.length : Int) = (b.length : Int)) then (
 some false)
 else (
 (iter (fun x => ref23_SameInts_L0 a b x) 0).bind fun s =>
 s.elim (fun s2 =>
 some true)
 (fun s3 =>
 some s3))

noncomputable def fn_ref23_SameInts : Fun :=
 ⟨68, 2, 1,
 ⟨[(0, .one (.data (.sl (.int .i64)))), (1, .one (.data (.sl (.int .i64))))], [], []⟩,
 ⟨[(0, bb)], [], []⟩,
 fun x => ref23_SameInts x.1 x.2⟩
noncomputable def cx_ref23_SameInts : Cx := ⟨types, [], [], 26, []⟩
theorem ok_ref23_SameInts : FunOk Tryz.prog fn_ref23_SameInts :=
 FunOk.intro (C := cx_ref23_SameInts) (p := (nn (nn (mm (nn (mm (.mk [] (some (⟨[(0, kk), (1, kk), (5, ii)], [], []⟩, [⟨.x 0, ⟨[], [], []⟩⟩, ⟨.r, ⟨[(4, bb)], [], []⟩⟩])) .nil .nil) .nil)) .nil))))
  Tryz.func68 rfl (by kernel_rfl) rfl rfl rfl rfl types_ok ⟨trivial, trivial⟩ mx (fun x => by kernel_rfl)

noncomputable def ref23_SameBools_L0 (a : List Bool) (b : List Bool) (i : Int) : Option (Int ⊕ (Unit ⊕ Bool)) :=
 bif decide (i < (a.length : Int)) then (
 gd (inB i a.length) <|
 gd (inB i b.length) <|
 bif !(a.getD i.toNat false == b.getD i.toNat false) then (
 some (.inr (.inr false)))
 else (
 some (.inl (wi64 (i + 1)))))
 else (
 some (.inr (.inl ())))

noncomputable def ref23_SameBools (a : List Bool) (b : List Bool) : Option (Bool) :=
 bif !decide ((a.length : Int) = (b.length : Int)) then (
 some false)
 else (
 (iter (fun x => ref23_SameBools_L0 a b x) 0).bind fun s =>
 s.elim (fun s2 =>
 some true)
 (fun s3 =>
 some s3))

noncomputable def fn_ref23_SameBools : Fun :=
 ⟨69, 2, 1,
 ⟨[(0, .one (.data (.sl (.bool)))), (1, .one (.data (.sl (.bool))))], [], []⟩,
 ⟨[(0, bb)], [], []⟩,
 fun x => ref23_SameBools x.1 x.2⟩
noncomputable def cx_ref23_SameBools : Cx := ⟨types, [], [], 26, []⟩
theorem ok_ref23_SameBools : FunOk Tryz.prog fn_ref23_SameBools :=
 FunOk.intro (C := cx_ref23_SameBools) (p := (nn (nn (mm (nn (mm (.mk [] (some (⟨[(0, kk), (1, kk), (5, ii)], [], []⟩, [⟨.x 0, ⟨[], [], []⟩⟩, ⟨.r, ⟨[(4, bb)], [], []⟩⟩])) .nil .nil) .nil)) .nil))))
  Tryz.func69 rfl (by kernel_rfl) rfl rfl rfl rfl types_ok ⟨trivial, trivial⟩ mx (fun x => by kernel_rfl)

noncomputable def ref25_SamePlan (a : List Int × List Int × List Bool) (b : List Int × List Int × List Bool) : Option (Bool) :=
 (ref23_SameInts a.1 b.1).bind fun r =>
 bif r then (
 (ref23_SameInts a.2.1 b.2.1).bind fun r2 =>
 bif r2 then (
 (ref23_SameBools a.2.2 b.2.2).bind fun r3 =>
 some r3)
 else (
 some false))
 else (
 some false)

noncomputable def fn_ref25_SamePlan : Fun :=
 ⟨28, 2, 1,
 ⟨[(0, .one (.data tT4)), (1, .one (.data tT4))], [], []⟩,
 ⟨[(0, bb)], [], []⟩,
 fun x => ref25_SamePlan x.1 x.2⟩
noncomputable def cx_ref25_SamePlan : Cx := ⟨types, [], [fn_ref23_SameInts, fn_ref23_SameBools], 24, []⟩
theorem ok_ref25_SamePlan : FunOk Tryz.prog fn_ref25_SamePlan :=
 FunOk.intro (C := cx_ref25_SamePlan) (p := .nil)
  Tryz.func28 rfl (by kernel_rfl) rfl rfl rfl rfl types_ok ⟨⟨ok_ref23_SameInts, ok_ref23_SameBools, trivial⟩, trivial⟩ mx (fun x => by kernel_rfl)

noncomputable def ref26_Same (a : List (Int × Int × Bool × Bool) × List Int × List Int × List Bool) (b : List (Int × Int × Bool × Bool) × List Int × List Int × List Bool) : Option (Bool) :=
 (ref23_Same a.1 b.1).bind fun r =>
 bif r then (
 (ref25_SamePlan (a.2.1, (a.2.2.1, a.2.2.2)) (b.2.1, (b.2.2.1, b.2.2.2))).bind fun r2 =>
 some r2)
 else (
 some false)

noncomputable def fn_ref26_Same : Fun :=
 ⟨22, 2, 1,
 ⟨[(0, .one (.data (.pair (.sl tT1) tT4))), (1, .one (.data (.pair (.sl tT1) tT4)))], [], []⟩,
 ⟨[(0, bb)], [], []⟩,
 fun x => ref26_Same x.1 x.2⟩
noncomputable def cx_ref26_Same : Cx := ⟨types, [], [fn_ref23_Same, fn_ref25_SamePlan], 17, []⟩
theorem ok_ref26_Same : FunOk Tryz.prog fn_ref26_Same :=
 FunOk.intro (C := cx_ref26_Same) (p := .nil)
  Tryz.func22 rfl (by kernel_rfl) rfl rfl rfl rfl types_ok ⟨⟨ok_ref23_Same, ok_ref25_SamePlan, trivial⟩, trivial⟩ mx (fun x => by kernel_rfl)

noncomputable def ref23_Valid (v : Int × Int × Bool × Bool) : Option (Bool) :=
 bif decide (1 ≤ v.1) then (
 bif decide (v.1 ≤ 60) then (
 bif decide (0 ≤ v.2.1) then (
 some (decide (v.2.1 ≤ v.1)))
 else (
 some false))
 else (
 some false))
 else (
 some false)

noncomputable def fn_ref23_Valid : Fun :=
 ⟨136, 1, 1,
 ⟨[(0, .one (.data tT1))], [], []⟩,
 ⟨[(0, bb)], [], []⟩,
 fun x => ref23_Valid x⟩
noncomputable def cx_ref23_Valid : Cx := ⟨types, [], [], 23, []⟩
theorem ok_ref23_Valid : FunOk Tryz.prog fn_ref23_Valid :=
 FunOk.intro (C := cx_ref23_Valid) (p := .nil)
  Tryz.func136 rfl (by kernel_rfl) rfl rfl rfl rfl types_ok ⟨trivial, trivial⟩ mx (fun x => by kernel_rfl)

noncomputable def ref24_Valves_L0 (l : List (Int × Int × Bool × Bool)) (i : Int) : Option (Int ⊕ (Unit ⊕ Int)) :=
 bif decide (i < (l.length : Int)) then (
 gd (inB i l.length) <|
 (ref23_Valid (l.getD i.toNat (0, (0, (false, false))))).bind fun r2 =>
 bif !r2 then (
 some (.inr (.inr 20)))
 else (
 some (.inl (wi64 (i + 1)))))
 else (
 some (.inr (.inl ())))

noncomputable def ref24_Valves (n : List (List UInt8) × List yT0 × List (List UInt8 × Int × Int) × List (List UInt8 × Int × Int × Int × Int) × Int × Int) (l : List (Int × Int × Bool × Bool)) : Option (Int) :=
 (ref24_Numbers (n.1, (n.2.1, (n.2.2.1, (n.2.2.2.1, (n.2.2.2.2.1, n.2.2.2.2.2)))))).bind fun r =>
 bif !decide ((l.length : Int) = r) then (
 some 20)
 else (
 (iter (fun x => ref24_Valves_L0 l x) 0).bind fun s =>
 s.elim (fun s2 =>
 some 0)
 (fun s3 =>
 some s3))

noncomputable def fn_ref24_Valves : Fun :=
 ⟨88, 2, 1,
 ⟨[(0, .one (.data tT0)), (1, .one (.data (.sl tT1)))], [], []⟩,
 ⟨[(0, ii)], [], []⟩,
 fun x => ref24_Valves x.1 x.2⟩
noncomputable def cx_ref24_Valves : Cx := ⟨types, [], [fn_ref24_Numbers, fn_ref23_Valid], 23, []⟩
theorem ok_ref24_Valves : FunOk Tryz.prog fn_ref24_Valves :=
 FunOk.intro (C := cx_ref24_Valves) (p := (nn (nn (mm (nn (mm (.mk [] (some (⟨[(1, kk), (5, ii)], [], []⟩, [⟨.x 0, ⟨[], [], []⟩⟩, ⟨.r, ⟨[(4, ii)], [], []⟩⟩])) .nil .nil) .nil)) .nil))))
  Tryz.func88 rfl (by kernel_rfl) rfl rfl rfl rfl types_ok ⟨⟨ok_ref24_Numbers, ok_ref23_Valid, trivial⟩, trivial⟩ mx (fun x => by kernel_rfl)

noncomputable def ref23_Open (v : Int × Int × Bool × Bool) : Option (Bool) :=
 (ref23_Valid (v.1, (v.2.1, (v.2.2.1, v.2.2.2)))).bind fun r =>
 bif r then (
 some (decide (v.2.1 = v.1)))
 else (
 some false)

noncomputable def fn_ref23_Open : Fun :=
 ⟨89, 1, 1,
 ⟨[(0, .one (.data tT1))], [], []⟩,
 ⟨[(0, bb)], [], []⟩,
 fun x => ref23_Open x⟩
noncomputable def cx_ref23_Open : Cx := ⟨types, [], [fn_ref23_Valid], 12, []⟩
theorem ok_ref23_Open : FunOk Tryz.prog fn_ref23_Open :=
 FunOk.intro (C := cx_ref23_Open) (p := .nil)
  Tryz.func89 rfl (by kernel_rfl) rfl rfl rfl rfl types_ok ⟨⟨ok_ref23_Valid, trivial⟩, trivial⟩ mx (fun x => by kernel_rfl)

noncomputable def ref26_fed_L0 (n : List (List UInt8) × List yT0 × List (List UInt8 × Int × Int) × List (List UInt8 × Int × Int × Int × Int) × Int × Int) (p : List Int × List Int × List Bool) (i : Int) : Option (Int ⊕ (Unit ⊕ Bool)) :=
 bif decide (i < (n.2.2.2.1.length : Int)) then (
 gd (inB i p.2.2.length) <|
 Option.bind (α := Unit ⊕ Bool) (
 bif p.2.2.getD i.toNat false then (
 gd (inB i n.2.2.2.1.length) <|
 (ref16_Through (n.1, (n.2.1, (n.2.2.1, (n.2.2.2.1, (n.2.2.2.2.1, n.2.2.2.2.2))))) (p.1, (p.2.1, p.2.2)) (((n.2.2.2.1.getD i.toNat ([], (0, (0, (0, 0))))).2).1)).bind fun r =>
 Option.bind (α := Bool) (
 bif !decide (r.2 = 0) then (
 some true)
 else (
 some (decide (r.1 = 0)))) fun s =>
 bif s then (
 some (.inr false))
 else (
 some (.inl ())))
 else (
 some (.inl ()))) fun s2 =>
 s2.elim (fun s3 =>
 some (.inl (wi64 (i + 1))))
 (fun s4 =>
 some (.inr (.inr s4))))
 else (
 some (.inr (.inl ())))

noncomputable def ref26_fed (n : List (List UInt8) × List yT0 × List (List UInt8 × Int × Int) × List (List UInt8 × Int × Int × Int × Int) × Int × Int) (p : List Int × List Int × List Bool) : Option (Bool) :=
 (iter (fun x => ref26_fed_L0 n p x) 0).bind fun s5 =>
 s5.elim (fun s6 =>
 some true)
 (fun s7 =>
 some s7)

noncomputable def fn_ref26_fed : Fun :=
 ⟨90, 2, 1,
 ⟨[(0, .one (.data tT0)), (1, .one (.data tT4))], [], []⟩,
 ⟨[(0, bb)], [], []⟩,
 fun x => ref26_fed x.1 x.2⟩
noncomputable def cx_ref26_fed : Cx := ⟨types, [], [fn_ref16_Through], 38, []⟩
theorem ok_ref26_fed : FunOk Tryz.prog fn_ref26_fed :=
 FunOk.intro (C := cx_ref26_fed) (p := (nn (mm (nn (mm (.mk [] (some (⟨[(2, .one (.ptr 48 0)), (3, .one (.ptr 64 0)), (5, ii)], [(48, 32, [.keep, .keep, .keep, .keep, .keep, .keep]), (64, 36, [.keep, .keep, .keep])], []⟩, [⟨.x 0, ⟨[], [], []⟩⟩, ⟨.r, ⟨[(4, bb)], [], []⟩⟩])) (nn (mm (mm (nn (.mk [.join [⟨.n, ⟨[(2, .one (.ptr 48 0)), (3, .one (.ptr 64 0)), (5, kk)], [(48, 32, [.keep, .keep, .keep, .keep, .keep, .keep]), (64, 36, [.keep, .keep, .keep])], []⟩⟩, ⟨.r, ⟨[(4, bb)], [], []⟩⟩]] none (nn (mm (.mk [.join [⟨.n, ⟨[(2, .one (.ptr 48 0)), (3, .one (.ptr 64 0)), (5, kk), (37, bb)], [(48, 32, [.keep, .keep, .keep, .keep, .keep, .keep]), (64, 36, [.keep, .keep, .keep])], []⟩⟩]] none .nil .nil) .nil)) .nil)) .nil) .nil)) .nil) .nil)) .nil)))
  Tryz.func90 rfl (by kernel_rfl) rfl rfl rfl rfl types_ok ⟨⟨ok_ref16_Through, trivial⟩, trivial⟩ mx (fun x => by kernel_rfl)

noncomputable def ref26_Check_L0 (d : List (Int × Int × Bool × Bool) × List Int × List Int × List Bool) (i : Int) (need : List Bool) : Option ((Int × List Bool) ⊕ (Unit ⊕ Int)) :=
 bif decide (i < (need.length : Int)) then (
 Option.bind (α := Bool × List Bool) (
 gd (inB i need.length) <|
 bif need.getD i.toNat false then (
 gd (inB i d.1.length) <|
 (ref23_Open (d.1.getD i.toNat (0, (0, (false, false))))).bind fun r6 =>
 bif !r6 then (
 some (true, need))
 else (
 gd (inB i d.1.length) <|
 some ((!((((d.1.getD i.toNat (0, (0, (false, false)))).2).2).1)), need)))
 else (
 some (false, need))) fun s =>
 bif s.1 then (
 some (.inr (.inr 21)))
 else (
 some (.inl (wi64 (i + 1), s.2))))
 else (
 some (.inr (.inl ())))

noncomputable def ref26_Check (n : List (List UInt8) × List yT0 × List (List UInt8 × Int × Int) × List (List UInt8 × Int × Int × Int × Int) × Int × Int) (d : List (Int × Int × Bool × Bool) × List Int × List Int × List Bool) : Option (Int) :=
 (ref12_Check (n.1, (n.2.1, (n.2.2.1, (n.2.2.2.1, (n.2.2.2.2.1, n.2.2.2.2.2)))))).bind fun r =>
 bif !decide (r = 0) then (
 some r)
 else (
 (ref24_Valves (n.1, (n.2.1, (n.2.2.1, (n.2.2.2.1, (n.2.2.2.2.1, n.2.2.2.2.2))))) d.1).bind fun r2 =>
 bif !decide (r2 = 0) then (
 some r2)
 else (
 (ref16_Check (n.1, (n.2.1, (n.2.2.1, (n.2.2.2.1, (n.2.2.2.2.1, n.2.2.2.2.2))))) (d.2.1, (d.2.2.1, d.2.2.2))).bind fun r3 =>
 bif !decide (r3 = 0) then (
 some r3)
 else (
 (ref24_Needs (d.2.1, (d.2.2.1, d.2.2.2))).bind fun r4 =>
 (ref24_All (r4.1, r4.2)).bind fun r5 =>
 (iter (fun x => ref26_Check_L0 d x.1 x.2) (0, r5)).bind fun s2 =>
 s2.elim (fun s3 =>
 (ref26_fed (n.1, (n.2.1, (n.2.2.1, (n.2.2.2.1, (n.2.2.2.2.1, n.2.2.2.2.2))))) (d.2.1, (d.2.2.1, d.2.2.2))).bind fun r7 =>
 bif !r7 then (
 some 21)
 else (
 some 0))
 (fun s4 =>
 some s4))))

noncomputable def fn_ref26_Check : Fun :=
 ⟨53, 2, 1,
 ⟨[(0, .one (.data tT0)), (1, .one (.data (.pair (.sl tT1) tT4)))], [], []⟩,
 ⟨[(0, ii)], [], []⟩,
 fun x => ref26_Check x.1 x.2⟩
noncomputable def cx_ref26_Check : Cx := ⟨types, [], [fn_ref12_Check, fn_ref24_Valves, fn_ref16_Check, fn_ref24_Needs, fn_ref24_All, fn_ref23_Open, fn_ref26_fed], 66, []⟩
theorem ok_ref26_Check : FunOk Tryz.prog fn_ref26_Check :=
 FunOk.intro (C := cx_ref26_Check) (p := (nn (nn (nn (nn (nn (mm (nn (mm (.mk [] (some (⟨[(2, .one (.ptr 48 0)), (3, .one (.ptr 64 0)), (8, .one (.own 528)), (9, ii)], [(48, 32, [.keep, .keep, .keep, .keep, .keep, .keep]), (64, 40, [.keep, .keep, .keep, .keep])], [(528, .arr 4 (.bool))]⟩, [⟨.x 0, ⟨[(2, .one (.ptr 48 0)), (3, .one (.ptr 64 0))], [(48, 32, [.keep, .keep, .keep, .keep, .keep, .keep]), (64, 40, [.keep, .keep, .keep, .keep])], []⟩⟩, ⟨.r, ⟨[(4, ii)], [], []⟩⟩])) (nn (mm (mm (mm (.mk [.join [⟨.n, ⟨[(2, .one (.ptr 48 0)), (3, .one (.ptr 64 0)), (8, .one (.own 528)), (9, kk), (60, bb)], [(48, 32, [.keep, .keep, .keep, .keep, .keep, .keep]), (64, 40, [.keep, .keep, .keep, .keep])], [(528, .arr 4 (.bool))]⟩⟩]] none .nil .nil) .nil) .nil) .nil)) .nil) .nil)) .nil)))))))
  Tryz.func53 rfl (by kernel_rfl) rfl rfl rfl rfl types_ok ⟨⟨ok_ref12_Check, ok_ref24_Valves, ok_ref16_Check, ok_ref24_Needs, ok_ref24_All, ok_ref23_Open, ok_ref26_fed, trivial⟩, trivial⟩ mx (fun x => by kernel_rfl)

noncomputable def ref26_Ticks_L0 (l : List (Int × Int × Int × Int × Int × List (Int × Bool) × Int)) (n : Int) (i : Int) : Option ((Int × Int) ⊕ Int) :=
 bif decide (i < (l.length : Int)) then (
 Option.bind (α := Bool) (
 gd (inB i l.length) <|
 bif decide ((l.getD i.toNat (0, (0, (0, (0, (0, ([], 0))))))).1 = 6) then (
 gd (inB i l.length) <|
 bif decide (1 ≤ (((l.getD i.toNat (0, (0, (0, (0, (0, ([], 0))))))).2).2).1) then (
 gd (inB i l.length) <|
 some (decide ((((l.getD i.toNat (0, (0, (0, (0, (0, ([], 0))))))).2).2).1 ≤ 100)))
 else (
 some false))
 else (
 some false)) fun s =>
 Option.bind (α := Int) (
 bif s then (
 gd (inB i l.length) <|
 some (wi64 (n + ((((l.getD i.toNat (0, (0, (0, (0, (0, ([], 0))))))).2).2).1))))
 else (
 some n)) fun s2 =>
 some (.inl (s2, wi64 (i + 1))))
 else (
 some (.inr n))

noncomputable def ref26_Ticks (l : List (Int × Int × Int × Int × Int × List (Int × Bool) × Int)) : Option (Int) :=
 (iter (fun x => ref26_Ticks_L0 l x.1 x.2) (0, 0)).bind fun s3 =>
 some s3

noncomputable def fn_ref26_Ticks : Fun :=
 ⟨54, 1, 1,
 ⟨[(0, .one (.data (.sl tT2)))], [], []⟩,
 ⟨[(0, ii)], [], []⟩,
 fun x => ref26_Ticks x⟩
noncomputable def cx_ref26_Ticks : Cx := ⟨types, [], [], 41, []⟩
theorem ok_ref26_Ticks : FunOk Tryz.prog fn_ref26_Ticks :=
 FunOk.intro (C := cx_ref26_Ticks) (p := (nn (nn (mm (nn (mm (.mk [] (some (⟨[(0, kk), (3, ii), (4, ii)], [], []⟩, [⟨.x 0, ⟨[(3, ii)], [], []⟩⟩])) (nn (mm (mm (mm (.mk [.join [⟨.n, ⟨[(0, kk), (3, kk), (4, kk), (32, bb)], [], []⟩⟩]] none .nil .nil) (.mk [.join [⟨.n, ⟨[(0, kk), (3, ii), (4, kk)], [], []⟩⟩]] none .nil .nil)) .nil) .nil)) .nil) .nil)) .nil))))
  Tryz.func54 rfl (by kernel_rfl) rfl rfl rfl rfl types_ok ⟨trivial, trivial⟩ mx (fun x => by kernel_rfl)

noncomputable def ref26_bare (p : Int × Int × List (Int × Bool) × Int) : Option (Bool) :=
 bif decide (p.1 = 0) then (
 bif decide (p.2.1 = 0) then (
 bif decide ((p.2.2.1.length : Int) = 0) then (
 some (decide (p.2.2.2 = 0)))
 else (
 some false))
 else (
 some false))
 else (
 some false)

noncomputable def fn_ref26_bare : Fun :=
 ⟨137, 1, 1,
 ⟨[(0, .one (.data (.pair (.int .i64) (.pair (.int .i64) (.pair (.sl (.pair (.int .i64) (.bool))) (.int .i64))))))], [], []⟩,
 ⟨[(0, bb)], [], []⟩,
 fun x => ref26_bare x⟩
noncomputable def cx_ref26_bare : Cx := ⟨types, [], [], 22, []⟩
theorem ok_ref26_bare : FunOk Tryz.prog fn_ref26_bare :=
 FunOk.intro (C := cx_ref26_bare) (p := .nil)
  Tryz.func137 rfl (by kernel_rfl) rfl rfl rfl rfl types_ok ⟨trivial, trivial⟩ mx (fun x => by kernel_rfl)

noncomputable def ref26_shaped (s : Int × Int × Int × Int × Int × List (Int × Bool) × Int) : Option (Bool) :=
 Option.bind (α := Bool) (
 bif decide (s.1 = 1) then (
 some (decide (s.1 = 1)))
 else (
 Option.bind (α := Bool) (
 bif decide (s.1 = 2) then (
 some (decide (s.1 = 2)))
 else (
 Option.bind (α := Bool) (
 bif decide (s.1 = 3) then (
 some (decide (s.1 = 3)))
 else (
 some (decide (s.1 = 4)))) fun s2 =>
 some s2)) fun s3 =>
 some s3)) fun s4 =>
 bif s4 then (
 bif decide (s.2.2.1 = 0) then (
 (ref26_bare (s.2.2.2.1, (s.2.2.2.2.1, (s.2.2.2.2.2.1, s.2.2.2.2.2.2)))).bind fun r =>
 some r)
 else (
 some false))
 else (
 bif decide (s.1 = 5) then (
 bif decide (s.2.1 = 0) then (
 some (decide (s.2.2.2.2.2.2 = 0)))
 else (
 some false))
 else (
 bif decide (s.1 = 6) then (
 bif decide (s.2.1 = 0) then (
 (ref26_bare (s.2.2.2.1, (s.2.2.2.2.1, (s.2.2.2.2.2.1, s.2.2.2.2.2.2)))).bind fun r2 =>
 some r2)
 else (
 some false))
 else (
 some false)))

noncomputable def fn_ref26_shaped : Fun :=
 ⟨91, 1, 1,
 ⟨[(0, .one (.data tT2))], [], []⟩,
 ⟨[(0, bb)], [], []⟩,
 fun x => ref26_shaped x⟩
noncomputable def cx_ref26_shaped : Cx := ⟨types, [], [fn_ref26_bare], 39, []⟩
theorem ok_ref26_shaped : FunOk Tryz.prog fn_ref26_shaped :=
 FunOk.intro (C := cx_ref26_shaped) (p := (nn (mm (nn (mm (mm (nn (.mk [.join [⟨.n, ⟨[(1, .one (.ptr 32 0)), (4, kk), (5, bb)], [(32, 48, [.keep, .keep, .keep, .keep, .keep, .keep, .keep])], []⟩⟩]] none .nil (nn (.mk [.join [⟨.n, ⟨[(1, .one (.ptr 32 0)), (4, kk), (5, bb)], [(32, 48, [.keep, .keep, .keep, .keep, .keep, .keep, .keep])], []⟩⟩]] none .nil (nn (.mk [.join [⟨.n, ⟨[(1, .one (.ptr 32 0)), (4, kk), (5, bb)], [(32, 48, [.keep, .keep, .keep, .keep, .keep, .keep, .keep])], []⟩⟩]] none .nil .nil)))))) .nil) .nil)) .nil)))
  Tryz.func91 rfl (by kernel_rfl) rfl rfl rfl rfl types_ok ⟨⟨ok_ref26_bare, trivial⟩, trivial⟩ mx (fun x => by kernel_rfl)

noncomputable def ref26_Copy (d : List (Int × Int × Bool × Bool) × List Int × List Int × List Bool) : Option ((List (Int × Int × Bool × Bool)) × List Int × List Int × List Bool) :=
 gd (fits (0 + d.1.length) 24) <|
 (ref25_CopyPlan (d.2.1, (d.2.2.1, d.2.2.2))).bind fun r =>
 some (([] ++ d.1), r.1, r.2.1, r.2.2)

noncomputable def fn_ref26_Copy : Fun :=
 ⟨95, 1, 1,
 ⟨[(0, .one (.data (.pair (.sl tT1) tT4)))], [], []⟩,
 ⟨[(0, .agg [.own 0, .own 1, .own 2, .own 3])], [], [(0, .arr 54 tT1), (1, .arr 3 (.int .i64)), (2, .arr 3 (.int .i64)), (3, .arr 4 (.bool))]⟩,
 fun x => ref26_Copy x⟩
noncomputable def cx_ref26_Copy : Cx := ⟨types, [3], [fn_ref25_CopyPlan], 11, []⟩
theorem ok_ref26_Copy : FunOk Tryz.prog fn_ref26_Copy :=
 FunOk.intro (C := cx_ref26_Copy) (p := .nil)
  Tryz.func95 rfl (by kernel_rfl) rfl rfl rfl rfl types_ok ⟨⟨ok_ref25_CopyPlan, trivial⟩, trivial⟩ mx (fun x => by kernel_rfl)

noncomputable def ref23_Command (v : Int × Int × Bool × Bool) (vopen : Bool) : Option ((Int × Int × Bool × Bool) × Int) :=
 (ref23_Valid (v.1, (v.2.1, (v.2.2.1, v.2.2.2)))).bind fun r =>
 bif !r then (
 some ((v.1, (v.2.1, (v.2.2.1, v.2.2.2))), 20))
 else (
 some ((v.1, (v.2.1, (vopen, v.2.2.2))), 0))

noncomputable def fn_ref23_Command : Fun :=
 ⟨138, 2, 2,
 ⟨[(0, .one (.data tT1)), (1, bb)], [], []⟩,
 ⟨[(0, .one (.data tT1)), (1, ii)], [], []⟩,
 fun x => ref23_Command x.1 x.2⟩
noncomputable def cx_ref23_Command : Cx := ⟨types, [], [fn_ref23_Valid], 13, []⟩
theorem ok_ref23_Command : FunOk Tryz.prog fn_ref23_Command :=
 FunOk.intro (C := cx_ref23_Command) (p := .nil)
  Tryz.func138 rfl (by kernel_rfl) rfl rfl rfl rfl types_ok ⟨⟨ok_ref23_Valid, trivial⟩, trivial⟩ mx (fun x => by kernel_rfl)

noncomputable def ref26_turn (d : List (Int × Int × Bool × Bool) × List Int × List Int × List Bool) (s : Int × Int × Int × Int × Int × List (Int × Bool) × Int) : Option ((List (Int × Int × Bool × Bool) × List Int × List Int × List Bool) × Int) :=
 Option.bind (α := Bool) (
 bif decide (s.2.1 < 0) then (
 some true)
 else (
 some (decide ((d.1.length : Int) ≤ s.2.1)))) fun s2 =>
 bif s2 then (
 some ((d.1, (d.2.1, (d.2.2.1, d.2.2.2))), 8))
 else (
 Option.bind (α := Bool) (
 bif decide (s.1 = 2) then (
 (ref24_Needs (d.2.1, (d.2.2.1, d.2.2.2))).bind fun r =>
 (ref24_All (r.1, r.2)).bind fun r2 =>
 gd (inB s.2.1 r2.length) <|
 some (r2.getD s.2.1.toNat false))
 else (
 some false)) fun s3 =>
 bif s3 then (
 some ((d.1, (d.2.1, (d.2.2.1, d.2.2.2))), 22))
 else (
 (ref26_Copy (d.1, (d.2.1, (d.2.2.1, d.2.2.2)))).bind fun r3 =>
 gd (inB s.2.1 r3.1.length) <|
 (ref23_Command (r3.1.getD s.2.1.toNat (0, (0, (false, false)))) (decide (s.1 = 1))).bind fun r4 =>
 gd (inB s.2.1 r3.1.length) <|
 some ((r3.1.set s.2.1.toNat r4.1, (r3.2.1, (r3.2.2.1, r3.2.2.2))), 0)))

noncomputable def fn_ref26_turn : Fun :=
 ⟨92, 2, 2,
 ⟨[(0, .one (.data (.pair (.sl tT1) tT4))), (1, .one (.data tT2))], [], []⟩,
 ⟨[(0, .one (.data (.pair (.sl tT1) tT4))), (1, ii)], [], []⟩,
 fun x => ref26_turn x.1 x.2⟩
noncomputable def cx_ref26_turn : Cx := ⟨types, [], [fn_ref24_Needs, fn_ref24_All, fn_ref26_Copy, fn_ref23_Command], 54, []⟩
theorem ok_ref26_turn : FunOk Tryz.prog fn_ref26_turn :=
 FunOk.intro (C := cx_ref26_turn) (p := (nn (mm (mm (.mk [.join [⟨.n, ⟨[(2, .one (.ptr 48 0)), (3, .one (.ptr 64 0)), (4, .one (.ptr 80 0)), (17, bb)], [(48, 40, [.keep, .keep, .keep, .keep]), (64, 48, [.keep, .keep, .keep, .keep, .keep, .keep, .keep]), (80, 40, [.keep, .keep, .keep, .keep])], []⟩⟩]] none .nil .nil) .nil) (mm (mm (.mk [.join [⟨.n, ⟨[(2, .one (.ptr 48 0)), (3, .one (.ptr 64 0)), (4, .one (.ptr 80 0)), (31, bb)], [(48, 40, [.keep, .keep, .keep, .keep]), (64, 48, [.keep, .keep, .keep, .keep, .keep, .keep, .keep]), (80, 40, [.keep, .keep, .keep, .keep])], []⟩⟩]] none .nil .nil) .nil) .nil))))
  Tryz.func92 rfl (by kernel_rfl) rfl rfl rfl rfl types_ok ⟨⟨ok_ref24_Needs, ok_ref24_All, ok_ref26_Copy, ok_ref23_Command, trivial⟩, trivial⟩ mx (fun x => by kernel_rfl)

noncomputable def ref26_pump (n : List (List UInt8) × List yT0 × List (List UInt8 × Int × Int) × List (List UInt8 × Int × Int × Int × Int) × Int × Int) (d : List (Int × Int × Bool × Bool) × List Int × List Int × List Bool) (s : Int × Int × Int × Int × Int × List (Int × Bool) × Int) : Option ((List (Int × Int × Bool × Bool) × List Int × List Int × List Bool) × Int) :=
 Option.bind (α := Bool) (
 bif decide (s.2.1 < 0) then (
 some true)
 else (
 some (decide ((n.2.2.2.1.length : Int) ≤ s.2.1)))) fun s2 =>
 bif s2 then (
 some ((d.1, (d.2.1, (d.2.2.1, d.2.2.2))), 8))
 else (
 (ref26_Copy (d.1, (d.2.1, (d.2.2.1, d.2.2.2)))).bind fun r =>
 gd (inB s.2.1 r.2.2.2.length) <|
 (ref26_fed (n.1, (n.2.1, (n.2.2.1, (n.2.2.2.1, (n.2.2.2.2.1, n.2.2.2.2.2))))) (r.2.1, (r.2.2.1, r.2.2.2.set s.2.1.toNat (decide (s.1 = 3))))).bind fun r2 =>
 bif !r2 then (
 some ((d.1, (d.2.1, (d.2.2.1, d.2.2.2))), 22))
 else (
 some ((r.1, (r.2.1, (r.2.2.1, r.2.2.2.set s.2.1.toNat (decide (s.1 = 3))))), 0)))

noncomputable def fn_ref26_pump : Fun :=
 ⟨93, 3, 2,
 ⟨[(0, .one (.data tT0)), (1, .one (.data (.pair (.sl tT1) tT4))), (2, .one (.data tT2))], [], []⟩,
 ⟨[(0, .one (.data (.pair (.sl tT1) tT4))), (1, ii)], [], []⟩,
 fun x => ref26_pump x.1 x.2.1 x.2.2⟩
noncomputable def cx_ref26_pump : Cx := ⟨types, [], [fn_ref26_Copy, fn_ref26_fed], 39, []⟩
theorem ok_ref26_pump : FunOk Tryz.prog fn_ref26_pump :=
 FunOk.intro (C := cx_ref26_pump) (p := (nn (mm (mm (.mk [.join [⟨.n, ⟨[(3, .one (.ptr 64 0)), (4, .one (.ptr 80 0)), (5, .one (.ptr 96 0)), (6, .one (.ptr 112 0)), (19, bb)], [(64, 32, [.keep, .keep, .keep, .keep, .keep, .keep]), (80, 40, [.keep, .keep, .keep, .keep]), (96, 48, [.keep, .keep, .keep, .keep, .keep, .keep, .keep]), (112, 40, [.keep, .keep, .keep, .keep])], []⟩⟩]] none .nil .nil) .nil) .nil)))
  Tryz.func93 rfl (by kernel_rfl) rfl rfl rfl rfl types_ok ⟨⟨ok_ref26_Copy, ok_ref26_fed, trivial⟩, trivial⟩ mx (fun x => by kernel_rfl)

noncomputable def ref25_valid_L1 (r : Int × Int) (k : Int) (seen2 : List Int) : Option ((Int × List Int) ⊕ ((List Int) ⊕ Bool)) :=
 bif decide (k < (seen2.length : Int)) then (
 gd (inB k seen2.length) <|
 bif decide (seen2.getD k.toNat 0 = r.2) then (
 some (.inr (.inr false)))
 else (
 some (.inl (wi64 (k + 1), seen2))))
 else (
 some (.inr (.inl seen2)))

noncomputable def ref25_valid_L0 (n : List (List UInt8) × List yT0 × List (List UInt8 × Int × Int) × List (List UInt8 × Int × Int × Int × Int) × Int × Int) (p : Int × Int × List (Int × Bool) × Int) (vat : Int) (i : Int) (seen : List Int) : Option ((Int × Int × List Int) ⊕ (Int ⊕ Bool)) :=
 bif decide (i < (p.2.2.1.length : Int)) then (
 Option.bind (α := Bool × List Int) (
 gd (inB i p.2.2.1.length) <|
 bif decide ((p.2.2.1.getD i.toNat (0, false)).1 < 0) then (
 some (true, seen))
 else (
 gd (inB i p.2.2.1.length) <|
 some (decide ((n.2.1.length : Int) ≤ (p.2.2.1.getD i.toNat (0, false)).1), seen))) fun s2 =>
 bif s2.1 then (
 some (.inr (.inr false)))
 else (
 gd (inB i p.2.2.1.length) <|
 (ref25_Ends (n.1, (n.2.1, (n.2.2.1, (n.2.2.2.1, (n.2.2.2.2.1, n.2.2.2.2.2))))) (p.2.2.1.getD i.toNat (0, false))).bind fun r =>
 bif !decide (r.1 = vat) then (
 some (.inr (.inr false)))
 else (
 (iter (fun x => ref25_valid_L1 r x.1 x.2) (0, s2.2)).bind fun s3 =>
 s3.elim (fun s4 =>
 gd (fits (s4.length + 1) 8) <|
 some (.inl (r.2, wi64 (i + 1), s4 ++ [r.2])))
 (fun s5 =>
 some (.inr (.inr s5))))))
 else (
 some (.inr (.inl vat)))

noncomputable def ref25_valid (n : List (List UInt8) × List yT0 × List (List UInt8 × Int × Int) × List (List UInt8 × Int × Int × Int × Int) × Int × Int) (p : Int × Int × List (Int × Bool) × Int) : Option (Bool) :=
 Option.bind (α := Bool) (
 bif decide (p.1 < 0) then (
 some true)
 else (
 bif decide ((n.2.2.1.length : Int) ≤ p.1) then (
 some true)
 else (
 bif decide (p.2.1 < 0) then (
 some true)
 else (
 bif decide ((n.2.2.1.length : Int) ≤ p.2.1) then (
 some true)
 else (
 bif decide (p.1 = p.2.1) then (
 some true)
 else (
 bif decide (p.2.2.2 < 1) then (
 some true)
 else (
 bif decide (1000 < p.2.2.2) then (
 some true)
 else (
 some (decide (32 < (p.2.2.1.length : Int))))))))))) fun s =>
 bif s then (
 some false)
 else (
 gd (inB p.1 n.2.2.1.length) <|
 (iter (fun x2 => ref25_valid_L0 n p x2.1 x2.2.1 x2.2.2) (((n.2.2.1.getD p.1.toNat ([], (0, 0))).2).1, 0, [((n.2.2.1.getD p.1.toNat ([], (0, 0))).2).1])).bind fun s6 =>
 s6.elim (fun s7 =>
 gd (inB p.2.1 n.2.2.1.length) <|
 some (decide (s7 = ((n.2.2.1.getD p.2.1.toNat ([], (0, 0))).2).1)))
 (fun s8 =>
 some s8))

noncomputable def fn_ref25_valid : Fun :=
 ⟨153, 2, 1,
 ⟨[(0, .one (.data tT0)), (1, .one (.data (.pair (.int .i64) (.pair (.int .i64) (.pair (.sl (.pair (.int .i64) (.bool))) (.int .i64))))))], [], []⟩,
 ⟨[(0, bb)], [], []⟩,
 fun x => ref25_valid x.1 x.2⟩
noncomputable def cx_ref25_valid : Cx := ⟨types, [66], [fn_ref25_Ends], 132, []⟩
theorem ok_ref25_valid : FunOk Tryz.prog fn_ref25_valid :=
 FunOk.intro (C := cx_ref25_valid) (p := (nn (mm (mm (.mk [.join [⟨.n, ⟨[(2, .one (.ptr 48 0)), (3, .one (.ptr 64 0)), (57, bb)], [(48, 32, [.keep, .keep, .keep, .keep, .keep, .keep]), (64, 46, [.keep, .keep, .keep, .keep])], []⟩⟩]] none .nil .nil) .nil) (nn (nn (mm (nn (mm (.mk [] (some (⟨[(2, .one (.ptr 48 0)), (3, .one (.ptr 64 0)), (5, ii), (6, .one (.own 123)), (7, ii)], [(48, 32, [.keep, .keep, .keep, .keep, .keep, .keep]), (64, 46, [.keep, .keep, .keep, .keep])], [(123, .arr 3 (.int .i64))]⟩, [⟨.x 0, ⟨[(2, .one (.ptr 48 0)), (3, .one (.ptr 64 0)), (5, ii)], [(48, 32, [.keep, .keep, .keep, .keep, .keep, .keep]), (64, 46, [.keep, .keep, .keep, .keep])], []⟩⟩, ⟨.r, ⟨[(4, bb)], [], []⟩⟩])) (nn (mm (mm (mm (mm (.mk [.join [⟨.n, ⟨[(2, .one (.ptr 48 0)), (3, .one (.ptr 64 0)), (5, kk), (6, .one (.own 123)), (7, kk), (92, bb)], [(48, 32, [.keep, .keep, .keep, .keep, .keep, .keep]), (64, 46, [.keep, .keep, .keep, .keep])], [(123, .arr 3 (.int .i64))]⟩⟩]] none .nil .nil) .nil) (nn (nn (mm (nn (mm (.mk [] (some (⟨[(2, .one (.ptr 48 0)), (3, .one (.ptr 64 0)), (6, .one (.own 123)), (7, kk), (9, kk), (10, ii)], [(48, 32, [.keep, .keep, .keep, .keep, .keep, .keep]), (64, 46, [.keep, .keep, .keep, .keep])], [(123, .arr 3 (.int .i64))]⟩, [⟨.x 2, ⟨[(2, .one (.ptr 48 0)), (3, .one (.ptr 64 0)), (6, .one (.own 123)), (7, kk), (9, kk)], [(48, 32, [.keep, .keep, .keep, .keep, .keep, .keep]), (64, 46, [.keep, .keep, .keep, .keep])], [(123, .arr 3 (.int .i64))]⟩⟩, ⟨.r, ⟨[(4, bb)], [], []⟩⟩])) .nil .nil) .nil)) .nil)))) .nil) .nil)) .nil) .nil)) .nil))))))
  Tryz.func153 rfl (by kernel_rfl) rfl rfl rfl rfl types_ok ⟨⟨ok_ref25_Ends, trivial⟩, trivial⟩ mx (fun x => by kernel_rfl)

noncomputable def ref25_Valid (n : List (List UInt8) × List yT0 × List (List UInt8 × Int × Int) × List (List UInt8 × Int × Int × Int × Int) × Int × Int) (p : Int × Int × List (Int × Bool) × Int) : Option (Bool) :=
 (ref12_Check (n.1, (n.2.1, (n.2.2.1, (n.2.2.2.1, (n.2.2.2.2.1, n.2.2.2.2.2)))))).bind fun r =>
 bif decide (r = 0) then (
 (ref25_valid (n.1, (n.2.1, (n.2.2.1, (n.2.2.2.1, (n.2.2.2.2.1, n.2.2.2.2.2))))) (p.1, (p.2.1, (p.2.2.1, p.2.2.2)))).bind fun r2 =>
 some r2)
 else (
 some false)

noncomputable def fn_ref25_Valid : Fun :=
 ⟨139, 2, 1,
 ⟨[(0, .one (.data tT0)), (1, .one (.data (.pair (.int .i64) (.pair (.int .i64) (.pair (.sl (.pair (.int .i64) (.bool))) (.int .i64))))))], [], []⟩,
 ⟨[(0, bb)], [], []⟩,
 fun x => ref25_Valid x.1 x.2⟩
noncomputable def cx_ref25_Valid : Cx := ⟨types, [], [fn_ref12_Check, fn_ref25_valid], 13, []⟩
theorem ok_ref25_Valid : FunOk Tryz.prog fn_ref25_Valid :=
 FunOk.intro (C := cx_ref25_Valid) (p := .nil)
  Tryz.func139 rfl (by kernel_rfl) rfl rfl rfl rfl types_ok ⟨⟨ok_ref12_Check, ok_ref25_valid, trivial⟩, trivial⟩ mx (fun x => by kernel_rfl)

noncomputable def ref26_ready_L0 (p : Int × Int × List (Int × Bool) × Int) (i : Int) (l : List Int) : Option ((Int × List Int) ⊕ (List Int)) :=
 bif decide (i < (p.2.2.1.length : Int)) then (
 gd (inB i p.2.2.1.length) <|
 gd (fits (l.length + 1) 8) <|
 some (.inl (wi64 (i + 1), l ++ [(p.2.2.1.getD i.toNat (0, false)).1])))
 else (
 some (.inr l))

noncomputable def ref26_ready_L1 (d : List (Int × Int × Bool × Bool) × List Int × List Int × List Bool) (i2 : Int) (l2 : List Int) : Option ((Int × List Int) ⊕ (Unit ⊕ Bool)) :=
 bif decide (i2 < (l2.length : Int)) then (
 Option.bind (α := Bool × List Int) (
 gd (inB i2 l2.length) <|
 gd (inB (l2.getD i2.toNat 0) d.1.length) <|
 (ref23_Open (d.1.getD (l2.getD i2.toNat 0).toNat (0, (0, (false, false))))).bind fun r =>
 bif !r then (
 some (true, l2))
 else (
 gd (inB i2 l2.length) <|
 gd (inB (l2.getD i2.toNat 0) d.1.length) <|
 some ((!((((d.1.getD (l2.getD i2.toNat 0).toNat (0, (0, (false, false)))).2).2).1)), l2))) fun s2 =>
 bif s2.1 then (
 some (.inr (.inr false)))
 else (
 some (.inl (wi64 (i2 + 1), s2.2))))
 else (
 some (.inr (.inl ())))

noncomputable def ref26_ready (n : List (List UInt8) × List yT0 × List (List UInt8 × Int × Int) × List (List UInt8 × Int × Int × Int × Int) × Int × Int) (d : List (Int × Int × Bool × Bool) × List Int × List Int × List Bool) (p : Int × Int × List (Int × Bool) × Int) : Option (Bool) :=
 (iter (fun x => ref26_ready_L0 p x.1 x.2) (0, [wi64 ((n.2.1.length : Int) + p.1), wi64 ((n.2.1.length : Int) + p.2.1)])).bind fun s =>
 (iter (fun x2 => ref26_ready_L1 d x2.1 x2.2) (0, s)).bind fun s3 =>
 s3.elim (fun s4 =>
 some true)
 (fun s5 =>
 some s5)

noncomputable def fn_ref26_ready : Fun :=
 ⟨140, 3, 1,
 ⟨[(0, .one (.data tT0)), (1, .one (.data (.pair (.sl tT1) tT4))), (2, .one (.data (.pair (.int .i64) (.pair (.int .i64) (.pair (.sl (.pair (.int .i64) (.bool))) (.int .i64))))))], [], []⟩,
 ⟨[(0, bb)], [], []⟩,
 fun x => ref26_ready x.1 x.2.1 x.2.2⟩
noncomputable def cx_ref26_ready : Cx := ⟨types, [22], [fn_ref23_Open], 67, []⟩
theorem ok_ref26_ready : FunOk Tryz.prog fn_ref26_ready :=
 FunOk.intro (C := cx_ref26_ready) (p := (nn (nn (mm (nn (mm (.mk [] (some (⟨[(4, .one (.ptr 80 0)), (5, .one (.ptr 96 0)), (7, .one (.own 139)), (8, ii)], [(80, 40, [.keep, .keep, .keep, .keep]), (96, 46, [.keep, .keep, .keep, .keep])], [(139, .arr 3 (.int .i64))]⟩, [⟨.x 0, ⟨[(4, .one (.ptr 80 0)), (7, .one (.own 139))], [(80, 40, [.keep, .keep, .keep, .keep])], [(139, .arr 3 (.int .i64))]⟩⟩])) .nil .nil) .nil)) (mm (nn (mm (.mk [] (some (⟨[(4, .one (.ptr 80 0)), (7, .one (.own 139)), (9, ii)], [(80, 40, [.keep, .keep, .keep, .keep])], [(139, .arr 3 (.int .i64))]⟩, [⟨.x 2, ⟨[], [], []⟩⟩, ⟨.r, ⟨[(6, bb)], [], []⟩⟩])) (nn (mm (mm (mm (.mk [.join [⟨.n, ⟨[(4, .one (.ptr 80 0)), (7, .one (.own 139)), (9, kk), (66, bb)], [(80, 40, [.keep, .keep, .keep, .keep])], [(139, .arr 3 (.int .i64))]⟩⟩]] none .nil .nil) .nil) .nil) .nil)) .nil) .nil)) .nil)))))
  Tryz.func140 rfl (by kernel_rfl) rfl rfl rfl rfl types_ok ⟨⟨ok_ref23_Open, trivial⟩, trivial⟩ mx (fun x => by kernel_rfl)

noncomputable def ref26_flow_L0 (d : List (Int × Int × Bool × Bool) × List Int × List Int × List Bool) (s : Int × Int × Int × Int × Int × List (Int × Bool) × Int) (i : Int) (v : List (Int × Int × Bool × Bool)) (v2 : List Int) (v3 : List Int) (v4 : List Bool) (p : List (Int × Bool)) (x : List (Int × Int × Bool × Bool)) (x2 : List Int) (x3 : List Int) (x4 : List Bool) : Option ((Int × (List (Int × Int × Bool × Bool)) × List Int × List Int × List Bool × (List (Int × Bool)) × (List (Int × Int × Bool × Bool)) × List Int × List Int × List Bool) ⊕ (((List (Int × Int × Bool × Bool)) × List Int × List Int × List Bool × (List (Int × Int × Bool × Bool)) × List Int × List Int × List Bool) ⊕ (Int × (List (Int × Int × Bool × Bool)) × List Int × List Int × List Bool))) :=
 bif decide (i < (p.length : Int)) then (
 gd (inB i p.length) <|
 Option.bind (α := Int × (List (Int × Bool)) × (List (Int × Int × Bool × Bool)) × List Int × List Int × List Bool) (
 bif (p.getD i.toNat (0, false)).2 then (
 some ((-1), p, x, x2, x3, x4))
 else (
 some (1, p, x, x2, x3, x4))) fun s4 =>
 gd (inB ((p.getD i.toNat (0, false)).1) d.2.1.length) <|
 Option.bind (α := Bool × (List (Int × Bool)) × (List (Int × Int × Bool × Bool)) × List Int × List Int × List Bool) (
 bif decide (wi64 (s4.1 * (d.2.1.getD ((p.getD i.toNat (0, false)).1).toNat 0)) < 0) then (
 some (true, s4.2.1, s4.2.2.1, s4.2.2.2.1, s4.2.2.2.2.1, s4.2.2.2.2.2))
 else (
 some (decide (wi64 ((wi64 (s4.1 * (d.2.1.getD ((p.getD i.toNat (0, false)).1).toNat 0))) + s.2.2.1) < 0), s4.2.1, s4.2.2.1, s4.2.2.2.1, s4.2.2.2.2.1, s4.2.2.2.2.2))) fun s5 =>
 bif s5.1 then (
 some (.inr (.inr (22, d.1, d.2.1, d.2.2.1, d.2.2.2))))
 else (
 gd (inB ((p.getD i.toNat (0, false)).1) s5.2.2.2.1.length) <|
 some (.inl (wi64 (i + 1), v, v2, v3, v4, s5.2.1, s5.2.2.1, s5.2.2.2.1.set (((p.getD i.toNat (0, false)).1).toNat) (wi64 (s4.1 * (wi64 ((wi64 (s4.1 * (d.2.1.getD ((p.getD i.toNat (0, false)).1).toNat 0))) + s.2.2.1)))), s5.2.2.2.2.1, s5.2.2.2.2.2))))
 else (
 some (.inr (.inl (v, v2, v3, v4, x, x2, x3, x4))))

noncomputable def ref26_flow (n : List (List UInt8) × List yT0 × List (List UInt8 × Int × Int) × List (List UInt8 × Int × Int × Int × Int) × Int × Int) (d : List (Int × Int × Bool × Bool) × List Int × List Int × List Bool) (s : Int × Int × Int × Int × Int × List (Int × Bool) × Int) : Option ((List (Int × Int × Bool × Bool) × List Int × List Int × List Bool) × Int) :=
 Option.bind (α := Bool) (
 bif decide (s.2.2.1 < (-1000)) then (
 some true)
 else (
 some (decide (1000 < s.2.2.1)))) fun s2 =>
 bif s2 then (
 some ((d.1, (d.2.1, (d.2.2.1, d.2.2.2))), 23))
 else (
 (ref25_Copy (s.2.2.2.1, (s.2.2.2.2.1, (s.2.2.2.2.2.1, s.2.2.2.2.2.2)))).bind fun r =>
 (ref25_Valid (n.1, (n.2.1, (n.2.2.1, (n.2.2.2.1, (n.2.2.2.2.1, n.2.2.2.2.2))))) (r.1, (r.2.1, (r.2.2.2, max s.2.2.1 (wi64 (0 - s.2.2.1)))))).bind fun r2 =>
 bif !r2 then (
 some ((d.1, (d.2.1, (d.2.2.1, d.2.2.2))), 23))
 else (
 (ref26_Copy (d.1, (d.2.1, (d.2.2.1, d.2.2.2)))).bind fun r3 =>
 (ref26_ready (n.1, (n.2.1, (n.2.2.1, (n.2.2.2.1, (n.2.2.2.2.1, n.2.2.2.2.2))))) (r3.1, (r3.2.1, (r3.2.2.1, r3.2.2.2))) (r.1, (r.2.1, (r.2.2.2, max s.2.2.1 (wi64 (0 - s.2.2.1)))))).bind fun r4 =>
 bif !r4 then (
 some ((d.1, (d.2.1, (d.2.2.1, d.2.2.2))), 22))
 else (
 gd (inB r.1 r3.2.2.1.length) <|
 gd (inB r.1 r3.2.2.1.length) <|
 gd (inB r.2.1 (r3.2.2.1.set r.1.toNat (wi64 ((r3.2.2.1.getD r.1.toNat 0) + s.2.2.1))).length) <|
 gd (inB r.2.1 (r3.2.2.1.set r.1.toNat (wi64 ((r3.2.2.1.getD r.1.toNat 0) + s.2.2.1))).length) <|
 Option.bind (α := Bool × (List (Int × Bool)) × (List (Int × Int × Bool × Bool)) × List Int × List Int × List Bool) (
 gd (inB r.1 ((r3.2.2.1.set r.1.toNat (wi64 ((r3.2.2.1.getD r.1.toNat 0) + s.2.2.1))).set r.2.1.toNat (wi64 (((r3.2.2.1.set r.1.toNat (wi64 ((r3.2.2.1.getD r.1.toNat 0) + s.2.2.1))).getD r.2.1.toNat 0) - s.2.2.1))).length) <|
 bif decide (((r3.2.2.1.set r.1.toNat (wi64 ((r3.2.2.1.getD r.1.toNat 0) + s.2.2.1))).set r.2.1.toNat (wi64 (((r3.2.2.1.set r.1.toNat (wi64 ((r3.2.2.1.getD r.1.toNat 0) + s.2.2.1))).getD r.2.1.toNat 0) - s.2.2.1))).getD r.1.toNat 0 < 0) then (
 some (true, r.2.2.2, r3.1, r3.2.1, (r3.2.2.1.set r.1.toNat (wi64 ((r3.2.2.1.getD r.1.toNat 0) + s.2.2.1))).set r.2.1.toNat (wi64 (((r3.2.2.1.set r.1.toNat (wi64 ((r3.2.2.1.getD r.1.toNat 0) + s.2.2.1))).getD r.2.1.toNat 0) - s.2.2.1)), r3.2.2.2))
 else (
 gd (inB r.2.1 ((r3.2.2.1.set r.1.toNat (wi64 ((r3.2.2.1.getD r.1.toNat 0) + s.2.2.1))).set r.2.1.toNat (wi64 (((r3.2.2.1.set r.1.toNat (wi64 ((r3.2.2.1.getD r.1.toNat 0) + s.2.2.1))).getD r.2.1.toNat 0) - s.2.2.1))).length) <|
 bif decide (0 < ((r3.2.2.1.set r.1.toNat (wi64 ((r3.2.2.1.getD r.1.toNat 0) + s.2.2.1))).set r.2.1.toNat (wi64 (((r3.2.2.1.set r.1.toNat (wi64 ((r3.2.2.1.getD r.1.toNat 0) + s.2.2.1))).getD r.2.1.toNat 0) - s.2.2.1))).getD r.2.1.toNat 0) then (
 some (true, r.2.2.2, r3.1, r3.2.1, (r3.2.2.1.set r.1.toNat (wi64 ((r3.2.2.1.getD r.1.toNat 0) + s.2.2.1))).set r.2.1.toNat (wi64 (((r3.2.2.1.set r.1.toNat (wi64 ((r3.2.2.1.getD r.1.toNat 0) + s.2.2.1))).getD r.2.1.toNat 0) - s.2.2.1)), r3.2.2.2))
 else (
 gd (inB r.1 d.2.2.1.length) <|
 bif decide (d.2.2.1.getD r.1.toNat 0 < 0) then (
 some (true, r.2.2.2, r3.1, r3.2.1, (r3.2.2.1.set r.1.toNat (wi64 ((r3.2.2.1.getD r.1.toNat 0) + s.2.2.1))).set r.2.1.toNat (wi64 (((r3.2.2.1.set r.1.toNat (wi64 ((r3.2.2.1.getD r.1.toNat 0) + s.2.2.1))).getD r.2.1.toNat 0) - s.2.2.1)), r3.2.2.2))
 else (
 gd (inB r.2.1 d.2.2.1.length) <|
 some (decide (0 < d.2.2.1.getD r.2.1.toNat 0), r.2.2.2, r3.1, r3.2.1, (r3.2.2.1.set r.1.toNat (wi64 ((r3.2.2.1.getD r.1.toNat 0) + s.2.2.1))).set r.2.1.toNat (wi64 (((r3.2.2.1.set r.1.toNat (wi64 ((r3.2.2.1.getD r.1.toNat 0) + s.2.2.1))).getD r.2.1.toNat 0) - s.2.2.1)), r3.2.2.2))))) fun s3 =>
 bif s3.1 then (
 some ((d.1, (d.2.1, (d.2.2.1, d.2.2.2))), 22))
 else (
 (iter (fun x5 => ref26_flow_L0 d s x5.1 x5.2.1 x5.2.2.1 x5.2.2.2.1 x5.2.2.2.2.1 x5.2.2.2.2.2.1 x5.2.2.2.2.2.2.1 x5.2.2.2.2.2.2.2.1 x5.2.2.2.2.2.2.2.2.1 x5.2.2.2.2.2.2.2.2.2) (0, [], [], [], [], s3.2.1, s3.2.2.1, s3.2.2.2.1, s3.2.2.2.2.1, s3.2.2.2.2.2)).bind fun s6 =>
 s6.elim (fun s7 =>
 (ref16_Check (n.1, (n.2.1, (n.2.2.1, (n.2.2.2.1, (n.2.2.2.2.1, n.2.2.2.2.2))))) (s7.2.2.2.2.2.1, (s7.2.2.2.2.2.2.1, s7.2.2.2.2.2.2.2))).bind fun r5 =>
 bif !decide (r5 = 0) then (
 some ((d.1, (d.2.1, (d.2.2.1, d.2.2.2))), r5))
 else (
 (ref26_fed (n.1, (n.2.1, (n.2.2.1, (n.2.2.2.1, (n.2.2.2.2.1, n.2.2.2.2.2))))) (s7.2.2.2.2.2.1, (s7.2.2.2.2.2.2.1, s7.2.2.2.2.2.2.2))).bind fun r6 =>
 bif !r6 then (
 some ((d.1, (d.2.1, (d.2.2.1, d.2.2.2))), 22))
 else (
 some ((s7.2.2.2.2.1, (s7.2.2.2.2.2.1, (s7.2.2.2.2.2.2.1, s7.2.2.2.2.2.2.2))), 0))))
 (fun s8 =>
 some ((s8.2.1, (s8.2.2.1, (s8.2.2.2.1, s8.2.2.2.2))), s8.1))))))

noncomputable def fn_ref26_flow : Fun :=
 ⟨94, 3, 2,
 ⟨[(0, .one (.data tT0)), (1, .one (.data (.pair (.sl tT1) tT4))), (2, .one (.data tT2))], [], []⟩,
 ⟨[(0, .one (.data (.pair (.sl tT1) tT4))), (1, ii)], [], []⟩,
 fun x => ref26_flow x.1 x.2.1 x.2.2⟩
noncomputable def cx_ref26_flow : Cx := ⟨types, [], [fn_ref25_Copy, fn_ref25_Valid, fn_ref26_Copy, fn_ref26_ready, fn_ref16_Check, fn_ref26_fed], 178, []⟩
theorem ok_ref26_flow : FunOk Tryz.prog fn_ref26_flow :=
 FunOk.intro (C := cx_ref26_flow) (p := (nn (mm (mm (.mk [.join [⟨.n, ⟨[(3, .one (.ptr 64 0)), (4, .one (.ptr 80 0)), (5, .one (.ptr 96 0)), (6, .one (.ptr 112 0)), (22, bb)], [(64, 32, [.keep, .keep, .keep, .keep, .keep, .keep]), (80, 40, [.keep, .keep, .keep, .keep]), (96, 48, [.keep, .keep, .keep, .keep, .keep, .keep, .keep]), (112, 40, [.keep, .keep, .keep, .keep])], []⟩⟩]] none .nil .nil) .nil) (nn (nn (nn (nn (nn (nn (nn (mm (mm (.mk [.join [⟨.n, ⟨[(3, .one (.ptr 64 0)), (4, .one (.ptr 80 0)), (5, .one (.ptr 96 0)), (6, .one (.ptr 112 0)), (8, .one (.ptr 144 0)), (9, .one (.ptr 160 0)), (116, bb)], [(64, 32, [.keep, .keep, .keep, .keep, .keep, .keep]), (80, 40, [.keep, .keep, .keep, .keep]), (96, 48, [.keep, .keep, .keep, .keep, .keep, .keep, .keep]), (112, 40, [.keep, .keep, .keep, .keep]), (144, 46, [.keep, .keep, .own 432, .keep]), (160, 40, [.own 656, .own 657, .own 658, .own 659])], [(432, .arr 78 (.pair (.int .i64) (.bool))), (656, .arr 54 tT1), (657, .arr 3 (.int .i64)), (658, .arr 3 (.int .i64)), (659, .arr 4 (.bool))]⟩⟩]] none .nil .nil) .nil) (mm (nn (mm (.mk [] (some (⟨[(3, .one (.ptr 64 0)), (4, .one (.ptr 80 0)), (5, .one (.ptr 96 0)), (6, .one (.ptr 112 0)), (8, .one (.ptr 144 0)), (9, .one (.ptr 160 0)), (10, ii)], [(64, 32, [.keep, .keep, .keep, .keep, .keep, .keep]), (80, 40, [.keep, .keep, .keep, .keep]), (96, 48, [.keep, .keep, .keep, .keep, .keep, .keep, .keep]), (112, 40, [.data (.sl tT1), .data (.sl (.int .i64)), .data (.sl (.int .i64)), .data (.sl (.bool))]), (144, 46, [.keep, .keep, .own 432, .keep]), (160, 40, [.own 656, .own 657, .own 658, .own 659])], [(432, .arr 78 (.pair (.int .i64) (.bool))), (656, .arr 54 tT1), (657, .arr 3 (.int .i64)), (658, .arr 3 (.int .i64)), (659, .arr 4 (.bool))]⟩, [⟨.x 0, ⟨[(3, .one (.ptr 64 0)), (4, .one (.ptr 80 0)), (6, .one (.ptr 112 0)), (9, .one (.ptr 160 0))], [(64, 32, [.keep, .keep, .keep, .keep, .keep, .keep]), (80, 40, [.keep, .keep, .keep, .keep]), (112, 40, [.data (.sl tT1), .data (.sl (.int .i64)), .data (.sl (.int .i64)), .data (.sl (.bool))]), (160, 40, [.own 656, .own 657, .own 658, .own 659])], [(656, .arr 54 tT1), (657, .arr 3 (.int .i64)), (658, .arr 3 (.int .i64)), (659, .arr 4 (.bool))]⟩⟩, ⟨.r, ⟨[(6, .one (.ptr 112 0)), (7, ii)], [(112, 40, [.data (.sl tT1), .data (.sl (.int .i64)), .data (.sl (.int .i64)), .data (.sl (.bool))])], []⟩⟩])) (nn (mm (mm (nn (nn (mm (nn (.mk [.join [⟨.n, ⟨[(3, .one (.ptr 64 0)), (4, .one (.ptr 80 0)), (5, .one (.ptr 96 0)), (6, .one (.ptr 112 0)), (8, .one (.ptr 144 0)), (9, .one (.ptr 160 0)), (10, kk), (11, .one (.ptr 192 0)), (12, ii)], [(64, 32, [.keep, .keep, .keep, .keep, .keep, .keep]), (80, 40, [.keep, .keep, .keep, .keep]), (96, 48, [.keep, .keep, .keep, .keep, .keep, .keep, .keep]), (112, 40, [.keep, .keep, .keep, .keep]), (144, 46, [.keep, .keep, .own 432, .keep]), (160, 40, [.own 656, .own 657, .own 658, .own 659]), (192, 78, [.keep, .keep])], [(432, .arr 78 (.pair (.int .i64) (.bool))), (656, .arr 54 tT1), (657, .arr 3 (.int .i64)), (658, .arr 3 (.int .i64)), (659, .arr 4 (.bool))]⟩⟩]] none .nil .nil)) (nn (mm (mm (.mk [.join [⟨.n, ⟨[(3, .one (.ptr 64 0)), (4, .one (.ptr 80 0)), (5, .one (.ptr 96 0)), (6, .one (.ptr 112 0)), (8, .one (.ptr 144 0)), (9, .one (.ptr 160 0)), (10, kk), (11, .one (.ptr 192 0)), (12, kk), (13, kk), (149, bb)], [(64, 32, [.keep, .keep, .keep, .keep, .keep, .keep]), (80, 40, [.keep, .keep, .keep, .keep]), (96, 48, [.keep, .keep, .keep, .keep, .keep, .keep, .keep]), (112, 40, [.keep, .keep, .keep, .keep]), (144, 46, [.keep, .keep, .own 432, .keep]), (160, 40, [.own 656, .own 657, .own 658, .own 659]), (192, 78, [.keep, .keep])], [(432, .arr 78 (.pair (.int .i64) (.bool))), (656, .arr 54 tT1), (657, .arr 3 (.int .i64)), (658, .arr 3 (.int .i64)), (659, .arr 4 (.bool))]⟩⟩]] none .nil .nil) .nil) .nil))))) .nil) .nil)) .nil) .nil)) .nil))))))))))))
  Tryz.func94 rfl (by kernel_rfl) rfl rfl rfl rfl types_ok ⟨⟨ok_ref25_Copy, ok_ref25_Valid, ok_ref26_Copy, ok_ref26_ready, ok_ref16_Check, ok_ref26_fed, trivial⟩, trivial⟩ mx (fun x => by kernel_rfl)

noncomputable def ref23_Step (v : Int × Int × Bool × Bool) : Option ((Int × Int × Bool × Bool) × Int) :=
 (ref23_Valid (v.1, (v.2.1, (v.2.2.1, v.2.2.2)))).bind fun r =>
 bif !r then (
 some ((v.1, (v.2.1, (v.2.2.1, v.2.2.2))), 20))
 else (
 bif v.2.2.2 then (
 some ((v.1, (v.2.1, (v.2.2.1, v.2.2.2))), 0))
 else (
 Option.bind (α := Bool) (
 bif v.2.2.1 then (
 some (decide (v.2.1 < v.1)))
 else (
 some false)) fun s =>
 Option.bind (α := Int) (
 bif s then (
 some (wi64 (v.2.1 + 1)))
 else (
 Option.bind (α := Bool) (
 bif !v.2.2.1 then (
 some (decide (0 < v.2.1)))
 else (
 some false)) fun s2 =>
 Option.bind (α := Int) (
 bif s2 then (
 some (wi64 (v.2.1 - 1)))
 else (
 some v.2.1)) fun s3 =>
 some s3)) fun s4 =>
 some ((v.1, (s4, (v.2.2.1, v.2.2.2))), 0)))

noncomputable def fn_ref23_Step : Fun :=
 ⟨141, 1, 2,
 ⟨[(0, .one (.data tT1))], [], []⟩,
 ⟨[(0, .one (.data tT1)), (1, ii)], [], []⟩,
 fun x => ref23_Step x⟩
noncomputable def cx_ref23_Step : Cx := ⟨types, [], [fn_ref23_Valid], 37, []⟩
theorem ok_ref23_Step : FunOk Tryz.prog fn_ref23_Step :=
 FunOk.intro (C := cx_ref23_Step) (p := (nn (nn (nn (mm (mm (.mk [.join [⟨.n, ⟨[(1, .one (.ptr 32 0)), (2, .one (.ptr 48 0)), (19, bb)], [(32, 54, [.keep, .keep, .keep, .keep]), (48, 54, [.keep, .keep, .keep, .keep])], []⟩⟩]] none .nil .nil) (.mk [.join [⟨.n, ⟨[(1, .one (.ptr 32 0)), (2, .one (.ptr 48 0))], [(32, 54, [.keep, .data (.int .i64), .keep, .keep]), (48, 54, [.keep, .keep, .keep, .keep])], []⟩⟩]] none .nil (mm (.mk [.join [⟨.n, ⟨[(1, .one (.ptr 32 0)), (2, .one (.ptr 48 0)), (31, bb)], [(32, 54, [.keep, .keep, .keep, .keep]), (48, 54, [.keep, .keep, .keep, .keep])], []⟩⟩]] none .nil .nil) (.mk [.join [⟨.n, ⟨[(1, .one (.ptr 32 0)), (2, .one (.ptr 48 0))], [(32, 54, [.keep, .data (.int .i64), .keep, .keep]), (48, 54, [.keep, .keep, .keep, .keep])], []⟩⟩]] none .nil .nil)))) .nil)))))
  Tryz.func141 rfl (by kernel_rfl) rfl rfl rfl rfl types_ok ⟨⟨ok_ref23_Valid, trivial⟩, trivial⟩ mx (fun x => by kernel_rfl)

noncomputable def ref23_Pass_L0 (ticks : Int) (i : Int) (v2 : Int) (v3 : Int) (v4 : Bool) (v5 : Bool) : Option ((Int × Int × Int × Bool × Bool) ⊕ (Int × Int × Bool × Bool)) :=
 bif decide (i < ticks) then (
 (ref23_Step (v2, (v3, (v4, v5)))).bind fun r2 =>
 some (.inl (wi64 (i + 1), r2.1.1, r2.1.2.1, r2.1.2.2.1, r2.1.2.2.2)))
 else (
 some (.inr (v2, v3, v4, v5)))

noncomputable def ref23_Pass (v : Int × Int × Bool × Bool) (ticks : Int) : Option ((Int × Int × Bool × Bool) × Int) :=
 (ref23_Valid (v.1, (v.2.1, (v.2.2.1, v.2.2.2)))).bind fun r =>
 bif !r then (
 some ((v.1, (v.2.1, (v.2.2.1, v.2.2.2))), 20))
 else (
 Option.bind (α := Bool) (
 bif decide (ticks < 0) then (
 some true)
 else (
 some (decide (400 < ticks)))) fun s =>
 bif s then (
 some ((v.1, (v.2.1, (v.2.2.1, v.2.2.2))), 1))
 else (
 (iter (fun x => ref23_Pass_L0 ticks x.1 x.2.1 x.2.2.1 x.2.2.2.1 x.2.2.2.2) (0, v.1, v.2.1, v.2.2.1, v.2.2.2)).bind fun s2 =>
 some ((s2.1, (s2.2.1, (s2.2.2.1, s2.2.2.2))), 0)))

noncomputable def fn_ref23_Pass : Fun :=
 ⟨96, 2, 2,
 ⟨[(0, .one (.data tT1)), (1, ii)], [], []⟩,
 ⟨[(0, .one (.data tT1)), (1, ii)], [], []⟩,
 fun x => ref23_Pass x.1 x.2⟩
noncomputable def cx_ref23_Pass : Cx := ⟨types, [], [fn_ref23_Valid, fn_ref23_Step], 29, []⟩
theorem ok_ref23_Pass : FunOk Tryz.prog fn_ref23_Pass :=
 FunOk.intro (C := cx_ref23_Pass) (p := (nn (nn (mm (mm (.mk [.join [⟨.n, ⟨[(1, kk), (2, .one (.ptr 48 0)), (4, .one (.ptr 80 0)), (16, bb)], [(48, 54, [.keep, .keep, .keep, .keep]), (80, 54, [.keep, .keep, .keep, .keep])], []⟩⟩]] none .nil .nil) .nil) (mm (nn (mm (.mk [] (some (⟨[(1, kk), (2, .one (.ptr 48 0)), (4, .one (.ptr 80 0)), (6, ii)], [(48, 54, [.data (.int .i64), .data (.int .i64), .data (.bool), .data (.bool)]), (80, 54, [.keep, .keep, .keep, .keep])], []⟩, [⟨.x 0, ⟨[(2, .one (.ptr 48 0)), (4, .one (.ptr 80 0))], [(48, 54, [.data (.int .i64), .data (.int .i64), .data (.bool), .data (.bool)]), (80, 54, [.keep, .keep, .keep, .keep])], []⟩⟩])) .nil .nil) .nil)) .nil)))))
  Tryz.func96 rfl (by kernel_rfl) rfl rfl rfl rfl types_ok ⟨⟨ok_ref23_Valid, ok_ref23_Step, trivial⟩, trivial⟩ mx (fun x => by kernel_rfl)

noncomputable def ref26_Apply_L0 (s : Int × Int × Int × Int × Int × List (Int × Bool) × Int) (i : Int) (x : List (Int × Int × Bool × Bool)) (x2 : List Int) (x3 : List Int) (x4 : List Bool) : Option ((Int × (List (Int × Int × Bool × Bool)) × List Int × List Int × List Bool) ⊕ ((List (Int × Int × Bool × Bool)) × List Int × List Int × List Bool)) :=
 bif decide (i < (x.length : Int)) then (
 gd (inB i x.length) <|
 (ref23_Pass (x.getD i.toNat (0, (0, (false, false)))) s.2.2.1).bind fun r7 =>
 gd (inB i x.length) <|
 some (.inl (wi64 (i + 1), x.set i.toNat r7.1, x2, x3, x4)))
 else (
 some (.inr (x, x2, x3, x4)))

noncomputable def ref26_Apply (n : List (List UInt8) × List yT0 × List (List UInt8 × Int × Int) × List (List UInt8 × Int × Int × Int × Int) × Int × Int) (d : List (Int × Int × Bool × Bool) × List Int × List Int × List Bool) (s : Int × Int × Int × Int × Int × List (Int × Bool) × Int) : Option ((List (Int × Int × Bool × Bool) × List Int × List Int × List Bool) × Int) :=
 (ref26_Check (n.1, (n.2.1, (n.2.2.1, (n.2.2.2.1, (n.2.2.2.2.1, n.2.2.2.2.2))))) (d.1, (d.2.1, (d.2.2.1, d.2.2.2)))).bind fun r =>
 bif !decide (r = 0) then (
 some ((d.1, (d.2.1, (d.2.2.1, d.2.2.2))), r))
 else (
 (ref26_shaped (s.1, (s.2.1, (s.2.2.1, (s.2.2.2.1, (s.2.2.2.2.1, (s.2.2.2.2.2.1, s.2.2.2.2.2.2))))))).bind fun r2 =>
 bif !r2 then (
 some ((d.1, (d.2.1, (d.2.2.1, d.2.2.2))), 22))
 else (
 Option.bind (α := Bool) (
 bif decide (s.1 = 1) then (
 some (decide (s.1 = 1)))
 else (
 some (decide (s.1 = 2)))) fun s2 =>
 bif s2 then (
 (ref26_turn (d.1, (d.2.1, (d.2.2.1, d.2.2.2))) (s.1, (s.2.1, (s.2.2.1, (s.2.2.2.1, (s.2.2.2.2.1, (s.2.2.2.2.2.1, s.2.2.2.2.2.2))))))).bind fun r3 =>
 some ((r3.1.1, (r3.1.2.1, (r3.1.2.2.1, r3.1.2.2.2))), r3.2))
 else (
 Option.bind (α := Bool) (
 bif decide (s.1 = 3) then (
 some (decide (s.1 = 3)))
 else (
 some (decide (s.1 = 4)))) fun s3 =>
 bif s3 then (
 (ref26_pump (n.1, (n.2.1, (n.2.2.1, (n.2.2.2.1, (n.2.2.2.2.1, n.2.2.2.2.2))))) (d.1, (d.2.1, (d.2.2.1, d.2.2.2))) (s.1, (s.2.1, (s.2.2.1, (s.2.2.2.1, (s.2.2.2.2.1, (s.2.2.2.2.2.1, s.2.2.2.2.2.2))))))).bind fun r4 =>
 some ((r4.1.1, (r4.1.2.1, (r4.1.2.2.1, r4.1.2.2.2))), r4.2))
 else (
 bif decide (s.1 = 5) then (
 (ref26_flow (n.1, (n.2.1, (n.2.2.1, (n.2.2.2.1, (n.2.2.2.2.1, n.2.2.2.2.2))))) (d.1, (d.2.1, (d.2.2.1, d.2.2.2))) (s.1, (s.2.1, (s.2.2.1, (s.2.2.2.1, (s.2.2.2.2.1, (s.2.2.2.2.2.1, s.2.2.2.2.2.2))))))).bind fun r5 =>
 some ((r5.1.1, (r5.1.2.1, (r5.1.2.2.1, r5.1.2.2.2))), r5.2))
 else (
 Option.bind (α := Bool) (
 bif decide (s.2.2.1 < 1) then (
 some true)
 else (
 some (decide (100 < s.2.2.1)))) fun s4 =>
 bif s4 then (
 some ((d.1, (d.2.1, (d.2.2.1, d.2.2.2))), 1))
 else (
 (ref26_Copy (d.1, (d.2.1, (d.2.2.1, d.2.2.2)))).bind fun r6 =>
 (iter (fun x5 => ref26_Apply_L0 s x5.1 x5.2.1 x5.2.2.1 x5.2.2.2.1 x5.2.2.2.2) (0, r6.1, r6.2.1, r6.2.2.1, r6.2.2.2)).bind fun s5 =>
 some ((s5.1, (s5.2.1, (s5.2.2.1, s5.2.2.2))), 0)))))))

noncomputable def fn_ref26_Apply : Fun :=
 ⟨56, 3, 2,
 ⟨[(0, .one (.data tT0)), (1, .one (.data (.pair (.sl tT1) tT4))), (2, .one (.data tT2))], [], []⟩,
 ⟨[(0, .one (.data (.pair (.sl tT1) tT4))), (1, ii)], [], []⟩,
 fun x => ref26_Apply x.1 x.2.1 x.2.2⟩
noncomputable def cx_ref26_Apply : Cx := ⟨types, [], [fn_ref26_Check, fn_ref26_shaped, fn_ref26_turn, fn_ref26_pump, fn_ref26_flow, fn_ref26_Copy, fn_ref23_Pass], 83, []⟩
theorem ok_ref26_Apply : FunOk Tryz.prog fn_ref26_Apply :=
 FunOk.intro (C := cx_ref26_Apply) (p := (nn (nn (nn (mm (nn (mm (mm (nn (.mk [.join [⟨.n, ⟨[(3, .one (.ptr 64 0)), (4, .one (.ptr 80 0)), (5, .one (.ptr 96 0)), (6, .one (.ptr 112 0)), (23, kk), (24, bb)], [(64, 32, [.keep, .keep, .keep, .keep, .keep, .keep]), (80, 40, [.keep, .keep, .keep, .keep]), (96, 48, [.keep, .keep, .keep, .keep, .keep, .keep, .keep]), (112, 40, [.keep, .keep, .keep, .keep])], []⟩⟩]] none .nil .nil)) (nn (mm (nn (.mk [.join [⟨.n, ⟨[(3, .one (.ptr 64 0)), (4, .one (.ptr 80 0)), (5, .one (.ptr 96 0)), (6, .one (.ptr 112 0)), (23, kk), (32, bb)], [(64, 32, [.keep, .keep, .keep, .keep, .keep, .keep]), (80, 40, [.keep, .keep, .keep, .keep]), (96, 48, [.keep, .keep, .keep, .keep, .keep, .keep, .keep]), (112, 40, [.keep, .keep, .keep, .keep])], []⟩⟩]] none .nil .nil)) .nil))) .nil)) (mm (mm (.mk [.join [⟨.n, ⟨[(4, .one (.ptr 80 0)), (5, .one (.ptr 96 0)), (6, .one (.ptr 112 0)), (56, bb)], [(80, 40, [.keep, .keep, .keep, .keep]), (96, 48, [.keep, .keep, .keep, .keep, .keep, .keep, .keep]), (112, 40, [.keep, .keep, .keep, .keep])], []⟩⟩]] none .nil .nil) .nil) (nn (mm (nn (mm (.mk [] (some (⟨[(5, .one (.ptr 96 0)), (6, .one (.ptr 112 0)), (9, .one (.ptr 160 0)), (10, ii)], [(96, 48, [.keep, .keep, .keep, .keep, .keep, .keep, .keep]), (112, 40, [.keep, .keep, .keep, .keep]), (160, 40, [.own 960, .own 961, .own 962, .own 963])], [(960, .arr 54 tT1), (961, .arr 3 (.int .i64)), (962, .arr 3 (.int .i64)), (963, .arr 4 (.bool))]⟩, [⟨.x 1, ⟨[(6, .one (.ptr 112 0)), (9, .one (.ptr 160 0))], [(112, 40, [.keep, .keep, .keep, .keep]), (160, 40, [.own 960, .own 961, .own 962, .own 963])], [(960, .arr 54 tT1), (961, .arr 3 (.int .i64)), (962, .arr 3 (.int .i64)), (963, .arr 4 (.bool))]⟩⟩])) .nil .nil) .nil)) .nil))))))))
  Tryz.func56 rfl (by kernel_rfl) rfl rfl rfl rfl types_ok ⟨⟨ok_ref26_Check, ok_ref26_shaped, ok_ref26_turn, ok_ref26_pump, ok_ref26_flow, ok_ref26_Copy, ok_ref23_Pass, trivial⟩, trivial⟩ mx (fun x => by kernel_rfl)

noncomputable def ref26_Run_L0 (n : List (List UInt8) × List yT0 × List (List UInt8 × Int × Int) × List (List UInt8 × Int × Int × Int × Int) × Int × Int) (l : List (Int × Int × Int × Int × Int × List (Int × Bool) × Int)) (i : Int) (d2 : List (Int × Int × Bool × Bool)) (d3 : List Int) (d4 : List Int) (d5 : List Bool) (v : List (Int × Int × Bool × Bool)) (v2 : List Int) (v3 : List Int) (v4 : List Bool) : Option ((Int × (List (Int × Int × Bool × Bool)) × List Int × List Int × List Bool × (List (Int × Int × Bool × Bool)) × List Int × List Int × List Bool) ⊕ (((List (Int × Int × Bool × Bool)) × List Int × List Int × List Bool × (List (Int × Int × Bool × Bool)) × List Int × List Int × List Bool) ⊕ (Int × Int × (List (Int × Int × Bool × Bool)) × List Int × List Int × List Bool))) :=
 bif decide (i < (l.length : Int)) then (
 gd (inB i l.length) <|
 (ref26_Apply (n.1, (n.2.1, (n.2.2.1, (n.2.2.2.1, (n.2.2.2.2.1, n.2.2.2.2.2))))) (d2, (d3, (d4, d5))) (l.getD i.toNat (0, (0, (0, (0, (0, ([], 0)))))))).bind fun r =>
 bif !decide (r.2 = 0) then (
 some (.inr (.inr (i, r.2, d2, d3, d4, d5))))
 else (
 some (.inl (wi64 (i + 1), r.1.1, r.1.2.1, r.1.2.2.1, r.1.2.2.2, v, v2, v3, v4))))
 else (
 some (.inr (.inl (d2, d3, d4, d5, v, v2, v3, v4))))

noncomputable def ref26_Run (n : List (List UInt8) × List yT0 × List (List UInt8 × Int × Int) × List (List UInt8 × Int × Int × Int × Int) × Int × Int) (d : List (Int × Int × Bool × Bool) × List Int × List Int × List Bool) (l : List (Int × Int × Int × Int × Int × List (Int × Bool) × Int)) : Option ((List (Int × Int × Bool × Bool) × List Int × List Int × List Bool) × Int × Int) :=
 bif decide (400 < (l.length : Int)) then (
 some ((d.1, (d.2.1, (d.2.2.1, d.2.2.2))), 0, 4))
 else (
 (iter (fun x => ref26_Run_L0 n l x.1 x.2.1 x.2.2.1 x.2.2.2.1 x.2.2.2.2.1 x.2.2.2.2.2.1 x.2.2.2.2.2.2.1 x.2.2.2.2.2.2.2.1 x.2.2.2.2.2.2.2.2) (0, d.1, d.2.1, d.2.2.1, d.2.2.2, [], [], [], [])).bind fun s =>
 s.elim (fun s2 =>
 some ((s2.1, (s2.2.1, (s2.2.2.1, s2.2.2.2.1))), (l.length : Int), 0))
 (fun s3 =>
 some ((s3.2.2.1, (s3.2.2.2.1, (s3.2.2.2.2.1, s3.2.2.2.2.2))), s3.1, s3.2.1)))

noncomputable def fn_ref26_Run : Fun :=
 ⟨55, 3, 3,
 ⟨[(0, .one (.data tT0)), (1, .one (.data (.pair (.sl tT1) tT4))), (2, .one (.data (.sl tT2)))], [], []⟩,
 ⟨[(0, .one (.data (.pair (.sl tT1) tT4))), (1, ii), (2, ii)], [], []⟩,
 fun x => ref26_Run x.1 x.2.1 x.2.2⟩
noncomputable def cx_ref26_Run : Cx := ⟨types, [], [fn_ref26_Apply], 41, []⟩
theorem ok_ref26_Run : FunOk Tryz.prog fn_ref26_Run :=
 FunOk.intro (C := cx_ref26_Run) (p := (nn (nn (mm (nn (mm (.mk [] (some (⟨[(2, kk), (3, .one (.ptr 64 0)), (4, .one (.ptr 80 0)), (6, .one (.ptr 112 0)), (9, ii)], [(64, 32, [.keep, .keep, .keep, .keep, .keep, .keep]), (80, 40, [.data (.sl tT1), .data (.sl (.int .i64)), .data (.sl (.int .i64)), .data (.sl (.bool))]), (112, 40, [.data (.sl tT1), .data (.sl (.int .i64)), .data (.sl (.int .i64)), .data (.sl (.bool))])], []⟩, [⟨.x 0, ⟨[(2, kk), (4, .one (.ptr 80 0)), (6, .one (.ptr 112 0))], [(80, 40, [.data (.sl tT1), .data (.sl (.int .i64)), .data (.sl (.int .i64)), .data (.sl (.bool))]), (112, 40, [.data (.sl tT1), .data (.sl (.int .i64)), .data (.sl (.int .i64)), .data (.sl (.bool))])], []⟩⟩, ⟨.r, ⟨[(6, .one (.ptr 112 0)), (7, ii), (8, ii)], [(112, 40, [.data (.sl tT1), .data (.sl (.int .i64)), .data (.sl (.int .i64)), .data (.sl (.bool))])], []⟩⟩])) .nil .nil) .nil)) .nil))))
  Tryz.func55 rfl (by kernel_rfl) rfl rfl rfl rfl types_ok ⟨⟨ok_ref26_Apply, trivial⟩, trivial⟩ mx (fun x => by kernel_rfl)

noncomputable def law26_agree_L0 (n : List (List UInt8) × List yT0 × List (List UInt8 × Int × Int) × List (List UInt8 × Int × Int × Int × Int) × Int × Int) (d : List (Int × Int × Bool × Bool) × List Int × List Int × List Bool) (l : List (Int × Int × Int × Int × Int × List (Int × Bool) × Int)) (m : Int) (a : List (Int × Int × Bool × Bool)) (a2 : List Int) (a3 : List Int) (a4 : List Bool) (b : List (Int × Int × Bool × Bool)) (b2 : List Int) (b3 : List Int) (b4 : List Bool) : Option ((Int × (List (Int × Int × Bool × Bool)) × List Int × List Int × List Bool × (List (Int × Int × Bool × Bool)) × List Int × List Int × List Bool) ⊕ (Unit ⊕ Bool)) :=
 bif decide (m < (l.length : Int)) then (
 gd (inB m l.length) <|
 (step_Apply (n.1, (n.2.1, (n.2.2.1, (n.2.2.2.1, (n.2.2.2.2.1, n.2.2.2.2.2))))) (d.1, (d.2.1, (d.2.2.1, d.2.2.2))) (l.getD m.toNat (0, (0, (0, (0, (0, ([], 0)))))))).bind fun r8 =>
 gd (inB m l.length) <|
 (ref26_Apply (n.1, (n.2.1, (n.2.2.1, (n.2.2.2.1, (n.2.2.2.2.1, n.2.2.2.2.2))))) (d.1, (d.2.1, (d.2.2.1, d.2.2.2))) (l.getD m.toNat (0, (0, (0, (0, (0, ([], 0)))))))).bind fun r9 =>
 Option.bind (α := Bool) (
 bif !decide (r8.2 = r9.2) then (
 some true)
 else (
 (ref26_Same (r8.1.1, (r8.1.2.1, (r8.1.2.2.1, r8.1.2.2.2))) (r9.1.1, (r9.1.2.1, (r9.1.2.2.1, r9.1.2.2.2)))).bind fun r10 =>
 some (!r10))) fun s3 =>
 bif s3 then (
 some (.inr (.inr false)))
 else (
 some (.inl (wi64 (m + 1), r8.1.1, r8.1.2.1, r8.1.2.2.1, r8.1.2.2.2, r9.1.1, r9.1.2.1, r9.1.2.2.1, r9.1.2.2.2))))
 else (
 some (.inr (.inl ())))

noncomputable def law26_agree (n : List (List UInt8) × List yT0 × List (List UInt8 × Int × Int) × List (List UInt8 × Int × Int × Int × Int) × Int × Int) (d : List (Int × Int × Bool × Bool) × List Int × List Int × List Bool) (l : List (Int × Int × Int × Int × Int × List (Int × Bool) × Int)) : Option (Bool) :=
 Option.bind (α := Bool) (
 (step_Check (n.1, (n.2.1, (n.2.2.1, (n.2.2.2.1, (n.2.2.2.2.1, n.2.2.2.2.2))))) (d.1, (d.2.1, (d.2.2.1, d.2.2.2)))).bind fun r =>
 (ref26_Check (n.1, (n.2.1, (n.2.2.1, (n.2.2.2.1, (n.2.2.2.2.1, n.2.2.2.2.2))))) (d.1, (d.2.1, (d.2.2.1, d.2.2.2)))).bind fun r2 =>
 bif !decide (r = r2) then (
 some true)
 else (
 (step_Ticks l).bind fun r3 =>
 (ref26_Ticks l).bind fun r4 =>
 some (!decide (r3 = r4)))) fun s =>
 bif s then (
 some false)
 else (
 (step_Run (n.1, (n.2.1, (n.2.2.1, (n.2.2.2.1, (n.2.2.2.2.1, n.2.2.2.2.2))))) (d.1, (d.2.1, (d.2.2.1, d.2.2.2))) l).bind fun r5 =>
 (ref26_Run (n.1, (n.2.1, (n.2.2.1, (n.2.2.2.1, (n.2.2.2.2.1, n.2.2.2.2.2))))) (d.1, (d.2.1, (d.2.2.1, d.2.2.2))) l).bind fun r6 =>
 Option.bind (α := Bool) (
 bif !decide (r5.2.2 = r6.2.2) then (
 some true)
 else (
 bif !decide (r5.2.1 = r6.2.1) then (
 some true)
 else (
 (ref26_Same (r5.1.1, (r5.1.2.1, (r5.1.2.2.1, r5.1.2.2.2))) (r6.1.1, (r6.1.2.1, (r6.1.2.2.1, r6.1.2.2.2)))).bind fun r7 =>
 some (!r7)))) fun s2 =>
 bif s2 then (
 some false)
 else (
 (iter (fun x => law26_agree_L0 n d l x.1 x.2.1 x.2.2.1 x.2.2.2.1 x.2.2.2.2.1 x.2.2.2.2.2.1 x.2.2.2.2.2.2.1 x.2.2.2.2.2.2.2.1 x.2.2.2.2.2.2.2.2) (0, r5.1.1, r5.1.2.1, r5.1.2.2.1, r5.1.2.2.2, r6.1.1, r6.1.2.1, r6.1.2.2.1, r6.1.2.2.2)).bind fun s4 =>
 s4.elim (fun s5 =>
 some true)
 (fun s6 =>
 some s6)))

noncomputable def fn_law26_agree : Fun :=
 ⟨23, 3, 1,
 ⟨[(0, .one (.data tT0)), (1, .one (.data (.pair (.sl tT1) tT4))), (2, .one (.data (.sl tT2)))], [], []⟩,
 ⟨[(0, bb)], [], []⟩,
 fun x => law26_agree x.1 x.2.1 x.2.2⟩
noncomputable def cx_law26_agree : Cx := ⟨types, [], [fn_step_Check, fn_ref26_Check, fn_step_Ticks, fn_ref26_Ticks, fn_step_Run, fn_ref26_Run, fn_ref26_Same, fn_step_Apply, fn_ref26_Apply], 93, []⟩
theorem ok_law26_agree : FunOk Tryz.prog fn_law26_agree :=
 FunOk.intro (C := cx_law26_agree) (p := (nn (mm (mm (.mk [.join [⟨.n, ⟨[(2, kk), (3, .one (.ptr 64 0)), (4, .one (.ptr 80 0)), (27, bb)], [(64, 32, [.keep, .keep, .keep, .keep, .keep, .keep]), (80, 40, [.keep, .keep, .keep, .keep])], []⟩⟩]] none .nil .nil) .nil) (nn (nn (mm (mm (.mk [.join [⟨.n, ⟨[(2, kk), (3, .one (.ptr 64 0)), (4, .one (.ptr 80 0)), (7, .one (.ptr 128 0)), (10, .one (.ptr 176 0)), (57, bb)], [(64, 32, [.keep, .keep, .keep, .keep, .keep, .keep]), (80, 40, [.keep, .keep, .keep, .keep]), (128, 40, [.keep, .keep, .keep, .keep]), (176, 40, [.keep, .keep, .keep, .keep])], []⟩⟩]] none .nil .nil) .nil) (mm (nn (mm (.mk [] (some (⟨[(2, kk), (3, .one (.ptr 64 0)), (4, .one (.ptr 80 0)), (7, .one (.ptr 128 0)), (10, .one (.ptr 176 0)), (13, ii)], [(64, 32, [.keep, .keep, .keep, .keep, .keep, .keep]), (80, 40, [.keep, .keep, .keep, .keep]), (128, 40, [.data (.sl tT1), .data (.sl (.int .i64)), .data (.sl (.int .i64)), .data (.sl (.bool))]), (176, 40, [.data (.sl tT1), .data (.sl (.int .i64)), .data (.sl (.int .i64)), .data (.sl (.bool))])], []⟩, [⟨.x 0, ⟨[], [], []⟩⟩, ⟨.r, ⟨[(6, bb)], [], []⟩⟩])) (nn (mm (mm (nn (nn (mm (.mk [.join [⟨.n, ⟨[(2, kk), (3, .one (.ptr 64 0)), (4, .one (.ptr 80 0)), (7, .one (.ptr 128 0)), (10, .one (.ptr 176 0)), (13, kk), (92, bb)], [(64, 32, [.keep, .keep, .keep, .keep, .keep, .keep]), (80, 40, [.keep, .keep, .keep, .keep]), (128, 40, [.keep, .keep, .keep, .keep]), (176, 40, [.keep, .keep, .keep, .keep])], []⟩⟩]] none .nil .nil) .nil))) .nil) .nil)) .nil) .nil)) .nil)))))))
  Tryz.func23 rfl (by kernel_rfl) rfl rfl rfl rfl types_ok ⟨⟨ok_step_Check, ok_ref26_Check, ok_step_Ticks, ok_ref26_Ticks, ok_step_Run, ok_ref26_Run, ok_ref26_Same, ok_step_Apply, ok_ref26_Apply, trivial⟩, trivial⟩ mx (fun x => by kernel_rfl)

noncomputable def law26_StepMade_L0 (r4 : (List (List UInt8) × List yT0 × List (List UInt8 × Int × Int) × List (List UInt8 × Int × Int × Int × Int) × Int × Int) × List Int × Int) (i : Int) (s2 : List Int) (s3 : Int) (x : List (Int × Int × Int × Int × Int × List (Int × Bool) × Int)) (d : List (Int × Int × Bool × Bool)) (d2 : List Int) (d3 : List Int) (d4 : List Bool) : Option ((Int × List Int × Int × (List (Int × Int × Int × Int × Int × List (Int × Bool) × Int)) × (List (Int × Int × Bool × Bool)) × List Int × List Int × List Bool) ⊕ (List Int × Int × (List (Int × Int × Int × Int × Int × List (Int × Bool) × Int)) × (List (Int × Int × Bool × Bool)) × List Int × List Int × List Bool)) :=
 bif decide (0 < i) then (
 (second_Step (r4.1.1, (r4.1.2.1, (r4.1.2.2.1, (r4.1.2.2.2.1, (r4.1.2.2.2.2.1, r4.1.2.2.2.2.2))))) s2 s3 d d2 d3 d4).bind fun r10 =>
 gd (fits (x.length + 1) 72) <|
 some (.inl (wi64 (i - 1), r10.2.1, r10.2.2.1, x ++ [(r10.1.1, (r10.1.2.1, (r10.1.2.2.1, (r10.1.2.2.2.1, (r10.1.2.2.2.2.1, (r10.1.2.2.2.2.2.1, r10.1.2.2.2.2.2.2))))))], r10.2.2.2.1, r10.2.2.2.2.1, r10.2.2.2.2.2.1, r10.2.2.2.2.2.2)))
 else (
 some (.inr (s2, s3, x, d, d2, d3, d4)))

noncomputable def law26_StepMade (l : List Int) (odd : Int) (travel : Int) : Option (Bool) :=
 (second_Few l).bind fun r =>
 bif !r then (
 (law26_awake).bind fun r2 =>
 some r2)
 else (
 (keep_New l).bind fun r3 =>
 (keep_Src_Network r3.1 r3.2).bind fun r4 =>
 (second_Plan (r4.1.1, (r4.1.2.1, (r4.1.2.2.1, (r4.1.2.2.2.1, (r4.1.2.2.2.2.1, r4.1.2.2.2.2.2))))) r4.2.1 r4.2.2).bind fun r5 =>
 (second_Desk (r4.1.1, (r4.1.2.1, (r4.1.2.2.1, (r4.1.2.2.2.1, (r4.1.2.2.2.2.1, r4.1.2.2.2.2.2))))) (r5.1.1, (r5.1.2.1, r5.1.2.2)) r5.2.1 r5.2.2).bind fun r6 =>
 (keep_Src_N 3 r6.1 r6.2.1).bind fun r7 =>
 Option.bind (α := List Int × Int × (List (Int × Int × Bool × Bool)) × List Int × List Int × List Bool) (
 bif decide (r7.1 = 0) then (
 (second_Opened (r4.1.1, (r4.1.2.1, (r4.1.2.2.1, (r4.1.2.2.2.1, (r4.1.2.2.2.2.1, r4.1.2.2.2.2.2))))) (r5.1.1, (r5.1.2.1, r5.1.2.2)) r7.2.1 r7.2.2).bind fun r8 =>
 some (r8.1, r8.2.1, r8.2.2.1, r8.2.2.2.1, r8.2.2.2.2.1, r8.2.2.2.2.2))
 else (
 some (r7.2.1, r7.2.2, r6.2.2.1, r6.2.2.2.1, r6.2.2.2.2.1, r6.2.2.2.2.2))) fun s =>
 (keep_Src_N 12 s.1 s.2.1).bind fun r9 =>
 (iter (fun x2 => law26_StepMade_L0 r4 x2.1 x2.2.1 x2.2.2.1 x2.2.2.2.1 x2.2.2.2.2.1 x2.2.2.2.2.2.1 x2.2.2.2.2.2.2.1 x2.2.2.2.2.2.2.2) (r9.1, r9.2.1, r9.2.2, [], s.2.2.1, s.2.2.2.1, s.2.2.2.2.1, s.2.2.2.2.2)).bind fun s4 =>
 (second_Mod odd 14).bind fun r11 =>
 Option.bind (α := List (List UInt8) × (List yT0) × (List (List UInt8 × Int × Int)) × (List (List UInt8 × Int × Int × Int × Int)) × Int × Int × (List (Int × Int × Bool × Bool)) × List Int × List Int × List Bool × List (Int × Int × Int × Int × Int × List (Int × Bool) × Int)) (
 bif decide (r11 = 0) then (
 (keep_Src_Wrong (r4.1.1, (r4.1.2.1, (r4.1.2.2.1, (r4.1.2.2.2.1, (r4.1.2.2.2.2.1, r4.1.2.2.2.2.2))))) s4.1 s4.2.1).bind fun r12 =>
 some (r12.1.1, r12.1.2.1, r12.1.2.2.1, r12.1.2.2.2.1, r12.1.2.2.2.2.1, r12.1.2.2.2.2.2, s4.2.2.2.1, s4.2.2.2.2.1, s4.2.2.2.2.2.1, s4.2.2.2.2.2.2, s4.2.2.1))
 else (
 Option.bind (α := (List (Int × Int × Bool × Bool)) × List Int × List Int × List Bool × List (Int × Int × Int × Int × Int × List (Int × Bool) × Int)) (
 bif decide (r11 = 1) then (
 (keep_Src_Off (s4.2.2.2.2.1, (s4.2.2.2.2.2.1, s4.2.2.2.2.2.2)) s4.1 s4.2.1).bind fun r13 =>
 some (s4.2.2.2.1, r13.1.1, r13.1.2.1, r13.1.2.2, s4.2.2.1))
 else (
 Option.bind (α := (List (Int × Int × Bool × Bool)) × List Int × List Int × List Bool × List (Int × Int × Int × Int × Int × List (Int × Bool) × Int)) (
 bif decide (r11 = 2) then (
 (keep_Src_N (s4.2.2.2.1.length : Int) s4.1 s4.2.1).bind fun r14 =>
 (keep_Src_N 3 r14.2.1 r14.2.2).bind fun r15 =>
 gd (inB r14.1 s4.2.2.2.1.length) <|
 some (s4.2.2.2.1.set r14.1.toNat ((s4.2.2.2.1.getD r14.1.toNat (0, (0, (false, false)))).1, (wi64 (r15.1 - 1), ((s4.2.2.2.1.getD r14.1.toNat (0, (0, (false, false)))).2).2)), s4.2.2.2.2.1, s4.2.2.2.2.2.1, s4.2.2.2.2.2.2, s4.2.2.1))
 else (
 Option.bind (α := (List (Int × Int × Bool × Bool)) × List Int × List Int × List Bool × List (Int × Int × Int × Int × Int × List (Int × Bool) × Int)) (
 bif decide (r11 = 3) then (
 (keep_Src_N (s4.2.2.2.1.length : Int) s4.1 s4.2.1).bind fun r16 =>
 gd (inB r16.1 s4.2.2.2.1.length) <|
 gd (inB r16.1 s4.2.2.2.1.length) <|
 some (s4.2.2.2.1.set r16.1.toNat ((s4.2.2.2.1.getD r16.1.toNat (0, (0, (false, false)))).1, (((s4.2.2.2.1.getD r16.1.toNat (0, (0, (false, false)))).2).1, ((!((((s4.2.2.2.1.getD r16.1.toNat (0, (0, (false, false)))).2).2).1)), (((s4.2.2.2.1.getD r16.1.toNat (0, (0, (false, false)))).2).2).2))), s4.2.2.2.2.1, s4.2.2.2.2.2.1, s4.2.2.2.2.2.2, s4.2.2.1))
 else (
 Option.bind (α := (List (Int × Int × Bool × Bool)) × List Int × List Int × List Bool × List (Int × Int × Int × Int × Int × List (Int × Bool) × Int)) (
 bif decide (r11 = 4) then (
 gd (cutG (some (.i64, 1)) none s4.2.2.2.1.length) <|
 some (s4.2.2.2.1.drop 1, s4.2.2.2.2.1, s4.2.2.2.2.2.1, s4.2.2.2.2.2.2, s4.2.2.1))
 else (
 Option.bind (α := (List (Int × Int × Int × Int × Int × List (Int × Bool) × Int)) × (List (Int × Int × Bool × Bool)) × List Int × List Int × List Bool) (
 bif decide (r11 = 5) then (
 Option.bind (α := (List (Int × Int × Int × Int × Int × List (Int × Bool) × Int)) × (List (Int × Int × Bool × Bool)) × List Int × List Int × List Bool) (
 bif decide (0 < (s4.2.2.2.2.2.2.length : Int)) then (
 gd (inB 0 s4.2.2.2.2.2.2.length) <|
 gd (inB 0 s4.2.2.2.2.2.2.length) <|
 some (s4.2.2.1, s4.2.2.2.1, s4.2.2.2.2.1, s4.2.2.2.2.2.1, s4.2.2.2.2.2.2.set 0 (!(s4.2.2.2.2.2.2.getD 0 false))))
 else (
 some (s4.2.2.1, s4.2.2.2.1, s4.2.2.2.2.1, s4.2.2.2.2.2.1, s4.2.2.2.2.2.2))) fun s5 =>
 some (s5.1, s5.2.1, s5.2.2.1, s5.2.2.2.1, s5.2.2.2.2))
 else (
 Option.bind (α := (List (Int × Int × Int × Int × Int × List (Int × Bool) × Int)) × (List (Int × Int × Bool × Bool)) × List Int × List Int × List Bool) (
 bif decide (r11 = 6) then (
 Option.bind (α := (List (Int × Int × Int × Int × Int × List (Int × Bool) × Int)) × (List (Int × Int × Bool × Bool)) × List Int × List Int × List Bool) (
 bif decide (0 < (s4.2.2.1.length : Int)) then (
 gd (inB 0 s4.2.2.1.length) <|
 some (s4.2.2.1.set 0 ((s4.2.2.1.getD 0 (0, (0, (0, (0, (0, ([], 0))))))).1, (((s4.2.2.1.getD 0 (0, (0, (0, (0, (0, ([], 0))))))).2).1, (travel, (((s4.2.2.1.getD 0 (0, (0, (0, (0, (0, ([], 0))))))).2).2).2))), s4.2.2.2.1, s4.2.2.2.2.1, s4.2.2.2.2.2.1, s4.2.2.2.2.2.2))
 else (
 some (s4.2.2.1, s4.2.2.2.1, s4.2.2.2.2.1, s4.2.2.2.2.2.1, s4.2.2.2.2.2.2))) fun s6 =>
 some (s6.1, s6.2.1, s6.2.2.1, s6.2.2.2.1, s6.2.2.2.2))
 else (
 Option.bind (α := (List (Int × Int × Int × Int × Int × List (Int × Bool) × Int)) × (List (Int × Int × Bool × Bool)) × List Int × List Int × List Bool) (
 bif decide (r11 = 7) then (
 Option.bind (α := (List (Int × Int × Int × Int × Int × List (Int × Bool) × Int)) × (List (Int × Int × Bool × Bool)) × List Int × List Int × List Bool) (
 bif decide (0 < (s4.2.2.1.length : Int)) then (
 gd (inB 0 s4.2.2.1.length) <|
 some (s4.2.2.1.set 0 ((s4.2.2.1.getD 0 (0, (0, (0, (0, (0, ([], 0))))))).1, (travel, ((s4.2.2.1.getD 0 (0, (0, (0, (0, (0, ([], 0))))))).2).2)), s4.2.2.2.1, s4.2.2.2.2.1, s4.2.2.2.2.2.1, s4.2.2.2.2.2.2))
 else (
 some (s4.2.2.1, s4.2.2.2.1, s4.2.2.2.2.1, s4.2.2.2.2.2.1, s4.2.2.2.2.2.2))) fun s7 =>
 some (s7.1, s7.2.1, s7.2.2.1, s7.2.2.2.1, s7.2.2.2.2))
 else (
 some (s4.2.2.1, s4.2.2.2.1, s4.2.2.2.2.1, s4.2.2.2.2.2.1, s4.2.2.2.2.2.2))) fun s8 =>
 some (s8.1, s8.2.1, s8.2.2.1, s8.2.2.2.1, s8.2.2.2.2))) fun s9 =>
 some (s9.1, s9.2.1, s9.2.2.1, s9.2.2.2.1, s9.2.2.2.2))) fun s10 =>
 some (s10.2.1, s10.2.2.1, s10.2.2.2.1, s10.2.2.2.2, s10.1))) fun s11 =>
 some (s11.1, s11.2.1, s11.2.2.1, s11.2.2.2.1, s11.2.2.2.2))) fun s12 =>
 some (s12.1, s12.2.1, s12.2.2.1, s12.2.2.2.1, s12.2.2.2.2))) fun s13 =>
 some (s13.1, s13.2.1, s13.2.2.1, s13.2.2.2.1, s13.2.2.2.2))) fun s14 =>
 some (r4.1.1, r4.1.2.1, r4.1.2.2.1, r4.1.2.2.2.1, r4.1.2.2.2.2.1, r4.1.2.2.2.2.2, s14.1, s14.2.1, s14.2.2.1, s14.2.2.2.1, s14.2.2.2.2))) fun s15 =>
 (second_Mod travel 64).bind fun r17 =>
 (step_Idle (s15.1, (s15.2.1, (s15.2.2.1, (s15.2.2.2.1, (s15.2.2.2.2.1, s15.2.2.2.2.2.1))))) (wi64 (r17 - 1))).bind fun r18 =>
 (second_Mod travel 64).bind fun r19 =>
 (ref26_Idle (s15.1, (s15.2.1, (s15.2.2.1, (s15.2.2.2.1, (s15.2.2.2.2.1, s15.2.2.2.2.2.1))))) (wi64 (r19 - 1))).bind fun r20 =>
 bif decide (r18.2 = r20.2) then (
 (ref26_Same (r18.1.1, (r18.1.2.1, (r18.1.2.2.1, r18.1.2.2.2))) (r20.1.1, (r20.1.2.1, (r20.1.2.2.1, r20.1.2.2.2)))).bind fun r21 =>
 bif r21 then (
 (law26_agree (s15.1, (s15.2.1, (s15.2.2.1, (s15.2.2.2.1, (s15.2.2.2.2.1, s15.2.2.2.2.2.1))))) (s15.2.2.2.2.2.2.1, (s15.2.2.2.2.2.2.2.1, (s15.2.2.2.2.2.2.2.2.1, s15.2.2.2.2.2.2.2.2.2.1))) s15.2.2.2.2.2.2.2.2.2.2).bind fun r22 =>
 bif r22 then (
 (law26_awake).bind fun r23 =>
 some r23)
 else (
 some false))
 else (
 some false))
 else (
 some false))

noncomputable def fn_law26_StepMade : Fun :=
 ⟨3, 3, 1,
 ⟨[(0, .one (.data (.sl (.int .i64)))), (1, ii), (2, ii)], [], []⟩,
 ⟨[(0, bb)], [], []⟩,
 fun x => law26_StepMade x.1 x.2.1 x.2.2⟩
noncomputable def cx_law26_StepMade : Cx := ⟨types, [], [fn_second_Few, fn_law26_awake, fn_keep_New, fn_keep_Src_Network, fn_second_Plan, fn_second_Desk, fn_keep_Src_N, fn_second_Opened, fn_second_Step, fn_second_Mod, fn_keep_Src_Wrong, fn_keep_Src_Off, fn_step_Idle, fn_ref26_Idle, fn_ref26_Same, fn_law26_agree], 174, []⟩
theorem ok_law26_StepMade : FunOk Tryz.prog fn_law26_StepMade :=
 FunOk.intro (C := cx_law26_StepMade) (p := (nn (nn (nn (nn (nn (nn (mm (nn (.mk [.join [⟨.n, ⟨[(1, kk), (2, kk), (7, .one (.ptr 384 0)), (8, .one (.ptr 144 0)), (10, .one (.ptr 176 0))], [(384, 80, [.data (.sl (.int .i64)), .data (.int .i64)]), (144, 32, [.keep, .keep, .keep, .keep, .keep, .keep]), (176, 40, [.own 2841, .own 2857, .own 2873, .own 2889])], [(2841, .arr 54 tT1), (2857, .arr 3 (.int .i64)), (2873, .arr 3 (.int .i64)), (2889, .arr 4 (.bool))]⟩⟩]] none .nil .nil)) (nn (mm (nn (mm (.mk [] (some (⟨[(1, kk), (2, kk), (7, .one (.ptr 384 0)), (8, .one (.ptr 144 0)), (10, .one (.ptr 176 0)), (11, .one (.own 203)), (12, ii)], [(384, 80, [.data (.sl (.int .i64)), .data (.int .i64)]), (144, 32, [.keep, .keep, .keep, .keep, .keep, .keep]), (176, 40, [.own 2841, .own 2857, .own 2873, .own 2889])], [(203, .arr 48 tT2), (2841, .arr 54 tT1), (2857, .arr 3 (.int .i64)), (2873, .arr 3 (.int .i64)), (2889, .arr 4 (.bool))]⟩, [⟨.x 0, ⟨[(1, kk), (2, kk), (7, .one (.ptr 384 0)), (8, .one (.ptr 144 0)), (10, .one (.ptr 176 0)), (11, .one (.own 203))], [(384, 80, [.data (.sl (.int .i64)), .data (.int .i64)]), (144, 32, [.keep, .keep, .keep, .keep, .keep, .keep]), (176, 40, [.own 2841, .own 2857, .own 2873, .own 2889])], [(203, .arr 48 tT2), (2841, .arr 54 tT1), (2857, .arr 3 (.int .i64)), (2873, .arr 3 (.int .i64)), (2889, .arr 4 (.bool))]⟩⟩])) .nil .nil) .nil)) (mm (nn (mm (nn (.mk [.join [⟨.n, ⟨[(2, kk), (8, .one (.ptr 144 0)), (10, .one (.ptr 176 0)), (11, .one (.own 203))], [(144, 32, [.data (.sl (.str)), .data (.sl (.pair (.str) tT3)), .data (.sl (.pair (.str) (.pair (.int .i64) (.int .i64)))), .data (.sl (.pair (.str) (.pair (.int .i64) (.pair (.int .i64) (.pair (.int .i64) (.int .i64)))))), .data (.int .i64), .data (.int .i64)]), (176, 40, [.data (.sl tT1), .data (.sl (.int .i64)), .data (.sl (.int .i64)), .data (.sl (.bool))])], [(203, .arr 48 tT2)]⟩⟩]] none .nil (nn (.mk [.join [⟨.n, ⟨[(2, kk), (8, .one (.ptr 144 0)), (10, .one (.ptr 176 0)), (11, .one (.own 203))], [(144, 32, [.keep, .keep, .keep, .keep, .keep, .keep]), (176, 40, [.data (.sl tT1), .data (.sl (.int .i64)), .data (.sl (.int .i64)), .data (.sl (.bool))])], [(203, .arr 48 tT2)]⟩⟩]] none (.mk [.fz [10]] none .nil .nil) (nn (.mk [.join [⟨.n, ⟨[(2, kk), (8, .one (.ptr 144 0)), (10, .one (.ptr 176 0)), (11, .one (.own 203))], [(144, 32, [.keep, .keep, .keep, .keep, .keep, .keep]), (176, 40, [.data (.sl tT1), .data (.sl (.int .i64)), .data (.sl (.int .i64)), .data (.sl (.bool))])], [(203, .arr 48 tT2)]⟩⟩]] none .nil (nn (.mk [.join [⟨.n, ⟨[(2, kk), (8, .one (.ptr 144 0)), (10, .one (.ptr 176 0)), (11, .one (.own 203))], [(144, 32, [.keep, .keep, .keep, .keep, .keep, .keep]), (176, 40, [.data (.sl tT1), .data (.sl (.int .i64)), .data (.sl (.int .i64)), .data (.sl (.bool))])], [(203, .arr 48 tT2)]⟩⟩]] none .nil (nn (.mk [.join [⟨.n, ⟨[(2, kk), (8, .one (.ptr 144 0)), (10, .one (.ptr 176 0)), (11, .one (.own 203))], [(144, 32, [.keep, .keep, .keep, .keep, .keep, .keep]), (176, 40, [.data (.sl tT1), .data (.sl (.int .i64)), .data (.sl (.int .i64)), .data (.sl (.bool))])], [(203, .arr 48 tT2)]⟩⟩]] none (.mk [.fz [10]] none .nil .nil) (nn (.mk [.join [⟨.n, ⟨[(2, kk), (8, .one (.ptr 144 0)), (10, .one (.ptr 176 0)), (11, .one (.own 203))], [(144, 32, [.keep, .keep, .keep, .keep, .keep, .keep]), (176, 40, [.own 2841, .own 2857, .own 2873, .own 2889])], [(203, .arr 48 tT2), (2841, .arr 54 tT1), (2857, .arr 3 (.int .i64)), (2873, .arr 3 (.int .i64)), (2889, .arr 4 (.bool))]⟩⟩]] none (nn (.mk [.join [⟨.n, ⟨[(2, kk), (8, .one (.ptr 144 0)), (10, .one (.ptr 176 0)), (11, .one (.own 203))], [(144, 32, [.keep, .keep, .keep, .keep, .keep, .keep]), (176, 40, [.own 2841, .own 2857, .own 2873, .own 2889])], [(203, .arr 48 tT2), (2841, .arr 54 tT1), (2857, .arr 3 (.int .i64)), (2873, .arr 3 (.int .i64)), (2889, .arr 4 (.bool))]⟩⟩]] none .nil .nil)) (nn (.mk [.join [⟨.n, ⟨[(2, kk), (8, .one (.ptr 144 0)), (10, .one (.ptr 176 0)), (11, .one (.own 203))], [(144, 32, [.keep, .keep, .keep, .keep, .keep, .keep]), (176, 40, [.own 2841, .own 2857, .own 2873, .own 2889])], [(203, .arr 48 tT2), (2841, .arr 54 tT1), (2857, .arr 3 (.int .i64)), (2873, .arr 3 (.int .i64)), (2889, .arr 4 (.bool))]⟩⟩]] none (nn (.mk [.join [⟨.n, ⟨[(2, kk), (8, .one (.ptr 144 0)), (10, .one (.ptr 176 0)), (11, .one (.own 203))], [(144, 32, [.keep, .keep, .keep, .keep, .keep, .keep]), (176, 40, [.own 2841, .own 2857, .own 2873, .own 2889])], [(203, .arr 48 tT2), (2841, .arr 54 tT1), (2857, .arr 3 (.int .i64)), (2873, .arr 3 (.int .i64)), (2889, .arr 4 (.bool))]⟩⟩]] none .nil .nil)) (nn (.mk [.join [⟨.n, ⟨[(2, kk), (8, .one (.ptr 144 0)), (10, .one (.ptr 176 0)), (11, .one (.own 203))], [(144, 32, [.keep, .keep, .keep, .keep, .keep, .keep]), (176, 40, [.own 2841, .own 2857, .own 2873, .own 2889])], [(203, .arr 48 tT2), (2841, .arr 54 tT1), (2857, .arr 3 (.int .i64)), (2873, .arr 3 (.int .i64)), (2889, .arr 4 (.bool))]⟩⟩]] none (nn (.mk [.join [⟨.n, ⟨[(2, kk), (8, .one (.ptr 144 0)), (10, .one (.ptr 176 0)), (11, .one (.own 203))], [(144, 32, [.keep, .keep, .keep, .keep, .keep, .keep]), (176, 40, [.own 2841, .own 2857, .own 2873, .own 2889])], [(203, .arr 48 tT2), (2841, .arr 54 tT1), (2857, .arr 3 (.int .i64)), (2873, .arr 3 (.int .i64)), (2889, .arr 4 (.bool))]⟩⟩]] none .nil .nil)) .nil)))))))))))))))) .nil)) .nil)))))))))))
  Tryz.func3 rfl (by kernel_rfl) rfl rfl rfl rfl types_ok ⟨⟨ok_second_Few, ok_law26_awake, ok_keep_New, ok_keep_Src_Network, ok_second_Plan, ok_second_Desk, ok_keep_Src_N, ok_second_Opened, ok_second_Step, ok_second_Mod, ok_keep_Src_Wrong, ok_keep_Src_Off, ok_step_Idle, ok_ref26_Idle, ok_ref26_Same, ok_law26_agree, trivial⟩, trivial⟩ mx (fun x => by kernel_rfl)


end Go.Proofs.YtbljipjemhbooaaGreat
