/- Functions, evaluated. No condition. -/
import Derived.Test.YtiojagjejddocaaGreatDoorProg
import Derived.Test.YtiojagjejddocaaGreatDoorQu
namespace Go.Proofs.YtiojagjejddocaaGreatDoor
open Go Go.Sq
noncomputable def ref12_proper_L0 (s : List UInt8 × Int × Int × Int × Int × Int × List (Int × Int × Int)) (v : Int) : Option (Int ⊕ (Unit ⊕ Bool)) :=
 bif decide (v < (s.2.2.2.2.2.2.length : Int)) then (
 gd (inB v s.2.2.2.2.2.2.length) <|
 Option.bind (α := Bool) (
 bif decide (0 < v) then (
 gd (inB (wi64 (v - 1)) s.2.2.2.2.2.2.length) <|
 bif decide ((s.2.2.2.2.2.2.getD v.toNat (0, (0, 0))).1 ≤ (s.2.2.2.2.2.2.getD (wi64 (v - 1)).toNat (0, (0, 0))).1) then (
 some true)
 else (
 (ref12_in (((s.2.2.2.2.2.2.getD v.toNat (0, (0, 0))).2).1) (-500) 5000).bind fun r4 =>
 bif !r4 then (
 some true)
 else (
 (ref12_in (((s.2.2.2.2.2.2.getD v.toNat (0, (0, 0))).2).2) 0 100000000).bind fun r5 =>
 some (!r5))))
 else (
 (ref12_in (((s.2.2.2.2.2.2.getD v.toNat (0, (0, 0))).2).1) (-500) 5000).bind fun r6 =>
 bif !r6 then (
 some true)
 else (
 (ref12_in (((s.2.2.2.2.2.2.getD v.toNat (0, (0, 0))).2).2) 0 100000000).bind fun r7 =>
 some (!r7)))) fun s3 =>
 bif s3 then (
 some (.inr (.inr false)))
 else (
 some (.inl (wi64 (v + 1)))))
 else (
 some (.inr (.inl ())))

noncomputable def ref12_proper (s : List UInt8 × Int × Int × Int × Int × Int × List (Int × Int × Int)) : Option (Bool) :=
 Option.bind (α := Bool) (
 bif decide (s.2.1 = s.2.2.1) then (
 some true)
 else (
 (ref12_in s.2.2.2.1 1 1000000).bind fun r =>
 bif !r then (
 some true)
 else (
 (ref12_in s.2.2.2.2.1 0 1000).bind fun r2 =>
 bif !r2 then (
 some true)
 else (
 (ref12_in s.2.2.2.2.2.1 0 100000).bind fun r3 =>
 bif !r3 then (
 some true)
 else (
 gd (inB 0 s.2.2.2.2.2.2.length) <|
 bif !decide ((s.2.2.2.2.2.2.getD 0 (0, (0, 0))).1 = 0) then (
 some true)
 else (
 gd (inB (wi64 ((s.2.2.2.2.2.2.length : Int) - 1)) s.2.2.2.2.2.2.length) <|
 some (!decide ((s.2.2.2.2.2.2.getD (wi64 ((s.2.2.2.2.2.2.length : Int) - 1)).toNat (0, (0, 0))).1 = s.2.2.2.1)))))))) fun s2 =>
 bif s2 then (
 some false)
 else (
 (iter (fun x => ref12_proper_L0 s x) 0).bind fun s4 =>
 s4.elim (fun s5 =>
 some true)
 (fun s6 =>
 some s6))

noncomputable def fn_ref12_proper : Fun :=
 ⟨90, 1, 1,
 ⟨[(0, .one (.data (.pair (.str) (.pair (.int .i64) (.pair (.int .i64) (.pair (.int .i64) (.pair (.int .i64) (.pair (.int .i64) (.sl (.pair (.int .i64) tT1))))))))))], [], []⟩,
 ⟨[(0, bb)], [], []⟩,
 fun x => ref12_proper x⟩
noncomputable def cx_ref12_proper : Cx := ⟨types, [], [fn_ref12_in], 85, []⟩
theorem ok_ref12_proper : FunOk Tryz.prog fn_ref12_proper :=
 FunOk.intro (C := cx_ref12_proper) (p := (nn (mm (mm (.mk [.join [⟨.n, ⟨[(1, .one (.ptr 32 0)), (49, bb)], [(32, 72, [.keep, .keep, .keep, .keep, .keep, .keep, .keep])], []⟩⟩]] none .nil .nil) .nil) (mm (nn (mm (.mk [] (some (⟨[(1, .one (.ptr 32 0)), (51, kk), (52, kk), (53, ii)], [(32, 72, [.keep, .keep, .keep, .keep, .keep, .keep, .keep])], []⟩, [⟨.x 0, ⟨[], [], []⟩⟩, ⟨.r, ⟨[(2, bb)], [], []⟩⟩])) (nn (nn (mm (mm (nn (mm (.mk [.join [⟨.n, ⟨[(1, .one (.ptr 32 0)), (51, kk), (52, kk), (53, kk), (83, bb)], [(32, 72, [.keep, .keep, .keep, .keep, .keep, .keep, .keep])], []⟩⟩]] none .nil .nil) .nil)) .nil) .nil))) .nil) .nil)) .nil))))
  Tryz.func90 rfl (by kernel_rfl) rfl rfl rfl rfl types_ok ⟨⟨ok_ref12_in, trivial⟩, trivial⟩ mx (fun x => by kernel_rfl)

noncomputable def ref12_Check_L0 (n : List (List UInt8) × List yT1 × List (List UInt8 × Int × Int) × List (List UInt8 × Int × Int × Int × Int) × Int × Int) (v : Int) : Option (Int ⊕ (Unit ⊕ Int)) :=
 bif decide (v < (n.2.1.length : Int)) then (
 gd (inB v n.2.1.length) <|
 (ref12_in ((((((((n.2.1.getD v.toNat ([], (0, (0, (0, (0, (0, []))))))).2).2).2).2).2).2).length : Int) 2 8).bind fun r2 =>
 bif !r2 then (
 some (.inr (.inr 4)))
 else (
 some (.inl (wi64 (v + 1)))))
 else (
 some (.inr (.inl ())))

noncomputable def ref12_Check_L2 (v2 : List (List UInt8)) (v3 : List (List UInt8)) (v4 : List (List UInt8)) (v5 : List (List UInt8)) (v6 : Int) (v7 : List (List UInt8)) (v8 : List (List UInt8)) (v9 : List (List UInt8)) (v10 : List (List UInt8)) (v11 : Int) : Option ((List (List UInt8) × List (List UInt8) × List (List UInt8) × List (List UInt8) × Int) ⊕ ((List (List UInt8) × List (List UInt8) × List (List UInt8) × List (List UInt8)) ⊕ Int)) :=
 bif decide (v11 < (([v2, v3, v4, v5].getD v6.toNat []).length : Int)) then (
 gd (inB v11 ([v2, v3, v4, v5].getD v6.toNat []).length) <|
 (ref03_Name (([v2, v3, v4, v5].getD v6.toNat []).getD v11.toNat [])).bind fun r4 =>
 bif !r4 then (
 some (.inr (.inr 3)))
 else (
 some (.inl (v7, v8, v9, v10, wi64 (v11 + 1)))))
 else (
 some (.inr (.inl (v7, v8, v9, v10))))

noncomputable def ref12_Check_L1 (v2 : List (List UInt8)) (v3 : List (List UInt8)) (v4 : List (List UInt8)) (v5 : List (List UInt8)) (v6 : Int) : Option ((List (List UInt8) × List (List UInt8) × List (List UInt8) × List (List UInt8) × Int) ⊕ (Unit ⊕ Int)) :=
 bif decide (v6 < 4) then (
 gd (inB v6 4) <|
 (iter (fun x2 => ref12_Check_L2 v2 v3 v4 v5 v6 x2.1 x2.2.1 x2.2.2.1 x2.2.2.2.1 x2.2.2.2.2) (v2, v3, v4, v5, 0)).bind fun s5 =>
 s5.elim (fun s6 =>
 some (.inl (s6.1, s6.2.1, s6.2.2.1, s6.2.2.2, wi64 (v6 + 1))))
 (fun s7 =>
 some (.inr (.inr s7))))
 else (
 some (.inr (.inl ())))

noncomputable def ref12_Check_L3 (v12 : List (List UInt8)) (v13 : List (List UInt8)) (v14 : List (List UInt8)) (v15 : List (List UInt8)) (v16 : Int) : Option ((List (List UInt8) × List (List UInt8) × List (List UInt8) × List (List UInt8) × Int) ⊕ (Unit ⊕ Int)) :=
 bif decide (v16 < 4) then (
 gd (inB v16 4) <|
 (ref12_twice ([v12, v13, v14, v15].getD v16.toNat [])).bind fun r5 =>
 bif r5 then (
 some (.inr (.inr 7)))
 else (
 some (.inl (v12, v13, v14, v15, wi64 (v16 + 1)))))
 else (
 some (.inr (.inl ())))

noncomputable def ref12_Check_L5 (n : List (List UInt8) × List yT1 × List (List UInt8 × Int × Int) × List (List UInt8 × Int × Int × Int × Int) × Int × Int) (v17 : Int) (k : Int) : Option (Int ⊕ (Unit ⊕ Int)) :=
 bif decide (k < v17) then (
 gd (inB v17 n.2.2.2.1.length) <|
 gd (inB k n.2.2.2.1.length) <|
 bif decide (((n.2.2.2.1.getD v17.toNat ([], (0, (0, (0, 0))))).2).1 = ((n.2.2.2.1.getD k.toNat ([], (0, (0, (0, 0))))).2).1) then (
 some (.inr (.inr 7)))
 else (
 some (.inl (wi64 (k + 1)))))
 else (
 some (.inr (.inl ())))

noncomputable def ref12_Check_L4 (n : List (List UInt8) × List yT1 × List (List UInt8 × Int × Int) × List (List UInt8 × Int × Int × Int × Int) × Int × Int) (v17 : Int) : Option (Int ⊕ (Unit ⊕ Int)) :=
 bif decide (v17 < (n.2.2.2.1.length : Int)) then (
 (iter (fun x5 => ref12_Check_L5 n v17 x5) 0).bind fun s14 =>
 s14.elim (fun s15 =>
 some (.inl (wi64 (v17 + 1))))
 (fun s16 =>
 some (.inr (.inr s16))))
 else (
 some (.inr (.inl ())))

noncomputable def ref12_Check_L6 (n : List (List UInt8) × List yT1 × List (List UInt8 × Int × Int) × List (List UInt8 × Int × Int × Int × Int) × Int × Int) (v18 : Int) : Option (Int ⊕ (Unit ⊕ Int)) :=
 bif decide (v18 < (n.2.1.length : Int)) then (
 gd (inB v18 n.2.1.length) <|
 Option.bind (α := Bool) (
 (ref12_in (((n.2.1.getD v18.toNat ([], (0, (0, (0, (0, (0, []))))))).2).1) 0 (wi64 ((n.1.length : Int) - 1))).bind fun r6 =>
 bif !r6 then (
 some true)
 else (
 (ref12_in ((((n.2.1.getD v18.toNat ([], (0, (0, (0, (0, (0, []))))))).2).2).1) 0 (wi64 ((n.1.length : Int) - 1))).bind fun r7 =>
 some (!r7))) fun s20 =>
 bif s20 then (
 some (.inr (.inr 8)))
 else (
 some (.inl (wi64 (v18 + 1)))))
 else (
 some (.inr (.inl ())))

noncomputable def ref12_Check_L7 (n : List (List UInt8) × List yT1 × List (List UInt8 × Int × Int) × List (List UInt8 × Int × Int × Int × Int) × Int × Int) (v19 : Int) : Option (Int ⊕ (Unit ⊕ Int)) :=
 bif decide (v19 < (n.2.2.1.length : Int)) then (
 gd (inB v19 n.2.2.1.length) <|
 (ref12_in (((n.2.2.1.getD v19.toNat ([], (0, 0))).2).1) 0 (wi64 ((n.1.length : Int) - 1))).bind fun r8 =>
 bif !r8 then (
 some (.inr (.inr 8)))
 else (
 some (.inl (wi64 (v19 + 1)))))
 else (
 some (.inr (.inl ())))

noncomputable def ref12_Check_L8 (n : List (List UInt8) × List yT1 × List (List UInt8 × Int × Int) × List (List UInt8 × Int × Int × Int × Int) × Int × Int) (v20 : Int) : Option (Int ⊕ (Unit ⊕ Int)) :=
 bif decide (v20 < (n.2.2.2.1.length : Int)) then (
 gd (inB v20 n.2.2.2.1.length) <|
 (ref12_in (((n.2.2.2.1.getD v20.toNat ([], (0, (0, (0, 0))))).2).1) 0 (wi64 ((n.1.length : Int) - 1))).bind fun r9 =>
 bif !r9 then (
 some (.inr (.inr 8)))
 else (
 some (.inl (wi64 (v20 + 1)))))
 else (
 some (.inr (.inl ())))

noncomputable def ref12_Check_L9 (n : List (List UInt8) × List yT1 × List (List UInt8 × Int × Int) × List (List UInt8 × Int × Int × Int × Int) × Int × Int) (v21 : Int) : Option (Int ⊕ (Unit ⊕ Int)) :=
 bif decide (v21 < (n.2.1.length : Int)) then (
 gd (inB v21 n.2.1.length) <|
 (ref12_proper ((n.2.1.getD v21.toNat ([], (0, (0, (0, (0, (0, []))))))).1, (((n.2.1.getD v21.toNat ([], (0, (0, (0, (0, (0, []))))))).2).1, ((((n.2.1.getD v21.toNat ([], (0, (0, (0, (0, (0, []))))))).2).2).1, (((((n.2.1.getD v21.toNat ([], (0, (0, (0, (0, (0, []))))))).2).2).2).1, ((((((n.2.1.getD v21.toNat ([], (0, (0, (0, (0, (0, []))))))).2).2).2).2).1, (((((((n.2.1.getD v21.toNat ([], (0, (0, (0, (0, (0, []))))))).2).2).2).2).2).1, ((((((n.2.1.getD v21.toNat ([], (0, (0, (0, (0, (0, []))))))).2).2).2).2).2).2))))))).bind fun r10 =>
 bif !r10 then (
 some (.inr (.inr 9)))
 else (
 some (.inl (wi64 (v21 + 1)))))
 else (
 some (.inr (.inl ())))

noncomputable def ref12_Check_L10 (n : List (List UInt8) × List yT1 × List (List UInt8 × Int × Int) × List (List UInt8 × Int × Int × Int × Int) × Int × Int) (v22 : Int) : Option (Int ⊕ (Unit ⊕ Int)) :=
 bif decide (v22 < (n.2.2.1.length : Int)) then (
 gd (inB v22 n.2.2.1.length) <|
 (ref12_in (((n.2.2.1.getD v22.toNat ([], (0, 0))).2).2) 0 100000000).bind fun r11 =>
 bif !r11 then (
 some (.inr (.inr 9)))
 else (
 some (.inl (wi64 (v22 + 1)))))
 else (
 some (.inr (.inl ())))

noncomputable def ref12_Check_L11 (n : List (List UInt8) × List yT1 × List (List UInt8 × Int × Int) × List (List UInt8 × Int × Int × Int × Int) × Int × Int) (v23 : Int) : Option (Int ⊕ (Unit ⊕ Int)) :=
 bif decide (v23 < (n.2.2.2.1.length : Int)) then (
 gd (inB v23 n.2.2.2.1.length) <|
 Option.bind (α := Bool) (
 (ref12_in ((((n.2.2.2.1.getD v23.toNat ([], (0, (0, (0, 0))))).2).2).1) 0 100000000).bind fun r12 =>
 bif !r12 then (
 some true)
 else (
 (ref12_in (((((n.2.2.2.1.getD v23.toNat ([], (0, (0, (0, 0))))).2).2).2).1) 0 100000).bind fun r13 =>
 bif !r13 then (
 some true)
 else (
 (ref12_in (((((n.2.2.2.1.getD v23.toNat ([], (0, (0, (0, 0))))).2).2).2).2) 0 100000000).bind fun r14 =>
 some (!r14)))) fun s36 =>
 bif s36 then (
 some (.inr (.inr 9)))
 else (
 some (.inl (wi64 (v23 + 1)))))
 else (
 some (.inr (.inl ())))

noncomputable def ref12_Check (n : List (List UInt8) × List yT1 × List (List UInt8 × Int × Int) × List (List UInt8 × Int × Int × Int × Int) × Int × Int) : Option (Int) :=
 Option.bind (α := Bool) (
 (ref12_in (n.1.length : Int) 1 24).bind fun r =>
 bif !r then (
 some true)
 else (
 bif decide (32 < (n.2.1.length : Int)) then (
 some true)
 else (
 bif decide (24 < (n.2.2.1.length : Int)) then (
 some true)
 else (
 some (decide (12 < (n.2.2.2.1.length : Int))))))) fun s =>
 bif s then (
 some 4)
 else (
 (iter (fun x => ref12_Check_L0 n x) 0).bind fun s2 =>
 s2.elim (fun s3 =>
 (ref12_names (n.1, (n.2.1, (n.2.2.1, (n.2.2.2.1, (n.2.2.2.2.1, n.2.2.2.2.2)))))).bind fun r3 =>
 (iter (fun x3 => ref12_Check_L1 x3.1 x3.2.1 x3.2.2.1 x3.2.2.2.1 x3.2.2.2.2) (r3.1, r3.2.1, r3.2.2.1, r3.2.2.2, 0)).bind fun s8 =>
 s8.elim (fun s9 =>
 (iter (fun x4 => ref12_Check_L3 x4.1 x4.2.1 x4.2.2.1 x4.2.2.2.1 x4.2.2.2.2) (r3.1, r3.2.1, r3.2.2.1, r3.2.2.2, 0)).bind fun s11 =>
 s11.elim (fun s12 =>
 (iter (fun x6 => ref12_Check_L4 n x6) 0).bind fun s17 =>
 s17.elim (fun s18 =>
 (iter (fun x7 => ref12_Check_L6 n x7) 0).bind fun s21 =>
 s21.elim (fun s22 =>
 (iter (fun x8 => ref12_Check_L7 n x8) 0).bind fun s24 =>
 s24.elim (fun s25 =>
 (iter (fun x9 => ref12_Check_L8 n x9) 0).bind fun s27 =>
 s27.elim (fun s28 =>
 (iter (fun x10 => ref12_Check_L9 n x10) 0).bind fun s30 =>
 s30.elim (fun s31 =>
 (iter (fun x11 => ref12_Check_L10 n x11) 0).bind fun s33 =>
 s33.elim (fun s34 =>
 (iter (fun x12 => ref12_Check_L11 n x12) 0).bind fun s37 =>
 s37.elim (fun s38 =>
 Option.bind (α := Bool) (
 (ref12_in n.2.2.2.2.1 (-100000) 100000000).bind fun r15 =>
 bif !r15 then (
 some true)
 else (
 (ref12_in n.2.2.2.2.2 0 100).bind fun r16 =>
 some (!r16))) fun s40 =>
 bif s40 then (
 some 9)
 else (
 some 0))
 (fun s39 =>
 some s39))
 (fun s35 =>
 some s35))
 (fun s32 =>
 some s32))
 (fun s29 =>
 some s29))
 (fun s26 =>
 some s26))
 (fun s23 =>
 some s23))
 (fun s19 =>
 some s19))
 (fun s13 =>
 some s13))
 (fun s10 =>
 some s10))
 (fun s4 =>
 some s4))

noncomputable def fn_ref12_Check : Fun :=
 ⟨50, 1, 1,
 ⟨[(0, .one (.data (.pair (.sl (.str)) (.pair (.sl (.pair (.str) (.pair (.int .i64) (.pair (.int .i64) (.pair (.int .i64) (.pair (.int .i64) (.pair (.int .i64) (.sl (.pair (.int .i64) tT1))))))))) (.pair (.sl (.pair (.str) tT1)) (.pair (.sl (.pair (.str) (.pair (.int .i64) (.pair (.int .i64) tT1)))) tT1))))))], [], []⟩,
 ⟨[(0, ii)], [], []⟩,
 fun x => ref12_Check x⟩
noncomputable def cx_ref12_Check : Cx := ⟨types, [], [fn_ref12_in, fn_ref12_names, fn_ref03_Name, fn_ref12_twice, fn_ref12_proper], 219, []⟩
theorem ok_ref12_Check : FunOk Tryz.prog fn_ref12_Check :=
 FunOk.intro (C := cx_ref12_Check) (p := (nn (mm (mm (.mk [.join [⟨.n, ⟨[(1, .one (.ptr 32 0)), (49, bb)], [(32, 32, [.keep, .keep, .keep, .keep, .keep, .keep])], []⟩⟩]] none .nil .nil) .nil) (mm (nn (mm (.mk [] (some (⟨[(1, .one (.ptr 32 0)), (51, kk), (52, kk), (53, ii)], [(32, 32, [.keep, .keep, .keep, .keep, .keep, .keep])], []⟩, [⟨.x 0, ⟨[(1, .one (.ptr 32 0))], [(32, 32, [.keep, .keep, .keep, .keep, .keep, .keep])], []⟩⟩, ⟨.r, ⟨[(2, ii)], [], []⟩⟩])) .nil .nil) .nil)) (nn (mm (nn (mm (.mk [] (some (⟨[(1, .one (.ptr 32 0)), (5, .one (.ptr 96 0)), (65, .agg [.data (.sl (.str)), .data (.sl (.str)), .data (.sl (.str)), .data (.sl (.str))]), (66, ii)], [(32, 32, [.keep, .keep, .keep, .keep, .keep, .keep]), (96, 109, [.keep, .keep, .keep, .keep])], []⟩, [⟨.x 2, ⟨[(1, .one (.ptr 32 0)), (5, .one (.ptr 96 0))], [(32, 32, [.keep, .keep, .keep, .keep, .keep, .keep]), (96, 109, [.keep, .keep, .keep, .keep])], []⟩⟩, ⟨.r, ⟨[(2, ii)], [], []⟩⟩])) (nn (nn (mm (mm (nn (nn (mm (.mk [] (some (⟨[(1, .one (.ptr 32 0)), (5, .one (.ptr 96 0)), (65, .agg [.data (.sl (.str)), .data (.sl (.str)), .data (.sl (.str)), .data (.sl (.str))]), (66, kk), (69, kk), (70, kk), (71, ii)], [(32, 32, [.keep, .keep, .keep, .keep, .keep, .keep]), (96, 109, [.keep, .keep, .keep, .keep])], []⟩, [⟨.x 4, ⟨[(1, .one (.ptr 32 0)), (5, .one (.ptr 96 0)), (65, .agg [.data (.sl (.str)), .data (.sl (.str)), .data (.sl (.str)), .data (.sl (.str))]), (66, kk)], [(32, 32, [.keep, .keep, .keep, .keep, .keep, .keep]), (96, 109, [.keep, .keep, .keep, .keep])], []⟩⟩, ⟨.r, ⟨[(2, ii)], [], []⟩⟩])) .nil .nil) .nil))) .nil) .nil))) .nil) .nil)) (mm (nn (mm (.mk [] (some (⟨[(1, .one (.ptr 32 0)), (80, .agg [.data (.sl (.str)), .data (.sl (.str)), .data (.sl (.str)), .data (.sl (.str))]), (81, ii)], [(32, 32, [.keep, .keep, .keep, .keep, .keep, .keep])], []⟩, [⟨.x 6, ⟨[(1, .one (.ptr 32 0))], [(32, 32, [.keep, .keep, .keep, .keep, .keep, .keep])], []⟩⟩, ⟨.r, ⟨[(2, ii)], [], []⟩⟩])) .nil .nil) .nil)) (mm (nn (mm (.mk [] (some (⟨[(1, .one (.ptr 32 0)), (89, kk), (90, ii)], [(32, 32, [.keep, .keep, .keep, .keep, .keep, .keep])], []⟩, [⟨.x 8, ⟨[(1, .one (.ptr 32 0))], [(32, 32, [.keep, .keep, .keep, .keep, .keep, .keep])], []⟩⟩, ⟨.r, ⟨[(2, ii)], [], []⟩⟩])) (nn (nn (mm (mm (nn (nn (mm (.mk [] (some (⟨[(1, .one (.ptr 32 0)), (12, kk), (13, ii), (89, kk), (90, kk)], [(32, 32, [.keep, .keep, .keep, .keep, .keep, .keep])], []⟩, [⟨.x 10, ⟨[(1, .one (.ptr 32 0)), (89, kk), (90, kk)], [(32, 32, [.keep, .keep, .keep, .keep, .keep, .keep])], []⟩⟩, ⟨.r, ⟨[(2, ii)], [], []⟩⟩])) .nil .nil) .nil))) .nil) .nil))) .nil) .nil)) (nn (mm (nn (mm (.mk [] (some (⟨[(1, .one (.ptr 32 0)), (14, kk), (117, kk), (118, kk), (119, ii)], [(32, 32, [.keep, .keep, .keep, .keep, .keep, .keep])], []⟩, [⟨.x 12, ⟨[(1, .one (.ptr 32 0)), (14, kk)], [(32, 32, [.keep, .keep, .keep, .keep, .keep, .keep])], []⟩⟩, ⟨.r, ⟨[(2, ii)], [], []⟩⟩])) (nn (nn (mm (mm (nn (mm (.mk [.join [⟨.n, ⟨[(1, .one (.ptr 32 0)), (14, kk), (117, kk), (118, kk), (119, kk), (134, bb)], [(32, 32, [.keep, .keep, .keep, .keep, .keep, .keep])], []⟩⟩]] none .nil .nil) .nil)) .nil) .nil))) .nil) .nil)) (mm (nn (mm (.mk [] (some (⟨[(1, .one (.ptr 32 0)), (14, kk), (137, kk), (138, kk), (139, ii)], [(32, 32, [.keep, .keep, .keep, .keep, .keep, .keep])], []⟩, [⟨.x 14, ⟨[(1, .one (.ptr 32 0)), (14, kk)], [(32, 32, [.keep, .keep, .keep, .keep, .keep, .keep])], []⟩⟩, ⟨.r, ⟨[(2, ii)], [], []⟩⟩])) .nil .nil) .nil)) (mm (nn (mm (.mk [] (some (⟨[(1, .one (.ptr 32 0)), (14, kk), (150, kk), (151, kk), (152, ii)], [(32, 32, [.keep, .keep, .keep, .keep, .keep, .keep])], []⟩, [⟨.x 16, ⟨[(1, .one (.ptr 32 0))], [(32, 32, [.keep, .keep, .keep, .keep, .keep, .keep])], []⟩⟩, ⟨.r, ⟨[(2, ii)], [], []⟩⟩])) .nil .nil) .nil)) (mm (nn (mm (.mk [] (some (⟨[(1, .one (.ptr 32 0)), (163, kk), (164, kk), (165, ii)], [(32, 32, [.keep, .keep, .keep, .keep, .keep, .keep])], []⟩, [⟨.x 18, ⟨[(1, .one (.ptr 32 0))], [(32, 32, [.keep, .keep, .keep, .keep, .keep, .keep])], []⟩⟩, ⟨.r, ⟨[(2, ii)], [], []⟩⟩])) .nil .nil) .nil)) (mm (nn (mm (.mk [] (some (⟨[(1, .one (.ptr 32 0)), (174, kk), (175, kk), (176, ii)], [(32, 32, [.keep, .keep, .keep, .keep, .keep, .keep])], []⟩, [⟨.x 20, ⟨[(1, .one (.ptr 32 0))], [(32, 32, [.keep, .keep, .keep, .keep, .keep, .keep])], []⟩⟩, ⟨.r, ⟨[(2, ii)], [], []⟩⟩])) .nil .nil) .nil)) (mm (nn (mm (.mk [] (some (⟨[(1, .one (.ptr 32 0)), (186, kk), (187, kk), (188, ii)], [(32, 32, [.keep, .keep, .keep, .keep, .keep, .keep])], []⟩, [⟨.x 22, ⟨[(1, .one (.ptr 32 0))], [(32, 32, [.keep, .keep, .keep, .keep, .keep, .keep])], []⟩⟩, ⟨.r, ⟨[(2, ii)], [], []⟩⟩])) (nn (nn (mm (mm (nn (mm (.mk [.join [⟨.n, ⟨[(1, .one (.ptr 32 0)), (186, kk), (187, kk), (188, kk), (207, bb)], [(32, 32, [.keep, .keep, .keep, .keep, .keep, .keep])], []⟩⟩]] none .nil .nil) .nil)) .nil) .nil))) .nil) .nil)) (mm (mm (.mk [.join [⟨.n, ⟨[(218, bb)], [], []⟩⟩]] none .nil .nil) .nil) .nil))))))))))))))))
  Tryz.func50 rfl (by kernel_rfl) rfl rfl rfl rfl types_ok ⟨⟨ok_ref12_in, ok_ref12_names, ok_ref03_Name, ok_ref12_twice, ok_ref12_proper, trivial⟩, trivial⟩ mx (fun x => by kernel_rfl)

noncomputable def ref04_Valid (p : List UInt8 × Int × Int × Int × Int) : Option (Bool) :=
 (ref03_Name p.1).bind fun r =>
 bif r then (
 bif decide (400 ≤ p.2.1) then (
 bif decide (p.2.1 ≤ 1200) then (
 bif decide (0 ≤ p.2.2.1) then (
 bif decide (p.2.2.1 ≤ 2000) then (
 bif decide (0 ≤ p.2.2.2.1) then (
 bif decide (p.2.2.2.1 ≤ 5000) then (
 bif decide (1 ≤ p.2.2.2.2) then (
 some (decide (p.2.2.2.2 ≤ 2000)))
 else (
 some false))
 else (
 some false))
 else (
 some false))
 else (
 some false))
 else (
 some false))
 else (
 some false))
 else (
 some false))
 else (
 some false)

noncomputable def fn_ref04_Valid : Fun :=
 ⟨91, 1, 1,
 ⟨[(0, .one (.data (.pair (.str) (.pair (.int .i64) (.pair (.int .i64) tT1)))))], [], []⟩,
 ⟨[(0, bb)], [], []⟩,
 fun x => ref04_Valid x⟩
noncomputable def cx_ref04_Valid : Cx := ⟨types, [], [fn_ref03_Name], 46, []⟩
theorem ok_ref04_Valid : FunOk Tryz.prog fn_ref04_Valid :=
 FunOk.intro (C := cx_ref04_Valid) (p := .nil)
  Tryz.func91 rfl (by kernel_rfl) rfl rfl rfl rfl types_ok ⟨⟨ok_ref03_Name, trivial⟩, trivial⟩ mx (fun x => by kernel_rfl)

noncomputable def ref04_Find_L0 (l : List (List UInt8 × Int × Int × Int × Int)) (name : List UInt8) (v : Int) : Option (Int ⊕ (Unit ⊕ Int)) :=
 bif decide (v < (l.length : Int)) then (
 gd (inB v l.length) <|
 bif decide ((l.getD v.toNat ([], (0, (0, (0, 0))))).1 = name) then (
 some (.inr (.inr v)))
 else (
 some (.inl (wi64 (v + 1)))))
 else (
 some (.inr (.inl ())))

noncomputable def ref04_Find (l : List (List UInt8 × Int × Int × Int × Int)) (name : List UInt8) : Option (Int) :=
 (iter (fun x => ref04_Find_L0 l name x) 0).bind fun s =>
 s.elim (fun s2 =>
 some (-1))
 (fun s3 =>
 some s3)

noncomputable def fn_ref04_Find : Fun :=
 ⟨52, 2, 1,
 ⟨[(0, .one (.data (.sl (.pair (.str) (.pair (.int .i64) (.pair (.int .i64) tT1)))))), (1, ss)], [], []⟩,
 ⟨[(0, ii)], [], []⟩,
 fun x => ref04_Find x.1 x.2⟩
noncomputable def cx_ref04_Find : Cx := ⟨types, [], [], 20, []⟩
theorem ok_ref04_Find : FunOk Tryz.prog fn_ref04_Find :=
 FunOk.intro (C := cx_ref04_Find) (p := (nn (mm (nn (mm (.mk [] (some (⟨[(0, kk), (1, kk), (7, kk), (8, ii)], [], []⟩, [⟨.x 0, ⟨[], [], []⟩⟩, ⟨.r, ⟨[(4, ii)], [], []⟩⟩])) .nil .nil) .nil)) .nil)))
  Tryz.func52 rfl (by kernel_rfl) rfl rfl rfl rfl types_ok ⟨trivial, trivial⟩ mx (fun x => by kernel_rfl)

noncomputable def ref04_Check_L0 (l : List (List UInt8 × Int × Int × Int × Int)) (v : Int) : Option (Int ⊕ (Unit ⊕ Int)) :=
 bif decide (v < (l.length : Int)) then (
 gd (inB v l.length) <|
 (ref04_Valid (l.getD v.toNat ([], (0, (0, (0, 0)))))).bind fun r =>
 bif !r then (
 some (.inr (.inr 9)))
 else (
 some (.inl (wi64 (v + 1)))))
 else (
 some (.inr (.inl ())))

noncomputable def ref04_Check_L1 (l : List (List UInt8 × Int × Int × Int × Int)) (v2 : Int) : Option (Int ⊕ (Unit ⊕ Int)) :=
 bif decide (v2 < (l.length : Int)) then (
 gd (inB v2 l.length) <|
 (ref04_Find l ((l.getD v2.toNat ([], (0, (0, (0, 0))))).1)).bind fun r2 =>
 bif !decide (r2 = v2) then (
 some (.inr (.inr 7)))
 else (
 some (.inl (wi64 (v2 + 1)))))
 else (
 some (.inr (.inl ())))

noncomputable def ref04_Check (l : List (List UInt8 × Int × Int × Int × Int)) : Option (Int) :=
 bif decide (16 < (l.length : Int)) then (
 some 4)
 else (
 (iter (fun x => ref04_Check_L0 l x) 0).bind fun s =>
 s.elim (fun s2 =>
 (iter (fun x2 => ref04_Check_L1 l x2) 0).bind fun s4 =>
 s4.elim (fun s5 =>
 some 0)
 (fun s6 =>
 some s6))
 (fun s3 =>
 some s3))

noncomputable def fn_ref04_Check : Fun :=
 ⟨51, 1, 1,
 ⟨[(0, .one (.data (.sl (.pair (.str) (.pair (.int .i64) (.pair (.int .i64) tT1))))))], [], []⟩,
 ⟨[(0, ii)], [], []⟩,
 fun x => ref04_Check x⟩
noncomputable def cx_ref04_Check : Cx := ⟨types, [], [fn_ref04_Valid, fn_ref04_Find], 35, []⟩
theorem ok_ref04_Check : FunOk Tryz.prog fn_ref04_Check :=
 FunOk.intro (C := cx_ref04_Check) (p := (nn (nn (mm (nn (mm (.mk [] (some (⟨[(0, kk), (9, kk), (10, ii)], [], []⟩, [⟨.x 0, ⟨[(0, kk)], [], []⟩⟩, ⟨.r, ⟨[(2, ii)], [], []⟩⟩])) .nil .nil) .nil)) (mm (nn (mm (.mk [] (some (⟨[(0, kk), (21, kk), (22, ii)], [], []⟩, [⟨.x 2, ⟨[], [], []⟩⟩, ⟨.r, ⟨[(2, ii)], [], []⟩⟩])) .nil .nil) .nil)) .nil)))))
  Tryz.func51 rfl (by kernel_rfl) rfl rfl rfl rfl types_ok ⟨⟨ok_ref04_Valid, ok_ref04_Find, trivial⟩, trivial⟩ mx (fun x => by kernel_rfl)

noncomputable def ref11_Valid (n : List UInt8 × List UInt8 × List UInt8 × List UInt8 × Int × Int) : Option (Bool) :=
 (ref03_Name n.1).bind fun r =>
 bif r then (
 (ref03_Name n.2.1).bind fun r2 =>
 bif r2 then (
 (ref03_Name n.2.2.1).bind fun r3 =>
 bif r3 then (
 (ref03_Name n.2.2.2.1).bind fun r4 =>
 bif r4 then (
 bif !decide (n.2.2.1 = n.2.2.2.1) then (
 bif decide (0 ≤ n.2.2.2.2.1) then (
 bif decide (n.2.2.2.2.1 ≤ 1000000) then (
 bif decide (1 ≤ n.2.2.2.2.2) then (
 some (decide (n.2.2.2.2.2 ≤ 1099511627776)))
 else (
 some false))
 else (
 some false))
 else (
 some false))
 else (
 some false))
 else (
 some false))
 else (
 some false))
 else (
 some false))
 else (
 some false)

noncomputable def fn_ref11_Valid : Fun :=
 ⟨85, 1, 1,
 ⟨[(0, .one (.data tT0))], [], []⟩,
 ⟨[(0, bb)], [], []⟩,
 fun x => ref11_Valid x⟩
noncomputable def cx_ref11_Valid : Cx := ⟨types, [], [fn_ref03_Name], 48, []⟩
theorem ok_ref11_Valid : FunOk Tryz.prog fn_ref11_Valid :=
 FunOk.intro (C := cx_ref11_Valid) (p := .nil)
  Tryz.func85 rfl (by kernel_rfl) rfl rfl rfl rfl types_ok ⟨⟨ok_ref03_Name, trivial⟩, trivial⟩ mx (fun x => by kernel_rfl)

noncomputable def ref11_Check_L0 (l : List yT0) (v : Int) : Option (Int ⊕ (Unit ⊕ Int)) :=
 bif decide (v < (l.length : Int)) then (
 gd (inB v l.length) <|
 (ref11_Valid (l.getD v.toNat ([], ([], ([], ([], (0, 0))))))).bind fun r =>
 bif !r then (
 some (.inr (.inr 9)))
 else (
 some (.inl (wi64 (v + 1)))))
 else (
 some (.inr (.inl ())))

noncomputable def ref11_Check (l : List yT0) : Option (Int) :=
 bif decide (400 < (l.length : Int)) then (
 some 4)
 else (
 (iter (fun x => ref11_Check_L0 l x) 0).bind fun s =>
 s.elim (fun s2 =>
 some 0)
 (fun s3 =>
 some s3))

noncomputable def fn_ref11_Check : Fun :=
 ⟨46, 1, 1,
 ⟨[(0, .one (.data (.sl tT0)))], [], []⟩,
 ⟨[(0, ii)], [], []⟩,
 fun x => ref11_Check x⟩
noncomputable def cx_ref11_Check : Cx := ⟨types, [], [fn_ref11_Valid], 19, []⟩
theorem ok_ref11_Check : FunOk Tryz.prog fn_ref11_Check :=
 FunOk.intro (C := cx_ref11_Check) (p := (nn (nn (mm (nn (mm (.mk [] (some (⟨[(0, kk), (8, kk), (9, ii)], [], []⟩, [⟨.x 0, ⟨[], [], []⟩⟩, ⟨.r, ⟨[(2, ii)], [], []⟩⟩])) .nil .nil) .nil)) .nil))))
  Tryz.func46 rfl (by kernel_rfl) rfl rfl rfl rfl types_ok ⟨⟨ok_ref11_Valid, trivial⟩, trivial⟩ mx (fun x => by kernel_rfl)

noncomputable def ref11_Cmp_L0 (a : List UInt8 × List UInt8 × List UInt8 × List UInt8 × Int × Int) (b : List UInt8 × List UInt8 × List UInt8 × List UInt8 × Int × Int) (v : Int) : Option (Int ⊕ (Unit ⊕ Int)) :=
 bif decide (v < ([a.1, a.2.1, a.2.2.1, a.2.2.2.1].length : Int)) then (
 gd (inB v [a.1, a.2.1, a.2.2.1, a.2.2.2.1].length) <|
 gd (inB v [b.1, b.2.1, b.2.2.1, b.2.2.2.1].length) <|
 bif Op.bytesLess ([a.1, a.2.1, a.2.2.1, a.2.2.2.1].getD v.toNat []) ([b.1, b.2.1, b.2.2.1, b.2.2.2.1].getD v.toNat []) then (
 some (.inr (.inr (-1))))
 else (
 gd (inB v [a.1, a.2.1, a.2.2.1, a.2.2.2.1].length) <|
 gd (inB v [b.1, b.2.1, b.2.2.1, b.2.2.2.1].length) <|
 bif !(Op.bytesLess ([a.1, a.2.1, a.2.2.1, a.2.2.2.1].getD v.toNat []) ([b.1, b.2.1, b.2.2.1, b.2.2.2.1].getD v.toNat []) || decide ([a.1, a.2.1, a.2.2.1, a.2.2.2.1].getD v.toNat [] = [b.1, b.2.1, b.2.2.1, b.2.2.2.1].getD v.toNat [])) then (
 some (.inr (.inr 1)))
 else (
 some (.inl (wi64 (v + 1))))))
 else (
 some (.inr (.inl ())))

noncomputable def ref11_Cmp (a : List UInt8 × List UInt8 × List UInt8 × List UInt8 × Int × Int) (b : List UInt8 × List UInt8 × List UInt8 × List UInt8 × Int × Int) : Option (Int) :=
 bif !decide (a.2.2.2.2.1 = b.2.2.2.2.1) then (
 bif decide (a.2.2.2.2.1 < b.2.2.2.2.1) then (
 some (-1))
 else (
 some 1))
 else (
 (iter (fun x => ref11_Cmp_L0 a b x) 0).bind fun s =>
 s.elim (fun s2 =>
 some 0)
 (fun s3 =>
 some s3))

noncomputable def fn_ref11_Cmp : Fun :=
 ⟨47, 2, 1,
 ⟨[(0, .one (.data tT0)), (1, .one (.data tT0))], [], []⟩,
 ⟨[(0, ii)], [], []⟩,
 fun x => ref11_Cmp x.1 x.2⟩
noncomputable def cx_ref11_Cmp : Cx := ⟨types, [], [], 60, []⟩
theorem ok_ref11_Cmp : FunOk Tryz.prog fn_ref11_Cmp :=
 FunOk.intro (C := cx_ref11_Cmp) (p := (nn (nn (nn (mm (nn (mm (.mk [] (some (⟨[(5, kk), (6, kk), (37, kk), (38, ii)], [], []⟩, [⟨.x 0, ⟨[], [], []⟩⟩, ⟨.r, ⟨[(4, ii)], [], []⟩⟩])) .nil .nil) .nil)) .nil)))))
  Tryz.func47 rfl (by kernel_rfl) rfl rfl rfl rfl types_ok ⟨trivial, trivial⟩ mx (fun x => by kernel_rfl)

noncomputable def ref11_Totals_L1 (l : List yT0) (v : Int) (vat : Int) (out2 : List yT0) : Option ((Int × List yT0) ⊕ (Int × List yT0)) :=
 Option.bind (α := Bool × List yT0) (
 bif decide (vat < (out2.length : Int)) then (
 gd (inB vat out2.length) <|
 (ref11_Cmp (out2.getD vat.toNat ([], ([], ([], ([], (0, 0)))))) ((l.getD v.toNat ([], ([], ([], ([], (0, 0)))))).1, (((l.getD v.toNat ([], ([], ([], ([], (0, 0)))))).2).1, ((((l.getD v.toNat ([], ([], ([], ([], (0, 0)))))).2).2).1, (((((l.getD v.toNat ([], ([], ([], ([], (0, 0)))))).2).2).2).1, ((((((l.getD v.toNat ([], ([], ([], ([], (0, 0)))))).2).2).2).2).1, (((((l.getD v.toNat ([], ([], ([], ([], (0, 0)))))).2).2).2).2).2)))))).bind fun r2 =>
 some (decide (r2 < 0), out2))
 else (
 some (false, out2))) fun s =>
 bif s.1 then (
 some (.inl (wi64 (vat + 1), s.2)))
 else (
 some (.inr (vat, s.2)))

noncomputable def ref11_Totals_L0 (l : List yT0) (v : Int) (out : List yT0) : Option ((Int × List yT0) ⊕ (List yT0)) :=
 bif decide (v < (l.length : Int)) then (
 Option.bind (α := List yT0) (
 gd (inB v l.length) <|
 (iter (fun x => ref11_Totals_L1 l v x.1 x.2) (0, out)).bind fun s2 =>
 Option.bind (α := Bool × List yT0) (
 bif decide (s2.1 < (s2.2.length : Int)) then (
 gd (inB s2.1 s2.2.length) <|
 (ref11_Cmp (s2.2.getD s2.1.toNat ([], ([], ([], ([], (0, 0)))))) ((l.getD v.toNat ([], ([], ([], ([], (0, 0)))))).1, (((l.getD v.toNat ([], ([], ([], ([], (0, 0)))))).2).1, ((((l.getD v.toNat ([], ([], ([], ([], (0, 0)))))).2).2).1, (((((l.getD v.toNat ([], ([], ([], ([], (0, 0)))))).2).2).2).1, ((((((l.getD v.toNat ([], ([], ([], ([], (0, 0)))))).2).2).2).2).1, (((((l.getD v.toNat ([], ([], ([], ([], (0, 0)))))).2).2).2).2).2)))))).bind fun r3 =>
 some (decide (r3 = 0), s2.2))
 else (
 some (false, s2.2))) fun s3 =>
 bif s3.1 then (
 gd (inB s2.1 s3.2.length) <|
 gd (inB s2.1 s3.2.length) <|
 some (s3.2.set s2.1.toNat ((s3.2.getD s2.1.toNat ([], ([], ([], ([], (0, 0)))))).1, (((s3.2.getD s2.1.toNat ([], ([], ([], ([], (0, 0)))))).2).1, ((((s3.2.getD s2.1.toNat ([], ([], ([], ([], (0, 0)))))).2).2).1, (((((s3.2.getD s2.1.toNat ([], ([], ([], ([], (0, 0)))))).2).2).2).1, ((((((s3.2.getD s2.1.toNat ([], ([], ([], ([], (0, 0)))))).2).2).2).2).1, wi64 (((((((s3.2.getD s2.1.toNat ([], ([], ([], ([], (0, 0)))))).2).2).2).2).2) + ((((((l.getD v.toNat ([], ([], ([], ([], (0, 0)))))).2).2).2).2).2)))))))))
 else (
 gd (cutG none (some (.i64, s2.1)) s3.2.length) <|
 gd (fits (0 + (s3.2.take s2.1.toNat).length) 80) <|
 gd (fits (([] ++ (s3.2.take s2.1.toNat)).length + 1) 80) <|
 gd (cutG (some (.i64, s2.1)) none s3.2.length) <|
 gd (fits ((([] ++ (s3.2.take s2.1.toNat)) ++ [((l.getD v.toNat ([], ([], ([], ([], (0, 0)))))).1, (((l.getD v.toNat ([], ([], ([], ([], (0, 0)))))).2).1, ((((l.getD v.toNat ([], ([], ([], ([], (0, 0)))))).2).2).1, (((((l.getD v.toNat ([], ([], ([], ([], (0, 0)))))).2).2).2).1, ((((((l.getD v.toNat ([], ([], ([], ([], (0, 0)))))).2).2).2).2).1, (((((l.getD v.toNat ([], ([], ([], ([], (0, 0)))))).2).2).2).2).2)))))]).length + (s3.2.drop s2.1.toNat).length) 80) <|
 some ((([] ++ (s3.2.take s2.1.toNat)) ++ [((l.getD v.toNat ([], ([], ([], ([], (0, 0)))))).1, (((l.getD v.toNat ([], ([], ([], ([], (0, 0)))))).2).1, ((((l.getD v.toNat ([], ([], ([], ([], (0, 0)))))).2).2).1, (((((l.getD v.toNat ([], ([], ([], ([], (0, 0)))))).2).2).2).1, ((((((l.getD v.toNat ([], ([], ([], ([], (0, 0)))))).2).2).2).2).1, (((((l.getD v.toNat ([], ([], ([], ([], (0, 0)))))).2).2).2).2).2)))))]) ++ (s3.2.drop s2.1.toNat)))) fun s4 =>
 some (.inl (wi64 (v + 1), s4)))
 else (
 some (.inr out))

noncomputable def ref11_Totals_L2 (s5 : List yT0) (v2 : Int) (out3 : List yT0) : Option ((Int × List yT0) ⊕ ((List yT0) ⊕ ((List yT0) × Int))) :=
 bif decide (v2 < (s5.length : Int)) then (
 gd (inB v2 out3.length) <|
 bif decide (1099511627776 < (((((out3.getD v2.toNat ([], ([], ([], ([], (0, 0)))))).2).2).2).2).2) then (
 some (.inr (.inr ([], 4))))
 else (
 some (.inl (wi64 (v2 + 1), out3))))
 else (
 some (.inr (.inl out3)))

noncomputable def ref11_Totals (l : List yT0) : Option ((List yT0) × Int) :=
 (ref11_Check l).bind fun r =>
 bif !decide (r = 0) then (
 some ([], r))
 else (
 (iter (fun x2 => ref11_Totals_L0 l x2.1 x2.2) (0, [])).bind fun s5 =>
 (iter (fun x3 => ref11_Totals_L2 s5 x3.1 x3.2) (0, s5)).bind fun s6 =>
 s6.elim (fun s7 =>
 some (s7, 0))
 (fun s8 =>
 some (s8.1, s8.2)))

noncomputable def fn_ref11_Totals : Fun :=
 ⟨14, 1, 2,
 ⟨[(0, .one (.data (.sl tT0)))], [], []⟩,
 ⟨[(0, .one (.data (.sl tT0))), (1, ii)], [], []⟩,
 fun x => ref11_Totals x⟩
noncomputable def cx_ref11_Totals : Cx := ⟨types, [59], [fn_ref11_Check, fn_ref11_Cmp], 85, []⟩
theorem ok_ref11_Totals : FunOk Tryz.prog fn_ref11_Totals :=
 FunOk.intro (C := cx_ref11_Totals) (p := (nn (nn (nn (mm (nn (mm (.mk [] (some (⟨[(5, .one (.own 107)), (15, kk), (16, kk), (17, ii)], [], [(107, .arr 51 tT0)]⟩, [⟨.x 0, ⟨[(5, .one (.own 107))], [], [(107, .arr 51 tT0)]⟩⟩])) (nn (nn (mm (.mk [.join [⟨.n, ⟨[(5, .one (.own 107)), (15, kk), (16, kk), (17, kk)], [], [(107, .arr 51 tT0)]⟩⟩]] none (nn (nn (mm (mm (.mk [] (some (⟨[(5, .one (.own 107)), (7, .one (.ptr 128 0)), (8, ii), (15, kk), (16, kk), (17, kk)], [(128, 51, [.keep, .keep, .keep, .keep, .keep, .keep])], [(107, .arr 51 tT0)]⟩, [⟨.x 2, ⟨[(5, .one (.own 107)), (7, .one (.ptr 128 0)), (8, ii), (15, kk), (16, kk), (17, kk)], [(128, 51, [.keep, .keep, .keep, .keep, .keep, .keep])], [(107, .arr 51 tT0)]⟩⟩])) (mm (mm (.mk [.join [⟨.n, ⟨[(5, .one (.own 107)), (7, .one (.ptr 128 0)), (8, kk), (15, kk), (16, kk), (17, kk), (33, bb)], [(128, 51, [.keep, .keep, .keep, .keep, .keep, .keep])], [(107, .arr 51 tT0)]⟩⟩]] none .nil .nil) .nil) .nil) .nil) .nil) (mm (mm (.mk [.join [⟨.n, ⟨[(5, .one (.own 107)), (7, .one (.ptr 128 0)), (8, kk), (15, kk), (16, kk), (17, kk), (48, bb)], [(128, 51, [.keep, .keep, .keep, .keep, .keep, .keep])], [(107, .arr 51 tT0)]⟩⟩]] none .nil .nil) .nil) (.mk [.fz [5]] none .nil .nil))))) .nil) .nil))) .nil) .nil)) (mm (nn (mm (.mk [] (some (⟨[(5, .one (.own 107)), (73, kk), (74, ii)], [], [(107, .arr 51 tT0)]⟩, [⟨.x 4, ⟨[(5, .one (.own 107))], [], [(107, .arr 51 tT0)]⟩⟩, ⟨.r, ⟨[(2, .one (.data (.sl tT0))), (3, ii)], [], []⟩⟩])) .nil .nil) .nil)) .nil))))))
  Tryz.func14 rfl (by kernel_rfl) rfl rfl rfl rfl types_ok ⟨⟨ok_ref11_Check, ok_ref11_Cmp, trivial⟩, trivial⟩ mx (fun x => by kernel_rfl)

noncomputable def ref12_find_L0 (l : List (List UInt8)) (name : List UInt8) (v : Int) : Option (Int ⊕ (Unit ⊕ Int)) :=
 bif decide (v < (l.length : Int)) then (
 gd (inB v l.length) <|
 bif decide (l.getD v.toNat [] = name) then (
 some (.inr (.inr v)))
 else (
 some (.inl (wi64 (v + 1)))))
 else (
 some (.inr (.inl ())))

noncomputable def ref12_find (l : List (List UInt8)) (name : List UInt8) : Option (Int) :=
 (iter (fun x => ref12_find_L0 l name x) 0).bind fun s =>
 s.elim (fun s2 =>
 some (-1))
 (fun s3 =>
 some s3)

noncomputable def fn_ref12_find : Fun :=
 ⟨92, 2, 1,
 ⟨[(0, .one (.data (.sl (.str)))), (1, ss)], [], []⟩,
 ⟨[(0, ii)], [], []⟩,
 fun x => ref12_find x.1 x.2⟩
noncomputable def cx_ref12_find : Cx := ⟨types, [], [], 19, []⟩
theorem ok_ref12_find : FunOk Tryz.prog fn_ref12_find :=
 FunOk.intro (C := cx_ref12_find) (p := (nn (mm (nn (mm (.mk [] (some (⟨[(0, kk), (1, kk), (7, kk), (8, ii)], [], []⟩, [⟨.x 0, ⟨[], [], []⟩⟩, ⟨.r, ⟨[(4, ii)], [], []⟩⟩])) .nil .nil) .nil)) .nil)))
  Tryz.func92 rfl (by kernel_rfl) rfl rfl rfl rfl types_ok ⟨trivial, trivial⟩ mx (fun x => by kernel_rfl)

noncomputable def ref12_Port (n : List (List UInt8) × List yT1 × List (List UInt8 × Int × Int) × List (List UInt8 × Int × Int × Int × Int) × Int × Int) (name : List UInt8) : Option (Int) :=
 (ref12_names (n.1, (n.2.1, (n.2.2.1, (n.2.2.2.1, (n.2.2.2.2.1, n.2.2.2.2.2)))))).bind fun r =>
 gd (inB 2 4) <|
 (ref12_find ([r.1, r.2.1, r.2.2.1, r.2.2.2].getD 2 []) name).bind fun r2 =>
 some r2

noncomputable def fn_ref12_Port : Fun :=
 ⟨53, 2, 1,
 ⟨[(0, .one (.data (.pair (.sl (.str)) (.pair (.sl (.pair (.str) (.pair (.int .i64) (.pair (.int .i64) (.pair (.int .i64) (.pair (.int .i64) (.pair (.int .i64) (.sl (.pair (.int .i64) tT1))))))))) (.pair (.sl (.pair (.str) tT1)) (.pair (.sl (.pair (.str) (.pair (.int .i64) (.pair (.int .i64) tT1)))) tT1)))))), (1, ss)], [], []⟩,
 ⟨[(0, ii)], [], []⟩,
 fun x => ref12_Port x.1 x.2⟩
noncomputable def cx_ref12_Port : Cx := ⟨types, [], [fn_ref12_names, fn_ref12_find], 10, []⟩
theorem ok_ref12_Port : FunOk Tryz.prog fn_ref12_Port :=
 FunOk.intro (C := cx_ref12_Port) (p := .nil)
  Tryz.func53 rfl (by kernel_rfl) rfl rfl rfl rfl types_ok ⟨⟨ok_ref12_names, ok_ref12_find, trivial⟩, trivial⟩ mx (fun x => by kernel_rfl)

noncomputable def ref29_rank_L0 (products : List (List UInt8 × Int × Int × Int × Int)) (order : List (List UInt8)) (product : Int) (i : Int) : Option (Int ⊕ (Unit ⊕ Int)) :=
 bif decide (i < (order.length : Int)) then (
 gd (inB i order.length) <|
 gd (inB product products.length) <|
 bif decide (order.getD i.toNat [] = (products.getD product.toNat ([], (0, (0, (0, 0))))).1) then (
 some (.inr (.inr i)))
 else (
 some (.inl (wi64 (i + 1)))))
 else (
 some (.inr (.inl ())))

noncomputable def ref29_rank (products : List (List UInt8 × Int × Int × Int × Int)) (order : List (List UInt8)) (product : Int) : Option (Int) :=
 (iter (fun x => ref29_rank_L0 products order product x) 0).bind fun s =>
 s.elim (fun s2 =>
 some (wi64 ((order.length : Int) + product)))
 (fun s3 =>
 some s3)

noncomputable def fn_ref29_rank : Fun :=
 ⟨54, 3, 1,
 ⟨[(0, .one (.data (.sl (.pair (.str) (.pair (.int .i64) (.pair (.int .i64) tT1)))))), (1, .one (.data (.sl (.str)))), (2, ii)], [], []⟩,
 ⟨[(0, ii)], [], []⟩,
 fun x => ref29_rank x.1 x.2.1 x.2.2⟩
noncomputable def cx_ref29_rank : Cx := ⟨types, [], [], 29, []⟩
theorem ok_ref29_rank : FunOk Tryz.prog fn_ref29_rank :=
 FunOk.intro (C := cx_ref29_rank) (p := (nn (mm (nn (mm (.mk [] (some (⟨[(0, kk), (1, kk), (2, kk), (7, ii)], [], []⟩, [⟨.x 0, ⟨[(1, kk), (2, kk)], [], []⟩⟩, ⟨.r, ⟨[(6, ii)], [], []⟩⟩])) .nil .nil) .nil)) .nil)))
  Tryz.func54 rfl (by kernel_rfl) rfl rfl rfl rfl types_ok ⟨trivial, trivial⟩ mx (fun x => by kernel_rfl)

noncomputable def ref29_before (a : yT0 × Int × Int × List UInt8 × Int × Int) (b : yT0 × Int × Int × List UInt8 × Int × Int) : Option (Bool) :=
 bif !decide (a.1.2.2.2.2.1 = b.1.2.2.2.2.1) then (
 some (decide (a.1.2.2.2.2.1 < b.1.2.2.2.2.1)))
 else (
 bif !decide (a.2.1 = b.2.1) then (
 some (decide (a.2.1 < b.2.1)))
 else (
 bif !decide (a.1.1 = b.1.1) then (
 some (Op.bytesLess a.1.1 b.1.1))
 else (
 bif !decide (a.1.2.2.1 = b.1.2.2.1) then (
 some (Op.bytesLess a.1.2.2.1 b.1.2.2.1))
 else (
 some (Op.bytesLess a.1.2.2.2.1 b.1.2.2.2.1)))))

noncomputable def fn_ref29_before : Fun :=
 ⟨55, 2, 1,
 ⟨[(0, .one (.data (.pair tT0 (.pair (.int .i64) (.pair (.int .i64) (.pair (.str) tT1)))))), (1, .one (.data (.pair tT0 (.pair (.int .i64) (.pair (.int .i64) (.pair (.str) tT1))))))], [], []⟩,
 ⟨[(0, bb)], [], []⟩,
 fun x => ref29_before x.1 x.2⟩
noncomputable def cx_ref29_before : Cx := ⟨types, [], [], 64, []⟩
theorem ok_ref29_before : FunOk Tryz.prog fn_ref29_before :=
 FunOk.intro (C := cx_ref29_before) (p := .nil)
  Tryz.func55 rfl (by kernel_rfl) rfl rfl rfl rfl types_ok ⟨trivial, trivial⟩ mx (fun x => by kernel_rfl)

noncomputable def ref29_Batches_L1 (r4 : (List yT0) × Int) (i : Int) (r5 : Int) (r6 : Int) (r7 : Int) (r8 : Int) (k : Int) (rows2 : List (yT0 × Int × Int × List UInt8 × Int × Int)) : Option ((Int × List (yT0 × Int × Int × List UInt8 × Int × Int)) ⊕ (Int × List (yT0 × Int × Int × List UInt8 × Int × Int))) :=
 Option.bind (α := Bool × List (yT0 × Int × Int × List UInt8 × Int × Int)) (
 bif decide (0 < k) then (
 gd (inB (wi64 (k - 1)) rows2.length) <|
 (ref29_before (((r4.1.getD i.toNat ([], ([], ([], ([], (0, 0)))))).1, (((r4.1.getD i.toNat ([], ([], ([], ([], (0, 0)))))).2).1, ((((r4.1.getD i.toNat ([], ([], ([], ([], (0, 0)))))).2).2).1, (((((r4.1.getD i.toNat ([], ([], ([], ([], (0, 0)))))).2).2).2).1, ((((((r4.1.getD i.toNat ([], ([], ([], ([], (0, 0)))))).2).2).2).2).1, (((((r4.1.getD i.toNat ([], ([], ([], ([], (0, 0)))))).2).2).2).2).2))))), (r8, (r5, ((r4.1.getD i.toNat ([], ([], ([], ([], (0, 0)))))).1, (r6, r7))))) (rows2.getD ((wi64 (k - 1)).toNat) (([], ([], ([], ([], (0, 0))))), (0, (0, ([], (0, 0))))))).bind fun r9 =>
 some (r9, rows2))
 else (
 some (false, rows2))) fun s2 =>
 bif s2.1 then (
 some (.inl (wi64 (k - 1), s2.2)))
 else (
 some (.inr (k, s2.2)))

noncomputable def ref29_Batches_L0 (n : List (List UInt8) × List yT1 × List (List UInt8 × Int × Int) × List (List UInt8 × Int × Int × Int × Int) × Int × Int) (products : List (List UInt8 × Int × Int × Int × Int)) (order : List (List UInt8)) (r4 : (List yT0) × Int) (i : Int) (rows : List (yT0 × Int × Int × List UInt8 × Int × Int)) : Option ((Int × List (yT0 × Int × Int × List UInt8 × Int × Int)) ⊕ ((List (yT0 × Int × Int × List UInt8 × Int × Int)) ⊕ Int)) :=
 bif decide (i < (r4.1.length : Int)) then (
 gd (inB i r4.1.length) <|
 (ref04_Find products (((r4.1.getD i.toNat ([], ([], ([], ([], (0, 0)))))).2).1)).bind fun r5 =>
 gd (inB i r4.1.length) <|
 (ref12_Port (n.1, (n.2.1, (n.2.2.1, (n.2.2.2.1, (n.2.2.2.2.1, n.2.2.2.2.2))))) ((((r4.1.getD i.toNat ([], ([], ([], ([], (0, 0)))))).2).2).1)).bind fun r6 =>
 gd (inB i r4.1.length) <|
 (ref12_Port (n.1, (n.2.1, (n.2.2.1, (n.2.2.2.1, (n.2.2.2.2.1, n.2.2.2.2.2))))) (((((r4.1.getD i.toNat ([], ([], ([], ([], (0, 0)))))).2).2).2).1)).bind fun r7 =>
 Option.bind (α := Bool × List (yT0 × Int × Int × List UInt8 × Int × Int)) (
 bif decide (r5 < 0) then (
 some (true, rows))
 else (
 bif decide (r6 < 0) then (
 some (true, rows))
 else (
 some (decide (r7 < 0), rows)))) fun s =>
 bif s.1 then (
 some (.inr (.inr 8)))
 else (
 gd (inB i r4.1.length) <|
 (ref29_rank products order r5).bind fun r8 =>
 gd (inB i r4.1.length) <|
 (iter (fun x => ref29_Batches_L1 r4 i r5 r6 r7 r8 x.1 x.2) ((s.2.length : Int), s.2)).bind fun s3 =>
 gd (fits (s3.2.length + 1) 128) <|
 gd (decide (0 < (s3.2 ++ [(([], ([], ([], ([], (0, 0))))), (0, (0, ([], (0, 0)))))]).length) && inR (wi64 (s3.1 + 1)) ((s3.2 ++ [(([], ([], ([], ([], (0, 0))))), (0, (0, ([], (0, 0)))))]).length : Int) (s3.2 ++ [(([], ([], ([], ([], (0, 0))))), (0, (0, ([], (0, 0)))))]).length) <|
 gd (decide (0 < (s3.2 ++ [(([], ([], ([], ([], (0, 0))))), (0, (0, ([], (0, 0)))))]).length) && inR s3.1 ((s3.2 ++ [(([], ([], ([], ([], (0, 0))))), (0, (0, ([], (0, 0)))))]).length : Int) (s3.2 ++ [(([], ([], ([], ([], (0, 0))))), (0, (0, ([], (0, 0)))))]).length) <|
 gd (decide ((s3.2 ++ [(([], ([], ([], ([], (0, 0))))), (0, (0, ([], (0, 0)))))]).length = (s3.2 ++ [(([], ([], ([], ([], (0, 0))))), (0, (0, ([], (0, 0)))))]).length) && (decide ((s3.2 ++ [(([], ([], ([], ([], (0, 0))))), (0, (0, ([], (0, 0)))))]).length = (s3.2 ++ [(([], ([], ([], ([], (0, 0))))), (0, (0, ([], (0, 0)))))]).length) && decide (0 < (s3.2 ++ [(([], ([], ([], ([], (0, 0))))), (0, (0, ([], (0, 0)))))]).length))) <|
 gd (inB s3.1 (cpy (s3.2 ++ [(([], ([], ([], ([], (0, 0))))), (0, (0, ([], (0, 0)))))]) ((wi64 (s3.1 + 1)).toNat) s3.1.toNat).length) <|
 some (.inl (wi64 (i + 1), (cpy (s3.2 ++ [(([], ([], ([], ([], (0, 0))))), (0, (0, ([], (0, 0)))))]) ((wi64 (s3.1 + 1)).toNat) s3.1.toNat).set s3.1.toNat (((r4.1.getD i.toNat ([], ([], ([], ([], (0, 0)))))).1, (((r4.1.getD i.toNat ([], ([], ([], ([], (0, 0)))))).2).1, ((((r4.1.getD i.toNat ([], ([], ([], ([], (0, 0)))))).2).2).1, (((((r4.1.getD i.toNat ([], ([], ([], ([], (0, 0)))))).2).2).2).1, ((((((r4.1.getD i.toNat ([], ([], ([], ([], (0, 0)))))).2).2).2).2).1, (((((r4.1.getD i.toNat ([], ([], ([], ([], (0, 0)))))).2).2).2).2).2))))), (r8, (r5, ((r4.1.getD i.toNat ([], ([], ([], ([], (0, 0)))))).1, (r6, r7)))))))))
 else (
 some (.inr (.inl rows)))

noncomputable def ref29_Batches_L2 (i2 : Int) (rows3 : List (yT0 × Int × Int × List UInt8 × Int × Int)) (batches : List (Int × List UInt8 × Int × Int)) (lots : List (Int × Int × Int)) : Option ((Int × (List (yT0 × Int × Int × List UInt8 × Int × Int)) × (List (Int × List UInt8 × Int × Int)) × List (Int × Int × Int)) ⊕ ((List (Int × List UInt8 × Int × Int)) × List (Int × Int × Int))) :=
 bif decide (i2 < (rows3.length : Int)) then (
 gd (inB i2 rows3.length) <|
 gd (fits (batches.length + 1) 40) <|
 gd (inB i2 rows3.length) <|
 gd (fits (lots.length + 1) 24) <|
 some (.inl (wi64 (i2 + 1), rows3, batches ++ [((((rows3.getD i2.toNat (([], ([], ([], ([], (0, 0))))), (0, (0, ([], (0, 0)))))).2).2).1, (((((rows3.getD i2.toNat (([], ([], ([], ([], (0, 0))))), (0, (0, ([], (0, 0)))))).2).2).2).1, ((((((rows3.getD i2.toNat (([], ([], ([], ([], (0, 0))))), (0, (0, ([], (0, 0)))))).2).2).2).2).1, (((((rows3.getD i2.toNat (([], ([], ([], ([], (0, 0))))), (0, (0, ([], (0, 0)))))).2).2).2).2).2)))], lots ++ [(i2, (((((((rows3.getD i2.toNat (([], ([], ([], ([], (0, 0))))), (0, (0, ([], (0, 0)))))).1).2).2).2).2).2, 0))])))
 else (
 some (.inr (batches, lots)))

noncomputable def ref29_Batches (n : List (List UInt8) × List yT1 × List (List UInt8 × Int × Int) × List (List UInt8 × Int × Int × Int × Int) × Int × Int) (products : List (List UInt8 × Int × Int × Int × Int)) (l : List yT0) (order : List (List UInt8)) : Option (Int × (List (Int × List UInt8 × Int × Int)) × List (Int × Int × Int)) :=
 (ref12_Check (n.1, (n.2.1, (n.2.2.1, (n.2.2.2.1, (n.2.2.2.2.1, n.2.2.2.2.2)))))).bind fun r =>
 bif !decide (r = 0) then (
 some (r, [], []))
 else (
 (ref04_Check products).bind fun r2 =>
 bif !decide (r2 = 0) then (
 some (r2, [], []))
 else (
 (ref11_Check l).bind fun r3 =>
 bif !decide (r3 = 0) then (
 some (r3, [], []))
 else (
 (ref11_Totals l).bind fun r4 =>
 bif !decide (r4.2 = 0) then (
 some (r4.2, [], []))
 else (
 bif decide (200 < (r4.1.length : Int)) then (
 some (4, [], []))
 else (
 (iter (fun x2 => ref29_Batches_L0 n products order r4 x2.1 x2.2) (0, [])).bind fun s4 =>
 s4.elim (fun s5 =>
 (iter (fun x3 => ref29_Batches_L2 x3.1 x3.2.1 x3.2.2.1 x3.2.2.2) (0, s5, [], [])).bind fun s7 =>
 some (0, s7.1, s7.2))
 (fun s6 =>
 some (s6, [], [])))))))

noncomputable def fn_ref29_Batches : Fun :=
 ⟨21, 4, 3,
 ⟨[(0, .one (.data (.pair (.sl (.str)) (.pair (.sl (.pair (.str) (.pair (.int .i64) (.pair (.int .i64) (.pair (.int .i64) (.pair (.int .i64) (.pair (.int .i64) (.sl (.pair (.int .i64) tT1))))))))) (.pair (.sl (.pair (.str) tT1)) (.pair (.sl (.pair (.str) (.pair (.int .i64) (.pair (.int .i64) tT1)))) tT1)))))), (1, .one (.data (.sl (.pair (.str) (.pair (.int .i64) (.pair (.int .i64) tT1)))))), (2, .one (.data (.sl tT0))), (3, .one (.data (.sl (.str))))], [], []⟩,
 ⟨[(0, .one (.own 0)), (1, .one (.own 1)), (2, ii)], [], [(0, .arr 49 (.pair (.int .i64) (.pair (.str) tT1))), (1, .arr 47 (.pair (.int .i64) tT1))]⟩,
 fun x => ref29_Batches x.1 x.2.1 x.2.2.1 x.2.2.2⟩
noncomputable def cx_ref29_Batches : Cx := ⟨types, [], [fn_ref12_Check, fn_ref04_Check, fn_ref11_Check, fn_ref11_Totals, fn_ref04_Find, fn_ref12_Port, fn_ref29_rank, fn_ref29_before], 165, []⟩
theorem ok_ref29_Batches : FunOk Tryz.prog fn_ref29_Batches :=
 FunOk.intro (C := cx_ref29_Batches) (p := (nn (nn (nn (nn (nn (nn (nn (nn (mm (nn (mm (.mk [] (some (⟨[(1, kk), (3, kk), (4, .one (.ptr 80 0)), (14, kk), (16, .one (.own 283)), (17, ii)], [(80, 32, [.keep, .keep, .keep, .keep, .keep, .keep])], [(283, .arr 100 (.pair tT0 (.pair (.int .i64) (.pair (.int .i64) (.pair (.str) tT1)))))]⟩, [⟨.x 0, ⟨[(16, .one (.own 283))], [], [(283, .arr 100 (.pair tT0 (.pair (.int .i64) (.pair (.int .i64) (.pair (.str) tT1)))))]⟩⟩, ⟨.r, ⟨[(8, .one .nil), (9, .one .nil), (10, ii)], [], []⟩⟩])) (nn (mm (mm (nn (nn (mm (mm (.mk [.join [⟨.n, ⟨[(1, kk), (3, kk), (4, .one (.ptr 80 0)), (14, kk), (16, .one (.own 283)), (17, kk), (18, kk), (19, kk), (20, kk), (88, bb)], [(80, 32, [.keep, .keep, .keep, .keep, .keep, .keep])], [(283, .arr 100 (.pair tT0 (.pair (.int .i64) (.pair (.int .i64) (.pair (.str) tT1)))))]⟩⟩]] none .nil .nil) .nil) (nn (nn (mm (mm (.mk [] (some (⟨[(1, kk), (3, kk), (4, .one (.ptr 80 0)), (14, kk), (16, .one (.own 283)), (17, kk), (21, .one (.ptr 352 0)), (22, ii)], [(80, 32, [.keep, .keep, .keep, .keep, .keep, .keep]), (352, 100, [.keep, .keep, .keep, .keep, .keep, .keep, .keep, .keep, .keep, .keep, .keep])], [(283, .arr 100 (.pair tT0 (.pair (.int .i64) (.pair (.int .i64) (.pair (.str) tT1)))))]⟩, [⟨.x 2, ⟨[(1, kk), (3, kk), (4, .one (.ptr 80 0)), (14, kk), (16, .one (.own 283)), (17, kk), (21, .one (.ptr 352 0)), (22, ii)], [(80, 32, [.keep, .keep, .keep, .keep, .keep, .keep]), (352, 100, [.keep, .keep, .keep, .keep, .keep, .keep, .keep, .keep, .keep, .keep, .keep])], [(283, .arr 100 (.pair tT0 (.pair (.int .i64) (.pair (.int .i64) (.pair (.str) tT1)))))]⟩⟩])) (mm (mm (.mk [.join [⟨.n, ⟨[(1, kk), (3, kk), (4, .one (.ptr 80 0)), (14, kk), (16, .one (.own 283)), (17, kk), (21, .one (.ptr 352 0)), (22, kk), (119, bb)], [(80, 32, [.keep, .keep, .keep, .keep, .keep, .keep]), (352, 100, [.keep, .keep, .keep, .keep, .keep, .keep, .keep, .keep, .keep, .keep, .keep])], [(283, .arr 100 (.pair tT0 (.pair (.int .i64) (.pair (.int .i64) (.pair (.str) tT1)))))]⟩⟩]] none .nil .nil) .nil) .nil) .nil) .nil) .nil)))))) .nil) .nil)) .nil) .nil)) (nn (nn (mm (nn (mm (.mk [] (some (⟨[(16, .one (.own 283)), (23, .one (.own 395)), (24, .one (.own 411)), (25, ii)], [], [(283, .arr 100 (.pair tT0 (.pair (.int .i64) (.pair (.int .i64) (.pair (.str) tT1))))), (395, .arr 49 (.pair (.int .i64) (.pair (.str) tT1))), (411, .arr 47 (.pair (.int .i64) tT1))]⟩, [⟨.x 4, ⟨[(23, .one (.own 395)), (24, .one (.own 411))], [], [(395, .arr 49 (.pair (.int .i64) (.pair (.str) tT1))), (411, .arr 47 (.pair (.int .i64) tT1))]⟩⟩])) .nil .nil) .nil)) .nil)))))))))))))
  Tryz.func21 rfl (by kernel_rfl) rfl rfl rfl rfl types_ok ⟨⟨ok_ref12_Check, ok_ref04_Check, ok_ref11_Check, ok_ref11_Totals, ok_ref04_Find, ok_ref12_Port, ok_ref29_rank, ok_ref29_before, trivial⟩, trivial⟩ mx (fun x => by kernel_rfl)

noncomputable def ref29_SameBatches_L0 (a : List (Int × List UInt8 × Int × Int)) (b : List (Int × List UInt8 × Int × Int)) (i : Int) : Option (Int ⊕ (Unit ⊕ Bool)) :=
 bif decide (i < (a.length : Int)) then (
 gd (inB i a.length) <|
 gd (inB i b.length) <|
 bif !(decide ((a.getD i.toNat (0, ([], (0, 0)))).1 = (b.getD i.toNat (0, ([], (0, 0)))).1) && (decide (((a.getD i.toNat (0, ([], (0, 0)))).2).1 = ((b.getD i.toNat (0, ([], (0, 0)))).2).1) && (decide ((((a.getD i.toNat (0, ([], (0, 0)))).2).2).1 = (((b.getD i.toNat (0, ([], (0, 0)))).2).2).1) && decide ((((a.getD i.toNat (0, ([], (0, 0)))).2).2).2 = (((b.getD i.toNat (0, ([], (0, 0)))).2).2).2)))) then (
 some (.inr (.inr false)))
 else (
 some (.inl (wi64 (i + 1)))))
 else (
 some (.inr (.inl ())))

noncomputable def ref29_SameBatches (a : List (Int × List UInt8 × Int × Int)) (b : List (Int × List UInt8 × Int × Int)) : Option (Bool) :=
 bif !decide ((a.length : Int) = (b.length : Int)) then (
 some false)
 else (
 (iter (fun x => ref29_SameBatches_L0 a b x) 0).bind fun s =>
 s.elim (fun s2 =>
 some true)
 (fun s3 =>
 some s3))

noncomputable def fn_ref29_SameBatches : Fun :=
 ⟨15, 2, 1,
 ⟨[(0, .one (.data (.sl (.pair (.int .i64) (.pair (.str) tT1))))), (1, .one (.data (.sl (.pair (.int .i64) (.pair (.str) tT1)))))], [], []⟩,
 ⟨[(0, bb)], [], []⟩,
 fun x => ref29_SameBatches x.1 x.2⟩
noncomputable def cx_ref29_SameBatches : Cx := ⟨types, [], [], 26, []⟩
theorem ok_ref29_SameBatches : FunOk Tryz.prog fn_ref29_SameBatches :=
 FunOk.intro (C := cx_ref29_SameBatches) (p := (nn (nn (mm (nn (mm (.mk [] (some (⟨[(0, kk), (1, kk), (5, ii)], [], []⟩, [⟨.x 0, ⟨[], [], []⟩⟩, ⟨.r, ⟨[(4, bb)], [], []⟩⟩])) .nil .nil) .nil)) .nil))))
  Tryz.func15 rfl (by kernel_rfl) rfl rfl rfl rfl types_ok ⟨trivial, trivial⟩ mx (fun x => by kernel_rfl)

noncomputable def ref29_Same_L0 (a : List (Int × Int × Int)) (b : List (Int × Int × Int)) (i : Int) : Option (Int ⊕ (Unit ⊕ Bool)) :=
 bif decide (i < (a.length : Int)) then (
 gd (inB i a.length) <|
 gd (inB i b.length) <|
 bif !(decide ((a.getD i.toNat (0, (0, 0))).1 = (b.getD i.toNat (0, (0, 0))).1) && (decide (((a.getD i.toNat (0, (0, 0))).2).1 = ((b.getD i.toNat (0, (0, 0))).2).1) && decide (((a.getD i.toNat (0, (0, 0))).2).2 = ((b.getD i.toNat (0, (0, 0))).2).2))) then (
 some (.inr (.inr false)))
 else (
 some (.inl (wi64 (i + 1)))))
 else (
 some (.inr (.inl ())))

noncomputable def ref29_Same (a : List (Int × Int × Int)) (b : List (Int × Int × Int)) : Option (Bool) :=
 bif !decide ((a.length : Int) = (b.length : Int)) then (
 some false)
 else (
 (iter (fun x => ref29_Same_L0 a b x) 0).bind fun s =>
 s.elim (fun s2 =>
 some true)
 (fun s3 =>
 some s3))

noncomputable def fn_ref29_Same : Fun :=
 ⟨16, 2, 1,
 ⟨[(0, .one (.data (.sl (.pair (.int .i64) tT1)))), (1, .one (.data (.sl (.pair (.int .i64) tT1))))], [], []⟩,
 ⟨[(0, bb)], [], []⟩,
 fun x => ref29_Same x.1 x.2⟩
noncomputable def cx_ref29_Same : Cx := ⟨types, [], [], 26, []⟩
theorem ok_ref29_Same : FunOk Tryz.prog fn_ref29_Same :=
 FunOk.intro (C := cx_ref29_Same) (p := (nn (nn (mm (nn (mm (.mk [] (some (⟨[(0, kk), (1, kk), (5, ii)], [], []⟩, [⟨.x 0, ⟨[], [], []⟩⟩, ⟨.r, ⟨[(4, bb)], [], []⟩⟩])) .nil .nil) .nil)) .nil))))
  Tryz.func16 rfl (by kernel_rfl) rfl rfl rfl rfl types_ok ⟨trivial, trivial⟩ mx (fun x => by kernel_rfl)

noncomputable def slices_Clone_api_Lot_api_Lot (s : List (Int × Int × Int)) : Option (List (Int × Int × Int)) :=
 bif Nat.beq s.length 0 then (bothO (
 some []) (
 gd (fits (0 + s.length) 24) <|
 some ([] ++ s)))
 else (
 gd (fits (0 + s.length) 24) <|
 some ([] ++ s))

noncomputable def fn_slices_Clone_api_Lot_api_Lot : Fun :=
 ⟨56, 1, 1,
 ⟨[(0, .one (.data (.sl (.pair (.int .i64) tT1))))], [], []⟩,
 ⟨[(0, .one (.own 0))], [], [(0, .arr 47 (.pair (.int .i64) tT1))]⟩,
 fun x => slices_Clone_api_Lot_api_Lot x⟩
noncomputable def cx_slices_Clone_api_Lot_api_Lot : Cx := ⟨types, [5], [], 8, []⟩
theorem ok_slices_Clone_api_Lot_api_Lot : FunOk Tryz.prog fn_slices_Clone_api_Lot_api_Lot :=
 FunOk.intro (C := cx_slices_Clone_api_Lot_api_Lot) (p := .nil)
  Tryz.func56 rfl (by kernel_rfl) rfl rfl rfl rfl types_ok ⟨trivial, trivial⟩ mx (fun x => by kernel_rfl)

noncomputable def lots_Pump_1 (n : Int) : Option (Bool) :=
 bif decide (n < 0) then (
 some true)
 else (
 some (decide (1099511627776 < n)))

noncomputable def fn_lots_Pump_1 : Fun :=
 ⟨57, 1, 1,
 ⟨[(0, ii)], [], []⟩,
 ⟨[(0, bb)], [], []⟩,
 fun x => lots_Pump_1 x⟩
noncomputable def cx_lots_Pump_1 : Cx := ⟨types, [], [], 9, []⟩
theorem ok_lots_Pump_1 : FunOk Tryz.prog fn_lots_Pump_1 :=
 FunOk.intro (C := cx_lots_Pump_1) (p := .nil)
  Tryz.func57 rfl (by kernel_rfl) rfl rfl rfl rfl types_ok ⟨trivial, trivial⟩ mx (fun x => by kernel_rfl)

noncomputable def lots_Pump_2 (l : Int × Int × Int) (v : Unit) : Option (Bool) :=
 (lots_Pump_1 l.2.1).bind fun r =>
 bif r then (
 some true)
 else (
 (lots_Pump_1 l.2.2).bind fun r2 =>
 some r2)

noncomputable def fn_lots_Pump_2 : Fun :=
 ⟨59, 2, 1,
 ⟨[(0, .one (.data (.pair (.int .i64) tT1))), (1, .one (.sel (.fnc 57)))], [], []⟩,
 ⟨[(0, bb)], [], []⟩,
 fun x => lots_Pump_2 x.1 x.2⟩
noncomputable def cx_lots_Pump_2 : Cx := ⟨types, [], [fn_lots_Pump_1], 14, []⟩
theorem ok_lots_Pump_2 : FunOk Tryz.prog fn_lots_Pump_2 :=
 FunOk.intro (C := cx_lots_Pump_2) (p := .nil)
  Tryz.func59 rfl (by kernel_rfl) rfl rfl rfl rfl types_ok ⟨⟨ok_lots_Pump_1, trivial⟩, trivial⟩ mx (fun x => by kernel_rfl)

noncomputable def slices_IndexFunc_api_Lot_api_Lot_L0 (s : List (Int × Int × Int)) (f : (Int × Int × Int) × Unit → Option Bool) (v : Int) : Option (Int ⊕ (Unit ⊕ Int)) :=
 bif decide (v < (s.length : Int)) then (
 gd (inB v s.length) <|
 (f (s.getD v.toNat (0, (0, 0)), ())).bind fun r =>
 bif r then (
 some (.inr (.inr v)))
 else (
 some (.inl (wi64 (v + 1)))))
 else (
 some (.inr (.inl ())))

noncomputable def slices_IndexFunc_api_Lot_api_Lot (s : List (Int × Int × Int)) (f : (Int × Int × Int) × Unit → Option Bool) : Option (Int) :=
 (iter (fun x => slices_IndexFunc_api_Lot_api_Lot_L0 s f x) 0).bind fun s2 =>
 s2.elim (fun s3 =>
 some (-1))
 (fun s4 =>
 some s4)

noncomputable def fn_slices_IndexFunc_api_Lot_api_Lot : Fun :=
 ⟨60, 2, 1,
 ⟨[(0, .one (.data (.sl (.pair (.int .i64) tT1)))), (1, .one (.fn [.pair (.int .i64) tT1] (.bool)))], [], []⟩,
 ⟨[(0, ii)], [], []⟩,
 fun x => slices_IndexFunc_api_Lot_api_Lot x.1 x.2⟩
noncomputable def cx_slices_IndexFunc_api_Lot_api_Lot : Cx := ⟨types, [], [], 19, []⟩
theorem ok_slices_IndexFunc_api_Lot_api_Lot : FunOk Tryz.prog fn_slices_IndexFunc_api_Lot_api_Lot :=
 FunOk.intro (C := cx_slices_IndexFunc_api_Lot_api_Lot) (p := (nn (mm (nn (mm (.mk [] (some (⟨[(0, kk), (1, kk), (7, kk), (8, ii)], [], []⟩, [⟨.x 0, ⟨[], [], []⟩⟩, ⟨.r, ⟨[(4, ii)], [], []⟩⟩])) .nil .nil) .nil)) .nil)))
  Tryz.func60 rfl (by kernel_rfl) rfl rfl rfl rfl types_ok ⟨trivial, trivial⟩ mx (fun x => by kernel_rfl)

noncomputable def slices_ContainsFunc_api_Lot_api_Lot (s : List (Int × Int × Int)) (f : (Int × Int × Int) × Unit → Option Bool) : Option (Bool) :=
 (slices_IndexFunc_api_Lot_api_Lot s f).bind fun r =>
 some (decide (0 ≤ r))

noncomputable def fn_slices_ContainsFunc_api_Lot_api_Lot : Fun :=
 ⟨58, 2, 1,
 ⟨[(0, .one (.data (.sl (.pair (.int .i64) tT1)))), (1, .one (.fn [.pair (.int .i64) tT1] (.bool)))], [], []⟩,
 ⟨[(0, bb)], [], []⟩,
 fun x => slices_ContainsFunc_api_Lot_api_Lot x.1 x.2⟩
noncomputable def cx_slices_ContainsFunc_api_Lot_api_Lot : Cx := ⟨types, [], [fn_slices_IndexFunc_api_Lot_api_Lot], 9, []⟩
theorem ok_slices_ContainsFunc_api_Lot_api_Lot : FunOk Tryz.prog fn_slices_ContainsFunc_api_Lot_api_Lot :=
 FunOk.intro (C := cx_slices_ContainsFunc_api_Lot_api_Lot) (p := .nil)
  Tryz.func58 rfl (by kernel_rfl) rfl rfl rfl rfl types_ok ⟨⟨ok_slices_IndexFunc_api_Lot_api_Lot, trivial⟩, trivial⟩ mx (fun x => by kernel_rfl)

noncomputable def lots_Head_1 (l : Int × Int × Int) : Option (Bool) :=
 some (decide (l.2.2 < l.2.1))

noncomputable def fn_lots_Head_1 : Fun :=
 ⟨61, 1, 1,
 ⟨[(0, .one (.data (.pair (.int .i64) tT1)))], [], []⟩,
 ⟨[(0, bb)], [], []⟩,
 fun x => lots_Head_1 x⟩
noncomputable def cx_lots_Head_1 : Cx := ⟨types, [], [], 8, []⟩
theorem ok_lots_Head_1 : FunOk Tryz.prog fn_lots_Head_1 :=
 FunOk.intro (C := cx_lots_Head_1) (p := .nil)
  Tryz.func61 rfl (by kernel_rfl) rfl rfl rfl rfl types_ok ⟨trivial, trivial⟩ mx (fun x => by kernel_rfl)

noncomputable def lots_Head (lots : List (Int × Int × Int)) : Option (Int × Bool) :=
 (slices_IndexFunc_api_Lot_api_Lot lots (fun h => (lots_Head_1 h.1).bind fun y => some y)).bind fun r =>
 some (max 0 r, decide (0 ≤ r))

noncomputable def fn_lots_Head : Fun :=
 ⟨25, 1, 2,
 ⟨[(0, .one (.data (.sl (.pair (.int .i64) tT1))))], [], []⟩,
 ⟨[(0, ii), (1, bb)], [], []⟩,
 fun x => lots_Head x⟩
noncomputable def cx_lots_Head : Cx := ⟨types, [], [fn_slices_IndexFunc_api_Lot_api_Lot, fn_lots_Head_1], 11, []⟩
theorem ok_lots_Head : FunOk Tryz.prog fn_lots_Head :=
 FunOk.intro (C := cx_lots_Head) (p := .nil)
  Tryz.func25 rfl (by kernel_rfl) rfl rfl rfl rfl types_ok ⟨⟨ok_slices_IndexFunc_api_Lot_api_Lot, ok_lots_Head_1, trivial⟩, trivial⟩ mx (fun x => by kernel_rfl)

noncomputable def lots_Pump (lots : List (Int × Int × Int)) (litres : Int) : Option (Int × Int × List (Int × Int × Int)) :=
 (slices_Clone_api_Lot_api_Lot lots).bind fun r =>
 Option.bind (α := Bool × Unit × List (Int × Int × Int)) (
 bif decide (litres < 1) then (
 some (true, (), r))
 else (
 some (decide (1000 < litres), (), r))) fun s =>
 bif s.1 then (
 some (0, 1, s.2.2))
 else (
 (slices_ContainsFunc_api_Lot_api_Lot lots (fun h => (lots_Pump_2 h.1 s.2.1).bind fun y => some y)).bind fun r2 =>
 bif r2 then (
 some (0, 21, s.2.2))
 else (
 bif decide (200 < (lots.length : Int)) then (
 some (0, 4, s.2.2))
 else (
 (lots_Head lots).bind fun r3 =>
 bif !r3.2 then (
 some (0, 8, s.2.2))
 else (
 gd (inB r3.1 s.2.2.length) <|
 gd (inB r3.1 s.2.2.length) <|
 gd (inB r3.1 (s.2.2.set r3.1.toNat ((s.2.2.getD r3.1.toNat (0, (0, 0))).1, (((s.2.2.getD r3.1.toNat (0, (0, 0))).2).1, wi64 ((((s.2.2.getD r3.1.toNat (0, (0, 0))).2).2) + litres)))).length) <|
 some (((s.2.2.set r3.1.toNat ((s.2.2.getD r3.1.toNat (0, (0, 0))).1, (((s.2.2.getD r3.1.toNat (0, (0, 0))).2).1, wi64 ((((s.2.2.getD r3.1.toNat (0, (0, 0))).2).2) + litres)))).getD r3.1.toNat (0, (0, 0))).1, 0, s.2.2.set r3.1.toNat ((s.2.2.getD r3.1.toNat (0, (0, 0))).1, (((s.2.2.getD r3.1.toNat (0, (0, 0))).2).1, wi64 ((((s.2.2.getD r3.1.toNat (0, (0, 0))).2).2) + litres))))))))

noncomputable def fn_lots_Pump : Fun :=
 ⟨23, 2, 3,
 ⟨[(0, .one (.data (.sl (.pair (.int .i64) tT1)))), (1, ii)], [], []⟩,
 ⟨[(0, .one (.own 0)), (1, ii), (2, ii)], [], [(0, .arr 47 (.pair (.int .i64) tT1))]⟩,
 fun x => lots_Pump x.1 x.2⟩
noncomputable def cx_lots_Pump : Cx := ⟨types, [], [fn_slices_Clone_api_Lot_api_Lot, fn_slices_ContainsFunc_api_Lot_api_Lot, fn_lots_Pump_2, fn_lots_Head], 54, []⟩
theorem ok_lots_Pump : FunOk Tryz.prog fn_lots_Pump :=
 FunOk.intro (C := cx_lots_Pump) (p := (nn (nn (nn (mm (mm (mm (.mk [.join [⟨.n, ⟨[(0, kk), (1, kk), (7, .one (.own 208)), (8, .one (.ptr 144 0)), (13, bb)], [(144, 103, [.data (.fnc 57)])], [(208, .arr 47 (.pair (.int .i64) tT1))]⟩⟩]] none .nil .nil) (nn (mm (.mk [.fv [(8, .fnc 57)]] none .nil .nil) .nil))) .nil) .nil)))))
  Tryz.func23 rfl (by kernel_rfl) rfl rfl rfl rfl types_ok ⟨⟨ok_slices_Clone_api_Lot_api_Lot, ok_slices_ContainsFunc_api_Lot_api_Lot, ok_lots_Pump_2, ok_lots_Head, trivial⟩, trivial⟩ mx (fun x => by kernel_rfl)

noncomputable def ref29_Head_L0 (lots : List (Int × Int × Int)) (i : Int) : Option (Int ⊕ (Unit ⊕ (Int × Bool))) :=
 bif decide (i < (lots.length : Int)) then (
 gd (inB i lots.length) <|
 gd (inB i lots.length) <|
 bif decide (((lots.getD i.toNat (0, (0, 0))).2).2 < ((lots.getD i.toNat (0, (0, 0))).2).1) then (
 some (.inr (.inr (i, true))))
 else (
 some (.inl (wi64 (i + 1)))))
 else (
 some (.inr (.inl ())))

noncomputable def ref29_Head (lots : List (Int × Int × Int)) : Option (Int × Bool) :=
 (iter (fun x => ref29_Head_L0 lots x) 0).bind fun s =>
 s.elim (fun s2 =>
 some (0, false))
 (fun s3 =>
 some (s3.1, s3.2))

noncomputable def fn_ref29_Head : Fun :=
 ⟨26, 1, 2,
 ⟨[(0, .one (.data (.sl (.pair (.int .i64) tT1))))], [], []⟩,
 ⟨[(0, ii), (1, bb)], [], []⟩,
 fun x => ref29_Head x⟩
noncomputable def cx_ref29_Head : Cx := ⟨types, [], [], 23, []⟩
theorem ok_ref29_Head : FunOk Tryz.prog fn_ref29_Head :=
 FunOk.intro (C := cx_ref29_Head) (p := (nn (mm (nn (mm (.mk [] (some (⟨[(0, kk), (4, ii)], [], []⟩, [⟨.x 0, ⟨[], [], []⟩⟩, ⟨.r, ⟨[(2, ii), (3, bb)], [], []⟩⟩])) .nil .nil) .nil)) .nil)))
  Tryz.func26 rfl (by kernel_rfl) rfl rfl rfl rfl types_ok ⟨trivial, trivial⟩ mx (fun x => by kernel_rfl)

noncomputable def ref29_Pump_L0 (lots : List (Int × Int × Int)) (i : Int) : Option (Int ⊕ (Unit ⊕ ((List (Int × Int × Int)) × Int × Int))) :=
 bif decide (i < (lots.length : Int)) then (
 gd (inB i lots.length) <|
 Option.bind (α := Bool) (
 bif decide (((lots.getD i.toNat (0, (0, 0))).2).1 < 0) then (
 some true)
 else (
 bif decide (1099511627776 < ((lots.getD i.toNat (0, (0, 0))).2).1) then (
 some true)
 else (
 bif decide (((lots.getD i.toNat (0, (0, 0))).2).2 < 0) then (
 some true)
 else (
 some (decide (1099511627776 < ((lots.getD i.toNat (0, (0, 0))).2).2)))))) fun s2 =>
 bif s2 then (
 some (.inr (.inr (lots, 0, 21))))
 else (
 some (.inl (wi64 (i + 1)))))
 else (
 some (.inr (.inl ())))

noncomputable def ref29_Pump (lots : List (Int × Int × Int)) (litres : Int) : Option ((List (Int × Int × Int)) × Int × Int) :=
 Option.bind (α := Bool) (
 bif decide (litres < 1) then (
 some true)
 else (
 some (decide (1000 < litres)))) fun s =>
 bif s then (
 some (lots, 0, 1))
 else (
 (iter (fun x => ref29_Pump_L0 lots x) 0).bind fun s3 =>
 s3.elim (fun s4 =>
 bif decide (200 < (lots.length : Int)) then (
 some (lots, 0, 4))
 else (
 (ref29_Head lots).bind fun r =>
 bif !r.2 then (
 some (lots, 0, 8))
 else (
 gd (fits (0 + lots.length) 24) <|
 gd (inB r.1 ([] ++ lots).length) <|
 gd (inB r.1 ([] ++ lots).length) <|
 gd (inB r.1 (([] ++ lots).set r.1.toNat ((([] ++ lots).getD r.1.toNat (0, (0, 0))).1, (((([] ++ lots).getD r.1.toNat (0, (0, 0))).2).1, wi64 ((((([] ++ lots).getD r.1.toNat (0, (0, 0))).2).2) + litres)))).length) <|
 some (([] ++ lots).set r.1.toNat ((([] ++ lots).getD r.1.toNat (0, (0, 0))).1, (((([] ++ lots).getD r.1.toNat (0, (0, 0))).2).1, wi64 ((((([] ++ lots).getD r.1.toNat (0, (0, 0))).2).2) + litres))), ((([] ++ lots).set r.1.toNat ((([] ++ lots).getD r.1.toNat (0, (0, 0))).1, (((([] ++ lots).getD r.1.toNat (0, (0, 0))).2).1, wi64 ((((([] ++ lots).getD r.1.toNat (0, (0, 0))).2).2) + litres)))).getD r.1.toNat (0, (0, 0))).1, 0))))
 (fun s5 =>
 some (s5.1, s5.2.1, s5.2.2)))

noncomputable def fn_ref29_Pump : Fun :=
 ⟨24, 2, 3,
 ⟨[(0, .one (.data (.sl (.pair (.int .i64) tT1)))), (1, ii)], [], []⟩,
 ⟨[(0, .one (.data (.sl (.pair (.int .i64) tT1)))), (1, ii), (2, ii)], [], []⟩,
 fun x => ref29_Pump x.1 x.2⟩
noncomputable def cx_ref29_Pump : Cx := ⟨types, [60], [fn_ref29_Head], 80, []⟩
theorem ok_ref29_Pump : FunOk Tryz.prog fn_ref29_Pump :=
 FunOk.intro (C := cx_ref29_Pump) (p := (nn (mm (mm (.mk [.join [⟨.n, ⟨[(0, kk), (1, kk), (17, bb)], [], []⟩⟩]] none .nil .nil) .nil) (mm (nn (mm (.mk [] (some (⟨[(0, kk), (1, kk), (7, ii)], [], []⟩, [⟨.x 0, ⟨[(0, kk), (1, kk)], [], []⟩⟩, ⟨.r, ⟨[(4, .one (.data (.sl (.pair (.int .i64) tT1)))), (5, ii), (6, ii)], [], []⟩⟩])) (nn (mm (mm (nn (mm (.mk [.join [⟨.n, ⟨[(0, kk), (1, kk), (7, kk), (46, bb)], [], []⟩⟩]] none .nil .nil) .nil)) .nil) .nil)) .nil) .nil)) .nil))))
  Tryz.func24 rfl (by kernel_rfl) rfl rfl rfl rfl types_ok ⟨⟨ok_ref29_Head, trivial⟩, trivial⟩ mx (fun x => by kernel_rfl)

noncomputable def lots_Totals_L0 (batches : List (Int × List UInt8 × Int × Int)) (most : Int) (v : Int) : Option ((Int × Int) ⊕ Int) :=
 bif decide (v < (batches.length : Int)) then (
 gd (inB v batches.length) <|
 some (.inl (max most ((batches.getD v.toNat (0, ([], (0, 0)))).1), wi64 (v + 1))))
 else (
 some (.inr most))

noncomputable def lots_Totals_L1 (batches : List (Int × List UInt8 × Int × Int)) (lots : List (Int × Int × Int)) (v2 : Int) (out : List Int) : Option ((Int × List Int) ⊕ (List Int)) :=
 bif decide (v2 < (lots.length : Int)) then (
 Option.bind (α := List Int) (
 gd (inB v2 lots.length) <|
 Option.bind (α := Bool × List Int) (
 bif decide ((lots.getD v2.toNat (0, (0, 0))).1 < 0) then (
 some (true, out))
 else (
 some (decide ((batches.length : Int) ≤ (lots.getD v2.toNat (0, (0, 0))).1), out))) fun s2 =>
 bif s2.1 then (
 some s2.2)
 else (
 gd (inB ((lots.getD v2.toNat (0, (0, 0))).1) batches.length) <|
 Option.bind (α := List Int) (
 bif decide (0 ≤ (batches.getD ((lots.getD v2.toNat (0, (0, 0))).1).toNat (0, ([], (0, 0)))).1) then (
 gd (inB ((batches.getD ((lots.getD v2.toNat (0, (0, 0))).1).toNat (0, ([], (0, 0)))).1) s2.2.length) <|
 gd (inB ((batches.getD ((lots.getD v2.toNat (0, (0, 0))).1).toNat (0, ([], (0, 0)))).1) s2.2.length) <|
 some (s2.2.set (((batches.getD ((lots.getD v2.toNat (0, (0, 0))).1).toNat (0, ([], (0, 0)))).1).toNat) (wi64 ((s2.2.getD (((batches.getD ((lots.getD v2.toNat (0, (0, 0))).1).toNat (0, ([], (0, 0)))).1).toNat) 0) + (((lots.getD v2.toNat (0, (0, 0))).2).1)))))
 else (
 some s2.2)) fun s3 =>
 some s3)) fun s4 =>
 some (.inl (wi64 (v2 + 1), s4)))
 else (
 some (.inr out))

noncomputable def lots_Totals (batches : List (Int × List UInt8 × Int × Int)) (lots : List (Int × Int × Int)) : Option (List Int) :=
 (iter (fun x => lots_Totals_L0 batches x.1 x.2) ((-1), 0)).bind fun s =>
 gd (makeG 8 (wi64 (s + 1))) <|
 (iter (fun x2 => lots_Totals_L1 batches lots x2.1 x2.2) (0, List.replicate (wi64 (s + 1)).toNat 0)).bind fun s5 =>
 some s5

noncomputable def fn_lots_Totals : Fun :=
 ⟨17, 2, 1,
 ⟨[(0, .one (.data (.sl (.pair (.int .i64) (.pair (.str) tT1))))), (1, .one (.data (.sl (.pair (.int .i64) tT1))))], [], []⟩,
 ⟨[(0, .one (.own 0))], [], [(0, .arr 3 (.int .i64))]⟩,
 fun x => lots_Totals x.1 x.2⟩
noncomputable def cx_lots_Totals : Cx := ⟨types, [], [], 60, []⟩
theorem ok_lots_Totals : FunOk Tryz.prog fn_lots_Totals :=
 FunOk.intro (C := cx_lots_Totals) (p := (nn (nn (mm (nn (mm (.mk [] (some (⟨[(0, kk), (1, kk), (5, ii), (12, kk), (13, kk), (14, ii)], [], []⟩, [⟨.x 0, ⟨[(0, kk), (1, kk), (5, ii)], [], []⟩⟩])) .nil .nil) .nil)) (nn (mm (nn (mm (.mk [] (some (⟨[(0, kk), (8, .one (.own 416)), (26, kk), (27, kk), (28, ii)], [], [(416, .arr 3 (.int .i64))]⟩, [⟨.x 2, ⟨[(8, .one (.own 416))], [], [(416, .arr 3 (.int .i64))]⟩⟩])) (nn (nn (mm (.mk [.join [⟨.n, ⟨[(0, kk), (8, .one (.own 416)), (26, kk), (27, kk), (28, kk)], [], [(416, .arr 3 (.int .i64))]⟩⟩]] none (nn (mm (mm (.mk [.join [⟨.n, ⟨[(0, kk), (8, .one (.own 416)), (10, .one (.ptr 176 0)), (26, kk), (27, kk), (28, kk), (41, bb)], [(176, 47, [.keep, .keep, .keep])], [(416, .arr 3 (.int .i64))]⟩⟩]] none .nil .nil) .nil) (nn (nn (.mk [.join [⟨.n, ⟨[(0, kk), (8, .one (.own 416)), (26, kk), (27, kk), (28, kk)], [], [(416, .arr 3 (.int .i64))]⟩⟩]] none .nil .nil))))) .nil) .nil))) .nil) .nil)) .nil))))))
  Tryz.func17 rfl (by kernel_rfl) rfl rfl rfl rfl types_ok ⟨trivial, trivial⟩ mx (fun x => by kernel_rfl)

noncomputable def ref29_Totals_L0 (batches : List (Int × List UInt8 × Int × Int)) (most : Int) (i : Int) : Option ((Int × Int) ⊕ Int) :=
 bif decide (i < (batches.length : Int)) then (
 gd (inB i batches.length) <|
 some (.inl (max most ((batches.getD i.toNat (0, ([], (0, 0)))).1), wi64 (i + 1))))
 else (
 some (.inr most))

noncomputable def ref29_Totals_L1 (batches : List (Int × List UInt8 × Int × Int)) (lots : List (Int × Int × Int)) (i2 : Int) (out : List Int) : Option ((Int × List Int) ⊕ (List Int)) :=
 bif decide (i2 < (lots.length : Int)) then (
 gd (inB i2 lots.length) <|
 Option.bind (α := Bool × List Int) (
 bif decide (0 ≤ (lots.getD i2.toNat (0, (0, 0))).1) then (
 bif decide ((lots.getD i2.toNat (0, (0, 0))).1 < (batches.length : Int)) then (
 gd (inB ((lots.getD i2.toNat (0, (0, 0))).1) batches.length) <|
 some (decide (0 ≤ (batches.getD ((lots.getD i2.toNat (0, (0, 0))).1).toNat (0, ([], (0, 0)))).1), out))
 else (
 some (false, out)))
 else (
 some (false, out))) fun s2 =>
 Option.bind (α := List Int) (
 bif s2.1 then (
 gd (inB ((lots.getD i2.toNat (0, (0, 0))).1) batches.length) <|
 gd (inB ((lots.getD i2.toNat (0, (0, 0))).1) batches.length) <|
 gd (inB ((batches.getD ((lots.getD i2.toNat (0, (0, 0))).1).toNat (0, ([], (0, 0)))).1) s2.2.length) <|
 gd (inB i2 lots.length) <|
 gd (inB ((batches.getD ((lots.getD i2.toNat (0, (0, 0))).1).toNat (0, ([], (0, 0)))).1) s2.2.length) <|
 some (s2.2.set (((batches.getD ((lots.getD i2.toNat (0, (0, 0))).1).toNat (0, ([], (0, 0)))).1).toNat) (wi64 ((s2.2.getD (((batches.getD ((lots.getD i2.toNat (0, (0, 0))).1).toNat (0, ([], (0, 0)))).1).toNat) 0) + (((lots.getD i2.toNat (0, (0, 0))).2).1)))))
 else (
 some s2.2)) fun s3 =>
 some (.inl (wi64 (i2 + 1), s3)))
 else (
 some (.inr out))

noncomputable def ref29_Totals (batches : List (Int × List UInt8 × Int × Int)) (lots : List (Int × Int × Int)) : Option (List Int) :=
 (iter (fun x => ref29_Totals_L0 batches x.1 x.2) ((-1), 0)).bind fun s =>
 gd (makeG 8 (wi64 (s + 1))) <|
 (iter (fun x2 => ref29_Totals_L1 batches lots x2.1 x2.2) (0, List.replicate (wi64 (s + 1)).toNat 0)).bind fun s4 =>
 some s4

noncomputable def fn_ref29_Totals : Fun :=
 ⟨27, 2, 1,
 ⟨[(0, .one (.data (.sl (.pair (.int .i64) (.pair (.str) tT1))))), (1, .one (.data (.sl (.pair (.int .i64) tT1))))], [], []⟩,
 ⟨[(0, .one (.own 0))], [], [(0, .arr 3 (.int .i64))]⟩,
 fun x => ref29_Totals x.1 x.2⟩
noncomputable def cx_ref29_Totals : Cx := ⟨types, [], [], 75, []⟩
theorem ok_ref29_Totals : FunOk Tryz.prog fn_ref29_Totals :=
 FunOk.intro (C := cx_ref29_Totals) (p := (nn (nn (mm (nn (mm (.mk [] (some (⟨[(0, kk), (1, kk), (5, ii), (6, ii)], [], []⟩, [⟨.x 0, ⟨[(0, kk), (1, kk), (5, ii)], [], []⟩⟩])) .nil .nil) .nil)) (nn (mm (nn (mm (.mk [] (some (⟨[(0, kk), (1, kk), (7, .one (.own 416)), (8, ii)], [], [(416, .arr 3 (.int .i64))]⟩, [⟨.x 2, ⟨[(7, .one (.own 416))], [], [(416, .arr 3 (.int .i64))]⟩⟩])) (nn (mm (mm (nn (mm (.mk [.join [⟨.n, ⟨[(0, kk), (1, kk), (7, .one (.own 416)), (8, kk), (9, kk), (52, bb)], [], [(416, .arr 3 (.int .i64))]⟩⟩]] none .nil .nil) (.mk [.join [⟨.n, ⟨[(0, kk), (1, kk), (7, .one (.own 416)), (8, kk)], [], [(416, .arr 3 (.int .i64))]⟩⟩]] none .nil .nil))) .nil) .nil)) .nil) .nil)) .nil))))))
  Tryz.func27 rfl (by kernel_rfl) rfl rfl rfl rfl types_ok ⟨trivial, trivial⟩ mx (fun x => by kernel_rfl)

noncomputable def lots_Of_L0 (batches : List (Int × List UInt8 × Int × Int)) (lots : List (Int × Int × Int)) (port : Int) (v : Int) (out : List (Int × Int × Int)) : Option ((Int × List (Int × Int × Int)) ⊕ (List (Int × Int × Int))) :=
 bif decide (v < (lots.length : Int)) then (
 gd (inB v lots.length) <|
 Option.bind (α := Bool × List (Int × Int × Int)) (
 bif decide (0 ≤ (lots.getD v.toNat (0, (0, 0))).1) then (
 bif decide ((lots.getD v.toNat (0, (0, 0))).1 < (batches.length : Int)) then (
 gd (inB ((lots.getD v.toNat (0, (0, 0))).1) batches.length) <|
 some (decide ((((batches.getD ((lots.getD v.toNat (0, (0, 0))).1).toNat (0, ([], (0, 0)))).2).2).1 = port), out))
 else (
 some (false, out)))
 else (
 some (false, out))) fun s =>
 Option.bind (α := List (Int × Int × Int)) (
 bif s.1 then (
 gd (fits (s.2.length + 1) 24) <|
 some (s.2 ++ [((lots.getD v.toNat (0, (0, 0))).1, (((lots.getD v.toNat (0, (0, 0))).2).1, ((lots.getD v.toNat (0, (0, 0))).2).2))]))
 else (
 some s.2)) fun s2 =>
 some (.inl (wi64 (v + 1), s2)))
 else (
 some (.inr out))

noncomputable def lots_Of (batches : List (Int × List UInt8 × Int × Int)) (lots : List (Int × Int × Int)) (port : Int) : Option (List (Int × Int × Int)) :=
 (iter (fun x => lots_Of_L0 batches lots port x.1 x.2) (0, [])).bind fun s3 =>
 some s3

noncomputable def fn_lots_Of : Fun :=
 ⟨13, 3, 1,
 ⟨[(0, .one (.data (.sl (.pair (.int .i64) (.pair (.str) tT1))))), (1, .one (.data (.sl (.pair (.int .i64) tT1)))), (2, ii)], [], []⟩,
 ⟨[(0, .one (.own 0))], [], [(0, .arr 47 (.pair (.int .i64) tT1))]⟩,
 fun x => lots_Of x.1 x.2.1 x.2.2⟩
noncomputable def cx_lots_Of : Cx := ⟨types, [], [], 42, []⟩
theorem ok_lots_Of : FunOk Tryz.prog fn_lots_Of :=
 FunOk.intro (C := cx_lots_Of) (p := (nn (nn (mm (nn (mm (.mk [] (some (⟨[(0, kk), (2, kk), (7, .one (.own 139)), (10, kk), (11, kk), (12, ii)], [], [(139, .arr 47 (.pair (.int .i64) tT1))]⟩, [⟨.x 0, ⟨[(7, .one (.own 139))], [], [(139, .arr 47 (.pair (.int .i64) tT1))]⟩⟩])) (nn (nn (mm (mm (nn (mm (.mk [.join [⟨.n, ⟨[(0, kk), (2, kk), (7, .one (.own 139)), (9, .one (.ptr 160 0)), (10, kk), (11, kk), (12, kk), (35, bb)], [(160, 47, [.keep, .keep, .keep])], [(139, .arr 47 (.pair (.int .i64) tT1))]⟩⟩]] none .nil .nil) (.mk [.join [⟨.n, ⟨[(0, kk), (2, kk), (7, .one (.own 139)), (10, kk), (11, kk), (12, kk)], [], [(139, .arr 47 (.pair (.int .i64) tT1))]⟩⟩]] none .nil .nil))) .nil) .nil))) .nil) .nil)) .nil))))
  Tryz.func13 rfl (by kernel_rfl) rfl rfl rfl rfl types_ok ⟨trivial, trivial⟩ mx (fun x => by kernel_rfl)

noncomputable def ref29_Of_L0 (batches : List (Int × List UInt8 × Int × Int)) (lots : List (Int × Int × Int)) (port : Int) (i : Int) (out : List (Int × Int × Int)) : Option ((Int × List (Int × Int × Int)) ⊕ (List (Int × Int × Int))) :=
 bif decide (i < (lots.length : Int)) then (
 gd (inB i lots.length) <|
 Option.bind (α := Bool × List (Int × Int × Int)) (
 bif decide (0 ≤ (lots.getD i.toNat (0, (0, 0))).1) then (
 bif decide ((lots.getD i.toNat (0, (0, 0))).1 < (batches.length : Int)) then (
 gd (inB ((lots.getD i.toNat (0, (0, 0))).1) batches.length) <|
 some (decide ((((batches.getD ((lots.getD i.toNat (0, (0, 0))).1).toNat (0, ([], (0, 0)))).2).2).1 = port), out))
 else (
 some (false, out)))
 else (
 some (false, out))) fun s =>
 Option.bind (α := List (Int × Int × Int)) (
 bif s.1 then (
 gd (inB i lots.length) <|
 gd (fits (s.2.length + 1) 24) <|
 some (s.2 ++ [((lots.getD i.toNat (0, (0, 0))).1, (((lots.getD i.toNat (0, (0, 0))).2).1, ((lots.getD i.toNat (0, (0, 0))).2).2))]))
 else (
 some s.2)) fun s2 =>
 some (.inl (wi64 (i + 1), s2)))
 else (
 some (.inr out))

noncomputable def ref29_Of (batches : List (Int × List UInt8 × Int × Int)) (lots : List (Int × Int × Int)) (port : Int) : Option (List (Int × Int × Int)) :=
 (iter (fun x => ref29_Of_L0 batches lots port x.1 x.2) (0, [])).bind fun s3 =>
 some s3

noncomputable def fn_ref29_Of : Fun :=
 ⟨28, 3, 1,
 ⟨[(0, .one (.data (.sl (.pair (.int .i64) (.pair (.str) tT1))))), (1, .one (.data (.sl (.pair (.int .i64) tT1)))), (2, ii)], [], []⟩,
 ⟨[(0, .one (.own 0))], [], [(0, .arr 47 (.pair (.int .i64) tT1))]⟩,
 fun x => ref29_Of x.1 x.2.1 x.2.2⟩
noncomputable def cx_ref29_Of : Cx := ⟨types, [], [], 46, []⟩
theorem ok_ref29_Of : FunOk Tryz.prog fn_ref29_Of :=
 FunOk.intro (C := cx_ref29_Of) (p := (nn (nn (mm (nn (mm (.mk [] (some (⟨[(0, kk), (1, kk), (2, kk), (7, .one (.own 139)), (8, ii)], [], [(139, .arr 47 (.pair (.int .i64) tT1))]⟩, [⟨.x 0, ⟨[(7, .one (.own 139))], [], [(139, .arr 47 (.pair (.int .i64) tT1))]⟩⟩])) (nn (mm (mm (nn (mm (.mk [.join [⟨.n, ⟨[(0, kk), (1, kk), (2, kk), (7, .one (.own 139)), (8, kk), (37, bb)], [], [(139, .arr 47 (.pair (.int .i64) tT1))]⟩⟩]] none .nil .nil) (.mk [.join [⟨.n, ⟨[(0, kk), (1, kk), (2, kk), (7, .one (.own 139)), (8, kk)], [], [(139, .arr 47 (.pair (.int .i64) tT1))]⟩⟩]] none .nil .nil))) .nil) .nil)) .nil) .nil)) .nil))))
  Tryz.func28 rfl (by kernel_rfl) rfl rfl rfl rfl types_ok ⟨trivial, trivial⟩ mx (fun x => by kernel_rfl)

noncomputable def law29_LotsMade_L0 (i : Int) (s8 : List Int) (s9 : Int) (b : List (Int × List UInt8 × Int × Int)) (q : List (Int × Int × Int)) : Option ((Int × List Int × Int × (List (Int × List UInt8 × Int × Int)) × List (Int × Int × Int)) ⊕ (List Int × Int × (List (Int × List UInt8 × Int × Int)) × List (Int × Int × Int))) :=
 bif decide (i < (q.length : Int)) then (
 gd (inB i q.length) <|
 gd (inB i q.length) <|
 gd (inB i q.length) <|
 (keep_Src_Pick [0, 0, ((q.getD i.toNat (0, (0, 0))).2).1, wi64 ((((q.getD i.toNat (0, (0, 0))).2).1) - 1), wi64 ((((q.getD i.toNat (0, (0, 0))).2).1) + 3)] s8 s9).bind fun r16 =>
 gd (inB i q.length) <|
 some (.inl (wi64 (i + 1), r16.2.1, r16.2.2, b, q.set i.toNat ((q.getD i.toNat (0, (0, 0))).1, (((q.getD i.toNat (0, (0, 0))).2).1, r16.1)))))
 else (
 some (.inr (s8, s9, b, q)))

noncomputable def law29_LotsMade_L1 (m : Int) (u : List (Int × Int × Int)) (y : List Int) (z : List Int) : Option ((Int × (List (Int × Int × Int)) × List Int × List Int) ⊕ ((List (Int × Int × Int)) ⊕ Bool)) :=
 bif decide (m < (y.length : Int)) then (
 gd (inB m y.length) <|
 gd (inB m z.length) <|
 bif !decide (y.getD m.toNat 0 = z.getD m.toNat 0) then (
 some (.inr (.inr false)))
 else (
 some (.inl (wi64 (m + 1), u, y, z))))
 else (
 some (.inr (.inl u)))

noncomputable def law29_LotsMade (l : List Int) (odd : Int) (vby : Int) : Option (Bool) :=
 (second_Few l).bind fun r =>
 bif !r then (
 (law29_awake).bind fun r2 =>
 some r2)
 else (
 (keep_New l).bind fun r3 =>
 (keep_Src_Network r3.1 r3.2).bind fun r4 =>
 (keep_Src_Products r4.2.1 r4.2.2).bind fun r5 =>
 (law29_nominations (r4.1.1, (r4.1.2.1, (r4.1.2.2.1, (r4.1.2.2.2.1, (r4.1.2.2.2.2.1, r4.1.2.2.2.2.2))))) r5.1 r5.2.1 r5.2.2).bind fun r6 =>
 (keep_Src_N (r6.2.2.1.length : Int) r6.1 r6.2.1).bind fun r7 =>
 gd (inB r7.1 r6.2.2.1.length) <|
 gd (inB 0 r6.2.2.1.length) <|
 (keep_Src_N 4 r7.2.1 r7.2.2).bind fun r8 =>
 gd (cutG none (some (.i64, r8.1)) [(r6.2.2.1.getD r7.1.toNat ([], (0, (0, (0, 0))))).1, [122, 122], (r6.2.2.1.getD 0 ([], (0, (0, (0, 0))))).1].length) <|
 Option.bind (α := List Int × Int × List (List UInt8) × (List yT1) × (List (List UInt8 × Int × Int)) × (List (List UInt8 × Int × Int × Int × Int)) × Int × Int × (List (List UInt8 × Int × Int × Int × Int)) × List yT0) (
 bif decide (0 < (r6.2.2.2.length : Int)) then (
 (second_Mod vby (r6.2.2.2.length : Int)).bind fun r9 =>
 gd (inB r9 r6.2.2.2.length) <|
 (second_Mod odd 10).bind fun r10 =>
 Option.bind (α := List Int × Int × List (List UInt8) × (List yT1) × (List (List UInt8 × Int × Int)) × (List (List UInt8 × Int × Int × Int × Int)) × Int × Int × (List (List UInt8 × Int × Int × Int × Int)) × List yT0) (
 bif decide (r10 = 0) then (
 some (r8.2.1, r8.2.2, r4.1.1, r4.1.2.1, r4.1.2.2.1, r4.1.2.2.2.1, r4.1.2.2.2.2.1, r4.1.2.2.2.2.2, r6.2.2.1, r6.2.2.2.set r9.toNat ((r6.2.2.2.getD r9.toNat ([], ([], ([], ([], (0, 0)))))).1, ([122, 122], ((r6.2.2.2.getD r9.toNat ([], ([], ([], ([], (0, 0)))))).2).2))))
 else (
 Option.bind (α := List Int × Int × List (List UInt8) × (List yT1) × (List (List UInt8 × Int × Int)) × (List (List UInt8 × Int × Int × Int × Int)) × Int × Int × (List (List UInt8 × Int × Int × Int × Int)) × List yT0) (
 bif decide (r10 = 1) then (
 some (r8.2.1, r8.2.2, r4.1.1, r4.1.2.1, r4.1.2.2.1, r4.1.2.2.2.1, r4.1.2.2.2.2.1, r4.1.2.2.2.2.2, r6.2.2.1, r6.2.2.2.set r9.toNat ((r6.2.2.2.getD r9.toNat ([], ([], ([], ([], (0, 0)))))).1, (((r6.2.2.2.getD r9.toNat ([], ([], ([], ([], (0, 0)))))).2).1, ((((r6.2.2.2.getD r9.toNat ([], ([], ([], ([], (0, 0)))))).2).2).1, ([122, 122], ((((r6.2.2.2.getD r9.toNat ([], ([], ([], ([], (0, 0)))))).2).2).2).2))))))
 else (
 Option.bind (α := List Int × Int × List (List UInt8) × (List yT1) × (List (List UInt8 × Int × Int)) × (List (List UInt8 × Int × Int × Int × Int)) × Int × Int × (List (List UInt8 × Int × Int × Int × Int)) × List yT0) (
 bif decide (r10 = 2) then (
 some (r8.2.1, r8.2.2, r4.1.1, r4.1.2.1, r4.1.2.2.1, r4.1.2.2.2.1, r4.1.2.2.2.2.1, r4.1.2.2.2.2.2, r6.2.2.1, r6.2.2.2.set r9.toNat ((r6.2.2.2.getD r9.toNat ([], ([], ([], ([], (0, 0)))))).1, (((r6.2.2.2.getD r9.toNat ([], ([], ([], ([], (0, 0)))))).2).1, ((((r6.2.2.2.getD r9.toNat ([], ([], ([], ([], (0, 0)))))).2).2).1, (((((r6.2.2.2.getD r9.toNat ([], ([], ([], ([], (0, 0)))))).2).2).2).1, ((((((r6.2.2.2.getD r9.toNat ([], ([], ([], ([], (0, 0)))))).2).2).2).2).1, vby)))))))
 else (
 Option.bind (α := List Int × Int × List (List UInt8) × (List yT1) × (List (List UInt8 × Int × Int)) × (List (List UInt8 × Int × Int × Int × Int)) × Int × Int × (List (List UInt8 × Int × Int × Int × Int)) × List yT0) (
 bif decide (r10 = 3) then (
 gd (inB 0 r6.2.2.1.length) <|
 gd (fits (r6.2.2.1.length + 1) 48) <|
 some (r8.2.1, r8.2.2, r4.1.1, r4.1.2.1, r4.1.2.2.1, r4.1.2.2.2.1, r4.1.2.2.2.2.1, r4.1.2.2.2.2.2, r6.2.2.1 ++ [((r6.2.2.1.getD 0 ([], (0, (0, (0, 0))))).1, (((r6.2.2.1.getD 0 ([], (0, (0, (0, 0))))).2).1, ((((r6.2.2.1.getD 0 ([], (0, (0, (0, 0))))).2).2).1, (((((r6.2.2.1.getD 0 ([], (0, (0, (0, 0))))).2).2).2).1, ((((r6.2.2.1.getD 0 ([], (0, (0, (0, 0))))).2).2).2).2))))], r6.2.2.2))
 else (
 Option.bind (α := List Int × Int × List (List UInt8) × (List yT1) × (List (List UInt8 × Int × Int)) × (List (List UInt8 × Int × Int × Int × Int)) × Int × Int × (List (List UInt8 × Int × Int × Int × Int)) × List yT0) (
 bif decide (r10 = 4) then (
 (keep_Src_Wrong (r4.1.1, (r4.1.2.1, (r4.1.2.2.1, (r4.1.2.2.2.1, (r4.1.2.2.2.2.1, r4.1.2.2.2.2.2))))) r8.2.1 r8.2.2).bind fun r11 =>
 some (r11.2.1, r11.2.2, r11.1.1, r11.1.2.1, r11.1.2.2.1, r11.1.2.2.2.1, r11.1.2.2.2.2.1, r11.1.2.2.2.2.2, r6.2.2.1, r6.2.2.2))
 else (
 some (r8.2.1, r8.2.2, r4.1.1, r4.1.2.1, r4.1.2.2.1, r4.1.2.2.2.1, r4.1.2.2.2.2.1, r4.1.2.2.2.2.2, r6.2.2.1, r6.2.2.2))) fun s =>
 some (s.1, s.2.1, s.2.2.1, s.2.2.2.1, s.2.2.2.2.1, s.2.2.2.2.2.1, s.2.2.2.2.2.2.1, s.2.2.2.2.2.2.2.1, s.2.2.2.2.2.2.2.2.1, s.2.2.2.2.2.2.2.2.2))) fun s2 =>
 some (s2.1, s2.2.1, s2.2.2.1, s2.2.2.2.1, s2.2.2.2.2.1, s2.2.2.2.2.2.1, s2.2.2.2.2.2.2.1, s2.2.2.2.2.2.2.2.1, s2.2.2.2.2.2.2.2.2.1, s2.2.2.2.2.2.2.2.2.2))) fun s3 =>
 some (s3.1, s3.2.1, s3.2.2.1, s3.2.2.2.1, s3.2.2.2.2.1, s3.2.2.2.2.2.1, s3.2.2.2.2.2.2.1, s3.2.2.2.2.2.2.2.1, s3.2.2.2.2.2.2.2.2.1, s3.2.2.2.2.2.2.2.2.2))) fun s4 =>
 some (s4.1, s4.2.1, s4.2.2.1, s4.2.2.2.1, s4.2.2.2.2.1, s4.2.2.2.2.2.1, s4.2.2.2.2.2.2.1, s4.2.2.2.2.2.2.2.1, s4.2.2.2.2.2.2.2.2.1, s4.2.2.2.2.2.2.2.2.2))) fun s5 =>
 some (s5.1, s5.2.1, s5.2.2.1, s5.2.2.2.1, s5.2.2.2.2.1, s5.2.2.2.2.2.1, s5.2.2.2.2.2.2.1, s5.2.2.2.2.2.2.2.1, s5.2.2.2.2.2.2.2.2.1, s5.2.2.2.2.2.2.2.2.2))
 else (
 some (r8.2.1, r8.2.2, r4.1.1, r4.1.2.1, r4.1.2.2.1, r4.1.2.2.2.1, r4.1.2.2.2.2.1, r4.1.2.2.2.2.2, r6.2.2.1, r6.2.2.2))) fun s6 =>
 (lots_Batches (s6.2.2.1, (s6.2.2.2.1, (s6.2.2.2.2.1, (s6.2.2.2.2.2.1, (s6.2.2.2.2.2.2.1, s6.2.2.2.2.2.2.2.1))))) s6.2.2.2.2.2.2.2.2.1 s6.2.2.2.2.2.2.2.2.2 ([(r6.2.2.1.getD r7.1.toNat ([], (0, (0, (0, 0))))).1, [122, 122], (r6.2.2.1.getD 0 ([], (0, (0, (0, 0))))).1].take r8.1.toNat)).bind fun r12 =>
 (ref29_Batches (s6.2.2.1, (s6.2.2.2.1, (s6.2.2.2.2.1, (s6.2.2.2.2.2.1, (s6.2.2.2.2.2.2.1, s6.2.2.2.2.2.2.2.1))))) s6.2.2.2.2.2.2.2.2.1 s6.2.2.2.2.2.2.2.2.2 ([(r6.2.2.1.getD r7.1.toNat ([], (0, (0, (0, 0))))).1, [122, 122], (r6.2.2.1.getD 0 ([], (0, (0, (0, 0))))).1].take r8.1.toNat)).bind fun r13 =>
 Option.bind (α := Bool × (List (Int × List UInt8 × Int × Int)) × List (Int × Int × Int)) (
 bif !decide (r12.1 = r13.1) then (
 some (true, r13.2.1, r13.2.2))
 else (
 (ref29_SameBatches r12.2.1 r13.2.1).bind fun r14 =>
 bif !r14 then (
 some (true, r13.2.1, r13.2.2))
 else (
 (ref29_Same r12.2.2 r13.2.2).bind fun r15 =>
 some ((!r15), r13.2.1, r13.2.2)))) fun s7 =>
 bif s7.1 then (
 some false)
 else (
 (iter (fun x => law29_LotsMade_L0 x.1 x.2.1 x.2.2.1 x.2.2.2.1 x.2.2.2.2) (0, s6.1, s6.2.1, s7.2.1, s7.2.2)).bind fun s10 =>
 Option.bind (α := (List (Int × List UInt8 × Int × Int)) × List (Int × Int × Int)) (
 bif decide (0 < (s10.2.2.2.length : Int)) then (
 (second_Mod odd 10).bind fun r17 =>
 Option.bind (α := (List (Int × List UInt8 × Int × Int)) × List (Int × Int × Int)) (
 bif decide (r17 = 5) then (
 gd (inB 0 s10.2.2.2.length) <|
 some (s10.2.2.1, s10.2.2.2.set 0 ((s10.2.2.2.getD 0 (0, (0, 0))).1, (((s10.2.2.2.getD 0 (0, (0, 0))).2).1, (-1)))))
 else (
 Option.bind (α := (List (Int × List UInt8 × Int × Int)) × List (Int × Int × Int)) (
 bif decide (r17 = 6) then (
 (second_Mod vby 9).bind fun r18 =>
 gd (inB 0 s10.2.2.2.length) <|
 some (s10.2.2.1, s10.2.2.2.set 0 (wi64 (r18 - 1), (s10.2.2.2.getD 0 (0, (0, 0))).2)))
 else (
 some (s10.2.2.1, s10.2.2.2))) fun s11 =>
 some (s11.1, s11.2))) fun s12 =>
 some (s12.1, s12.2))
 else (
 some (s10.2.2.1, s10.2.2.2))) fun s13 =>
 (keep_Src_N (s6.2.2.2.2.1.length : Int) s10.1 s10.2.1).bind fun r19 =>
 (keep_Src_Pick [1, 20, 1000, 0, 1001] r19.2.1 r19.2.2).bind fun r20 =>
 (lots_Pump s13.2 r20.1).bind fun r21 =>
 (ref29_Pump s13.2 r20.1).bind fun r22 =>
 (lots_Head s13.2).bind fun r23 =>
 (ref29_Head s13.2).bind fun r24 =>
 (lots_Totals s13.1 s13.2).bind fun r25 =>
 (ref29_Totals s13.1 s13.2).bind fun r26 =>
 bif !decide ((r25.length : Int) = (r26.length : Int)) then (
 some false)
 else (
 (iter (fun x2 => law29_LotsMade_L1 x2.1 x2.2.1 x2.2.2.1 x2.2.2.2) (0, r21.2.2, r25, r26)).bind fun s14 =>
 s14.elim (fun s15 =>
 bif decide (r21.2.1 = r22.2.2) then (
 bif decide (r21.1 = r22.2.1) then (
 bif decide (r23.1 = r24.1) then (
 bif r23.2 == r24.2 then (
 (ref29_Same s15 r22.1).bind fun r27 =>
 bif r27 then (
 (lots_Of s13.1 s13.2 r19.1).bind fun r28 =>
 (ref29_Of s13.1 s13.2 r19.1).bind fun r29 =>
 (ref29_Same r28 r29).bind fun r30 =>
 bif r30 then (
 (law29_awake).bind fun r31 =>
 some r31)
 else (
 some false))
 else (
 some false))
 else (
 some false))
 else (
 some false))
 else (
 some false))
 else (
 some false))
 (fun s16 =>
 some s16))))

noncomputable def fn_law29_LotsMade : Fun :=
 ⟨5, 3, 1,
 ⟨[(0, .one (.data (.sl (.int .i64)))), (1, ii), (2, ii)], [], []⟩,
 ⟨[(0, bb)], [], []⟩,
 fun x => law29_LotsMade x.1 x.2.1 x.2.2⟩
noncomputable def cx_law29_LotsMade : Cx := ⟨types, [], [fn_second_Few, fn_law29_awake, fn_keep_New, fn_keep_Src_Network, fn_keep_Src_Products, fn_law29_nominations, fn_keep_Src_N, fn_second_Mod, fn_keep_Src_Wrong, fn_lots_Batches, fn_ref29_Batches, fn_ref29_SameBatches, fn_ref29_Same, fn_keep_Src_Pick, fn_lots_Pump, fn_ref29_Pump, fn_lots_Head, fn_ref29_Head, fn_lots_Totals, fn_ref29_Totals, fn_lots_Of, fn_ref29_Of], 281, []⟩
theorem ok_law29_LotsMade : FunOk Tryz.prog fn_law29_LotsMade :=
 FunOk.intro (C := cx_law29_LotsMade) (p := (nn (nn (nn (nn (nn (nn (nn (mm (nn (.mk [.join [⟨.n, ⟨[(1, kk), (2, kk), (7, .one (.ptr 656 0)), (8, .one (.ptr 144 0)), (9, .one (.own 171)), (10, .one (.own 784)), (11, kk)], [(656, 76, [.data (.sl (.int .i64)), .data (.int .i64)]), (144, 32, [.data (.sl (.str)), .data (.sl (.pair (.str) (.pair (.int .i64) (.pair (.int .i64) (.pair (.int .i64) (.pair (.int .i64) (.pair (.int .i64) (.sl (.pair (.int .i64) tT1))))))))), .data (.sl (.pair (.str) tT1)), .data (.sl (.pair (.str) (.pair (.int .i64) (.pair (.int .i64) tT1)))), .data (.int .i64), .data (.int .i64)])], [(171, .arr 44 (.pair (.str) (.pair (.int .i64) (.pair (.int .i64) tT1)))), (784, .arr 51 tT0)]⟩⟩]] none (nn (nn (mm (nn (.mk [.join [⟨.n, ⟨[(1, kk), (2, kk), (7, .one (.ptr 656 0)), (8, .one (.ptr 144 0)), (9, .one (.own 171)), (10, .one (.own 784)), (11, kk)], [(656, 76, [.data (.sl (.int .i64)), .data (.int .i64)]), (144, 32, [.data (.sl (.str)), .data (.sl (.pair (.str) (.pair (.int .i64) (.pair (.int .i64) (.pair (.int .i64) (.pair (.int .i64) (.pair (.int .i64) (.sl (.pair (.int .i64) tT1))))))))), .data (.sl (.pair (.str) tT1)), .data (.sl (.pair (.str) (.pair (.int .i64) (.pair (.int .i64) tT1)))), .data (.int .i64), .data (.int .i64)])], [(171, .arr 44 (.pair (.str) (.pair (.int .i64) (.pair (.int .i64) tT1)))), (784, .arr 51 tT0)]⟩⟩]] none .nil (nn (.mk [.join [⟨.n, ⟨[(1, kk), (2, kk), (7, .one (.ptr 656 0)), (8, .one (.ptr 144 0)), (9, .one (.own 171)), (10, .one (.own 784)), (11, kk)], [(656, 76, [.data (.sl (.int .i64)), .data (.int .i64)]), (144, 32, [.data (.sl (.str)), .data (.sl (.pair (.str) (.pair (.int .i64) (.pair (.int .i64) (.pair (.int .i64) (.pair (.int .i64) (.pair (.int .i64) (.sl (.pair (.int .i64) tT1))))))))), .data (.sl (.pair (.str) tT1)), .data (.sl (.pair (.str) (.pair (.int .i64) (.pair (.int .i64) tT1)))), .data (.int .i64), .data (.int .i64)])], [(171, .arr 44 (.pair (.str) (.pair (.int .i64) (.pair (.int .i64) tT1)))), (784, .arr 51 tT0)]⟩⟩]] none .nil (nn (.mk [.join [⟨.n, ⟨[(1, kk), (2, kk), (7, .one (.ptr 656 0)), (8, .one (.ptr 144 0)), (9, .one (.own 171)), (10, .one (.own 784)), (11, kk)], [(656, 76, [.data (.sl (.int .i64)), .data (.int .i64)]), (144, 32, [.data (.sl (.str)), .data (.sl (.pair (.str) (.pair (.int .i64) (.pair (.int .i64) (.pair (.int .i64) (.pair (.int .i64) (.pair (.int .i64) (.sl (.pair (.int .i64) tT1))))))))), .data (.sl (.pair (.str) tT1)), .data (.sl (.pair (.str) (.pair (.int .i64) (.pair (.int .i64) tT1)))), .data (.int .i64), .data (.int .i64)])], [(171, .arr 44 (.pair (.str) (.pair (.int .i64) (.pair (.int .i64) tT1)))), (784, .arr 51 tT0)]⟩⟩]] none .nil (nn (.mk [.join [⟨.n, ⟨[(1, kk), (2, kk), (7, .one (.ptr 656 0)), (8, .one (.ptr 144 0)), (9, .one (.own 171)), (10, .one (.own 784)), (11, kk)], [(656, 76, [.data (.sl (.int .i64)), .data (.int .i64)]), (144, 32, [.data (.sl (.str)), .data (.sl (.pair (.str) (.pair (.int .i64) (.pair (.int .i64) (.pair (.int .i64) (.pair (.int .i64) (.pair (.int .i64) (.sl (.pair (.int .i64) tT1))))))))), .data (.sl (.pair (.str) tT1)), .data (.sl (.pair (.str) (.pair (.int .i64) (.pair (.int .i64) tT1)))), .data (.int .i64), .data (.int .i64)])], [(171, .arr 44 (.pair (.str) (.pair (.int .i64) (.pair (.int .i64) tT1)))), (784, .arr 51 tT0)]⟩⟩]] none .nil (nn (.mk [.join [⟨.n, ⟨[(1, kk), (2, kk), (7, .one (.ptr 656 0)), (8, .one (.ptr 144 0)), (9, .one (.own 720)), (10, .one (.own 784)), (11, kk)], [(656, 76, [.data (.sl (.int .i64)), .data (.int .i64)]), (144, 32, [.data (.sl (.str)), .data (.sl (.pair (.str) (.pair (.int .i64) (.pair (.int .i64) (.pair (.int .i64) (.pair (.int .i64) (.pair (.int .i64) (.sl (.pair (.int .i64) tT1))))))))), .data (.sl (.pair (.str) tT1)), .data (.sl (.pair (.str) (.pair (.int .i64) (.pair (.int .i64) tT1)))), .data (.int .i64), .data (.int .i64)])], [(720, .arr 44 (.pair (.str) (.pair (.int .i64) (.pair (.int .i64) tT1)))), (784, .arr 51 tT0)]⟩⟩]] none .nil .nil)))))))))) .nil))) .nil)) (mm (.mk [.fz [9, 10]] none .nil .nil) (nn (mm (mm (.mk [.join [⟨.n, ⟨[(1, kk), (2, kk), (7, .one (.ptr 656 0)), (8, .one (.ptr 144 0)), (16, .one (.own 1920)), (17, .one (.own 1921)), (137, bb)], [(656, 76, [.keep, .keep]), (144, 32, [.keep, .keep, .keep, .keep, .keep, .keep])], [(1920, .arr 49 (.pair (.int .i64) (.pair (.str) tT1))), (1921, .arr 47 (.pair (.int .i64) tT1))]⟩⟩]] none .nil .nil) .nil) (mm (nn (mm (.mk [] (some (⟨[(1, kk), (2, kk), (7, .one (.ptr 656 0)), (8, .one (.ptr 144 0)), (16, .one (.own 1920)), (17, .one (.own 1921)), (19, ii)], [(656, 76, [.data (.sl (.int .i64)), .data (.int .i64)]), (144, 32, [.keep, .keep, .keep, .keep, .keep, .keep])], [(1920, .arr 49 (.pair (.int .i64) (.pair (.str) tT1))), (1921, .arr 47 (.pair (.int .i64) tT1))]⟩, [⟨.x 1, ⟨[(1, kk), (2, kk), (7, .one (.ptr 656 0)), (8, .one (.ptr 144 0)), (16, .one (.own 1920)), (17, .one (.own 1921))], [(656, 76, [.data (.sl (.int .i64)), .data (.int .i64)]), (144, 32, [.keep, .keep, .keep, .keep, .keep, .keep])], [(1920, .arr 49 (.pair (.int .i64) (.pair (.str) tT1))), (1921, .arr 47 (.pair (.int .i64) tT1))]⟩⟩])) .nil .nil) .nil)) (mm (nn (.mk [.join [⟨.n, ⟨[(7, .one (.ptr 656 0)), (8, .one (.ptr 144 0)), (16, .one (.own 1920)), (17, .one (.own 1921))], [(656, 76, [.keep, .keep]), (144, 32, [.keep, .keep, .keep, .keep, .keep, .keep])], [(1920, .arr 49 (.pair (.int .i64) (.pair (.str) tT1))), (1921, .arr 47 (.pair (.int .i64) tT1))]⟩⟩]] none (nn (mm (nn (.mk [.join [⟨.n, ⟨[(7, .one (.ptr 656 0)), (8, .one (.ptr 144 0)), (16, .one (.own 1920)), (17, .one (.own 1921))], [(656, 76, [.keep, .keep]), (144, 32, [.keep, .keep, .keep, .keep, .keep, .keep])], [(1920, .arr 49 (.pair (.int .i64) (.pair (.str) tT1))), (1921, .arr 47 (.pair (.int .i64) tT1))]⟩⟩]] none .nil (nn (.mk [.join [⟨.n, ⟨[(7, .one (.ptr 656 0)), (8, .one (.ptr 144 0)), (16, .one (.own 1920)), (17, .one (.own 1921))], [(656, 76, [.keep, .keep]), (144, 32, [.keep, .keep, .keep, .keep, .keep, .keep])], [(1920, .arr 49 (.pair (.int .i64) (.pair (.str) tT1))), (1921, .arr 47 (.pair (.int .i64) tT1))]⟩⟩]] none .nil .nil)))) .nil)) .nil)) (nn (mm (.mk [.fz [17]] none .nil .nil) (nn (nn (nn (mm (.mk [.fz [16]] none .nil .nil) (nn (mm (nn (mm (.mk [] (some (⟨[(16, kk), (17, kk), (20, kk), (22, .one (.own 3168)), (23, kk), (24, kk), (25, kk), (26, kk), (27, kk), (28, kk), (29, kk), (30, kk), (31, kk), (32, .one (.own 3536)), (33, .one (.own 3584)), (34, ii)], [], [(3168, .arr 47 (.pair (.int .i64) tT1)), (3536, .arr 3 (.int .i64)), (3584, .arr 3 (.int .i64))]⟩, [⟨.x 4, ⟨[(16, kk), (17, kk), (20, kk), (22, .one (.own 3168)), (23, kk), (24, kk), (25, kk), (26, kk), (27, kk), (28, kk), (29, kk), (30, kk), (31, kk)], [], [(3168, .arr 47 (.pair (.int .i64) tT1))]⟩⟩, ⟨.r, ⟨[(6, bb)], [], []⟩⟩])) .nil .nil) .nil)) .nil))))))))))))))))))))))
  Tryz.func5 rfl (by kernel_rfl) rfl rfl rfl rfl types_ok ⟨⟨ok_second_Few, ok_law29_awake, ok_keep_New, ok_keep_Src_Network, ok_keep_Src_Products, ok_law29_nominations, ok_keep_Src_N, ok_second_Mod, ok_keep_Src_Wrong, ok_lots_Batches, ok_ref29_Batches, ok_ref29_SameBatches, ok_ref29_Same, ok_keep_Src_Pick, ok_lots_Pump, ok_ref29_Pump, ok_lots_Head, ok_ref29_Head, ok_lots_Totals, ok_ref29_Totals, ok_lots_Of, ok_ref29_Of, trivial⟩, trivial⟩ mx (fun x => by kernel_rfl)


end Go.Proofs.YtiojagjejddocaaGreatDoor
