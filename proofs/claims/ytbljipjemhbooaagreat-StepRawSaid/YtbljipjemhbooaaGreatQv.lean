/- Functions, evaluated. No condition. -/
import Derived.Test.YtbljipjemhbooaaGreatProg
import Derived.Test.YtbljipjemhbooaaGreatQu
namespace Go.Proofs.YtbljipjemhbooaaGreat
open Go Go.Sq
noncomputable def ref26_shaped (s : Int × Int × Int × Int × Int × List (Int × Bool) × Int) : Option (Bool) :=
 Option.bind (α := Bool) (
 bif decide (s.1 = 1) then (
 some (decide (s.1 = 1)))
 else (
 Option.bind (α := Bool) (
 bif decide (s.1 = 2) then (
 some (decide (s.1 = 2)))
 else (
 Option.bind (α := Bool) (
 bif decide (s.1 = 3) then (
 some (decide (s.1 = 3)))
 else (
 some (decide (s.1 = 4)))) fun s2 =>
 some s2)) fun s3 =>
 some s3)) fun s4 =>
 bif s4 then (
 bif decide (s.2.2.1 = 0) then (
 (ref26_bare (s.2.2.2.1, (s.2.2.2.2.1, (s.2.2.2.2.2.1, s.2.2.2.2.2.2)))).bind fun r =>
 some r)
 else (
 some false))
 else (
 bif decide (s.1 = 5) then (
 bif decide (s.2.1 = 0) then (
 some (decide (s.2.2.2.2.2.2 = 0)))
 else (
 some false))
 else (
 bif decide (s.1 = 6) then (
 bif decide (s.2.1 = 0) then (
 (ref26_bare (s.2.2.2.1, (s.2.2.2.2.1, (s.2.2.2.2.2.1, s.2.2.2.2.2.2)))).bind fun r2 =>
 some r2)
 else (
 some false))
 else (
 some false)))

noncomputable def fn_ref26_shaped : Fun :=
 ⟨91, 1, 1,
 ⟨[(0, .one (.data tT4))], [], []⟩,
 ⟨[(0, bb)], [], []⟩,
 fun x => ref26_shaped x⟩
noncomputable def cx_ref26_shaped : Cx := ⟨types, [], [fn_ref26_bare], 39, []⟩
theorem ok_ref26_shaped : FunOk Tryz.prog fn_ref26_shaped :=
 FunOk.intro (C := cx_ref26_shaped) (p := (nn (mm (nn (mm (mm (nn (.mk [.join [⟨.n, ⟨[(1, .one (.ptr 32 0)), (4, kk), (5, bb)], [(32, 48, [.keep, .keep, .keep, .keep, .keep, .keep, .keep])], []⟩⟩]] none .nil (nn (.mk [.join [⟨.n, ⟨[(1, .one (.ptr 32 0)), (4, kk), (5, bb)], [(32, 48, [.keep, .keep, .keep, .keep, .keep, .keep, .keep])], []⟩⟩]] none .nil (nn (.mk [.join [⟨.n, ⟨[(1, .one (.ptr 32 0)), (4, kk), (5, bb)], [(32, 48, [.keep, .keep, .keep, .keep, .keep, .keep, .keep])], []⟩⟩]] none .nil .nil)))))) .nil) .nil)) .nil)))
  Tryz.func91 rfl (by kernel_rfl) rfl rfl rfl rfl types_ok ⟨⟨ok_ref26_bare, trivial⟩, trivial⟩ mx (fun x => by kernel_rfl)

noncomputable def ref26_Copy (d : List (Int × Int × Bool × Bool) × List Int × List Int × List Bool) : Option ((List (Int × Int × Bool × Bool)) × List Int × List Int × List Bool) :=
 gd (fits (0 + d.1.length) 24) <|
 (ref25_CopyPlan (d.2.1, (d.2.2.1, d.2.2.2))).bind fun r =>
 some (([] ++ d.1), r.1, r.2.1, r.2.2)

noncomputable def fn_ref26_Copy : Fun :=
 ⟨95, 1, 1,
 ⟨[(0, .one (.data (.pair (.sl tT1) tT3)))], [], []⟩,
 ⟨[(0, .agg [.own 0, .own 1, .own 2, .own 3])], [], [(0, .arr 54 tT1), (1, .arr 3 (.int .i64)), (2, .arr 3 (.int .i64)), (3, .arr 4 (.bool))]⟩,
 fun x => ref26_Copy x⟩
noncomputable def cx_ref26_Copy : Cx := ⟨types, [3], [fn_ref25_CopyPlan], 11, []⟩
theorem ok_ref26_Copy : FunOk Tryz.prog fn_ref26_Copy :=
 FunOk.intro (C := cx_ref26_Copy) (p := .nil)
  Tryz.func95 rfl (by kernel_rfl) rfl rfl rfl rfl types_ok ⟨⟨ok_ref25_CopyPlan, trivial⟩, trivial⟩ mx (fun x => by kernel_rfl)

noncomputable def ref23_Command (v : Int × Int × Bool × Bool) (vopen : Bool) : Option ((Int × Int × Bool × Bool) × Int) :=
 (ref23_Valid (v.1, (v.2.1, (v.2.2.1, v.2.2.2)))).bind fun r =>
 bif !r then (
 some ((v.1, (v.2.1, (v.2.2.1, v.2.2.2))), 20))
 else (
 some ((v.1, (v.2.1, (vopen, v.2.2.2))), 0))

noncomputable def fn_ref23_Command : Fun :=
 ⟨138, 2, 2,
 ⟨[(0, .one (.data tT1)), (1, bb)], [], []⟩,
 ⟨[(0, .one (.data tT1)), (1, ii)], [], []⟩,
 fun x => ref23_Command x.1 x.2⟩
noncomputable def cx_ref23_Command : Cx := ⟨types, [], [fn_ref23_Valid], 13, []⟩
theorem ok_ref23_Command : FunOk Tryz.prog fn_ref23_Command :=
 FunOk.intro (C := cx_ref23_Command) (p := .nil)
  Tryz.func138 rfl (by kernel_rfl) rfl rfl rfl rfl types_ok ⟨⟨ok_ref23_Valid, trivial⟩, trivial⟩ mx (fun x => by kernel_rfl)

noncomputable def ref26_turn (d : List (Int × Int × Bool × Bool) × List Int × List Int × List Bool) (s : Int × Int × Int × Int × Int × List (Int × Bool) × Int) : Option ((List (Int × Int × Bool × Bool) × List Int × List Int × List Bool) × Int) :=
 Option.bind (α := Bool) (
 bif decide (s.2.1 < 0) then (
 some true)
 else (
 some (decide ((d.1.length : Int) ≤ s.2.1)))) fun s2 =>
 bif s2 then (
 some ((d.1, (d.2.1, (d.2.2.1, d.2.2.2))), 8))
 else (
 Option.bind (α := Bool) (
 bif decide (s.1 = 2) then (
 (ref24_Needs (d.2.1, (d.2.2.1, d.2.2.2))).bind fun r =>
 (ref24_All (r.1, r.2)).bind fun r2 =>
 gd (inB s.2.1 r2.length) <|
 some (r2.getD s.2.1.toNat false))
 else (
 some false)) fun s3 =>
 bif s3 then (
 some ((d.1, (d.2.1, (d.2.2.1, d.2.2.2))), 22))
 else (
 (ref26_Copy (d.1, (d.2.1, (d.2.2.1, d.2.2.2)))).bind fun r3 =>
 gd (inB s.2.1 r3.1.length) <|
 (ref23_Command (r3.1.getD s.2.1.toNat (0, (0, (false, false)))) (decide (s.1 = 1))).bind fun r4 =>
 gd (inB s.2.1 r3.1.length) <|
 some ((r3.1.set s.2.1.toNat r4.1, (r3.2.1, (r3.2.2.1, r3.2.2.2))), 0)))

noncomputable def fn_ref26_turn : Fun :=
 ⟨92, 2, 2,
 ⟨[(0, .one (.data (.pair (.sl tT1) tT3))), (1, .one (.data tT4))], [], []⟩,
 ⟨[(0, .one (.data (.pair (.sl tT1) tT3))), (1, ii)], [], []⟩,
 fun x => ref26_turn x.1 x.2⟩
noncomputable def cx_ref26_turn : Cx := ⟨types, [], [fn_ref24_Needs, fn_ref24_All, fn_ref26_Copy, fn_ref23_Command], 54, []⟩
theorem ok_ref26_turn : FunOk Tryz.prog fn_ref26_turn :=
 FunOk.intro (C := cx_ref26_turn) (p := (nn (mm (mm (.mk [.join [⟨.n, ⟨[(2, .one (.ptr 48 0)), (3, .one (.ptr 64 0)), (4, .one (.ptr 80 0)), (17, bb)], [(48, 40, [.keep, .keep, .keep, .keep]), (64, 48, [.keep, .keep, .keep, .keep, .keep, .keep, .keep]), (80, 40, [.keep, .keep, .keep, .keep])], []⟩⟩]] none .nil .nil) .nil) (mm (mm (.mk [.join [⟨.n, ⟨[(2, .one (.ptr 48 0)), (3, .one (.ptr 64 0)), (4, .one (.ptr 80 0)), (31, bb)], [(48, 40, [.keep, .keep, .keep, .keep]), (64, 48, [.keep, .keep, .keep, .keep, .keep, .keep, .keep]), (80, 40, [.keep, .keep, .keep, .keep])], []⟩⟩]] none .nil .nil) .nil) .nil))))
  Tryz.func92 rfl (by kernel_rfl) rfl rfl rfl rfl types_ok ⟨⟨ok_ref24_Needs, ok_ref24_All, ok_ref26_Copy, ok_ref23_Command, trivial⟩, trivial⟩ mx (fun x => by kernel_rfl)

noncomputable def ref26_pump (n : List (List UInt8) × List yT0 × List (List UInt8 × Int × Int) × List (List UInt8 × Int × Int × Int × Int) × Int × Int) (d : List (Int × Int × Bool × Bool) × List Int × List Int × List Bool) (s : Int × Int × Int × Int × Int × List (Int × Bool) × Int) : Option ((List (Int × Int × Bool × Bool) × List Int × List Int × List Bool) × Int) :=
 Option.bind (α := Bool) (
 bif decide (s.2.1 < 0) then (
 some true)
 else (
 some (decide ((n.2.2.2.1.length : Int) ≤ s.2.1)))) fun s2 =>
 bif s2 then (
 some ((d.1, (d.2.1, (d.2.2.1, d.2.2.2))), 8))
 else (
 (ref26_Copy (d.1, (d.2.1, (d.2.2.1, d.2.2.2)))).bind fun r =>
 gd (inB s.2.1 r.2.2.2.length) <|
 (ref26_fed (n.1, (n.2.1, (n.2.2.1, (n.2.2.2.1, (n.2.2.2.2.1, n.2.2.2.2.2))))) (r.2.1, (r.2.2.1, r.2.2.2.set s.2.1.toNat (decide (s.1 = 3))))).bind fun r2 =>
 bif !r2 then (
 some ((d.1, (d.2.1, (d.2.2.1, d.2.2.2))), 22))
 else (
 some ((r.1, (r.2.1, (r.2.2.1, r.2.2.2.set s.2.1.toNat (decide (s.1 = 3))))), 0)))

noncomputable def fn_ref26_pump : Fun :=
 ⟨93, 3, 2,
 ⟨[(0, .one (.data (.pair (.sl (.str)) tT0))), (1, .one (.data (.pair (.sl tT1) tT3))), (2, .one (.data tT4))], [], []⟩,
 ⟨[(0, .one (.data (.pair (.sl tT1) tT3))), (1, ii)], [], []⟩,
 fun x => ref26_pump x.1 x.2.1 x.2.2⟩
noncomputable def cx_ref26_pump : Cx := ⟨types, [], [fn_ref26_Copy, fn_ref26_fed], 39, []⟩
theorem ok_ref26_pump : FunOk Tryz.prog fn_ref26_pump :=
 FunOk.intro (C := cx_ref26_pump) (p := (nn (mm (mm (.mk [.join [⟨.n, ⟨[(3, .one (.ptr 64 0)), (4, .one (.ptr 80 0)), (5, .one (.ptr 96 0)), (6, .one (.ptr 112 0)), (19, bb)], [(64, 32, [.keep, .keep, .keep, .keep, .keep, .keep]), (80, 40, [.keep, .keep, .keep, .keep]), (96, 48, [.keep, .keep, .keep, .keep, .keep, .keep, .keep]), (112, 40, [.keep, .keep, .keep, .keep])], []⟩⟩]] none .nil .nil) .nil) .nil)))
  Tryz.func93 rfl (by kernel_rfl) rfl rfl rfl rfl types_ok ⟨⟨ok_ref26_Copy, ok_ref26_fed, trivial⟩, trivial⟩ mx (fun x => by kernel_rfl)

noncomputable def ref25_Copy (p : Int × Int × List (Int × Bool) × Int) : Option (Int × Int × Int × List (Int × Bool)) :=
 gd (fits (0 + p.2.2.1.length) 16) <|
 some (p.1, p.2.1, p.2.2.2, ([] ++ p.2.2.1))

noncomputable def fn_ref25_Copy : Fun :=
 ⟨44, 1, 1,
 ⟨[(0, .one (.data (.pair (.int .i64) (.pair (.int .i64) (.pair (.sl (.pair (.int .i64) (.bool))) (.int .i64))))))], [], []⟩,
 ⟨[(0, .agg [.data (.int .i64), .data (.int .i64), .own 0, .data (.int .i64)])], [], [(0, .arr 78 (.pair (.int .i64) (.bool)))]⟩,
 fun x => ref25_Copy x⟩
noncomputable def cx_ref25_Copy : Cx := ⟨types, [3], [], 9, []⟩
theorem ok_ref25_Copy : FunOk Tryz.prog fn_ref25_Copy :=
 FunOk.intro (C := cx_ref25_Copy) (p := .nil)
  Tryz.func44 rfl (by kernel_rfl) rfl rfl rfl rfl types_ok ⟨trivial, trivial⟩ mx (fun x => by kernel_rfl)

noncomputable def ref25_Ends (n : List (List UInt8) × List yT0 × List (List UInt8 × Int × Int) × List (List UInt8 × Int × Int × Int × Int) × Int × Int) (h : Int × Bool) : Option (Int × Int) :=
 gd (inB h.1 n.2.1.length) <|
 bif h.2 then (
 some ((((n.2.1.getD h.1.toNat ([], (0, (0, (0, (0, (0, []))))))).2).2).1, ((n.2.1.getD h.1.toNat ([], (0, (0, (0, (0, (0, []))))))).2).1))
 else (
 some (((n.2.1.getD h.1.toNat ([], (0, (0, (0, (0, (0, []))))))).2).1, (((n.2.1.getD h.1.toNat ([], (0, (0, (0, (0, (0, []))))))).2).2).1))

noncomputable def fn_ref25_Ends : Fun :=
 ⟨118, 2, 2,
 ⟨[(0, .one (.data (.pair (.sl (.str)) tT0))), (1, .one (.data (.pair (.int .i64) (.bool))))], [], []⟩,
 ⟨[(0, ii), (1, ii)], [], []⟩,
 fun x => ref25_Ends x.1 x.2⟩
noncomputable def cx_ref25_Ends : Cx := ⟨types, [], [], 23, []⟩
theorem ok_ref25_Ends : FunOk Tryz.prog fn_ref25_Ends :=
 FunOk.intro (C := cx_ref25_Ends) (p := .nil)
  Tryz.func118 rfl (by kernel_rfl) rfl rfl rfl rfl types_ok ⟨trivial, trivial⟩ mx (fun x => by kernel_rfl)

noncomputable def ref25_valid_L1 (r : Int × Int) (k : Int) (seen2 : List Int) : Option ((Int × List Int) ⊕ ((List Int) ⊕ Bool)) :=
 bif decide (k < (seen2.length : Int)) then (
 gd (inB k seen2.length) <|
 bif decide (seen2.getD k.toNat 0 = r.2) then (
 some (.inr (.inr false)))
 else (
 some (.inl (wi64 (k + 1), seen2))))
 else (
 some (.inr (.inl seen2)))

noncomputable def ref25_valid_L0 (n : List (List UInt8) × List yT0 × List (List UInt8 × Int × Int) × List (List UInt8 × Int × Int × Int × Int) × Int × Int) (p : Int × Int × List (Int × Bool) × Int) (vat : Int) (i : Int) (seen : List Int) : Option ((Int × Int × List Int) ⊕ (Int ⊕ Bool)) :=
 bif decide (i < (p.2.2.1.length : Int)) then (
 Option.bind (α := Bool × List Int) (
 gd (inB i p.2.2.1.length) <|
 bif decide ((p.2.2.1.getD i.toNat (0, false)).1 < 0) then (
 some (true, seen))
 else (
 gd (inB i p.2.2.1.length) <|
 some (decide ((n.2.1.length : Int) ≤ (p.2.2.1.getD i.toNat (0, false)).1), seen))) fun s2 =>
 bif s2.1 then (
 some (.inr (.inr false)))
 else (
 gd (inB i p.2.2.1.length) <|
 (ref25_Ends (n.1, (n.2.1, (n.2.2.1, (n.2.2.2.1, (n.2.2.2.2.1, n.2.2.2.2.2))))) (p.2.2.1.getD i.toNat (0, false))).bind fun r =>
 bif !decide (r.1 = vat) then (
 some (.inr (.inr false)))
 else (
 (iter (fun x => ref25_valid_L1 r x.1 x.2) (0, s2.2)).bind fun s3 =>
 s3.elim (fun s4 =>
 gd (fits (s4.length + 1) 8) <|
 some (.inl (r.2, wi64 (i + 1), s4 ++ [r.2])))
 (fun s5 =>
 some (.inr (.inr s5))))))
 else (
 some (.inr (.inl vat)))

noncomputable def ref25_valid (n : List (List UInt8) × List yT0 × List (List UInt8 × Int × Int) × List (List UInt8 × Int × Int × Int × Int) × Int × Int) (p : Int × Int × List (Int × Bool) × Int) : Option (Bool) :=
 Option.bind (α := Bool) (
 bif decide (p.1 < 0) then (
 some true)
 else (
 bif decide ((n.2.2.1.length : Int) ≤ p.1) then (
 some true)
 else (
 bif decide (p.2.1 < 0) then (
 some true)
 else (
 bif decide ((n.2.2.1.length : Int) ≤ p.2.1) then (
 some true)
 else (
 bif decide (p.1 = p.2.1) then (
 some true)
 else (
 bif decide (p.2.2.2 < 1) then (
 some true)
 else (
 bif decide (1000 < p.2.2.2) then (
 some true)
 else (
 some (decide (32 < (p.2.2.1.length : Int))))))))))) fun s =>
 bif s then (
 some false)
 else (
 gd (inB p.1 n.2.2.1.length) <|
 (iter (fun x2 => ref25_valid_L0 n p x2.1 x2.2.1 x2.2.2) (((n.2.2.1.getD p.1.toNat ([], (0, 0))).2).1, 0, [((n.2.2.1.getD p.1.toNat ([], (0, 0))).2).1])).bind fun s6 =>
 s6.elim (fun s7 =>
 gd (inB p.2.1 n.2.2.1.length) <|
 some (decide (s7 = ((n.2.2.1.getD p.2.1.toNat ([], (0, 0))).2).1)))
 (fun s8 =>
 some s8))

noncomputable def fn_ref25_valid : Fun :=
 ⟨153, 2, 1,
 ⟨[(0, .one (.data (.pair (.sl (.str)) tT0))), (1, .one (.data (.pair (.int .i64) (.pair (.int .i64) (.pair (.sl (.pair (.int .i64) (.bool))) (.int .i64))))))], [], []⟩,
 ⟨[(0, bb)], [], []⟩,
 fun x => ref25_valid x.1 x.2⟩
noncomputable def cx_ref25_valid : Cx := ⟨types, [66], [fn_ref25_Ends], 132, []⟩
theorem ok_ref25_valid : FunOk Tryz.prog fn_ref25_valid :=
 FunOk.intro (C := cx_ref25_valid) (p := (nn (mm (mm (.mk [.join [⟨.n, ⟨[(2, .one (.ptr 48 0)), (3, .one (.ptr 64 0)), (57, bb)], [(48, 32, [.keep, .keep, .keep, .keep, .keep, .keep]), (64, 46, [.keep, .keep, .keep, .keep])], []⟩⟩]] none .nil .nil) .nil) (nn (nn (mm (nn (mm (.mk [] (some (⟨[(2, .one (.ptr 48 0)), (3, .one (.ptr 64 0)), (5, ii), (6, .one (.own 123)), (7, ii)], [(48, 32, [.keep, .keep, .keep, .keep, .keep, .keep]), (64, 46, [.keep, .keep, .keep, .keep])], [(123, .arr 3 (.int .i64))]⟩, [⟨.x 0, ⟨[(2, .one (.ptr 48 0)), (3, .one (.ptr 64 0)), (5, ii)], [(48, 32, [.keep, .keep, .keep, .keep, .keep, .keep]), (64, 46, [.keep, .keep, .keep, .keep])], []⟩⟩, ⟨.r, ⟨[(4, bb)], [], []⟩⟩])) (nn (mm (mm (mm (mm (.mk [.join [⟨.n, ⟨[(2, .one (.ptr 48 0)), (3, .one (.ptr 64 0)), (5, kk), (6, .one (.own 123)), (7, kk), (92, bb)], [(48, 32, [.keep, .keep, .keep, .keep, .keep, .keep]), (64, 46, [.keep, .keep, .keep, .keep])], [(123, .arr 3 (.int .i64))]⟩⟩]] none .nil .nil) .nil) (nn (nn (mm (nn (mm (.mk [] (some (⟨[(2, .one (.ptr 48 0)), (3, .one (.ptr 64 0)), (6, .one (.own 123)), (7, kk), (9, kk), (10, ii)], [(48, 32, [.keep, .keep, .keep, .keep, .keep, .keep]), (64, 46, [.keep, .keep, .keep, .keep])], [(123, .arr 3 (.int .i64))]⟩, [⟨.x 2, ⟨[(2, .one (.ptr 48 0)), (3, .one (.ptr 64 0)), (6, .one (.own 123)), (7, kk), (9, kk)], [(48, 32, [.keep, .keep, .keep, .keep, .keep, .keep]), (64, 46, [.keep, .keep, .keep, .keep])], [(123, .arr 3 (.int .i64))]⟩⟩, ⟨.r, ⟨[(4, bb)], [], []⟩⟩])) .nil .nil) .nil)) .nil)))) .nil) .nil)) .nil) .nil)) .nil))))))
  Tryz.func153 rfl (by kernel_rfl) rfl rfl rfl rfl types_ok ⟨⟨ok_ref25_Ends, trivial⟩, trivial⟩ mx (fun x => by kernel_rfl)

noncomputable def ref25_Valid (n : List (List UInt8) × List yT0 × List (List UInt8 × Int × Int) × List (List UInt8 × Int × Int × Int × Int) × Int × Int) (p : Int × Int × List (Int × Bool) × Int) : Option (Bool) :=
 (ref12_Check (n.1, (n.2.1, (n.2.2.1, (n.2.2.2.1, (n.2.2.2.2.1, n.2.2.2.2.2)))))).bind fun r =>
 bif decide (r = 0) then (
 (ref25_valid (n.1, (n.2.1, (n.2.2.1, (n.2.2.2.1, (n.2.2.2.2.1, n.2.2.2.2.2))))) (p.1, (p.2.1, (p.2.2.1, p.2.2.2)))).bind fun r2 =>
 some r2)
 else (
 some false)

noncomputable def fn_ref25_Valid : Fun :=
 ⟨139, 2, 1,
 ⟨[(0, .one (.data (.pair (.sl (.str)) tT0))), (1, .one (.data (.pair (.int .i64) (.pair (.int .i64) (.pair (.sl (.pair (.int .i64) (.bool))) (.int .i64))))))], [], []⟩,
 ⟨[(0, bb)], [], []⟩,
 fun x => ref25_Valid x.1 x.2⟩
noncomputable def cx_ref25_Valid : Cx := ⟨types, [], [fn_ref12_Check, fn_ref25_valid], 13, []⟩
theorem ok_ref25_Valid : FunOk Tryz.prog fn_ref25_Valid :=
 FunOk.intro (C := cx_ref25_Valid) (p := .nil)
  Tryz.func139 rfl (by kernel_rfl) rfl rfl rfl rfl types_ok ⟨⟨ok_ref12_Check, ok_ref25_valid, trivial⟩, trivial⟩ mx (fun x => by kernel_rfl)

noncomputable def ref26_ready_L0 (p : Int × Int × List (Int × Bool) × Int) (i : Int) (l : List Int) : Option ((Int × List Int) ⊕ (List Int)) :=
 bif decide (i < (p.2.2.1.length : Int)) then (
 gd (inB i p.2.2.1.length) <|
 gd (fits (l.length + 1) 8) <|
 some (.inl (wi64 (i + 1), l ++ [(p.2.2.1.getD i.toNat (0, false)).1])))
 else (
 some (.inr l))

noncomputable def ref26_ready_L1 (d : List (Int × Int × Bool × Bool) × List Int × List Int × List Bool) (i2 : Int) (l2 : List Int) : Option ((Int × List Int) ⊕ (Unit ⊕ Bool)) :=
 bif decide (i2 < (l2.length : Int)) then (
 Option.bind (α := Bool × List Int) (
 gd (inB i2 l2.length) <|
 gd (inB (l2.getD i2.toNat 0) d.1.length) <|
 (ref23_Open (d.1.getD (l2.getD i2.toNat 0).toNat (0, (0, (false, false))))).bind fun r =>
 bif !r then (
 some (true, l2))
 else (
 gd (inB i2 l2.length) <|
 gd (inB (l2.getD i2.toNat 0) d.1.length) <|
 some ((!((((d.1.getD (l2.getD i2.toNat 0).toNat (0, (0, (false, false)))).2).2).1)), l2))) fun s2 =>
 bif s2.1 then (
 some (.inr (.inr false)))
 else (
 some (.inl (wi64 (i2 + 1), s2.2))))
 else (
 some (.inr (.inl ())))

noncomputable def ref26_ready (n : List (List UInt8) × List yT0 × List (List UInt8 × Int × Int) × List (List UInt8 × Int × Int × Int × Int) × Int × Int) (d : List (Int × Int × Bool × Bool) × List Int × List Int × List Bool) (p : Int × Int × List (Int × Bool) × Int) : Option (Bool) :=
 (iter (fun x => ref26_ready_L0 p x.1 x.2) (0, [wi64 ((n.2.1.length : Int) + p.1), wi64 ((n.2.1.length : Int) + p.2.1)])).bind fun s =>
 (iter (fun x2 => ref26_ready_L1 d x2.1 x2.2) (0, s)).bind fun s3 =>
 s3.elim (fun s4 =>
 some true)
 (fun s5 =>
 some s5)

noncomputable def fn_ref26_ready : Fun :=
 ⟨140, 3, 1,
 ⟨[(0, .one (.data (.pair (.sl (.str)) tT0))), (1, .one (.data (.pair (.sl tT1) tT3))), (2, .one (.data (.pair (.int .i64) (.pair (.int .i64) (.pair (.sl (.pair (.int .i64) (.bool))) (.int .i64))))))], [], []⟩,
 ⟨[(0, bb)], [], []⟩,
 fun x => ref26_ready x.1 x.2.1 x.2.2⟩
noncomputable def cx_ref26_ready : Cx := ⟨types, [22], [fn_ref23_Open], 67, []⟩
theorem ok_ref26_ready : FunOk Tryz.prog fn_ref26_ready :=
 FunOk.intro (C := cx_ref26_ready) (p := (nn (nn (mm (nn (mm (.mk [] (some (⟨[(4, .one (.ptr 80 0)), (5, .one (.ptr 96 0)), (7, .one (.own 139)), (8, ii)], [(80, 40, [.keep, .keep, .keep, .keep]), (96, 46, [.keep, .keep, .keep, .keep])], [(139, .arr 3 (.int .i64))]⟩, [⟨.x 0, ⟨[(4, .one (.ptr 80 0)), (7, .one (.own 139))], [(80, 40, [.keep, .keep, .keep, .keep])], [(139, .arr 3 (.int .i64))]⟩⟩])) .nil .nil) .nil)) (mm (nn (mm (.mk [] (some (⟨[(4, .one (.ptr 80 0)), (7, .one (.own 139)), (9, ii)], [(80, 40, [.keep, .keep, .keep, .keep])], [(139, .arr 3 (.int .i64))]⟩, [⟨.x 2, ⟨[], [], []⟩⟩, ⟨.r, ⟨[(6, bb)], [], []⟩⟩])) (nn (mm (mm (mm (.mk [.join [⟨.n, ⟨[(4, .one (.ptr 80 0)), (7, .one (.own 139)), (9, kk), (66, bb)], [(80, 40, [.keep, .keep, .keep, .keep])], [(139, .arr 3 (.int .i64))]⟩⟩]] none .nil .nil) .nil) .nil) .nil)) .nil) .nil)) .nil)))))
  Tryz.func140 rfl (by kernel_rfl) rfl rfl rfl rfl types_ok ⟨⟨ok_ref23_Open, trivial⟩, trivial⟩ mx (fun x => by kernel_rfl)

noncomputable def ref26_flow_L0 (d : List (Int × Int × Bool × Bool) × List Int × List Int × List Bool) (s : Int × Int × Int × Int × Int × List (Int × Bool) × Int) (i : Int) (v : List (Int × Int × Bool × Bool)) (v2 : List Int) (v3 : List Int) (v4 : List Bool) (p : List (Int × Bool)) (x : List (Int × Int × Bool × Bool)) (x2 : List Int) (x3 : List Int) (x4 : List Bool) : Option ((Int × (List (Int × Int × Bool × Bool)) × List Int × List Int × List Bool × (List (Int × Bool)) × (List (Int × Int × Bool × Bool)) × List Int × List Int × List Bool) ⊕ (((List (Int × Int × Bool × Bool)) × List Int × List Int × List Bool × (List (Int × Int × Bool × Bool)) × List Int × List Int × List Bool) ⊕ (Int × (List (Int × Int × Bool × Bool)) × List Int × List Int × List Bool))) :=
 bif decide (i < (p.length : Int)) then (
 gd (inB i p.length) <|
 Option.bind (α := Int × (List (Int × Bool)) × (List (Int × Int × Bool × Bool)) × List Int × List Int × List Bool) (
 bif (p.getD i.toNat (0, false)).2 then (
 some ((-1), p, x, x2, x3, x4))
 else (
 some (1, p, x, x2, x3, x4))) fun s4 =>
 gd (inB ((p.getD i.toNat (0, false)).1) d.2.1.length) <|
 Option.bind (α := Bool × (List (Int × Bool)) × (List (Int × Int × Bool × Bool)) × List Int × List Int × List Bool) (
 bif decide (wi64 (s4.1 * (d.2.1.getD ((p.getD i.toNat (0, false)).1).toNat 0)) < 0) then (
 some (true, s4.2.1, s4.2.2.1, s4.2.2.2.1, s4.2.2.2.2.1, s4.2.2.2.2.2))
 else (
 some (decide (wi64 ((wi64 (s4.1 * (d.2.1.getD ((p.getD i.toNat (0, false)).1).toNat 0))) + s.2.2.1) < 0), s4.2.1, s4.2.2.1, s4.2.2.2.1, s4.2.2.2.2.1, s4.2.2.2.2.2))) fun s5 =>
 bif s5.1 then (
 some (.inr (.inr (22, d.1, d.2.1, d.2.2.1, d.2.2.2))))
 else (
 gd (inB ((p.getD i.toNat (0, false)).1) s5.2.2.2.1.length) <|
 some (.inl (wi64 (i + 1), v, v2, v3, v4, s5.2.1, s5.2.2.1, s5.2.2.2.1.set (((p.getD i.toNat (0, false)).1).toNat) (wi64 (s4.1 * (wi64 ((wi64 (s4.1 * (d.2.1.getD ((p.getD i.toNat (0, false)).1).toNat 0))) + s.2.2.1)))), s5.2.2.2.2.1, s5.2.2.2.2.2))))
 else (
 some (.inr (.inl (v, v2, v3, v4, x, x2, x3, x4))))

noncomputable def ref26_flow (n : List (List UInt8) × List yT0 × List (List UInt8 × Int × Int) × List (List UInt8 × Int × Int × Int × Int) × Int × Int) (d : List (Int × Int × Bool × Bool) × List Int × List Int × List Bool) (s : Int × Int × Int × Int × Int × List (Int × Bool) × Int) : Option ((List (Int × Int × Bool × Bool) × List Int × List Int × List Bool) × Int) :=
 Option.bind (α := Bool) (
 bif decide (s.2.2.1 < (-1000)) then (
 some true)
 else (
 some (decide (1000 < s.2.2.1)))) fun s2 =>
 bif s2 then (
 some ((d.1, (d.2.1, (d.2.2.1, d.2.2.2))), 23))
 else (
 (ref25_Copy (s.2.2.2.1, (s.2.2.2.2.1, (s.2.2.2.2.2.1, s.2.2.2.2.2.2)))).bind fun r =>
 (ref25_Valid (n.1, (n.2.1, (n.2.2.1, (n.2.2.2.1, (n.2.2.2.2.1, n.2.2.2.2.2))))) (r.1, (r.2.1, (r.2.2.2, max s.2.2.1 (wi64 (0 - s.2.2.1)))))).bind fun r2 =>
 bif !r2 then (
 some ((d.1, (d.2.1, (d.2.2.1, d.2.2.2))), 23))
 else (
 (ref26_Copy (d.1, (d.2.1, (d.2.2.1, d.2.2.2)))).bind fun r3 =>
 (ref26_ready (n.1, (n.2.1, (n.2.2.1, (n.2.2.2.1, (n.2.2.2.2.1, n.2.2.2.2.2))))) (r3.1, (r3.2.1, (r3.2.2.1, r3.2.2.2))) (r.1, (r.2.1, (r.2.2.2, max s.2.2.1 (wi64 (0 - s.2.2.1)))))).bind fun r4 =>
 bif !r4 then (
 some ((d.1, (d.2.1, (d.2.2.1, d.2.2.2))), 22))
 else (
 gd (inB r.1 r3.2.2.1.length) <|
 gd (inB r.1 r3.2.2.1.length) <|
 gd (inB r.2.1 (r3.2.2.1.set r.1.toNat (wi64 ((r3.2.2.1.getD r.1.toNat 0) + s.2.2.1))).length) <|
 gd (inB r.2.1 (r3.2.2.1.set r.1.toNat (wi64 ((r3.2.2.1.getD r.1.toNat 0) + s.2.2.1))).length) <|
 Option.bind (α := Bool × (List (Int × Bool)) × (List (Int × Int × Bool × Bool)) × List Int × List Int × List Bool) (
 gd (inB r.1 ((r3.2.2.1.set r.1.toNat (wi64 ((r3.2.2.1.getD r.1.toNat 0) + s.2.2.1))).set r.2.1.toNat (wi64 (((r3.2.2.1.set r.1.toNat (wi64 ((r3.2.2.1.getD r.1.toNat 0) + s.2.2.1))).getD r.2.1.toNat 0) - s.2.2.1))).length) <|
 bif decide (((r3.2.2.1.set r.1.toNat (wi64 ((r3.2.2.1.getD r.1.toNat 0) + s.2.2.1))).set r.2.1.toNat (wi64 (((r3.2.2.1.set r.1.toNat (wi64 ((r3.2.2.1.getD r.1.toNat 0) + s.2.2.1))).getD r.2.1.toNat 0) - s.2.2.1))).getD r.1.toNat 0 < 0) then (
 some (true, r.2.2.2, r3.1, r3.2.1, (r3.2.2.1.set r.1.toNat (wi64 ((r3.2.2.1.getD r.1.toNat 0) + s.2.2.1))).set r.2.1.toNat (wi64 (((r3.2.2.1.set r.1.toNat (wi64 ((r3.2.2.1.getD r.1.toNat 0) + s.2.2.1))).getD r.2.1.toNat 0) - s.2.2.1)), r3.2.2.2))
 else (
 gd (inB r.2.1 ((r3.2.2.1.set r.1.toNat (wi64 ((r3.2.2.1.getD r.1.toNat 0) + s.2.2.1))).set r.2.1.toNat (wi64 (((r3.2.2.1.set r.1.toNat (wi64 ((r3.2.2.1.getD r.1.toNat 0) + s.2.2.1))).getD r.2.1.toNat 0) - s.2.2.1))).length) <|
 bif decide (0 < ((r3.2.2.1.set r.1.toNat (wi64 ((r3.2.2.1.getD r.1.toNat 0) + s.2.2.1))).set r.2.1.toNat (wi64 (((r3.2.2.1.set r.1.toNat (wi64 ((r3.2.2.1.getD r.1.toNat 0) + s.2.2.1))).getD r.2.1.toNat 0) - s.2.2.1))).getD r.2.1.toNat 0) then (
 some (true, r.2.2.2, r3.1, r3.2.1, (r3.2.2.1.set r.1.toNat (wi64 ((r3.2.2.1.getD r.1.toNat 0) + s.2.2.1))).set r.2.1.toNat (wi64 (((r3.2.2.1.set r.1.toNat (wi64 ((r3.2.2.1.getD r.1.toNat 0) + s.2.2.1))).getD r.2.1.toNat 0) - s.2.2.1)), r3.2.2.2))
 else (
 gd (inB r.1 d.2.2.1.length) <|
 bif decide (d.2.2.1.getD r.1.toNat 0 < 0) then (
 some (true, r.2.2.2, r3.1, r3.2.1, (r3.2.2.1.set r.1.toNat (wi64 ((r3.2.2.1.getD r.1.toNat 0) + s.2.2.1))).set r.2.1.toNat (wi64 (((r3.2.2.1.set r.1.toNat (wi64 ((r3.2.2.1.getD r.1.toNat 0) + s.2.2.1))).getD r.2.1.toNat 0) - s.2.2.1)), r3.2.2.2))
 else (
 gd (inB r.2.1 d.2.2.1.length) <|
 some (decide (0 < d.2.2.1.getD r.2.1.toNat 0), r.2.2.2, r3.1, r3.2.1, (r3.2.2.1.set r.1.toNat (wi64 ((r3.2.2.1.getD r.1.toNat 0) + s.2.2.1))).set r.2.1.toNat (wi64 (((r3.2.2.1.set r.1.toNat (wi64 ((r3.2.2.1.getD r.1.toNat 0) + s.2.2.1))).getD r.2.1.toNat 0) - s.2.2.1)), r3.2.2.2))))) fun s3 =>
 bif s3.1 then (
 some ((d.1, (d.2.1, (d.2.2.1, d.2.2.2))), 22))
 else (
 (iter (fun x5 => ref26_flow_L0 d s x5.1 x5.2.1 x5.2.2.1 x5.2.2.2.1 x5.2.2.2.2.1 x5.2.2.2.2.2.1 x5.2.2.2.2.2.2.1 x5.2.2.2.2.2.2.2.1 x5.2.2.2.2.2.2.2.2.1 x5.2.2.2.2.2.2.2.2.2) (0, [], [], [], [], s3.2.1, s3.2.2.1, s3.2.2.2.1, s3.2.2.2.2.1, s3.2.2.2.2.2)).bind fun s6 =>
 s6.elim (fun s7 =>
 (ref16_Check (n.1, (n.2.1, (n.2.2.1, (n.2.2.2.1, (n.2.2.2.2.1, n.2.2.2.2.2))))) (s7.2.2.2.2.2.1, (s7.2.2.2.2.2.2.1, s7.2.2.2.2.2.2.2))).bind fun r5 =>
 bif !decide (r5 = 0) then (
 some ((d.1, (d.2.1, (d.2.2.1, d.2.2.2))), r5))
 else (
 (ref26_fed (n.1, (n.2.1, (n.2.2.1, (n.2.2.2.1, (n.2.2.2.2.1, n.2.2.2.2.2))))) (s7.2.2.2.2.2.1, (s7.2.2.2.2.2.2.1, s7.2.2.2.2.2.2.2))).bind fun r6 =>
 bif !r6 then (
 some ((d.1, (d.2.1, (d.2.2.1, d.2.2.2))), 22))
 else (
 some ((s7.2.2.2.2.1, (s7.2.2.2.2.2.1, (s7.2.2.2.2.2.2.1, s7.2.2.2.2.2.2.2))), 0))))
 (fun s8 =>
 some ((s8.2.1, (s8.2.2.1, (s8.2.2.2.1, s8.2.2.2.2))), s8.1))))))

noncomputable def fn_ref26_flow : Fun :=
 ⟨94, 3, 2,
 ⟨[(0, .one (.data (.pair (.sl (.str)) tT0))), (1, .one (.data (.pair (.sl tT1) tT3))), (2, .one (.data tT4))], [], []⟩,
 ⟨[(0, .one (.data (.pair (.sl tT1) tT3))), (1, ii)], [], []⟩,
 fun x => ref26_flow x.1 x.2.1 x.2.2⟩
noncomputable def cx_ref26_flow : Cx := ⟨types, [], [fn_ref25_Copy, fn_ref25_Valid, fn_ref26_Copy, fn_ref26_ready, fn_ref16_Check, fn_ref26_fed], 178, []⟩
theorem ok_ref26_flow : FunOk Tryz.prog fn_ref26_flow :=
 FunOk.intro (C := cx_ref26_flow) (p := (nn (mm (mm (.mk [.join [⟨.n, ⟨[(3, .one (.ptr 64 0)), (4, .one (.ptr 80 0)), (5, .one (.ptr 96 0)), (6, .one (.ptr 112 0)), (22, bb)], [(64, 32, [.keep, .keep, .keep, .keep, .keep, .keep]), (80, 40, [.keep, .keep, .keep, .keep]), (96, 48, [.keep, .keep, .keep, .keep, .keep, .keep, .keep]), (112, 40, [.keep, .keep, .keep, .keep])], []⟩⟩]] none .nil .nil) .nil) (nn (nn (nn (nn (nn (nn (nn (mm (mm (.mk [.join [⟨.n, ⟨[(3, .one (.ptr 64 0)), (4, .one (.ptr 80 0)), (5, .one (.ptr 96 0)), (6, .one (.ptr 112 0)), (8, .one (.ptr 144 0)), (9, .one (.ptr 160 0)), (116, bb)], [(64, 32, [.keep, .keep, .keep, .keep, .keep, .keep]), (80, 40, [.keep, .keep, .keep, .keep]), (96, 48, [.keep, .keep, .keep, .keep, .keep, .keep, .keep]), (112, 40, [.keep, .keep, .keep, .keep]), (144, 46, [.keep, .keep, .own 432, .keep]), (160, 40, [.own 656, .own 657, .own 658, .own 659])], [(432, .arr 78 (.pair (.int .i64) (.bool))), (656, .arr 54 tT1), (657, .arr 3 (.int .i64)), (658, .arr 3 (.int .i64)), (659, .arr 4 (.bool))]⟩⟩]] none .nil .nil) .nil) (mm (nn (mm (.mk [] (some (⟨[(3, .one (.ptr 64 0)), (4, .one (.ptr 80 0)), (5, .one (.ptr 96 0)), (6, .one (.ptr 112 0)), (8, .one (.ptr 144 0)), (9, .one (.ptr 160 0)), (10, ii)], [(64, 32, [.keep, .keep, .keep, .keep, .keep, .keep]), (80, 40, [.keep, .keep, .keep, .keep]), (96, 48, [.keep, .keep, .keep, .keep, .keep, .keep, .keep]), (112, 40, [.data (.sl tT1), .data (.sl (.int .i64)), .data (.sl (.int .i64)), .data (.sl (.bool))]), (144, 46, [.keep, .keep, .own 432, .keep]), (160, 40, [.own 656, .own 657, .own 658, .own 659])], [(432, .arr 78 (.pair (.int .i64) (.bool))), (656, .arr 54 tT1), (657, .arr 3 (.int .i64)), (658, .arr 3 (.int .i64)), (659, .arr 4 (.bool))]⟩, [⟨.x 0, ⟨[(3, .one (.ptr 64 0)), (4, .one (.ptr 80 0)), (6, .one (.ptr 112 0)), (9, .one (.ptr 160 0))], [(64, 32, [.keep, .keep, .keep, .keep, .keep, .keep]), (80, 40, [.keep, .keep, .keep, .keep]), (112, 40, [.data (.sl tT1), .data (.sl (.int .i64)), .data (.sl (.int .i64)), .data (.sl (.bool))]), (160, 40, [.own 656, .own 657, .own 658, .own 659])], [(656, .arr 54 tT1), (657, .arr 3 (.int .i64)), (658, .arr 3 (.int .i64)), (659, .arr 4 (.bool))]⟩⟩, ⟨.r, ⟨[(6, .one (.ptr 112 0)), (7, ii)], [(112, 40, [.data (.sl tT1), .data (.sl (.int .i64)), .data (.sl (.int .i64)), .data (.sl (.bool))])], []⟩⟩])) (nn (mm (mm (nn (nn (mm (nn (.mk [.join [⟨.n, ⟨[(3, .one (.ptr 64 0)), (4, .one (.ptr 80 0)), (5, .one (.ptr 96 0)), (6, .one (.ptr 112 0)), (8, .one (.ptr 144 0)), (9, .one (.ptr 160 0)), (10, kk), (11, .one (.ptr 192 0)), (12, ii)], [(64, 32, [.keep, .keep, .keep, .keep, .keep, .keep]), (80, 40, [.keep, .keep, .keep, .keep]), (96, 48, [.keep, .keep, .keep, .keep, .keep, .keep, .keep]), (112, 40, [.keep, .keep, .keep, .keep]), (144, 46, [.keep, .keep, .own 432, .keep]), (160, 40, [.own 656, .own 657, .own 658, .own 659]), (192, 78, [.keep, .keep])], [(432, .arr 78 (.pair (.int .i64) (.bool))), (656, .arr 54 tT1), (657, .arr 3 (.int .i64)), (658, .arr 3 (.int .i64)), (659, .arr 4 (.bool))]⟩⟩]] none .nil .nil)) (nn (mm (mm (.mk [.join [⟨.n, ⟨[(3, .one (.ptr 64 0)), (4, .one (.ptr 80 0)), (5, .one (.ptr 96 0)), (6, .one (.ptr 112 0)), (8, .one (.ptr 144 0)), (9, .one (.ptr 160 0)), (10, kk), (11, .one (.ptr 192 0)), (12, kk), (13, kk), (149, bb)], [(64, 32, [.keep, .keep, .keep, .keep, .keep, .keep]), (80, 40, [.keep, .keep, .keep, .keep]), (96, 48, [.keep, .keep, .keep, .keep, .keep, .keep, .keep]), (112, 40, [.keep, .keep, .keep, .keep]), (144, 46, [.keep, .keep, .own 432, .keep]), (160, 40, [.own 656, .own 657, .own 658, .own 659]), (192, 78, [.keep, .keep])], [(432, .arr 78 (.pair (.int .i64) (.bool))), (656, .arr 54 tT1), (657, .arr 3 (.int .i64)), (658, .arr 3 (.int .i64)), (659, .arr 4 (.bool))]⟩⟩]] none .nil .nil) .nil) .nil))))) .nil) .nil)) .nil) .nil)) .nil))))))))))))
  Tryz.func94 rfl (by kernel_rfl) rfl rfl rfl rfl types_ok ⟨⟨ok_ref25_Copy, ok_ref25_Valid, ok_ref26_Copy, ok_ref26_ready, ok_ref16_Check, ok_ref26_fed, trivial⟩, trivial⟩ mx (fun x => by kernel_rfl)

noncomputable def ref23_Step (v : Int × Int × Bool × Bool) : Option ((Int × Int × Bool × Bool) × Int) :=
 (ref23_Valid (v.1, (v.2.1, (v.2.2.1, v.2.2.2)))).bind fun r =>
 bif !r then (
 some ((v.1, (v.2.1, (v.2.2.1, v.2.2.2))), 20))
 else (
 bif v.2.2.2 then (
 some ((v.1, (v.2.1, (v.2.2.1, v.2.2.2))), 0))
 else (
 Option.bind (α := Bool) (
 bif v.2.2.1 then (
 some (decide (v.2.1 < v.1)))
 else (
 some false)) fun s =>
 Option.bind (α := Int) (
 bif s then (
 some (wi64 (v.2.1 + 1)))
 else (
 Option.bind (α := Bool) (
 bif !v.2.2.1 then (
 some (decide (0 < v.2.1)))
 else (
 some false)) fun s2 =>
 Option.bind (α := Int) (
 bif s2 then (
 some (wi64 (v.2.1 - 1)))
 else (
 some v.2.1)) fun s3 =>
 some s3)) fun s4 =>
 some ((v.1, (s4, (v.2.2.1, v.2.2.2))), 0)))

noncomputable def fn_ref23_Step : Fun :=
 ⟨141, 1, 2,
 ⟨[(0, .one (.data tT1))], [], []⟩,
 ⟨[(0, .one (.data tT1)), (1, ii)], [], []⟩,
 fun x => ref23_Step x⟩
noncomputable def cx_ref23_Step : Cx := ⟨types, [], [fn_ref23_Valid], 37, []⟩
theorem ok_ref23_Step : FunOk Tryz.prog fn_ref23_Step :=
 FunOk.intro (C := cx_ref23_Step) (p := (nn (nn (nn (mm (mm (.mk [.join [⟨.n, ⟨[(1, .one (.ptr 32 0)), (2, .one (.ptr 48 0)), (19, bb)], [(32, 54, [.keep, .keep, .keep, .keep]), (48, 54, [.keep, .keep, .keep, .keep])], []⟩⟩]] none .nil .nil) (.mk [.join [⟨.n, ⟨[(1, .one (.ptr 32 0)), (2, .one (.ptr 48 0))], [(32, 54, [.keep, .data (.int .i64), .keep, .keep]), (48, 54, [.keep, .keep, .keep, .keep])], []⟩⟩]] none .nil (mm (.mk [.join [⟨.n, ⟨[(1, .one (.ptr 32 0)), (2, .one (.ptr 48 0)), (31, bb)], [(32, 54, [.keep, .keep, .keep, .keep]), (48, 54, [.keep, .keep, .keep, .keep])], []⟩⟩]] none .nil .nil) (.mk [.join [⟨.n, ⟨[(1, .one (.ptr 32 0)), (2, .one (.ptr 48 0))], [(32, 54, [.keep, .data (.int .i64), .keep, .keep]), (48, 54, [.keep, .keep, .keep, .keep])], []⟩⟩]] none .nil .nil)))) .nil)))))
  Tryz.func141 rfl (by kernel_rfl) rfl rfl rfl rfl types_ok ⟨⟨ok_ref23_Valid, trivial⟩, trivial⟩ mx (fun x => by kernel_rfl)

noncomputable def ref23_Pass_L0 (ticks : Int) (i : Int) (v2 : Int) (v3 : Int) (v4 : Bool) (v5 : Bool) : Option ((Int × Int × Int × Bool × Bool) ⊕ (Int × Int × Bool × Bool)) :=
 bif decide (i < ticks) then (
 (ref23_Step (v2, (v3, (v4, v5)))).bind fun r2 =>
 some (.inl (wi64 (i + 1), r2.1.1, r2.1.2.1, r2.1.2.2.1, r2.1.2.2.2)))
 else (
 some (.inr (v2, v3, v4, v5)))

noncomputable def ref23_Pass (v : Int × Int × Bool × Bool) (ticks : Int) : Option ((Int × Int × Bool × Bool) × Int) :=
 (ref23_Valid (v.1, (v.2.1, (v.2.2.1, v.2.2.2)))).bind fun r =>
 bif !r then (
 some ((v.1, (v.2.1, (v.2.2.1, v.2.2.2))), 20))
 else (
 Option.bind (α := Bool) (
 bif decide (ticks < 0) then (
 some true)
 else (
 some (decide (400 < ticks)))) fun s =>
 bif s then (
 some ((v.1, (v.2.1, (v.2.2.1, v.2.2.2))), 1))
 else (
 (iter (fun x => ref23_Pass_L0 ticks x.1 x.2.1 x.2.2.1 x.2.2.2.1 x.2.2.2.2) (0, v.1, v.2.1, v.2.2.1, v.2.2.2)).bind fun s2 =>
 some ((s2.1, (s2.2.1, (s2.2.2.1, s2.2.2.2))), 0)))

noncomputable def fn_ref23_Pass : Fun :=
 ⟨96, 2, 2,
 ⟨[(0, .one (.data tT1)), (1, ii)], [], []⟩,
 ⟨[(0, .one (.data tT1)), (1, ii)], [], []⟩,
 fun x => ref23_Pass x.1 x.2⟩
noncomputable def cx_ref23_Pass : Cx := ⟨types, [], [fn_ref23_Valid, fn_ref23_Step], 29, []⟩
theorem ok_ref23_Pass : FunOk Tryz.prog fn_ref23_Pass :=
 FunOk.intro (C := cx_ref23_Pass) (p := (nn (nn (mm (mm (.mk [.join [⟨.n, ⟨[(1, kk), (2, .one (.ptr 48 0)), (4, .one (.ptr 80 0)), (16, bb)], [(48, 54, [.keep, .keep, .keep, .keep]), (80, 54, [.keep, .keep, .keep, .keep])], []⟩⟩]] none .nil .nil) .nil) (mm (nn (mm (.mk [] (some (⟨[(1, kk), (2, .one (.ptr 48 0)), (4, .one (.ptr 80 0)), (6, ii)], [(48, 54, [.data (.int .i64), .data (.int .i64), .data (.bool), .data (.bool)]), (80, 54, [.keep, .keep, .keep, .keep])], []⟩, [⟨.x 0, ⟨[(2, .one (.ptr 48 0)), (4, .one (.ptr 80 0))], [(48, 54, [.data (.int .i64), .data (.int .i64), .data (.bool), .data (.bool)]), (80, 54, [.keep, .keep, .keep, .keep])], []⟩⟩])) .nil .nil) .nil)) .nil)))))
  Tryz.func96 rfl (by kernel_rfl) rfl rfl rfl rfl types_ok ⟨⟨ok_ref23_Valid, ok_ref23_Step, trivial⟩, trivial⟩ mx (fun x => by kernel_rfl)

noncomputable def ref26_Apply_L0 (s : Int × Int × Int × Int × Int × List (Int × Bool) × Int) (i : Int) (x : List (Int × Int × Bool × Bool)) (x2 : List Int) (x3 : List Int) (x4 : List Bool) : Option ((Int × (List (Int × Int × Bool × Bool)) × List Int × List Int × List Bool) ⊕ ((List (Int × Int × Bool × Bool)) × List Int × List Int × List Bool)) :=
 bif decide (i < (x.length : Int)) then (
 gd (inB i x.length) <|
 (ref23_Pass (x.getD i.toNat (0, (0, (false, false)))) s.2.2.1).bind fun r7 =>
 gd (inB i x.length) <|
 some (.inl (wi64 (i + 1), x.set i.toNat r7.1, x2, x3, x4)))
 else (
 some (.inr (x, x2, x3, x4)))

noncomputable def ref26_Apply (n : List (List UInt8) × List yT0 × List (List UInt8 × Int × Int) × List (List UInt8 × Int × Int × Int × Int) × Int × Int) (d : List (Int × Int × Bool × Bool) × List Int × List Int × List Bool) (s : Int × Int × Int × Int × Int × List (Int × Bool) × Int) : Option ((List (Int × Int × Bool × Bool) × List Int × List Int × List Bool) × Int) :=
 (ref26_Check (n.1, (n.2.1, (n.2.2.1, (n.2.2.2.1, (n.2.2.2.2.1, n.2.2.2.2.2))))) (d.1, (d.2.1, (d.2.2.1, d.2.2.2)))).bind fun r =>
 bif !decide (r = 0) then (
 some ((d.1, (d.2.1, (d.2.2.1, d.2.2.2))), r))
 else (
 (ref26_shaped (s.1, (s.2.1, (s.2.2.1, (s.2.2.2.1, (s.2.2.2.2.1, (s.2.2.2.2.2.1, s.2.2.2.2.2.2))))))).bind fun r2 =>
 bif !r2 then (
 some ((d.1, (d.2.1, (d.2.2.1, d.2.2.2))), 22))
 else (
 Option.bind (α := Bool) (
 bif decide (s.1 = 1) then (
 some (decide (s.1 = 1)))
 else (
 some (decide (s.1 = 2)))) fun s2 =>
 bif s2 then (
 (ref26_turn (d.1, (d.2.1, (d.2.2.1, d.2.2.2))) (s.1, (s.2.1, (s.2.2.1, (s.2.2.2.1, (s.2.2.2.2.1, (s.2.2.2.2.2.1, s.2.2.2.2.2.2))))))).bind fun r3 =>
 some ((r3.1.1, (r3.1.2.1, (r3.1.2.2.1, r3.1.2.2.2))), r3.2))
 else (
 Option.bind (α := Bool) (
 bif decide (s.1 = 3) then (
 some (decide (s.1 = 3)))
 else (
 some (decide (s.1 = 4)))) fun s3 =>
 bif s3 then (
 (ref26_pump (n.1, (n.2.1, (n.2.2.1, (n.2.2.2.1, (n.2.2.2.2.1, n.2.2.2.2.2))))) (d.1, (d.2.1, (d.2.2.1, d.2.2.2))) (s.1, (s.2.1, (s.2.2.1, (s.2.2.2.1, (s.2.2.2.2.1, (s.2.2.2.2.2.1, s.2.2.2.2.2.2))))))).bind fun r4 =>
 some ((r4.1.1, (r4.1.2.1, (r4.1.2.2.1, r4.1.2.2.2))), r4.2))
 else (
 bif decide (s.1 = 5) then (
 (ref26_flow (n.1, (n.2.1, (n.2.2.1, (n.2.2.2.1, (n.2.2.2.2.1, n.2.2.2.2.2))))) (d.1, (d.2.1, (d.2.2.1, d.2.2.2))) (s.1, (s.2.1, (s.2.2.1, (s.2.2.2.1, (s.2.2.2.2.1, (s.2.2.2.2.2.1, s.2.2.2.2.2.2))))))).bind fun r5 =>
 some ((r5.1.1, (r5.1.2.1, (r5.1.2.2.1, r5.1.2.2.2))), r5.2))
 else (
 Option.bind (α := Bool) (
 bif decide (s.2.2.1 < 1) then (
 some true)
 else (
 some (decide (100 < s.2.2.1)))) fun s4 =>
 bif s4 then (
 some ((d.1, (d.2.1, (d.2.2.1, d.2.2.2))), 1))
 else (
 (ref26_Copy (d.1, (d.2.1, (d.2.2.1, d.2.2.2)))).bind fun r6 =>
 (iter (fun x5 => ref26_Apply_L0 s x5.1 x5.2.1 x5.2.2.1 x5.2.2.2.1 x5.2.2.2.2) (0, r6.1, r6.2.1, r6.2.2.1, r6.2.2.2)).bind fun s5 =>
 some ((s5.1, (s5.2.1, (s5.2.2.1, s5.2.2.2))), 0)))))))

noncomputable def fn_ref26_Apply : Fun :=
 ⟨56, 3, 2,
 ⟨[(0, .one (.data (.pair (.sl (.str)) tT0))), (1, .one (.data (.pair (.sl tT1) tT3))), (2, .one (.data tT4))], [], []⟩,
 ⟨[(0, .one (.data (.pair (.sl tT1) tT3))), (1, ii)], [], []⟩,
 fun x => ref26_Apply x.1 x.2.1 x.2.2⟩
noncomputable def cx_ref26_Apply : Cx := ⟨types, [], [fn_ref26_Check, fn_ref26_shaped, fn_ref26_turn, fn_ref26_pump, fn_ref26_flow, fn_ref26_Copy, fn_ref23_Pass], 83, []⟩
theorem ok_ref26_Apply : FunOk Tryz.prog fn_ref26_Apply :=
 FunOk.intro (C := cx_ref26_Apply) (p := (nn (nn (nn (mm (nn (mm (mm (nn (.mk [.join [⟨.n, ⟨[(3, .one (.ptr 64 0)), (4, .one (.ptr 80 0)), (5, .one (.ptr 96 0)), (6, .one (.ptr 112 0)), (23, kk), (24, bb)], [(64, 32, [.keep, .keep, .keep, .keep, .keep, .keep]), (80, 40, [.keep, .keep, .keep, .keep]), (96, 48, [.keep, .keep, .keep, .keep, .keep, .keep, .keep]), (112, 40, [.keep, .keep, .keep, .keep])], []⟩⟩]] none .nil .nil)) (nn (mm (nn (.mk [.join [⟨.n, ⟨[(3, .one (.ptr 64 0)), (4, .one (.ptr 80 0)), (5, .one (.ptr 96 0)), (6, .one (.ptr 112 0)), (23, kk), (32, bb)], [(64, 32, [.keep, .keep, .keep, .keep, .keep, .keep]), (80, 40, [.keep, .keep, .keep, .keep]), (96, 48, [.keep, .keep, .keep, .keep, .keep, .keep, .keep]), (112, 40, [.keep, .keep, .keep, .keep])], []⟩⟩]] none .nil .nil)) .nil))) .nil)) (mm (mm (.mk [.join [⟨.n, ⟨[(4, .one (.ptr 80 0)), (5, .one (.ptr 96 0)), (6, .one (.ptr 112 0)), (56, bb)], [(80, 40, [.keep, .keep, .keep, .keep]), (96, 48, [.keep, .keep, .keep, .keep, .keep, .keep, .keep]), (112, 40, [.keep, .keep, .keep, .keep])], []⟩⟩]] none .nil .nil) .nil) (nn (mm (nn (mm (.mk [] (some (⟨[(5, .one (.ptr 96 0)), (6, .one (.ptr 112 0)), (9, .one (.ptr 160 0)), (10, ii)], [(96, 48, [.keep, .keep, .keep, .keep, .keep, .keep, .keep]), (112, 40, [.keep, .keep, .keep, .keep]), (160, 40, [.own 960, .own 961, .own 962, .own 963])], [(960, .arr 54 tT1), (961, .arr 3 (.int .i64)), (962, .arr 3 (.int .i64)), (963, .arr 4 (.bool))]⟩, [⟨.x 1, ⟨[(6, .one (.ptr 112 0)), (9, .one (.ptr 160 0))], [(112, 40, [.keep, .keep, .keep, .keep]), (160, 40, [.own 960, .own 961, .own 962, .own 963])], [(960, .arr 54 tT1), (961, .arr 3 (.int .i64)), (962, .arr 3 (.int .i64)), (963, .arr 4 (.bool))]⟩⟩])) .nil .nil) .nil)) .nil))))))))
  Tryz.func56 rfl (by kernel_rfl) rfl rfl rfl rfl types_ok ⟨⟨ok_ref26_Check, ok_ref26_shaped, ok_ref26_turn, ok_ref26_pump, ok_ref26_flow, ok_ref26_Copy, ok_ref23_Pass, trivial⟩, trivial⟩ mx (fun x => by kernel_rfl)

noncomputable def ref26_Run_L0 (n : List (List UInt8) × List yT0 × List (List UInt8 × Int × Int) × List (List UInt8 × Int × Int × Int × Int) × Int × Int) (l : List (Int × Int × Int × Int × Int × List (Int × Bool) × Int)) (i : Int) (d2 : List (Int × Int × Bool × Bool)) (d3 : List Int) (d4 : List Int) (d5 : List Bool) (v : List (Int × Int × Bool × Bool)) (v2 : List Int) (v3 : List Int) (v4 : List Bool) : Option ((Int × (List (Int × Int × Bool × Bool)) × List Int × List Int × List Bool × (List (Int × Int × Bool × Bool)) × List Int × List Int × List Bool) ⊕ (((List (Int × Int × Bool × Bool)) × List Int × List Int × List Bool × (List (Int × Int × Bool × Bool)) × List Int × List Int × List Bool) ⊕ (Int × Int × (List (Int × Int × Bool × Bool)) × List Int × List Int × List Bool))) :=
 bif decide (i < (l.length : Int)) then (
 gd (inB i l.length) <|
 (ref26_Apply (n.1, (n.2.1, (n.2.2.1, (n.2.2.2.1, (n.2.2.2.2.1, n.2.2.2.2.2))))) (d2, (d3, (d4, d5))) (l.getD i.toNat (0, (0, (0, (0, (0, ([], 0)))))))).bind fun r =>
 bif !decide (r.2 = 0) then (
 some (.inr (.inr (i, r.2, d2, d3, d4, d5))))
 else (
 some (.inl (wi64 (i + 1), r.1.1, r.1.2.1, r.1.2.2.1, r.1.2.2.2, v, v2, v3, v4))))
 else (
 some (.inr (.inl (d2, d3, d4, d5, v, v2, v3, v4))))

noncomputable def ref26_Run (n : List (List UInt8) × List yT0 × List (List UInt8 × Int × Int) × List (List UInt8 × Int × Int × Int × Int) × Int × Int) (d : List (Int × Int × Bool × Bool) × List Int × List Int × List Bool) (l : List (Int × Int × Int × Int × Int × List (Int × Bool) × Int)) : Option ((List (Int × Int × Bool × Bool) × List Int × List Int × List Bool) × Int × Int) :=
 bif decide (400 < (l.length : Int)) then (
 some ((d.1, (d.2.1, (d.2.2.1, d.2.2.2))), 0, 4))
 else (
 (iter (fun x => ref26_Run_L0 n l x.1 x.2.1 x.2.2.1 x.2.2.2.1 x.2.2.2.2.1 x.2.2.2.2.2.1 x.2.2.2.2.2.2.1 x.2.2.2.2.2.2.2.1 x.2.2.2.2.2.2.2.2) (0, d.1, d.2.1, d.2.2.1, d.2.2.2, [], [], [], [])).bind fun s =>
 s.elim (fun s2 =>
 some ((s2.1, (s2.2.1, (s2.2.2.1, s2.2.2.2.1))), (l.length : Int), 0))
 (fun s3 =>
 some ((s3.2.2.1, (s3.2.2.2.1, (s3.2.2.2.2.1, s3.2.2.2.2.2))), s3.1, s3.2.1)))

noncomputable def fn_ref26_Run : Fun :=
 ⟨55, 3, 3,
 ⟨[(0, .one (.data (.pair (.sl (.str)) tT0))), (1, .one (.data (.pair (.sl tT1) tT3))), (2, .one (.data (.sl tT4)))], [], []⟩,
 ⟨[(0, .one (.data (.pair (.sl tT1) tT3))), (1, ii), (2, ii)], [], []⟩,
 fun x => ref26_Run x.1 x.2.1 x.2.2⟩
noncomputable def cx_ref26_Run : Cx := ⟨types, [], [fn_ref26_Apply], 41, []⟩
theorem ok_ref26_Run : FunOk Tryz.prog fn_ref26_Run :=
 FunOk.intro (C := cx_ref26_Run) (p := (nn (nn (mm (nn (mm (.mk [] (some (⟨[(2, kk), (3, .one (.ptr 64 0)), (4, .one (.ptr 80 0)), (6, .one (.ptr 112 0)), (9, ii)], [(64, 32, [.keep, .keep, .keep, .keep, .keep, .keep]), (80, 40, [.data (.sl tT1), .data (.sl (.int .i64)), .data (.sl (.int .i64)), .data (.sl (.bool))]), (112, 40, [.data (.sl tT1), .data (.sl (.int .i64)), .data (.sl (.int .i64)), .data (.sl (.bool))])], []⟩, [⟨.x 0, ⟨[(2, kk), (4, .one (.ptr 80 0)), (6, .one (.ptr 112 0))], [(80, 40, [.data (.sl tT1), .data (.sl (.int .i64)), .data (.sl (.int .i64)), .data (.sl (.bool))]), (112, 40, [.data (.sl tT1), .data (.sl (.int .i64)), .data (.sl (.int .i64)), .data (.sl (.bool))])], []⟩⟩, ⟨.r, ⟨[(6, .one (.ptr 112 0)), (7, ii), (8, ii)], [(112, 40, [.data (.sl tT1), .data (.sl (.int .i64)), .data (.sl (.int .i64)), .data (.sl (.bool))])], []⟩⟩])) .nil .nil) .nil)) .nil))))
  Tryz.func55 rfl (by kernel_rfl) rfl rfl rfl rfl types_ok ⟨⟨ok_ref26_Apply, trivial⟩, trivial⟩ mx (fun x => by kernel_rfl)

noncomputable def ref23_Same_L0 (a : List (Int × Int × Bool × Bool)) (b : List (Int × Int × Bool × Bool)) (i : Int) : Option (Int ⊕ (Unit ⊕ Bool)) :=
 bif decide (i < (a.length : Int)) then (
 gd (inB i a.length) <|
 gd (inB i b.length) <|
 bif !(decide ((a.getD i.toNat (0, (0, (false, false)))).1 = (b.getD i.toNat (0, (0, (false, false)))).1) && (decide (((a.getD i.toNat (0, (0, (false, false)))).2).1 = ((b.getD i.toNat (0, (0, (false, false)))).2).1) && (((((a.getD i.toNat (0, (0, (false, false)))).2).2).1 == (((b.getD i.toNat (0, (0, (false, false)))).2).2).1) && ((((a.getD i.toNat (0, (0, (false, false)))).2).2).2 == (((b.getD i.toNat (0, (0, (false, false)))).2).2).2)))) then (
 some (.inr (.inr false)))
 else (
 some (.inl (wi64 (i + 1)))))
 else (
 some (.inr (.inl ())))

noncomputable def ref23_Same (a : List (Int × Int × Bool × Bool)) (b : List (Int × Int × Bool × Bool)) : Option (Bool) :=
 bif !decide ((a.length : Int) = (b.length : Int)) then (
 some false)
 else (
 (iter (fun x => ref23_Same_L0 a b x) 0).bind fun s =>
 s.elim (fun s2 =>
 some true)
 (fun s3 =>
 some s3))

noncomputable def fn_ref23_Same : Fun :=
 ⟨52, 2, 1,
 ⟨[(0, .one (.data (.sl tT1))), (1, .one (.data (.sl tT1)))], [], []⟩,
 ⟨[(0, bb)], [], []⟩,
 fun x => ref23_Same x.1 x.2⟩
noncomputable def cx_ref23_Same : Cx := ⟨types, [], [], 26, []⟩
theorem ok_ref23_Same : FunOk Tryz.prog fn_ref23_Same :=
 FunOk.intro (C := cx_ref23_Same) (p := (nn (nn (mm (nn (mm (.mk [] (some (⟨[(0, kk), (1, kk), (5, ii)], [], []⟩, [⟨.x 0, ⟨[], [], []⟩⟩, ⟨.r, ⟨[(4, bb)], [], []⟩⟩])) .nil .nil) .nil)) .nil))))
  Tryz.func52 rfl (by kernel_rfl) rfl rfl rfl rfl types_ok ⟨trivial, trivial⟩ mx (fun x => by kernel_rfl)

noncomputable def ref23_SameInts_L0 (a : List Int) (b : List Int) (i : Int) : Option (Int ⊕ (Unit ⊕ Bool)) :=
 bif decide (i < (a.length : Int)) then (
 gd (inB i a.length) <|
 gd (inB i b.length) <|
 bif !decide (a.getD i.toNat 0 = b.getD i.toNat 0) then (
 some (.inr (.inr false)))
 else (
 some (.inl (wi64 (i + 1)))))
 else (
 some (.inr (.inl ())))

noncomputable def ref23_SameInts (a : List Int) (b : List Int) : Option (Bool) :=
 bif !decide ((a.length : Int) = (b.length : Int)) then (
 some false)
 else (
 (iter (fun x => ref23_SameInts_L0 a b x) 0).bind fun s =>
 s.elim (fun s2 =>
 some true)
 (fun s3 =>
 some s3))

noncomputable def fn_ref23_SameInts : Fun :=
 ⟨68, 2, 1,
 ⟨[(0, .one (.data (.sl (.int .i64)))), (1, .one (.data (.sl (.int .i64))))], [], []⟩,
 ⟨[(0, bb)], [], []⟩,
 fun x => ref23_SameInts x.1 x.2⟩
noncomputable def cx_ref23_SameInts : Cx := ⟨types, [], [], 26, []⟩
theorem ok_ref23_SameInts : FunOk Tryz.prog fn_ref23_SameInts :=
 FunOk.intro (C := cx_ref23_SameInts) (p := (nn (nn (mm (nn (mm (.mk [] (some (⟨[(0, kk), (1, kk), (5, ii)], [], []⟩, [⟨.x 0, ⟨[], [], []⟩⟩, ⟨.r, ⟨[(4, bb)], [], []⟩⟩])) .nil .nil) .nil)) .nil))))
  Tryz.func68 rfl (by kernel_rfl) rfl rfl rfl rfl types_ok ⟨trivial, trivial⟩ mx (fun x => by kernel_rfl)

noncomputable def ref23_SameBools_L0 (a : List Bool) (b : List Bool) (i : Int) : Option (Int ⊕ (Unit ⊕ Bool)) :=
 bif decide (i < (a.length : Int)) then (
 gd (inB i a.length) <|
 gd (inB i b.length) <|
 bif !(a.getD i.toNat false == b.getD i.toNat false) then (
 some (.inr (.inr false)))
 else (
 some (.inl (wi64 (i + 1)))))
 else (
 some (.inr (.inl ())))

noncomputable def ref23_SameBools (a : List Bool) (b : List Bool) : Option (Bool) :=
 bif !decide ((a.length : Int) = (b.length : Int)) then (
 some false)
 else (
 (iter (fun x => ref23_SameBools_L0 a b x) 0).bind fun s =>
 s.elim (fun s2 =>
 some true)
 (fun s3 =>
 some s3))

noncomputable def fn_ref23_SameBools : Fun :=
 ⟨69, 2, 1,
 ⟨[(0, .one (.data (.sl (.bool)))), (1, .one (.data (.sl (.bool))))], [], []⟩,
 ⟨[(0, bb)], [], []⟩,
 fun x => ref23_SameBools x.1 x.2⟩
noncomputable def cx_ref23_SameBools : Cx := ⟨types, [], [], 26, []⟩
theorem ok_ref23_SameBools : FunOk Tryz.prog fn_ref23_SameBools :=
 FunOk.intro (C := cx_ref23_SameBools) (p := (nn (nn (mm (nn (mm (.mk [] (some (⟨[(0, kk), (1, kk), (5, ii)], [], []⟩, [⟨.x 0, ⟨[], [], []⟩⟩, ⟨.r, ⟨[(4, bb)], [], []⟩⟩])) .nil .nil) .nil)) .nil))))
  Tryz.func69 rfl (by kernel_rfl) rfl rfl rfl rfl types_ok ⟨trivial, trivial⟩ mx (fun x => by kernel_rfl)

noncomputable def ref25_SamePlan (a : List Int × List Int × List Bool) (b : List Int × List Int × List Bool) : Option (Bool) :=
 (ref23_SameInts a.1 b.1).bind fun r =>
 bif r then (
 (ref23_SameInts a.2.1 b.2.1).bind fun r2 =>
 bif r2 then (
 (ref23_SameBools a.2.2 b.2.2).bind fun r3 =>
 some r3)
 else (
 some false))
 else (
 some false)

noncomputable def fn_ref25_SamePlan : Fun :=
 ⟨28, 2, 1,
 ⟨[(0, .one (.data tT3)), (1, .one (.data tT3))], [], []⟩,
 ⟨[(0, bb)], [], []⟩,
 fun x => ref25_SamePlan x.1 x.2⟩
noncomputable def cx_ref25_SamePlan : Cx := ⟨types, [], [fn_ref23_SameInts, fn_ref23_SameBools], 24, []⟩
theorem ok_ref25_SamePlan : FunOk Tryz.prog fn_ref25_SamePlan :=
 FunOk.intro (C := cx_ref25_SamePlan) (p := .nil)
  Tryz.func28 rfl (by kernel_rfl) rfl rfl rfl rfl types_ok ⟨⟨ok_ref23_SameInts, ok_ref23_SameBools, trivial⟩, trivial⟩ mx (fun x => by kernel_rfl)

noncomputable def ref26_Same (a : List (Int × Int × Bool × Bool) × List Int × List Int × List Bool) (b : List (Int × Int × Bool × Bool) × List Int × List Int × List Bool) : Option (Bool) :=
 (ref23_Same a.1 b.1).bind fun r =>
 bif r then (
 (ref25_SamePlan (a.2.1, (a.2.2.1, a.2.2.2)) (b.2.1, (b.2.2.1, b.2.2.2))).bind fun r2 =>
 some r2)
 else (
 some false)

noncomputable def fn_ref26_Same : Fun :=
 ⟨22, 2, 1,
 ⟨[(0, .one (.data (.pair (.sl tT1) tT3))), (1, .one (.data (.pair (.sl tT1) tT3)))], [], []⟩,
 ⟨[(0, bb)], [], []⟩,
 fun x => ref26_Same x.1 x.2⟩
noncomputable def cx_ref26_Same : Cx := ⟨types, [], [fn_ref23_Same, fn_ref25_SamePlan], 17, []⟩
theorem ok_ref26_Same : FunOk Tryz.prog fn_ref26_Same :=
 FunOk.intro (C := cx_ref26_Same) (p := .nil)
  Tryz.func22 rfl (by kernel_rfl) rfl rfl rfl rfl types_ok ⟨⟨ok_ref23_Same, ok_ref25_SamePlan, trivial⟩, trivial⟩ mx (fun x => by kernel_rfl)

noncomputable def law26_agree_L0 (n : List (List UInt8) × List yT0 × List (List UInt8 × Int × Int) × List (List UInt8 × Int × Int × Int × Int) × Int × Int) (d : List (Int × Int × Bool × Bool) × List Int × List Int × List Bool) (l : List (Int × Int × Int × Int × Int × List (Int × Bool) × Int)) (m : Int) (a : List (Int × Int × Bool × Bool)) (a2 : List Int) (a3 : List Int) (a4 : List Bool) (b : List (Int × Int × Bool × Bool)) (b2 : List Int) (b3 : List Int) (b4 : List Bool) : Option ((Int × (List (Int × Int × Bool × Bool)) × List Int × List Int × List Bool × (List (Int × Int × Bool × Bool)) × List Int × List Int × List Bool) ⊕ (Unit ⊕ Bool)) :=
 bif decide (m < (l.length : Int)) then (
 gd (inB m l.length) <|
 (step_Apply (n.1, (n.2.1, (n.2.2.1, (n.2.2.2.1, (n.2.2.2.2.1, n.2.2.2.2.2))))) (d.1, (d.2.1, (d.2.2.1, d.2.2.2))) (l.getD m.toNat (0, (0, (0, (0, (0, ([], 0)))))))).bind fun r8 =>
 gd (inB m l.length) <|
 (ref26_Apply (n.1, (n.2.1, (n.2.2.1, (n.2.2.2.1, (n.2.2.2.2.1, n.2.2.2.2.2))))) (d.1, (d.2.1, (d.2.2.1, d.2.2.2))) (l.getD m.toNat (0, (0, (0, (0, (0, ([], 0)))))))).bind fun r9 =>
 Option.bind (α := Bool) (
 bif !decide (r8.2 = r9.2) then (
 some true)
 else (
 (ref26_Same (r8.1.1, (r8.1.2.1, (r8.1.2.2.1, r8.1.2.2.2))) (r9.1.1, (r9.1.2.1, (r9.1.2.2.1, r9.1.2.2.2)))).bind fun r10 =>
 some (!r10))) fun s3 =>
 bif s3 then (
 some (.inr (.inr false)))
 else (
 some (.inl (wi64 (m + 1), r8.1.1, r8.1.2.1, r8.1.2.2.1, r8.1.2.2.2, r9.1.1, r9.1.2.1, r9.1.2.2.1, r9.1.2.2.2))))
 else (
 some (.inr (.inl ())))

noncomputable def law26_agree (n : List (List UInt8) × List yT0 × List (List UInt8 × Int × Int) × List (List UInt8 × Int × Int × Int × Int) × Int × Int) (d : List (Int × Int × Bool × Bool) × List Int × List Int × List Bool) (l : List (Int × Int × Int × Int × Int × List (Int × Bool) × Int)) : Option (Bool) :=
 Option.bind (α := Bool) (
 (step_Check (n.1, (n.2.1, (n.2.2.1, (n.2.2.2.1, (n.2.2.2.2.1, n.2.2.2.2.2))))) (d.1, (d.2.1, (d.2.2.1, d.2.2.2)))).bind fun r =>
 (ref26_Check (n.1, (n.2.1, (n.2.2.1, (n.2.2.2.1, (n.2.2.2.2.1, n.2.2.2.2.2))))) (d.1, (d.2.1, (d.2.2.1, d.2.2.2)))).bind fun r2 =>
 bif !decide (r = r2) then (
 some true)
 else (
 (step_Ticks l).bind fun r3 =>
 (ref26_Ticks l).bind fun r4 =>
 some (!decide (r3 = r4)))) fun s =>
 bif s then (
 some false)
 else (
 (step_Run (n.1, (n.2.1, (n.2.2.1, (n.2.2.2.1, (n.2.2.2.2.1, n.2.2.2.2.2))))) (d.1, (d.2.1, (d.2.2.1, d.2.2.2))) l).bind fun r5 =>
 (ref26_Run (n.1, (n.2.1, (n.2.2.1, (n.2.2.2.1, (n.2.2.2.2.1, n.2.2.2.2.2))))) (d.1, (d.2.1, (d.2.2.1, d.2.2.2))) l).bind fun r6 =>
 Option.bind (α := Bool) (
 bif !decide (r5.2.2 = r6.2.2) then (
 some true)
 else (
 bif !decide (r5.2.1 = r6.2.1) then (
 some true)
 else (
 (ref26_Same (r5.1.1, (r5.1.2.1, (r5.1.2.2.1, r5.1.2.2.2))) (r6.1.1, (r6.1.2.1, (r6.1.2.2.1, r6.1.2.2.2)))).bind fun r7 =>
 some (!r7)))) fun s2 =>
 bif s2 then (
 some false)
 else (
 (iter (fun x => law26_agree_L0 n d l x.1 x.2.1 x.2.2.1 x.2.2.2.1 x.2.2.2.2.1 x.2.2.2.2.2.1 x.2.2.2.2.2.2.1 x.2.2.2.2.2.2.2.1 x.2.2.2.2.2.2.2.2) (0, r5.1.1, r5.1.2.1, r5.1.2.2.1, r5.1.2.2.2, r6.1.1, r6.1.2.1, r6.1.2.2.1, r6.1.2.2.2)).bind fun s4 =>
 s4.elim (fun s5 =>
 some true)
 (fun s6 =>
 some s6)))

noncomputable def fn_law26_agree : Fun :=
 ⟨23, 3, 1,
 ⟨[(0, .one (.data (.pair (.sl (.str)) tT0))), (1, .one (.data (.pair (.sl tT1) tT3))), (2, .one (.data (.sl tT4)))], [], []⟩,
 ⟨[(0, bb)], [], []⟩,
 fun x => law26_agree x.1 x.2.1 x.2.2⟩
noncomputable def cx_law26_agree : Cx := ⟨types, [], [fn_step_Check, fn_ref26_Check, fn_step_Ticks, fn_ref26_Ticks, fn_step_Run, fn_ref26_Run, fn_ref26_Same, fn_step_Apply, fn_ref26_Apply], 93, []⟩
theorem ok_law26_agree : FunOk Tryz.prog fn_law26_agree :=
 FunOk.intro (C := cx_law26_agree) (p := (nn (mm (mm (.mk [.join [⟨.n, ⟨[(2, kk), (3, .one (.ptr 64 0)), (4, .one (.ptr 80 0)), (27, bb)], [(64, 32, [.keep, .keep, .keep, .keep, .keep, .keep]), (80, 40, [.keep, .keep, .keep, .keep])], []⟩⟩]] none .nil .nil) .nil) (nn (nn (mm (mm (.mk [.join [⟨.n, ⟨[(2, kk), (3, .one (.ptr 64 0)), (4, .one (.ptr 80 0)), (7, .one (.ptr 128 0)), (10, .one (.ptr 176 0)), (57, bb)], [(64, 32, [.keep, .keep, .keep, .keep, .keep, .keep]), (80, 40, [.keep, .keep, .keep, .keep]), (128, 40, [.keep, .keep, .keep, .keep]), (176, 40, [.keep, .keep, .keep, .keep])], []⟩⟩]] none .nil .nil) .nil) (mm (nn (mm (.mk [] (some (⟨[(2, kk), (3, .one (.ptr 64 0)), (4, .one (.ptr 80 0)), (7, .one (.ptr 128 0)), (10, .one (.ptr 176 0)), (13, ii)], [(64, 32, [.keep, .keep, .keep, .keep, .keep, .keep]), (80, 40, [.keep, .keep, .keep, .keep]), (128, 40, [.data (.sl tT1), .data (.sl (.int .i64)), .data (.sl (.int .i64)), .data (.sl (.bool))]), (176, 40, [.data (.sl tT1), .data (.sl (.int .i64)), .data (.sl (.int .i64)), .data (.sl (.bool))])], []⟩, [⟨.x 0, ⟨[], [], []⟩⟩, ⟨.r, ⟨[(6, bb)], [], []⟩⟩])) (nn (mm (mm (nn (nn (mm (.mk [.join [⟨.n, ⟨[(2, kk), (3, .one (.ptr 64 0)), (4, .one (.ptr 80 0)), (7, .one (.ptr 128 0)), (10, .one (.ptr 176 0)), (13, kk), (92, bb)], [(64, 32, [.keep, .keep, .keep, .keep, .keep, .keep]), (80, 40, [.keep, .keep, .keep, .keep]), (128, 40, [.keep, .keep, .keep, .keep]), (176, 40, [.keep, .keep, .keep, .keep])], []⟩⟩]] none .nil .nil) .nil))) .nil) .nil)) .nil) .nil)) .nil)))))))
  Tryz.func23 rfl (by kernel_rfl) rfl rfl rfl rfl types_ok ⟨⟨ok_step_Check, ok_ref26_Check, ok_step_Ticks, ok_ref26_Ticks, ok_step_Run, ok_ref26_Run, ok_ref26_Same, ok_step_Apply, ok_ref26_Apply, trivial⟩, trivial⟩ mx (fun x => by kernel_rfl)

noncomputable def law26_StepRaw (l : List Int) (x : Int × Int × Int × Int × Int × List (Int × Bool) × Int) : Option (Bool) :=
 Option.bind (α := Bool) (
 (second_Few l).bind fun r =>
 bif !r then (
 some true)
 else (
 some (decide (60 < (x.2.2.2.2.2.1.length : Int))))) fun s =>
 bif s then (
 (law26_awake).bind fun r2 =>
 some r2)
 else (
 (keep_New l).bind fun r3 =>
 (keep_Src_Network r3.1 r3.2).bind fun r4 =>
 (second_Plan (r4.1.1, (r4.1.2.1, (r4.1.2.2.1, (r4.1.2.2.2.1, (r4.1.2.2.2.2.1, r4.1.2.2.2.2.2))))) r4.2.1 r4.2.2).bind fun r5 =>
 (second_Desk (r4.1.1, (r4.1.2.1, (r4.1.2.2.1, (r4.1.2.2.2.1, (r4.1.2.2.2.2.1, r4.1.2.2.2.2.2))))) r5.1 r5.2.1 r5.2.2).bind fun r6 =>
 (law26_agree (r4.1.1, (r4.1.2.1, (r4.1.2.2.1, (r4.1.2.2.2.1, (r4.1.2.2.2.2.1, r4.1.2.2.2.2.2))))) (r6.2.2.1, (r6.2.2.2.1, (r6.2.2.2.2.1, r6.2.2.2.2.2))) [(x.1, (x.2.1, (x.2.2.1, (x.2.2.2.1, (x.2.2.2.2.1, (x.2.2.2.2.2.1, x.2.2.2.2.2.2))))))]).bind fun r7 =>
 bif r7 then (
 (law26_awake).bind fun r8 =>
 some r8)
 else (
 some false))

noncomputable def fn_law26_StepRaw : Fun :=
 ⟨4, 2, 1,
 ⟨[(0, .one (.data (.sl (.int .i64)))), (1, .one (.data tT4))], [], []⟩,
 ⟨[(0, bb)], [], []⟩,
 fun x => law26_StepRaw x.1 x.2⟩
noncomputable def cx_law26_StepRaw : Cx := ⟨types, [], [fn_second_Few, fn_law26_awake, fn_keep_New, fn_keep_Src_Network, fn_second_Plan, fn_second_Desk, fn_law26_agree], 35, []⟩
theorem ok_law26_StepRaw : FunOk Tryz.prog fn_law26_StepRaw :=
 FunOk.intro (C := cx_law26_StepRaw) (p := (nn (mm (mm (.mk [.join [⟨.n, ⟨[(0, kk), (3, .one (.ptr 64 0)), (16, bb)], [(64, 48, [.keep, .keep, .keep, .keep, .keep, .keep, .keep])], []⟩⟩]] none .nil .nil) .nil) .nil)))
  Tryz.func4 rfl (by kernel_rfl) rfl rfl rfl rfl types_ok ⟨⟨ok_second_Few, ok_law26_awake, ok_keep_New, ok_keep_Src_Network, ok_second_Plan, ok_second_Desk, ok_law26_agree, trivial⟩, trivial⟩ mx (fun x => by kernel_rfl)


end Go.Proofs.YtbljipjemhbooaaGreat
