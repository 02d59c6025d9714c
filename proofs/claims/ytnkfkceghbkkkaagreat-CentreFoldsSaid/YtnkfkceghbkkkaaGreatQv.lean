/- Functions, evaluated. No condition. -/
import Derived.Test.YtnkfkceghbkkkaaGreatProg
import Derived.Test.YtnkfkceghbkkkaaGreatQu
namespace Go.Proofs.YtnkfkceghbkkkaaGreat
open Go Go.Sq
open Go.Proofs.Tryz
noncomputable section
def qhP (p : yB7) : Option (Int × Int × Int × List (Int × Bool)) :=
 gd (fits (0 + p.2.2.1.length) 16) <|
 some (p.1, p.2.1, p.2.2.2, ([] ++ p.2.2.1))
def qis : Fun :=
 ⟨101, 1, 1,
 ⟨[(0, dd tT4)], [], []⟩,
 ⟨[(0, .agg [.data I6, .data I6, .own 0, .data I6])], [], [(0, .arr 114 (.pair I6 (.bool)))]⟩,
 fun x => qhP x⟩
theorem qmE : FO qis := fi [3] [] 9 [] .nil func101 ⟨trivial, trivial⟩
def qit (n : yB0) (d : yB3) (s : List Int) (s2 : Int) : Option (yB5 × List Int × Int) :=
 (qaa 9 s s2).bind fun r =>
 bif decide (r.1 = 0) then (
 (qaa (wi64 ((d.1.length : Int) + 1)) r.2.1 r.2.2).bind fun r2 =>
 some ((1, (r2.1, (0, (0, (0, ([], 0)))))), r2.2.1, r2.2.2))
 else (
 bif decide (r.1 = 1) then (
 (qaa (wi64 ((d.1.length : Int) + 2)) r.2.1 r.2.2).bind fun r3 =>
 some ((2, (wi64 (r3.1 - 1), (0, (0, (0, ([], 0)))))), r3.2.1, r3.2.2))
 else (
 bif decide (r.1 = 2) then (
 (qaa (wi64 ((n.2.2.2.1.length : Int) + 1)) r.2.1 r.2.2).bind fun r4 =>
 some ((3, (r4.1, (0, (0, (0, ([], 0)))))), r4.2.1, r4.2.2))
 else (
 bif decide (r.1 = 3) then (
 (qaa (wi64 ((n.2.2.2.1.length : Int) + 1)) r.2.1 r.2.2).bind fun r5 =>
 some ((4, (r5.1, (0, (0, (0, ([], 0)))))), r5.2.1, r5.2.2))
 else (
 Option.bind (α := Bool) (
 bif decide (r.1 = 4) then (
 some (decide (r.1 = 4)))
 else (
 some (decide (r.1 = 5)))) fun s3 =>
 bif s3 then (
 (qap [1, 2, 7, 60, 100, 0, 101] r.2.1 r.2.2).bind fun r6 =>
 some ((6, (0, (r6.1, (0, (0, ([], 0)))))), r6.2.1, r6.2.2))
 else (
 bif decide (r.1 = 6) then (
 (qaa 9 r.2.1 r.2.2).bind fun r7 =>
 (qaa 4 r7.2.1 r7.2.2).bind fun r8 =>
 (qaa 5 r8.2.1 r8.2.2).bind fun r9 =>
 (qaa 2 r9.2.1 r9.2.2).bind fun r10 =>
 (qaa 2 r10.2.1 r10.2.2).bind fun r11 =>
 some ((r7.1, (r8.1, (r9.1, (r10.1, (0, ([], r11.1)))))), r11.2.1, r11.2.2))
 else (
 (qaa 2 r.2.1 r.2.2).bind fun r12 =>
 Option.bind (α := List Int × Int × List Int × List Int × List Bool) (
 bif decide (r12.1 = 0) then (
 (qfX (n.1, (n.2.1, (n.2.2.1, (n.2.2.2.1, (n.2.2.2.2.1, n.2.2.2.2.2))))) r12.2.1 r12.2.2).bind fun r13 =>
 some (r13.2.1, r13.2.2, r13.1.1, r13.1.2.1, r13.1.2.2))
 else (
 some (r12.2.1, r12.2.2, d.2.1, d.2.2.1, d.2.2.2))) fun s4 =>
 (qha (n.1, (n.2.1, (n.2.2.1, (n.2.2.2.1, (n.2.2.2.2.1, n.2.2.2.2.2))))) (s4.2.2.1, (s4.2.2.2.1, s4.2.2.2.2))).bind fun r14 =>
 bif decide ((r14.1.length : Int) = 0) then (
 some ((5, (0, (1, (0, (1, ([], 0)))))), s4.1, s4.2.1))
 else (
 (qaa (r14.1.length : Int) s4.1 s4.2.1).bind fun r15 =>
 gd (inB r15.1 r14.1.length) <|
 (qhP (r14.1.getD r15.1.toNat (0, (0, ([], 0))))).bind fun r16 =>
 (qap [r16.2.2.1, wi64 (0 - r16.2.2.1), 1, (-1), wi64 (r16.2.2.1 + 1), wi64 ((wi64 (0 - r16.2.2.1)) - 1), 0] r15.2.1 r15.2.2).bind fun r17 =>
 some ((5, (0, (r17.1, (r16.1, (r16.2.1, (r16.2.2.2, 0)))))), r17.2.1, r17.2.2))))))))
def qk2 : Fun :=
 ⟨59, 3, 1,
 ⟨[(0, pt 0 0), (1, dd tT0), (2, dd (.pair (.sl tT1) tT6))], v3_, []⟩,
 ⟨r64_, v3_, []⟩,
 fun x => qit x.1 x.2.1 x.2.2.1 x.2.2.2⟩
theorem qp1 : FO qk2 := fi [] [qbe, qbB, qi4, qjT, qis] 118 [] ((nn (mm (nn (mm (nn (nn (nn (nn (nn (nn (nn (nn (mm (nn (.mk [.join [⟨.n, ⟨[(0, pt 0 0), (4, pt 80 0), (5, pt 96 0), (6, pt 112 0), (13, kk), (51, bb)], [(0, 128, [.keep, .keep]), (80, 50, (kp 6)), (96, 57, (kp 4)), (112, 28, (kp 7))], []⟩⟩]] none .nil .nil)) .nil))))))))) .nil)) (nn (mm (nn (.mk [.join [⟨.n, ⟨[(0, pt 0 0), (4, pt 80 0), (6, pt 112 0), (7, pt 128 0)], [(0, 128, [.data (.sl I6), .data I6]), (80, 50, (kp 6)), (112, 28, (kp 7)), (128, 55, [.data (.sl I6), .data (.sl I6), .data (.sl (.bool))])], []⟩⟩]] none .nil .nil)) .nil))))) func59 ⟨⟨qbm, qb6, qn5, qpu, qmE, trivial⟩, trivial⟩
def qfY (n : yB0) (c : yB13) (s : List Int) (s2 : Int) : Option (yB11 × List Int × Int) :=
 (qaa 4 s s2).bind fun r =>
 bif decide (r.1 = 0) then (
 (qaa 4 r.2.1 r.2.2).bind fun r2 =>
 (qdm r2.1 r2.2.1 r2.2.2).bind fun r3 =>
 gd (fits (5 + r3.1.2.2.2.2.2.length) 8) <|
 some ((1, ([r3.1.1, r3.1.2.1, r3.1.2.2.1, r3.1.2.2.2.1, r3.1.2.2.2.2.1] ++ r3.1.2.2.2.2.2, ((0, (0, (0, (0, (0, ([], 0)))))), ([], (0, 0))))), r3.2.1, r3.2.2))
 else (
 bif decide (r.1 = 1) then (
 (qfb 2 r.2.1 r.2.2).bind fun r4 =>
 bif decide ((r4.2.2.length : Int) = 0) then (
 (qaa 5 r4.1 r4.2.1).bind fun r5 =>
 some ((r5.1, ([], ((0, (0, (0, (0, (0, ([], 0)))))), ([], (0, 0))))), r5.2.1, r5.2.2))
 else (
 gd (inB 0 r4.2.2.length) <|
 some ((3, ([], ((0, (0, (0, (0, (0, ([], 0)))))), ((r4.2.2.getD 0 ([], (0, 0))).1, (((r4.2.2.getD 0 ([], (0, 0))).2).1, ((r4.2.2.getD 0 ([], (0, 0))).2).2))))), r4.1, r4.2.1)))
 else (
 (qit (n.1, (n.2.1, (n.2.2.1, (n.2.2.2.1, (n.2.2.2.2.1, n.2.2.2.2.2))))) (c.1.1, (c.1.2.1, (c.1.2.2.1, c.1.2.2.2))) r.2.1 r.2.2).bind fun r6 =>
 some ((2, ([], ((r6.1.1, (r6.1.2.1, (r6.1.2.2.1, (r6.1.2.2.2.1, (r6.1.2.2.2.2.1, (r6.1.2.2.2.2.2.1, r6.1.2.2.2.2.2.2)))))), ([], (0, 0))))), r6.2.1, r6.2.2)))
def qi5 : Fun :=
 ⟨20, 3, 1,
 ⟨[(0, pt 0 0), (1, dd tT0), (2, dd (.pair (.pair (.sl tT1) tT6) (.pair (.sl tT3) (.pair (.sl tT2) I6))))], v3_, []⟩,
 ⟨r50_, v3_, []⟩,
 fun x => qfY x.1 x.2.1 x.2.2.1 x.2.2.2⟩
theorem qn6 : FO qi5 := fi [27] [qbe, qfG, qhN, qk2] 52 [] .nil func20 ⟨⟨qbm, qkC, qnj, qp1, trivial⟩, trivial⟩
def qeb (v : Int × Int × Bool × Bool) : Option (Bool) :=
 bif decide (1 ≤ v.1) then (
 bif decide (v.1 ≤ 60) then (
 bif decide (0 ≤ v.2.1) then (
 some (decide (v.2.1 ≤ v.1)))
 else (
 some false))
 else (
 some false))
 else (
 some false)
def qcT : Fun :=
 ⟨115, 1, 1,
 ⟨[(0, dd tT1)], [], []⟩,
 ⟨[(0, bb)], [], []⟩,
 fun x => qeb x⟩
theorem qdK : FO qcT := fi [] [] 23 [] .nil func115 ⟨trivial, trivial⟩
def qgF (l : yB2) (i : Int) : Option (Int ⊕ (Unit ⊕ Int)) :=
 bif decide (i < (l.length : Int)) then (
 gd (inB i l.length) <|
 (qeb (l.getD i.toNat (0, (0, (false, false))))).bind fun r2 =>
 bif !r2 then (
 some (.inr (.inr 20)))
 else (
 some (.inl (wi64 (i + 1)))))
 else (
 some (.inr (.inl ())))
def qhb (n : yB0) (l : yB2) : Option (Int) :=
 (qdl (n.1, (n.2.1, (n.2.2.1, (n.2.2.2.1, (n.2.2.2.2.1, n.2.2.2.2.2)))))).bind fun r =>
 bif !decide ((l.length : Int) = r) then (
 some 20)
 else (
 (iter (fun x => qgF l x) 0).bind fun s =>
 s.elim (fun s2 =>
 some 0)
 (fun s3 =>
 some s3))
def qjU : Fun :=
 ⟨69, 2, 1,
 ⟨[(0, dd tT0), (1, dd (.sl tT1))], [], []⟩,
 ⟨[(0, ii)], [], []⟩,
 fun x => qhb x.1 x.2⟩
theorem qpv : FO qjU := fi [] [qfD, qcT] 23 [] ((nn (nn (mm (nn (mm (.mk [] (some (⟨[(1, kk), (5, ii)], [], []⟩, [⟨.x 0, ⟨[], [], []⟩⟩, ⟨.r, ⟨[(4, ii)], [], []⟩⟩])) .nil .nil) .nil)) .nil)))) func69 ⟨⟨qi0, qdK, trivial⟩, trivial⟩
def qck (p : yB6) (i : Int) (l : List Bool) : Option ((Int × List Bool) ⊕ (List Bool)) :=
 bif decide (i < (p.1.length : Int)) then (
 gd (inB i p.1.length) <|
 gd (fits (l.length + 1) 1) <|
 some (.inl (wi64 (i + 1), l ++ [(!decide (p.1.getD i.toNat 0 = 0))])))
 else (
 some (.inr l))
def qcl (p : yB6) (i2 : Int) (l2 : List Bool) (l3 : List Bool) : Option ((Int × List Bool × List Bool) ⊕ (List Bool × List Bool)) :=
 bif decide (i2 < (p.2.1.length : Int)) then (
 gd (inB i2 p.2.1.length) <|
 gd (fits (l3.length + 1) 1) <|
 some (.inl (wi64 (i2 + 1), l2, l3 ++ [(!decide (p.2.1.getD i2.toNat 0 = 0))])))
 else (
 some (.inr (l2, l3)))
def qeV (p : yB6) : Option (List Bool × List Bool) :=
 (iter (fun x => qck p x.1 x.2) (0, [])).bind fun s =>
 (iter (fun x2 => qcl p x2.1 x2.2.1 x2.2.2) (0, s, [])).bind fun s2 =>
 some (s2.1, s2.2)
def qhn : Fun :=
 ⟨72, 1, 1,
 ⟨[(0, dd tT6)], [], []⟩,
 ⟨[(0, .agg [.own 0, .own 1])], [], [(0, .arr 4 (.bool)), (1, .arr 4 (.bool))]⟩,
 fun x => qeV x⟩
theorem qk3 : FO qhn := fi [] [] 43 [] ((nn (nn (mm (nn (mm (.mk [] (some (⟨[(1, pt 32 0), (2, pt 48 0), (3, pt 64 0), (4, ii)], v65_, [(1049, .arr 4 (.bool))]⟩, [⟨.x 0, ⟨r40_, v65_, [(1049, .arr 4 (.bool))]⟩⟩])) .nil .nil) .nil)) (mm (nn (mm (.mk [] (some (⟨[(1, pt 32 0), (2, pt 48 0), (3, pt 64 0), (5, ii)], [(32, 55, [.keep, .keep, .keep]), (48, 148, [.keep, .keep]), (64, 148, [.own 1049, .own 1065])], [(1049, .arr 4 (.bool)), (1065, .arr 4 (.bool))]⟩, [⟨.x 2, ⟨r34_, [(48, 148, [.keep, .keep]), (64, 148, [.own 1049, .own 1065])], [(1049, .arr 4 (.bool)), (1065, .arr 4 (.bool))]⟩⟩])) .nil .nil) .nil)) .nil))))) func72 ⟨trivial, trivial⟩
def qhQ (l : List Bool × List Bool) : Option (List Bool) :=
 gd (fits (0 + l.1.length) 1) <|
 gd (fits (([] ++ l.1).length + l.2.length) 1) <|
 some (([] ++ l.1) ++ l.2)
def qjV : Fun :=
 ⟨71, 1, 1,
 ⟨[(0, dd (.pair (.sl (.bool)) (.sl (.bool))))], [], []⟩,
 ⟨[(0, ow 0)], [], a128_⟩,
 fun x => qhQ x⟩
theorem qnG : FO qjV := fi [3] [] 10 [] .nil func71 ⟨trivial, trivial⟩
def qhR (v : Int × Int × Bool × Bool) : Option (Bool) :=
 (qeb (v.1, (v.2.1, (v.2.2.1, v.2.2.2)))).bind fun r =>
 bif r then (
 some (decide (v.2.1 = v.1)))
 else (
 some false)
def qiu : Fun :=
 ⟨73, 1, 1,
 ⟨[(0, dd tT1)], [], []⟩,
 ⟨[(0, bb)], [], []⟩,
 fun x => qhR x⟩
theorem qmF : FO qiu := fi [] [qcT] 12 [] .nil func73 ⟨⟨qdK, trivial⟩, trivial⟩
def qfZ (n : yB0) (p : yB6) (node : Int) : Option (Int × Int) :=
 (qea (n.1, (n.2.1, (n.2.2.1, (n.2.2.2.1, (n.2.2.2.2.1, n.2.2.2.2.2))))) (p.1, (p.2.1, p.2.2))).bind fun r =>
 bif !decide (r = 0) then (
 some (0, r))
 else (
 Option.bind (α := Bool) (
 bif decide (node < 0) then (
 some true)
 else (
 some (decide ((n.1.length : Int) ≤ node)))) fun s =>
 bif s then (
 some (0, 8))
 else (
 (qhO (n.1, (n.2.1, (n.2.2.1, (n.2.2.2.1, (n.2.2.2.2.1, n.2.2.2.2.2))))) (p.1, (p.2.1, p.2.2)) node).bind fun r2 =>
 some (r2.1, 0)))
def qi6 : Fun :=
 ⟨118, 3, 2,
 ⟨r93_, [], []⟩,
 ⟨r58_, [], []⟩,
 fun x => qfZ x.1 x.2.1 x.2.2⟩
theorem qn7 : FO qi6 := fi [] [qdJ, qip] 34 [] ((nn (nn (mm (mm (.mk [.join [⟨.n, ⟨[(2, kk), (3, pt 64 0), (4, pt 80 0), (25, bb)], v28_, []⟩⟩]] none .nil .nil) .nil) .nil)))) func118 ⟨⟨qff, qmC, trivial⟩, trivial⟩
def qjW (n : yB0) (p : yB6) (i : Int) : Option (Int ⊕ (Unit ⊕ Bool)) :=
 bif decide (i < (n.2.2.2.1.length : Int)) then (
 gd (inB i p.2.2.length) <|
 Option.bind (α := Unit ⊕ Bool) (
 bif p.2.2.getD i.toNat false then (
 gd (inB i n.2.2.2.1.length) <|
 (qfZ (n.1, (n.2.1, (n.2.2.1, (n.2.2.2.1, (n.2.2.2.2.1, n.2.2.2.2.2))))) (p.1, (p.2.1, p.2.2)) (((n.2.2.2.1.getD i.toNat ([], (0, (0, (0, 0))))).2).1)).bind fun r =>
 Option.bind (α := Bool) (
 bif !decide (r.2 = 0) then (
 some true)
 else (
 some (decide (r.1 = 0)))) fun s =>
 bif s then (
 some (.inr false))
 else (
 some (.inl ())))
 else (
 some (.inl ()))) fun s2 =>
 s2.elim (fun s3 =>
 some (.inl (wi64 (i + 1))))
 (fun s4 =>
 some (.inr (.inr s4))))
 else (
 some (.inr (.inl ())))
def qhS (n : yB0) (p : yB6) : Option (Bool) :=
 (iter (fun x => qjW n p x) 0).bind fun s5 =>
 s5.elim (fun s6 =>
 some true)
 (fun s7 =>
 some s7)
def qhc : Fun :=
 ⟨74, 2, 1,
 ⟨r48_, [], []⟩,
 ⟨[(0, bb)], [], []⟩,
 fun x => qhS x.1 x.2⟩
theorem qjX : FO qhc := fi [] [qi6] 38 [] ((nn (mm (nn (mm (.mk [] (some (⟨r111_, v0_, []⟩, [⟨.x 0, ⟨[], [], []⟩⟩, ⟨.r, ⟨[(4, bb)], [], []⟩⟩])) (nn (mm (mm (nn (.mk [.join [⟨.n, ⟨[(2, pt 48 0), (3, pt 64 0), (5, kk)], v0_, []⟩⟩, ⟨.r, ⟨[(4, bb)], [], []⟩⟩]] none (nn (mm (.mk [.join [⟨.n, ⟨[(2, pt 48 0), (3, pt 64 0), (5, kk), (37, bb)], v0_, []⟩⟩]] none .nil .nil) .nil)) .nil)) .nil) .nil)) .nil) .nil)) .nil))) func74 ⟨⟨qn7, trivial⟩, trivial⟩
def qbn (d : yB3) (i : Int) (need : List Bool) : Option ((Int × List Bool) ⊕ (Unit ⊕ Int)) :=
 bif decide (i < (need.length : Int)) then (
 Option.bind (α := Bool × List Bool) (
 gd (inB i need.length) <|
 bif need.getD i.toNat false then (
 gd (inB i d.1.length) <|
 (qhR (d.1.getD i.toNat (0, (0, (false, false))))).bind fun r6 =>
 bif !r6 then (
 some (true, need))
 else (
 gd (inB i d.1.length) <|
 some ((!((((d.1.getD i.toNat (0, (0, (false, false)))).2).2).1)), need)))
 else (
 some (false, need))) fun s =>
 bif s.1 then (
 some (.inr (.inr 21)))
 else (
 some (.inl (wi64 (i + 1), s.2))))
 else (
 some (.inr (.inl ())))
def qiv (n : yB0) (d : yB3) : Option (Int) :=
 (qd9 (n.1, (n.2.1, (n.2.2.1, (n.2.2.2.1, (n.2.2.2.2.1, n.2.2.2.2.2)))))).bind fun r =>
 bif !decide (r = 0) then (
 some r)
 else (
 (qhb (n.1, (n.2.1, (n.2.2.1, (n.2.2.2.1, (n.2.2.2.2.1, n.2.2.2.2.2))))) d.1).bind fun r2 =>
 bif !decide (r2 = 0) then (
 some r2)
 else (
 (qea (n.1, (n.2.1, (n.2.2.1, (n.2.2.2.1, (n.2.2.2.2.1, n.2.2.2.2.2))))) (d.2.1, (d.2.2.1, d.2.2.2))).bind fun r3 =>
 bif !decide (r3 = 0) then (
 some r3)
 else (
 (qeV (d.2.1, (d.2.2.1, d.2.2.2))).bind fun r4 =>
 (qhQ (r4.1, r4.2)).bind fun r5 =>
 (iter (fun x => qbn d x.1 x.2) (0, r5)).bind fun s2 =>
 s2.elim (fun s3 =>
 (qhS (n.1, (n.2.1, (n.2.2.1, (n.2.2.2.1, (n.2.2.2.2.1, n.2.2.2.2.2))))) (d.2.1, (d.2.2.1, d.2.2.2))).bind fun r7 =>
 bif !r7 then (
 some 21)
 else (
 some 0))
 (fun s4 =>
 some s4))))
def qk4 : Fun :=
 ⟨30, 2, 1,
 ⟨[(0, dd tT0), (1, dd (.pair (.sl tT1) tT6))], [], []⟩,
 ⟨[(0, ii)], [], []⟩,
 fun x => qiv x.1 x.2⟩
theorem qp2 : FO qk4 := fi [] [qdI, qjU, qdJ, qhn, qjV, qiu, qhc] 66 [] ((nn (nn (nn (nn (nn (mm (nn (mm (.mk [] (some (⟨[(2, pt 48 0), (3, pt 64 0), (8, ow 528), (9, ii)], v41_, [(528, .arr 4 (.bool))]⟩, [⟨.x 0, ⟨r34_, v41_, []⟩⟩, ⟨.r, ⟨[(4, ii)], [], []⟩⟩])) (nn (mm (mm (mm (.mk [.join [⟨.n, ⟨[(2, pt 48 0), (3, pt 64 0), (8, ow 528), (9, kk), (60, bb)], v41_, [(528, .arr 4 (.bool))]⟩⟩]] none .nil .nil) .nil) .nil) .nil)) .nil) .nil)) .nil))))))) func30 ⟨⟨qfa, qpv, qff, qk3, qnG, qmF, qjX, trivial⟩, trivial⟩
def qkt (p : yB7) : Option (Bool) :=
 bif decide (p.1 = 0) then (
 bif decide (p.2.1 = 0) then (
 bif decide ((p.2.2.1.length : Int) = 0) then (
 some (decide (p.2.2.2 = 0)))
 else (
 some false))
 else (
 some false))
 else (
 some false)
def qmG : Fun :=
 ⟨175, 1, 1,
 ⟨[(0, dd tT4)], [], []⟩,
 ⟨[(0, bb)], [], []⟩,
 fun x => qkt x⟩
theorem qrb : FO qmG := fi [] [] 22 [] .nil func175 ⟨trivial, trivial⟩
def qhd (s : yB5) : Option (Bool) :=
 Option.bind (α := Bool) (
 bif decide (s.1 = 1) then (
 some (decide (s.1 = 1)))
 else (
 Option.bind (α := Bool) (
 bif decide (s.1 = 2) then (
 some (decide (s.1 = 2)))
 else (
 Option.bind (α := Bool) (
 bif decide (s.1 = 3) then (
 some (decide (s.1 = 3)))
 else (
 some (decide (s.1 = 4)))) fun s2 =>
 some s2)) fun s3 =>
 some s3)) fun s4 =>
 bif s4 then (
 bif decide (s.2.2.1 = 0) then (
 (qkt (s.2.2.2.1, (s.2.2.2.2.1, (s.2.2.2.2.2.1, s.2.2.2.2.2.2)))).bind fun r =>
 some r)
 else (
 some false))
 else (
 bif decide (s.1 = 5) then (
 bif decide (s.2.1 = 0) then (
 some (decide (s.2.2.2.2.2.2 = 0)))
 else (
 some false))
 else (
 bif decide (s.1 = 6) then (
 bif decide (s.2.1 = 0) then (
 (qkt (s.2.2.2.1, (s.2.2.2.2.1, (s.2.2.2.2.2.1, s.2.2.2.2.2.2)))).bind fun r2 =>
 some r2)
 else (
 some false))
 else (
 some false)))
def qjY : Fun :=
 ⟨126, 1, 1,
 ⟨r64_, [], []⟩,
 ⟨[(0, bb)], [], []⟩,
 fun x => qhd x⟩
theorem qpw : FO qjY := fi [] [qmG] 39 [] ((nn (mm (nn (mm (mm (nn (.mk [.join [⟨.n, ⟨r81_, [(32, 28, (kp 7))], []⟩⟩]] none .nil (nn (.mk [.join [⟨.n, ⟨r81_, [(32, 28, (kp 7))], []⟩⟩]] none .nil (nn (.mk [.join [⟨.n, ⟨r81_, [(32, 28, (kp 7))], []⟩⟩]] none .nil .nil)))))) .nil) .nil)) .nil))) func126 ⟨⟨qrb, trivial⟩, trivial⟩
def qfg (p : yB6) : Option yB6 :=
 gd (fits (0 + p.1.length) 8) <|
 gd (fits (0 + p.2.1.length) 8) <|
 gd (fits (0 + p.2.2.length) 1) <|
 some (([] ++ p.1), ([] ++ p.2.1), ([] ++ p.2.2))
def qhT : Fun :=
 ⟨179, 1, 1,
 ⟨[(0, dd tT6)], [], []⟩,
 ⟨[(0, .agg [.own 0, .own 1, .own 2])], [], [(0, .arr 3 I6), (1, .arr 3 I6), (2, .arr 4 (.bool))]⟩,
 fun x => qfg x⟩
theorem qnk : FO qhT := fi [3, 7, 11] [] 16 [] .nil func179 ⟨trivial, trivial⟩
def qeh (d : yB3) : Option (yB2 × List Int × List Int × List Bool) :=
 gd (fits (0 + d.1.length) 24) <|
 (qfg (d.2.1, (d.2.2.1, d.2.2.2))).bind fun r =>
 some (([] ++ d.1), r.1, r.2.1, r.2.2)
def qeH : Fun :=
 ⟨130, 1, 1,
 ⟨[(0, dd (.pair (.sl tT1) tT6))], [], []⟩,
 ⟨[(0, .agg [.own 0, .own 1, .own 2, .own 3])], [], a52_⟩,
 fun x => qeh x⟩
theorem qf0 : FO qeH := fi [3] [qhT] 11 [] .nil func130 ⟨⟨qnk, trivial⟩, trivial⟩
def qiw (v : Int × Int × Bool × Bool) (vopen : Bool) : Option ((Int × Int × Bool × Bool) × Int) :=
 (qeb (v.1, (v.2.1, (v.2.2.1, v.2.2.2)))).bind fun r =>
 bif !r then (
 some ((v.1, (v.2.1, (v.2.2.1, v.2.2.2))), 20))
 else (
 some ((v.1, (v.2.1, (vopen, v.2.2.2))), 0))
def qi7 : Fun :=
 ⟨176, 2, 2,
 ⟨[(0, dd tT1), (1, bb)], [], []⟩,
 ⟨r69_, [], []⟩,
 fun x => qiw x.1 x.2⟩
theorem qn8 : FO qi7 := fi [] [qcT] 13 [] .nil func176 ⟨⟨qdK, trivial⟩, trivial⟩
def qku (d : yB3) (s : yB5) : Option (yB3 × Int) :=
 Option.bind (α := Bool) (
 bif decide (s.2.1 < 0) then (
 some true)
 else (
 some (decide ((d.1.length : Int) ≤ s.2.1)))) fun s2 =>
 bif s2 then (
 some ((d.1, (d.2.1, (d.2.2.1, d.2.2.2))), 8))
 else (
 Option.bind (α := Bool) (
 bif decide (s.1 = 2) then (
 (qeV (d.2.1, (d.2.2.1, d.2.2.2))).bind fun r =>
 (qhQ (r.1, r.2)).bind fun r2 =>
 gd (inB s.2.1 r2.length) <|
 some (r2.getD s.2.1.toNat false))
 else (
 some false)) fun s3 =>
 bif s3 then (
 some ((d.1, (d.2.1, (d.2.2.1, d.2.2.2))), 22))
 else (
 (qeh (d.1, (d.2.1, (d.2.2.1, d.2.2.2)))).bind fun r3 =>
 gd (inB s.2.1 r3.1.length) <|
 (qiw (r3.1.getD s.2.1.toNat (0, (0, (false, false)))) (decide (s.1 = 1))).bind fun r4 =>
 gd (inB s.2.1 r3.1.length) <|
 some ((r3.1.set s.2.1.toNat r4.1, (r3.2.1, (r3.2.2.1, r3.2.2.2))), 0)))
def qmH : Fun :=
 ⟨127, 2, 2,
 ⟨[(0, dd (.pair (.sl tT1) tT6)), (1, dd (.pair I6 (.pair I6 (.pair I6 tT4))))], [], []⟩,
 ⟨r46_, [], []⟩,
 fun x => qku x.1 x.2⟩
theorem qrc : FO qmH := fi [] [qhn, qjV, qeH, qi7] 54 [] ((nn (mm (mm (.mk [.join [⟨.n, ⟨[(2, pt 48 0), (3, pt 64 0), (4, pt 80 0), (17, bb)], v117_, []⟩⟩]] none .nil .nil) .nil) (mm (mm (.mk [.join [⟨.n, ⟨[(2, pt 48 0), (3, pt 64 0), (4, pt 80 0), (31, bb)], v117_, []⟩⟩]] none .nil .nil) .nil) .nil)))) func127 ⟨⟨qk3, qnG, qf0, qn8, trivial⟩, trivial⟩
def qkv (n : yB0) (d : yB3) (s : yB5) : Option (yB3 × Int) :=
 Option.bind (α := Bool) (
 bif decide (s.2.1 < 0) then (
 some true)
 else (
 some (decide ((n.2.2.2.1.length : Int) ≤ s.2.1)))) fun s2 =>
 bif s2 then (
 some ((d.1, (d.2.1, (d.2.2.1, d.2.2.2))), 8))
 else (
 (qeh (d.1, (d.2.1, (d.2.2.1, d.2.2.2)))).bind fun r =>
 gd (inB s.2.1 r.2.2.2.length) <|
 (qhS (n.1, (n.2.1, (n.2.2.1, (n.2.2.2.1, (n.2.2.2.2.1, n.2.2.2.2.2))))) (r.2.1, (r.2.2.1, r.2.2.2.set s.2.1.toNat (decide (s.1 = 3))))).bind fun r2 =>
 bif !r2 then (
 some ((d.1, (d.2.1, (d.2.2.1, d.2.2.2))), 22))
 else (
 some ((r.1, (r.2.1, (r.2.2.1, r.2.2.2.set s.2.1.toNat (decide (s.1 = 3))))), 0)))
def qmI : Fun :=
 ⟨128, 3, 2,
 ⟨r27_, [], []⟩,
 ⟨r46_, [], []⟩,
 fun x => qkv x.1 x.2.1 x.2.2⟩
theorem qrd : FO qmI := fi [] [qeH, qhc] 39 [] ((nn (mm (mm (.mk [.join [⟨.n, ⟨[(3, pt 64 0), (4, pt 80 0), (5, pt 96 0), (6, pt 112 0), (19, bb)], v35_, []⟩⟩]] none .nil .nil) .nil) .nil))) func128 ⟨⟨qf0, qjX, trivial⟩, trivial⟩
def qbo (r : Int × Int) (k : Int) (seen2 : List Int) : Option ((Int × List Int) ⊕ ((List Int) ⊕ Bool)) :=
 bif decide (k < (seen2.length : Int)) then (
 gd (inB k seen2.length) <|
 bif decide (seen2.getD k.toNat 0 = r.2) then (
 some (.inr (.inr false)))
 else (
 some (.inl (wi64 (k + 1), seen2))))
 else (
 some (.inr (.inl seen2)))
def qcm (n : yB0) (p : yB7) (vat : Int) (i : Int) (seen : List Int) : Option ((Int × Int × List Int) ⊕ (Int ⊕ Bool)) :=
 bif decide (i < (p.2.2.1.length : Int)) then (
 Option.bind (α := Bool × List Int) (
 gd (inB i p.2.2.1.length) <|
 bif decide ((p.2.2.1.getD i.toNat (0, false)).1 < 0) then (
 some (true, seen))
 else (
 gd (inB i p.2.2.1.length) <|
 some (decide ((n.2.1.length : Int) ≤ (p.2.2.1.getD i.toNat (0, false)).1), seen))) fun s2 =>
 bif s2.1 then (
 some (.inr (.inr false)))
 else (
 gd (inB i p.2.2.1.length) <|
 (qks (n.1, (n.2.1, (n.2.2.1, (n.2.2.2.1, (n.2.2.2.2.1, n.2.2.2.2.2))))) (p.2.2.1.getD i.toNat (0, false))).bind fun r =>
 bif !decide (r.1 = vat) then (
 some (.inr (.inr false)))
 else (
 (iter (fun x => qbo r x.1 x.2) (0, s2.2)).bind fun s3 =>
 s3.elim (fun s4 =>
 gd (fits (s4.length + 1) 8) <|
 some (.inl (r.2, wi64 (i + 1), s4 ++ [r.2])))
 (fun s5 =>
 some (.inr (.inr s5))))))
 else (
 some (.inr (.inl vat)))
def qix (n : yB0) (p : yB7) : Option (Bool) :=
 Option.bind (α := Bool) (
 bif decide (p.1 < 0) then (
 some true)
 else (
 bif decide ((n.2.2.1.length : Int) ≤ p.1) then (
 some true)
 else (
 bif decide (p.2.1 < 0) then (
 some true)
 else (
 bif decide ((n.2.2.1.length : Int) ≤ p.2.1) then (
 some true)
 else (
 bif decide (p.1 = p.2.1) then (
 some true)
 else (
 bif decide (p.2.2.2 < 1) then (
 some true)
 else (
 bif decide (1000 < p.2.2.2) then (
 some true)
 else (
 some (decide (32 < (p.2.2.1.length : Int))))))))))) fun s =>
 bif s then (
 some false)
 else (
 gd (inB p.1 n.2.2.1.length) <|
 (iter (fun x2 => qcm n p x2.1 x2.2.1 x2.2.2) (((n.2.2.1.getD p.1.toNat ([], (0, 0))).2).1, 0, [((n.2.2.1.getD p.1.toNat ([], (0, 0))).2).1])).bind fun s6 =>
 s6.elim (fun s7 =>
 gd (inB p.2.1 n.2.2.1.length) <|
 some (decide (s7 = ((n.2.2.1.getD p.2.1.toNat ([], (0, 0))).2).1)))
 (fun s8 =>
 some s8))
def qk5 : Fun :=
 ⟨223, 2, 1,
 ⟨r120_, [], []⟩,
 ⟨[(0, bb)], [], []⟩,
 fun x => qix x.1 x.2⟩
theorem qp3 : FO qk5 := fi [66] [qir] 132 [] ((nn (mm (mm (.mk [.join [⟨.n, ⟨[(2, pt 48 0), (3, pt 64 0), (57, bb)], v54_, []⟩⟩]] none .nil .nil) .nil) (nn (nn (mm (nn (mm (.mk [] (some (⟨[(2, pt 48 0), (3, pt 64 0), (5, ii), (6, ow 123), (7, ii)], v54_, [(123, .arr 3 I6)]⟩, [⟨.x 0, ⟨r111_, v54_, []⟩⟩, ⟨.r, ⟨[(4, bb)], [], []⟩⟩])) (nn (mm (mm (mm (mm (.mk [.join [⟨.n, ⟨[(2, pt 48 0), (3, pt 64 0), (5, kk), (6, ow 123), (7, kk), (92, bb)], v54_, [(123, .arr 3 I6)]⟩⟩]] none .nil .nil) .nil) (nn (nn (mm (nn (mm (.mk [] (some (⟨[(2, pt 48 0), (3, pt 64 0), (6, ow 123), (7, kk), (9, kk), (10, ii)], v54_, [(123, .arr 3 I6)]⟩, [⟨.x 2, ⟨[(2, pt 48 0), (3, pt 64 0), (6, ow 123), (7, kk), (9, kk)], v54_, [(123, .arr 3 I6)]⟩⟩, ⟨.r, ⟨[(4, bb)], [], []⟩⟩])) .nil .nil) .nil)) .nil)))) .nil) .nil)) .nil) .nil)) .nil)))))) func223 ⟨⟨qmD, trivial⟩, trivial⟩
def qiy (n : yB0) (p : yB7) : Option (Bool) :=
 (qd9 (n.1, (n.2.1, (n.2.2.1, (n.2.2.2.1, (n.2.2.2.2.1, n.2.2.2.2.2)))))).bind fun r =>
 bif decide (r = 0) then (
 (qix (n.1, (n.2.1, (n.2.2.1, (n.2.2.2.1, (n.2.2.2.2.1, n.2.2.2.2.2))))) (p.1, (p.2.1, (p.2.2.1, p.2.2.2)))).bind fun r2 =>
 some r2)
 else (
 some false)
def qk6 : Fun :=
 ⟨177, 2, 1,
 ⟨r120_, [], []⟩,
 ⟨[(0, bb)], [], []⟩,
 fun x => qiy x.1 x.2⟩
theorem qp4 : FO qk6 := fi [] [qdI, qk5] 13 [] .nil func177 ⟨⟨qfa, qp3, trivial⟩, trivial⟩
def qcn (p : yB7) (i : Int) (l : List Int) : Option ((Int × List Int) ⊕ (List Int)) :=
 bif decide (i < (p.2.2.1.length : Int)) then (
 gd (inB i p.2.2.1.length) <|
 gd (fits (l.length + 1) 8) <|
 some (.inl (wi64 (i + 1), l ++ [(p.2.2.1.getD i.toNat (0, false)).1])))
 else (
 some (.inr l))
def qbp (d : yB3) (i2 : Int) (l2 : List Int) : Option ((Int × List Int) ⊕ (Unit ⊕ Bool)) :=
 bif decide (i2 < (l2.length : Int)) then (
 Option.bind (α := Bool × List Int) (
 gd (inB i2 l2.length) <|
 gd (inB (l2.getD i2.toNat 0) d.1.length) <|
 (qhR (d.1.getD (l2.getD i2.toNat 0).toNat (0, (0, (false, false))))).bind fun r =>
 bif !r then (
 some (true, l2))
 else (
 gd (inB i2 l2.length) <|
 gd (inB (l2.getD i2.toNat 0) d.1.length) <|
 some ((!((((d.1.getD (l2.getD i2.toNat 0).toNat (0, (0, (false, false)))).2).2).1)), l2))) fun s2 =>
 bif s2.1 then (
 some (.inr (.inr false)))
 else (
 some (.inl (wi64 (i2 + 1), s2.2))))
 else (
 some (.inr (.inl ())))
def qiz (n : yB0) (d : yB3) (p : yB7) : Option (Bool) :=
 (iter (fun x => qcn p x.1 x.2) (0, [wi64 ((n.2.1.length : Int) + p.1), wi64 ((n.2.1.length : Int) + p.2.1)])).bind fun s =>
 (iter (fun x2 => qbp d x2.1 x2.2) (0, s)).bind fun s3 =>
 s3.elim (fun s4 =>
 some true)
 (fun s5 =>
 some s5)
def qk7 : Fun :=
 ⟨178, 3, 1,
 ⟨[(0, dd tT0), (1, dd (.pair (.sl tT1) tT6)), (2, dd tT4)], [], []⟩,
 ⟨[(0, bb)], [], []⟩,
 fun x => qiz x.1 x.2.1 x.2.2⟩
theorem qp5 : FO qk7 := fi [22] [qiu] 67 [] ((nn (nn (mm (nn (mm (.mk [] (some (⟨[(4, pt 80 0), (5, pt 96 0), (7, ow 139), (8, ii)], [(80, 57, (kp 4)), (96, 26, (kp 4))], a102_⟩, [⟨.x 0, ⟨[(4, pt 80 0), (7, ow 139)], [(80, 57, (kp 4))], a102_⟩⟩])) .nil .nil) .nil)) (mm (nn (mm (.mk [] (some (⟨[(4, pt 80 0), (7, ow 139), (9, ii)], [(80, 57, (kp 4))], a102_⟩, [⟨.x 2, ⟨[], [], []⟩⟩, ⟨.r, ⟨[(6, bb)], [], []⟩⟩])) (nn (mm (mm (mm (.mk [.join [⟨.n, ⟨[(4, pt 80 0), (7, ow 139), (9, kk), (66, bb)], [(80, 57, (kp 4))], a102_⟩⟩]] none .nil .nil) .nil) .nil) .nil)) .nil) .nil)) .nil))))) func178 ⟨⟨qmF, trivial⟩, trivial⟩
def qbK (d : yB3) (s : yB5) (i : Int) (v : yB2) (v2 : List Int) (v3 : List Int) (v4 : List Bool) (p : List (Int × Bool)) (x : yB2) (x2 : List Int) (x3 : List Int) (x4 : List Bool) : Option ((Int × yB2 × List Int × List Int × List Bool × (List (Int × Bool)) × yB2 × List Int × List Int × List Bool) ⊕ ((yB2 × List Int × List Int × List Bool × yB2 × List Int × List Int × List Bool) ⊕ yB8)) :=
 bif decide (i < (p.length : Int)) then (
 gd (inB i p.length) <|
 Option.bind (α := Int × (List (Int × Bool)) × yB2 × List Int × List Int × List Bool) (
 bif (p.getD i.toNat (0, false)).2 then (
 some ((-1), p, x, x2, x3, x4))
 else (
 some (1, p, x, x2, x3, x4))) fun s4 =>
 gd (inB ((p.getD i.toNat (0, false)).1) d.2.1.length) <|
 Option.bind (α := Bool × (List (Int × Bool)) × yB2 × List Int × List Int × List Bool) (
 bif decide (wi64 (s4.1 * (d.2.1.getD ((p.getD i.toNat (0, false)).1).toNat 0)) < 0) then (
 some (true, s4.2.1, s4.2.2.1, s4.2.2.2.1, s4.2.2.2.2.1, s4.2.2.2.2.2))
 else (
 some (decide (wi64 ((wi64 (s4.1 * (d.2.1.getD ((p.getD i.toNat (0, false)).1).toNat 0))) + s.2.2.1) < 0), s4.2.1, s4.2.2.1, s4.2.2.2.1, s4.2.2.2.2.1, s4.2.2.2.2.2))) fun s5 =>
 bif s5.1 then (
 some (.inr (.inr (22, d.1, d.2.1, d.2.2.1, d.2.2.2))))
 else (
 gd (inB ((p.getD i.toNat (0, false)).1) s5.2.2.2.1.length) <|
 some (.inl (wi64 (i + 1), v, v2, v3, v4, s5.2.1, s5.2.2.1, s5.2.2.2.1.set (((p.getD i.toNat (0, false)).1).toNat) (wi64 (s4.1 * (wi64 ((wi64 (s4.1 * (d.2.1.getD ((p.getD i.toNat (0, false)).1).toNat 0))) + s.2.2.1)))), s5.2.2.2.2.1, s5.2.2.2.2.2))))
 else (
 some (.inr (.inl (v, v2, v3, v4, x, x2, x3, x4))))
def qkw (n : yB0) (d : yB3) (s : yB5) : Option (yB3 × Int) :=
 Option.bind (α := Bool) (
 bif decide (s.2.2.1 < (-1000)) then (
 some true)
 else (
 some (decide (1000 < s.2.2.1)))) fun s2 =>
 bif s2 then (
 some ((d.1, (d.2.1, (d.2.2.1, d.2.2.2))), 23))
 else (
 (qhP (s.2.2.2.1, (s.2.2.2.2.1, (s.2.2.2.2.2.1, s.2.2.2.2.2.2)))).bind fun r =>
 (qiy (n.1, (n.2.1, (n.2.2.1, (n.2.2.2.1, (n.2.2.2.2.1, n.2.2.2.2.2))))) (r.1, (r.2.1, (r.2.2.2, max s.2.2.1 (wi64 (0 - s.2.2.1)))))).bind fun r2 =>
 bif !r2 then (
 some ((d.1, (d.2.1, (d.2.2.1, d.2.2.2))), 23))
 else (
 (qeh (d.1, (d.2.1, (d.2.2.1, d.2.2.2)))).bind fun r3 =>
 (qiz (n.1, (n.2.1, (n.2.2.1, (n.2.2.2.1, (n.2.2.2.2.1, n.2.2.2.2.2))))) (r3.1, (r3.2.1, (r3.2.2.1, r3.2.2.2))) (r.1, (r.2.1, (r.2.2.2, max s.2.2.1 (wi64 (0 - s.2.2.1)))))).bind fun r4 =>
 bif !r4 then (
 some ((d.1, (d.2.1, (d.2.2.1, d.2.2.2))), 22))
 else (
 gd (inB r.1 r3.2.2.1.length) <|
 gd (inB r.1 r3.2.2.1.length) <|
 gd (inB r.2.1 (r3.2.2.1.set r.1.toNat (wi64 ((r3.2.2.1.getD r.1.toNat 0) + s.2.2.1))).length) <|
 gd (inB r.2.1 (r3.2.2.1.set r.1.toNat (wi64 ((r3.2.2.1.getD r.1.toNat 0) + s.2.2.1))).length) <|
 Option.bind (α := Bool × (List (Int × Bool)) × yB2 × List Int × List Int × List Bool) (
 gd (inB r.1 ((r3.2.2.1.set r.1.toNat (wi64 ((r3.2.2.1.getD r.1.toNat 0) + s.2.2.1))).set r.2.1.toNat (wi64 (((r3.2.2.1.set r.1.toNat (wi64 ((r3.2.2.1.getD r.1.toNat 0) + s.2.2.1))).getD r.2.1.toNat 0) - s.2.2.1))).length) <|
 bif decide (((r3.2.2.1.set r.1.toNat (wi64 ((r3.2.2.1.getD r.1.toNat 0) + s.2.2.1))).set r.2.1.toNat (wi64 (((r3.2.2.1.set r.1.toNat (wi64 ((r3.2.2.1.getD r.1.toNat 0) + s.2.2.1))).getD r.2.1.toNat 0) - s.2.2.1))).getD r.1.toNat 0 < 0) then (
 some (true, r.2.2.2, r3.1, r3.2.1, (r3.2.2.1.set r.1.toNat (wi64 ((r3.2.2.1.getD r.1.toNat 0) + s.2.2.1))).set r.2.1.toNat (wi64 (((r3.2.2.1.set r.1.toNat (wi64 ((r3.2.2.1.getD r.1.toNat 0) + s.2.2.1))).getD r.2.1.toNat 0) - s.2.2.1)), r3.2.2.2))
 else (
 gd (inB r.2.1 ((r3.2.2.1.set r.1.toNat (wi64 ((r3.2.2.1.getD r.1.toNat 0) + s.2.2.1))).set r.2.1.toNat (wi64 (((r3.2.2.1.set r.1.toNat (wi64 ((r3.2.2.1.getD r.1.toNat 0) + s.2.2.1))).getD r.2.1.toNat 0) - s.2.2.1))).length) <|
 bif decide (0 < ((r3.2.2.1.set r.1.toNat (wi64 ((r3.2.2.1.getD r.1.toNat 0) + s.2.2.1))).set r.2.1.toNat (wi64 (((r3.2.2.1.set r.1.toNat (wi64 ((r3.2.2.1.getD r.1.toNat 0) + s.2.2.1))).getD r.2.1.toNat 0) - s.2.2.1))).getD r.2.1.toNat 0) then (
 some (true, r.2.2.2, r3.1, r3.2.1, (r3.2.2.1.set r.1.toNat (wi64 ((r3.2.2.1.getD r.1.toNat 0) + s.2.2.1))).set r.2.1.toNat (wi64 (((r3.2.2.1.set r.1.toNat (wi64 ((r3.2.2.1.getD r.1.toNat 0) + s.2.2.1))).getD r.2.1.toNat 0) - s.2.2.1)), r3.2.2.2))
 else (
 gd (inB r.1 d.2.2.1.length) <|
 bif decide (d.2.2.1.getD r.1.toNat 0 < 0) then (
 some (true, r.2.2.2, r3.1, r3.2.1, (r3.2.2.1.set r.1.toNat (wi64 ((r3.2.2.1.getD r.1.toNat 0) + s.2.2.1))).set r.2.1.toNat (wi64 (((r3.2.2.1.set r.1.toNat (wi64 ((r3.2.2.1.getD r.1.toNat 0) + s.2.2.1))).getD r.2.1.toNat 0) - s.2.2.1)), r3.2.2.2))
 else (
 gd (inB r.2.1 d.2.2.1.length) <|
 some (decide (0 < d.2.2.1.getD r.2.1.toNat 0), r.2.2.2, r3.1, r3.2.1, (r3.2.2.1.set r.1.toNat (wi64 ((r3.2.2.1.getD r.1.toNat 0) + s.2.2.1))).set r.2.1.toNat (wi64 (((r3.2.2.1.set r.1.toNat (wi64 ((r3.2.2.1.getD r.1.toNat 0) + s.2.2.1))).getD r.2.1.toNat 0) - s.2.2.1)), r3.2.2.2))))) fun s3 =>
 bif s3.1 then (
 some ((d.1, (d.2.1, (d.2.2.1, d.2.2.2))), 22))
 else (
 (iter (fun x5 => qbK d s x5.1 x5.2.1 x5.2.2.1 x5.2.2.2.1 x5.2.2.2.2.1 x5.2.2.2.2.2.1 x5.2.2.2.2.2.2.1 x5.2.2.2.2.2.2.2.1 x5.2.2.2.2.2.2.2.2.1 x5.2.2.2.2.2.2.2.2.2) (0, [], [], [], [], s3.2.1, s3.2.2.1, s3.2.2.2.1, s3.2.2.2.2.1, s3.2.2.2.2.2)).bind fun s6 =>
 s6.elim (fun s7 =>
 (qea (n.1, (n.2.1, (n.2.2.1, (n.2.2.2.1, (n.2.2.2.2.1, n.2.2.2.2.2))))) (s7.2.2.2.2.2.1, (s7.2.2.2.2.2.2.1, s7.2.2.2.2.2.2.2))).bind fun r5 =>
 bif !decide (r5 = 0) then (
 some ((d.1, (d.2.1, (d.2.2.1, d.2.2.2))), r5))
 else (
 (qhS (n.1, (n.2.1, (n.2.2.1, (n.2.2.2.1, (n.2.2.2.2.1, n.2.2.2.2.2))))) (s7.2.2.2.2.2.1, (s7.2.2.2.2.2.2.1, s7.2.2.2.2.2.2.2))).bind fun r6 =>
 bif !r6 then (
 some ((d.1, (d.2.1, (d.2.2.1, d.2.2.2))), 22))
 else (
 some ((s7.2.2.2.2.1, (s7.2.2.2.2.2.1, (s7.2.2.2.2.2.2.1, s7.2.2.2.2.2.2.2))), 0))))
 (fun s8 =>
 some ((s8.2.1, (s8.2.2.1, (s8.2.2.2.1, s8.2.2.2.2))), s8.1))))))
def qmJ : Fun :=
 ⟨129, 3, 2,
 ⟨r27_, [], []⟩,
 ⟨r46_, [], []⟩,
 fun x => qkw x.1 x.2.1 x.2.2⟩
theorem qre : FO qmJ := fi [] [qis, qk6, qeH, qk7, qdJ, qhc] 178 [] ((nn (mm (mm (.mk [.join [⟨.n, ⟨[(3, pt 64 0), (4, pt 80 0), (5, pt 96 0), (6, pt 112 0), (22, bb)], v35_, []⟩⟩]] none .nil .nil) .nil) (nn (nn (nn (nn (nn (nn (nn (mm (mm (.mk [.join [⟨.n, ⟨[(3, pt 64 0), (4, pt 80 0), (5, pt 96 0), (6, pt 112 0), (8, pt 144 0), (9, pt 160 0), (116, bb)], [(64, 50, (kp 6)), (80, 57, (kp 4)), (96, 28, (kp 7)), (112, 57, (kp 4)), (144, 26, [.keep, .keep, .own 432, .keep]), (160, 57, [.own 656, .own 657, .own 658, .own 659])], a13_⟩⟩]] none .nil .nil) .nil) (mm (nn (mm (.mk [] (some (⟨[(3, pt 64 0), (4, pt 80 0), (5, pt 96 0), (6, pt 112 0), (8, pt 144 0), (9, pt 160 0), (10, ii)], [(64, 50, (kp 6)), (80, 57, (kp 4)), (96, 28, (kp 7)), (112, 57, [.data (.sl tT1), .data (.sl I6), .data (.sl I6), .data (.sl (.bool))]), (144, 26, [.keep, .keep, .own 432, .keep]), (160, 57, [.own 656, .own 657, .own 658, .own 659])], a13_⟩, [⟨.x 0, ⟨[(3, pt 64 0), (4, pt 80 0), (6, pt 112 0), (9, pt 160 0)], [(64, 50, (kp 6)), (80, 57, (kp 4)), (112, 57, [.data (.sl tT1), .data (.sl I6), .data (.sl I6), .data (.sl (.bool))]), (160, 57, [.own 656, .own 657, .own 658, .own 659])], [(656, .arr 152 tT1), (657, .arr 3 I6), (658, .arr 3 I6), (659, .arr 4 (.bool))]⟩⟩, ⟨.r, ⟨[(6, pt 112 0), (7, ii)], v77_, []⟩⟩])) (nn (mm (mm (nn (nn (mm (nn (.mk [.join [⟨.n, ⟨[(3, pt 64 0), (4, pt 80 0), (5, pt 96 0), (6, pt 112 0), (8, pt 144 0), (9, pt 160 0), (10, kk), (11, pt 192 0), (12, ii)], v19_, a13_⟩⟩]] none .nil .nil)) (nn (mm (mm (.mk [.join [⟨.n, ⟨[(3, pt 64 0), (4, pt 80 0), (5, pt 96 0), (6, pt 112 0), (8, pt 144 0), (9, pt 160 0), (10, kk), (11, pt 192 0), (12, kk), (13, kk), (149, bb)], v19_, a13_⟩⟩]] none .nil .nil) .nil) .nil))))) .nil) .nil)) .nil) .nil)) .nil)))))))))))) func129 ⟨⟨qmE, qp4, qf0, qp5, qff, qjX, trivial⟩, trivial⟩
def qkx (v : Int × Int × Bool × Bool) : Option ((Int × Int × Bool × Bool) × Int) :=
 (qeb (v.1, (v.2.1, (v.2.2.1, v.2.2.2)))).bind fun r =>
 bif !r then (
 some ((v.1, (v.2.1, (v.2.2.1, v.2.2.2))), 20))
 else (
 bif v.2.2.2 then (
 some ((v.1, (v.2.1, (v.2.2.1, v.2.2.2))), 0))
 else (
 Option.bind (α := Bool) (
 bif v.2.2.1 then (
 some (decide (v.2.1 < v.1)))
 else (
 some false)) fun s =>
 Option.bind (α := Int) (
 bif s then (
 some (wi64 (v.2.1 + 1)))
 else (
 Option.bind (α := Bool) (
 bif !v.2.2.1 then (
 some (decide (0 < v.2.1)))
 else (
 some false)) fun s2 =>
 Option.bind (α := Int) (
 bif s2 then (
 some (wi64 (v.2.1 - 1)))
 else (
 some v.2.1)) fun s3 =>
 some s3)) fun s4 =>
 some ((v.1, (s4, (v.2.2.1, v.2.2.2))), 0)))
def qmK : Fun :=
 ⟨180, 1, 2,
 ⟨[(0, dd tT1)], [], []⟩,
 ⟨r69_, [], []⟩,
 fun x => qkx x⟩
theorem qrf : FO qmK := fi [] [qcT] 37 [] ((nn (nn (nn (mm (mm (.mk [.join [⟨.n, ⟨[(1, pt 32 0), (2, pt 48 0), (19, bb)], [(32, 152, (kp 4)), (48, 152, (kp 4))], []⟩⟩]] none .nil .nil) (.mk [.join [⟨.n, ⟨[(1, pt 32 0), (2, pt 48 0)], v104_, []⟩⟩]] none .nil (mm (.mk [.join [⟨.n, ⟨[(1, pt 32 0), (2, pt 48 0), (31, bb)], [(32, 152, (kp 4)), (48, 152, (kp 4))], []⟩⟩]] none .nil .nil) (.mk [.join [⟨.n, ⟨[(1, pt 32 0), (2, pt 48 0)], v104_, []⟩⟩]] none .nil .nil)))) .nil))))) func180 ⟨⟨qdK, trivial⟩, trivial⟩
def qcF (ticks : Int) (i : Int) (v2 : Int) (v3 : Int) (v4 : Bool) (v5 : Bool) : Option ((Int × Int × Int × Bool × Bool) ⊕ (Int × Int × Bool × Bool)) :=
 bif decide (i < ticks) then (
 (qkx (v2, (v3, (v4, v5)))).bind fun r2 =>
 some (.inl (wi64 (i + 1), r2.1.1, r2.1.2.1, r2.1.2.2.1, r2.1.2.2.2)))
 else (
 some (.inr (v2, v3, v4, v5)))
def qky (v : Int × Int × Bool × Bool) (ticks : Int) : Option ((Int × Int × Bool × Bool) × Int) :=
 (qeb (v.1, (v.2.1, (v.2.2.1, v.2.2.2)))).bind fun r =>
 bif !r then (
 some ((v.1, (v.2.1, (v.2.2.1, v.2.2.2))), 20))
 else (
 Option.bind (α := Bool) (
 bif decide (ticks < 0) then (
 some true)
 else (
 some (decide (400 < ticks)))) fun s =>
 bif s then (
 some ((v.1, (v.2.1, (v.2.2.1, v.2.2.2))), 1))
 else (
 (iter (fun x => qcF ticks x.1 x.2.1 x.2.2.1 x.2.2.2.1 x.2.2.2.2) (0, v.1, v.2.1, v.2.2.1, v.2.2.2)).bind fun s2 =>
 some ((s2.1, (s2.2.1, (s2.2.2.1, s2.2.2.2))), 0)))
def qmL : Fun :=
 ⟨131, 2, 2,
 ⟨r69_, [], []⟩,
 ⟨r69_, [], []⟩,
 fun x => qky x.1 x.2⟩
theorem qrg : FO qmL := fi [] [qcT, qmK] 29 [] ((nn (nn (mm (mm (.mk [.join [⟨.n, ⟨[(1, kk), (2, pt 48 0), (4, pt 80 0), (16, bb)], [(48, 152, (kp 4)), (80, 152, (kp 4))], []⟩⟩]] none .nil .nil) .nil) (mm (nn (mm (.mk [] (some (⟨[(1, kk), (2, pt 48 0), (4, pt 80 0), (6, ii)], v79_, []⟩, [⟨.x 0, ⟨r94_, v79_, []⟩⟩])) .nil .nil) .nil)) .nil))))) func131 ⟨⟨qdK, qrf, trivial⟩, trivial⟩
def qbP (s : yB5) (i : Int) (x : yB2) (x2 : List Int) (x3 : List Int) (x4 : List Bool) : Option (yB8 ⊕ (yB2 × List Int × List Int × List Bool)) :=
 bif decide (i < (x.length : Int)) then (
 gd (inB i x.length) <|
 (qky (x.getD i.toNat (0, (0, (false, false)))) s.2.2.1).bind fun r7 =>
 gd (inB i x.length) <|
 some (.inl (wi64 (i + 1), x.set i.toNat r7.1, x2, x3, x4)))
 else (
 some (.inr (x, x2, x3, x4)))
def qgG (n : yB0) (d : yB3) (s : yB5) : Option (yB3 × Int) :=
 (qiv (n.1, (n.2.1, (n.2.2.1, (n.2.2.2.1, (n.2.2.2.2.1, n.2.2.2.2.2))))) (d.1, (d.2.1, (d.2.2.1, d.2.2.2)))).bind fun r =>
 bif !decide (r = 0) then (
 some ((d.1, (d.2.1, (d.2.2.1, d.2.2.2))), r))
 else (
 (qhd (s.1, (s.2.1, (s.2.2.1, (s.2.2.2.1, (s.2.2.2.2.1, (s.2.2.2.2.2.1, s.2.2.2.2.2.2))))))).bind fun r2 =>
 bif !r2 then (
 some ((d.1, (d.2.1, (d.2.2.1, d.2.2.2))), 22))
 else (
 Option.bind (α := Bool) (
 bif decide (s.1 = 1) then (
 some (decide (s.1 = 1)))
 else (
 some (decide (s.1 = 2)))) fun s2 =>
 bif s2 then (
 (qku (d.1, (d.2.1, (d.2.2.1, d.2.2.2))) (s.1, (s.2.1, (s.2.2.1, (s.2.2.2.1, (s.2.2.2.2.1, (s.2.2.2.2.2.1, s.2.2.2.2.2.2))))))).bind fun r3 =>
 some ((r3.1.1, (r3.1.2.1, (r3.1.2.2.1, r3.1.2.2.2))), r3.2))
 else (
 Option.bind (α := Bool) (
 bif decide (s.1 = 3) then (
 some (decide (s.1 = 3)))
 else (
 some (decide (s.1 = 4)))) fun s3 =>
 bif s3 then (
 (qkv (n.1, (n.2.1, (n.2.2.1, (n.2.2.2.1, (n.2.2.2.2.1, n.2.2.2.2.2))))) (d.1, (d.2.1, (d.2.2.1, d.2.2.2))) (s.1, (s.2.1, (s.2.2.1, (s.2.2.2.1, (s.2.2.2.2.1, (s.2.2.2.2.2.1, s.2.2.2.2.2.2))))))).bind fun r4 =>
 some ((r4.1.1, (r4.1.2.1, (r4.1.2.2.1, r4.1.2.2.2))), r4.2))
 else (
 bif decide (s.1 = 5) then (
 (qkw (n.1, (n.2.1, (n.2.2.1, (n.2.2.2.1, (n.2.2.2.2.1, n.2.2.2.2.2))))) (d.1, (d.2.1, (d.2.2.1, d.2.2.2))) (s.1, (s.2.1, (s.2.2.1, (s.2.2.2.1, (s.2.2.2.2.1, (s.2.2.2.2.2.1, s.2.2.2.2.2.2))))))).bind fun r5 =>
 some ((r5.1.1, (r5.1.2.1, (r5.1.2.2.1, r5.1.2.2.2))), r5.2))
 else (
 Option.bind (α := Bool) (
 bif decide (s.2.2.1 < 1) then (
 some true)
 else (
 some (decide (100 < s.2.2.1)))) fun s4 =>
 bif s4 then (
 some ((d.1, (d.2.1, (d.2.2.1, d.2.2.2))), 1))
 else (
 (qeh (d.1, (d.2.1, (d.2.2.1, d.2.2.2)))).bind fun r6 =>
 (iter (fun x5 => qbP s x5.1 x5.2.1 x5.2.2.1 x5.2.2.2.1 x5.2.2.2.2) (0, r6.1, r6.2.1, r6.2.2.1, r6.2.2.2)).bind fun s5 =>
 some ((s5.1, (s5.2.1, (s5.2.2.1, s5.2.2.2))), 0)))))))
def qk8 : Fun :=
 ⟨79, 3, 2,
 ⟨r27_, [], []⟩,
 ⟨r46_, [], []⟩,
 fun x => qgG x.1 x.2.1 x.2.2⟩
theorem qp6 : FO qk8 := fi [] [qk4, qjY, qmH, qmI, qmJ, qeH, qmL] 83 [] ((nn (nn (nn (mm (nn (mm (mm (nn (.mk [.join [⟨.n, ⟨[(3, pt 64 0), (4, pt 80 0), (5, pt 96 0), (6, pt 112 0), (23, kk), (24, bb)], v35_, []⟩⟩]] none .nil .nil)) (nn (mm (nn (.mk [.join [⟨.n, ⟨[(3, pt 64 0), (4, pt 80 0), (5, pt 96 0), (6, pt 112 0), (23, kk), (32, bb)], v35_, []⟩⟩]] none .nil .nil)) .nil))) .nil)) (mm (mm (.mk [.join [⟨.n, ⟨[(4, pt 80 0), (5, pt 96 0), (6, pt 112 0), (56, bb)], [(80, 57, (kp 4)), (96, 28, (kp 7)), (112, 57, (kp 4))], []⟩⟩]] none .nil .nil) .nil) (nn (mm (nn (mm (.mk [] (some (⟨[(5, pt 96 0), (6, pt 112 0), (9, pt 160 0), (10, ii)], [(96, 28, (kp 7)), (112, 57, (kp 4)), (160, 57, [.own 960, .own 961, .own 962, .own 963])], a82_⟩, [⟨.x 1, ⟨[(6, pt 112 0), (9, pt 160 0)], [(112, 57, (kp 4)), (160, 57, [.own 960, .own 961, .own 962, .own 963])], a82_⟩⟩])) .nil .nil) .nil)) .nil)))))))) func79 ⟨⟨qp2, qpw, qrc, qrd, qre, qf0, qrg, trivial⟩, trivial⟩
def qdc (n : yB0) (l : List yB5) (i : Int) (d2 : yB2) (d3 : List Int) (d4 : List Int) (d5 : List Bool) (v : yB2) (v2 : List Int) (v3 : List Int) (v4 : List Bool) : Option ((Int × yB2 × List Int × List Int × List Bool × yB2 × List Int × List Int × List Bool) ⊕ ((yB2 × List Int × List Int × List Bool × yB2 × List Int × List Int × List Bool) ⊕ (Int × Int × yB2 × List Int × List Int × List Bool))) :=
 bif decide (i < (l.length : Int)) then (
 gd (inB i l.length) <|
 (qgG (n.1, (n.2.1, (n.2.2.1, (n.2.2.2.1, (n.2.2.2.2.1, n.2.2.2.2.2))))) (d2, (d3, (d4, d5))) (l.getD i.toNat (0, (0, (0, (0, (0, ([], 0)))))))).bind fun r =>
 bif !decide (r.2 = 0) then (
 some (.inr (.inr (i, r.2, d2, d3, d4, d5))))
 else (
 some (.inl (wi64 (i + 1), r.1.1, r.1.2.1, r.1.2.2.1, r.1.2.2.2, v, v2, v3, v4))))
 else (
 some (.inr (.inl (d2, d3, d4, d5, v, v2, v3, v4))))
def qmM (n : yB0) (d : yB3) (l : List yB5) : Option (yB3 × Int × Int) :=
 bif decide (400 < (l.length : Int)) then (
 some ((d.1, (d.2.1, (d.2.2.1, d.2.2.2))), 0, 4))
 else (
 (iter (fun x => qdc n l x.1 x.2.1 x.2.2.1 x.2.2.2.1 x.2.2.2.2.1 x.2.2.2.2.2.1 x.2.2.2.2.2.2.1 x.2.2.2.2.2.2.2.1 x.2.2.2.2.2.2.2.2) (0, d.1, d.2.1, d.2.2.1, d.2.2.2, [], [], [], [])).bind fun s =>
 s.elim (fun s2 =>
 some ((s2.1, (s2.2.1, (s2.2.2.1, s2.2.2.2.1))), (l.length : Int), 0))
 (fun s3 =>
 some ((s3.2.2.1, (s3.2.2.2.1, (s3.2.2.2.2.1, s3.2.2.2.2.2))), s3.1, s3.2.1)))
def qnH : Fun :=
 ⟨33, 3, 3,
 ⟨[(0, dd tT0), (1, dd (.pair (.sl tT1) tT6)), (2, dd (.sl (.pair I6 (.pair I6 (.pair I6 tT4)))))], [], []⟩,
 ⟨[(0, dd (.pair (.sl tT1) tT6)), (1, ii), (2, ii)], [], []⟩,
 fun x => qmM x.1 x.2.1 x.2.2⟩
theorem qsd : FO qnH := fi [] [qk8] 41 [] ((nn (nn (mm (nn (mm (.mk [] (some (⟨[(2, kk), (3, pt 64 0), (4, pt 80 0), (6, pt 112 0), (9, ii)], [(64, 50, (kp 6)), (80, 57, [.data (.sl tT1), .data (.sl I6), .data (.sl I6), .data (.sl (.bool))]), (112, 57, [.data (.sl tT1), .data (.sl I6), .data (.sl I6), .data (.sl (.bool))])], []⟩, [⟨.x 0, ⟨[(2, kk), (4, pt 80 0), (6, pt 112 0)], [(80, 57, [.data (.sl tT1), .data (.sl I6), .data (.sl I6), .data (.sl (.bool))]), (112, 57, [.data (.sl tT1), .data (.sl I6), .data (.sl I6), .data (.sl (.bool))])], []⟩⟩, ⟨.r, ⟨[(6, pt 112 0), (7, ii), (8, ii)], v77_, []⟩⟩])) .nil .nil) .nil)) .nil)))) func33 ⟨⟨qp6, trivial⟩, trivial⟩
def qeW (a : yB1) : Option (Bool) :=
 bif decide (0 ≤ a.2.1) then (
 bif decide (a.2.1 ≤ 1099511627776) then (
 bif decide (0 ≤ a.2.2.1) then (
 bif decide (a.2.2.1 ≤ 1099511627776) then (
 bif decide (0 ≤ a.2.2.2.1) then (
 bif decide (a.2.2.2.1 ≤ 1099511627776) then (
 bif decide ((-1099511627776) ≤ a.2.2.2.2) then (
 some (decide (a.2.2.2.2 ≤ 1099511627776)))
 else (
 some false))
 else (
 some false))
 else (
 some false))
 else (
 some false))
 else (
 some false))
 else (
 some false))
 else (
 some false)
def qho : Fun :=
 ⟨134, 1, 1,
 ⟨[(0, dd tT2)], [], []⟩,
 ⟨[(0, bb)], [], []⟩,
 fun x => qeW x⟩
theorem qk9 : FO qho := fi [] [] 41 [] .nil func134 ⟨trivial, trivial⟩
def qdL (l : List yB1) (i : Int) : Option (Int ⊕ (Unit ⊕ Bool)) :=
 bif decide (i < (l.length : Int)) then (
 Option.bind (α := Bool) (
 gd (inB i l.length) <|
 (qb7 ((l.getD i.toNat ([], (0, (0, (0, 0))))).1)).bind fun r =>
 bif !r then (
 some true)
 else (
 gd (inB i l.length) <|
 (qeW (l.getD i.toNat ([], (0, (0, (0, 0)))))).bind fun r2 =>
 bif !r2 then (
 some true)
 else (
 bif decide (0 < i) then (
 gd (inB (wi64 (i - 1)) l.length) <|
 gd (inB i l.length) <|
 some (!Op.bytesLess ((l.getD (wi64 (i - 1)).toNat ([], (0, (0, (0, 0))))).1) ((l.getD i.toNat ([], (0, (0, (0, 0))))).1)))
 else (
 some false)))) fun s =>
 bif s then (
 some (.inr (.inr false)))
 else (
 some (.inl (wi64 (i + 1)))))
 else (
 some (.inr (.inl ())))
def qiA (l : List yB1) : Option (Bool) :=
 bif decide (64 < (l.length : Int)) then (
 some false)
 else (
 (iter (fun x => qdL l x) 0).bind fun s2 =>
 s2.elim (fun s3 =>
 some true)
 (fun s4 =>
 some s4))
def qla : Fun :=
 ⟨132, 1, 1,
 ⟨[(0, dd (.sl tT2))], [], []⟩,
 ⟨[(0, bb)], [], []⟩,
 fun x => qiA x⟩
theorem qp7 : FO qla := fi [] [qfU, qho] 46 [] ((nn (nn (mm (nn (mm (.mk [] (some (⟨[(0, kk), (3, ii)], [], []⟩, [⟨.x 0, ⟨[], [], []⟩⟩, ⟨.r, ⟨[(2, bb)], [], []⟩⟩])) (nn (mm (mm (mm (.mk [.join [⟨.n, ⟨[(0, kk), (3, kk), (45, bb)], [], []⟩⟩]] none .nil .nil) .nil) .nil) .nil)) .nil) .nil)) .nil)))) func132 ⟨⟨qil, qk9, trivial⟩, trivial⟩
def qgH (e : List UInt8 × Int × Int) : Option (Bool) :=
 (qb7 e.1).bind fun r =>
 bif !r then (
 some false)
 else (
 Option.bind (α := Bool) (
 bif decide (e.2.1 = 1) then (
 some (decide (e.2.1 = 1)))
 else (
 Option.bind (α := Bool) (
 bif decide (e.2.1 = 2) then (
 some (decide (e.2.1 = 2)))
 else (
 some (decide (e.2.1 = 3)))) fun s =>
 some s)) fun s2 =>
 bif s2 then (
 bif decide (0 ≤ e.2.2) then (
 some (decide (e.2.2 ≤ 1099511627776)))
 else (
 some false))
 else (
 bif decide (e.2.1 = 4) then (
 bif decide ((-1099511627776) ≤ e.2.2) then (
 some (decide (e.2.2 ≤ 1099511627776)))
 else (
 some false))
 else (
 some false)))
def qlb : Fun :=
 ⟨133, 1, 1,
 ⟨r109_, [], []⟩,
 ⟨[(0, bb)], [], []⟩,
 fun x => qgH x⟩
theorem qp8 : FO qlb := fi [] [qfU] 31 [] ((nn (nn (mm (nn (mm (mm (nn (.mk [.join [⟨.n, ⟨[(1, pt 32 0), (8, kk), (9, bb)], v97_, []⟩⟩]] none .nil (nn (.mk [.join [⟨.n, ⟨[(1, pt 32 0), (8, kk), (9, bb)], v97_, []⟩⟩]] none .nil .nil)))) .nil) .nil)) .nil)))) func133 ⟨⟨qil, trivial⟩, trivial⟩
def qeI (l : List yB1) (e : List UInt8 × Int × Int) (k : Int) : Option (Int ⊕ Int) :=
 Option.bind (α := Bool) (
 bif decide (k < (l.length : Int)) then (
 gd (inB k l.length) <|
 some (Op.bytesLess ((l.getD k.toNat ([], (0, (0, (0, 0))))).1) e.1))
 else (
 some false)) fun s2 =>
 bif s2 then (
 some (.inl (wi64 (k + 1))))
 else (
 some (.inr k))
def qf4 (l : List yB1) (e : List UInt8 × Int × Int) : Option ((List yB1) × Int) :=
 Option.bind (α := Bool) (
 (qiA l).bind fun r =>
 bif !r then (
 some true)
 else (
 (qgH (e.1, (e.2.1, e.2.2))).bind fun r2 =>
 some (!r2))) fun s =>
 bif s then (
 some (l, 27))
 else (
 (iter (fun x => qeI l e x) 0).bind fun s3 =>
 gd (fits (0 + l.length) 48) <|
 Option.bind (α := Bool × List yB1) (
 bif decide (s3 = (l.length : Int)) then (
 some (true, ([] ++ l)))
 else (
 gd (inB s3 l.length) <|
 some ((!decide ((l.getD s3.toNat ([], (0, (0, (0, 0))))).1 = e.1)), ([] ++ l)))) fun s4 =>
 Option.bind (α := List yB1) (
 bif s4.1 then (
 gd (cutG none (some (.i64, s3)) l.length) <|
 gd (fits (0 + (l.take s3.toNat).length) 48) <|
 gd (fits (([] ++ (l.take s3.toNat)).length + 1) 48) <|
 gd (cutG (some (.i64, s3)) none l.length) <|
 gd (fits ((([] ++ (l.take s3.toNat)) ++ [(e.1, (0, (0, (0, 0))))]).length + (l.drop s3.toNat).length) 48) <|
 some ((([] ++ (l.take s3.toNat)) ++ [(e.1, (0, (0, (0, 0))))]) ++ (l.drop s3.toNat)))
 else (
 some s4.2)) fun s5 =>
 Option.bind (α := List yB1) (
 bif decide (e.2.1 = 1) then (
 gd (inB s3 s5.length) <|
 gd (inB s3 s5.length) <|
 some (s5.set s3.toNat ((s5.getD s3.toNat ([], (0, (0, (0, 0))))).1, (wi64 ((((s5.getD s3.toNat ([], (0, (0, (0, 0))))).2).1) + e.2.2), ((s5.getD s3.toNat ([], (0, (0, (0, 0))))).2).2))))
 else (
 Option.bind (α := List yB1) (
 bif decide (e.2.1 = 2) then (
 gd (inB s3 s5.length) <|
 gd (inB s3 s5.length) <|
 some (s5.set s3.toNat ((s5.getD s3.toNat ([], (0, (0, (0, 0))))).1, (((s5.getD s3.toNat ([], (0, (0, (0, 0))))).2).1, (wi64 (((((s5.getD s3.toNat ([], (0, (0, (0, 0))))).2).2).1) + e.2.2), (((s5.getD s3.toNat ([], (0, (0, (0, 0))))).2).2).2)))))
 else (
 Option.bind (α := List yB1) (
 bif decide (e.2.1 = 3) then (
 gd (inB s3 s5.length) <|
 gd (inB s3 s5.length) <|
 some (s5.set s3.toNat ((s5.getD s3.toNat ([], (0, (0, (0, 0))))).1, (((s5.getD s3.toNat ([], (0, (0, (0, 0))))).2).1, ((((s5.getD s3.toNat ([], (0, (0, (0, 0))))).2).2).1, (wi64 ((((((s5.getD s3.toNat ([], (0, (0, (0, 0))))).2).2).2).1) + e.2.2), ((((s5.getD s3.toNat ([], (0, (0, (0, 0))))).2).2).2).2))))))
 else (
 gd (inB s3 s5.length) <|
 gd (inB s3 s5.length) <|
 some (s5.set s3.toNat ((s5.getD s3.toNat ([], (0, (0, (0, 0))))).1, (((s5.getD s3.toNat ([], (0, (0, (0, 0))))).2).1, ((((s5.getD s3.toNat ([], (0, (0, (0, 0))))).2).2).1, (((((s5.getD s3.toNat ([], (0, (0, (0, 0))))).2).2).2).1, wi64 ((((((s5.getD s3.toNat ([], (0, (0, (0, 0))))).2).2).2).2) + e.2.2)))))))) fun s6 =>
 some s6)) fun s7 =>
 some s7)) fun s8 =>
 Option.bind (α := Bool × List yB1) (
 bif decide (64 < (s8.length : Int)) then (
 some (true, s8))
 else (
 gd (inB s3 s8.length) <|
 (qeW (s8.getD s3.toNat ([], (0, (0, (0, 0)))))).bind fun r3 =>
 some ((!r3), s8))) fun s9 =>
 bif s9.1 then (
 some (l, 4))
 else (
 some (s9.2, 0)))
def qmN : Fun :=
 ⟨80, 2, 2,
 ⟨r110_, [], []⟩,
 ⟨[(0, dd (.sl tT2)), (1, ii)], [], []⟩,
 fun x => qf4 x.1 x.2⟩
theorem qrh : FO qmN := fi [33, 50] [qla, qlb, qho] 133 [] ((nn (mm (mm (.mk [.join [⟨.n, ⟨[(0, kk), (3, pt 64 0), (15, bb)], v49_, []⟩⟩]] none .nil .nil) .nil) (nn (mm (mm (.mk [] (some (⟨[(0, kk), (3, pt 64 0), (6, ii)], v49_, []⟩, [⟨.x 0, ⟨[(0, kk), (3, pt 64 0), (6, ii)], v49_, []⟩⟩])) (mm (mm (.mk [.join [⟨.n, ⟨[(0, kk), (3, pt 64 0), (6, kk), (30, bb)], v49_, []⟩⟩]] none .nil .nil) .nil) .nil) .nil) .nil) (nn (mm (mm (.mk [.join [⟨.n, ⟨[(0, kk), (3, pt 64 0), (6, kk), (7, ow 576), (49, bb)], v49_, [(576, .arr 110 tT2)]⟩⟩]] none .nil .nil) (.mk [.join [⟨.n, ⟨[(0, kk), (3, pt 64 0), (6, kk), (7, ow 139)], v49_, a119_⟩⟩]] none .nil .nil)) (mm (nn (mm (nn (.mk [.join [⟨.n, ⟨r125_, [], a119_⟩⟩]] none .nil (nn (.mk [.join [⟨.n, ⟨r125_, [], a119_⟩⟩]] none .nil (nn (.mk [.join [⟨.n, ⟨r125_, [], a119_⟩⟩]] none .nil .nil)))))) .nil)) (mm (mm (.mk [.join [⟨.n, ⟨[(0, kk), (7, ow 139), (130, bb)], [], a119_⟩⟩]] none .nil .nil) .nil) .nil))))))))) func80 ⟨⟨qp7, qp8, qk9, trivial⟩, trivial⟩
def qiB (l : yB12) (a : List yB1) (i : Int) : Option (((List yB1) × Int) ⊕ ((List yB1) ⊕ ((List yB1) × Int))) :=
 bif decide (i < (l.length : Int)) then (
 gd (inB i l.length) <|
 (qf4 a (l.getD i.toNat ([], (0, 0)))).bind fun r =>
 bif !decide (r.2 = 0) then (
 some (.inr (.inr ([], r.2))))
 else (
 some (.inl (r.1, wi64 (i + 1)))))
 else (
 some (.inr (.inl a)))
def qkz (l : yB12) : Option ((List yB1) × Int) :=
 bif decide (1000 < (l.length : Int)) then (
 some ([], 4))
 else (
 (iter (fun x => qiB l x.1 x.2) ([], 0)).bind fun s =>
 s.elim (fun s2 =>
 some (s2, 0))
 (fun s3 =>
 some (s3.1, s3.2)))
def qmO : Fun :=
 ⟨34, 1, 2,
 ⟨[(0, dd (.sl (.pair (.str) (.pair I6 I6))))], [], []⟩,
 ⟨[(0, dd (.sl tT2)), (1, ii)], [], []⟩,
 fun x => qkz x⟩
theorem qri : FO qmO := fi [] [qmN] 31 [] ((nn (nn (nn (mm (nn (mm (.mk [] (some (⟨[(0, kk), (4, dd (.sl tT2)), (5, ii)], [], []⟩, [⟨.x 0, ⟨[(4, dd (.sl tT2))], [], []⟩⟩, ⟨.r, ⟨[(2, dd (.sl tT2)), (3, ii)], [], []⟩⟩])) .nil .nil) .nil)) .nil))))) func34 ⟨⟨qrh, trivial⟩, trivial⟩
def qdt (r4 : yB0 × List Int × Int) (count : Int) (i : Int) (s2 : List Int) (s3 : Int) (c : yB2) (c2 : List Int) (c3 : List Int) (c4 : List Bool) (c5 : List yB4) (c6 : List yB1) (c7 : Int) (steps : List yB5) (entries : yB12) : Option ((Int × Int × List Int × Int × yB2 × List Int × List Int × List Bool × (List yB4) × (List yB1) × Int × (List yB5) × List (List UInt8 × Int × Int)) ⊕ ((Int × yB2 × List Int × List Int × List Bool × (List yB4) × (List yB1) × Int × (List yB5) × List (List UInt8 × Int × Int)) ⊕ Bool)) :=
 Option.bind (α := Bool × List Int × Int × (List yB5) × List (List UInt8 × Int × Int)) (
 bif decide (i < 15) then (
 (qin s2 s3).bind fun r7 =>
 some (r7.1, r7.2.1, r7.2.2, steps, entries))
 else (
 some (false, s2, s3, steps, entries))) fun s4 =>
 bif s4.1 then (
 Option.bind (α := (Int × List Int × Int × yB2 × List Int × List Int × List Bool × (List yB4) × (List yB1) × Int × (List yB5) × List (List UInt8 × Int × Int)) ⊕ Bool) (
 (qfY (r4.1.1, (r4.1.2.1, (r4.1.2.2.1, (r4.1.2.2.2.1, (r4.1.2.2.2.2.1, r4.1.2.2.2.2.2))))) ((c, (c2, (c3, c4))), (c5, (c6, c7))) s4.2.1 s4.2.2.1).bind fun r8 =>
 (qcx (r4.1.1, (r4.1.2.1, (r4.1.2.2.1, (r4.1.2.2.2.1, (r4.1.2.2.2.2.1, r4.1.2.2.2.2.2))))) ((c, (c2, (c3, c4))), (c5, (c6, c7))) (r8.1.1, (r8.1.2.1, ((r8.1.2.2.1.1, (r8.1.2.2.1.2.1, (r8.1.2.2.1.2.2.1, (r8.1.2.2.1.2.2.2.1, (r8.1.2.2.1.2.2.2.2.1, (r8.1.2.2.1.2.2.2.2.2.1, r8.1.2.2.1.2.2.2.2.2.2)))))), (r8.1.2.2.2.1, (r8.1.2.2.2.2.1, r8.1.2.2.2.2.2)))))).bind fun r9 =>
 bif !decide (r9.2 = 0) then (
 (qhM ((r9.1.1.1, (r9.1.1.2.1, (r9.1.1.2.2.1, r9.1.1.2.2.2))), (r9.1.2.1, (r9.1.2.2.1, r9.1.2.2.2))) ((c, (c2, (c3, c4))), (c5, (c6, c7)))).bind fun r10 =>
 bif !r10 then (
 some (.inr false))
 else (
 some (.inl (count, r8.2.1, r8.2.2, c, c2, c3, c4, c5, c6, c7, s4.2.2.2.1, s4.2.2.2.2))))
 else (
 Option.bind (α := (List yB5) × List (List UInt8 × Int × Int)) (
 bif decide (r8.1.1 = 2) then (
 gd (fits (s4.2.2.2.1.length + 1) 72) <|
 some (s4.2.2.2.1 ++ [(r8.1.2.2.1.1, (r8.1.2.2.1.2.1, (r8.1.2.2.1.2.2.1, (r8.1.2.2.1.2.2.2.1, (r8.1.2.2.1.2.2.2.2.1, (r8.1.2.2.1.2.2.2.2.2.1, r8.1.2.2.1.2.2.2.2.2.2))))))], s4.2.2.2.2))
 else (
 some (s4.2.2.2.1, s4.2.2.2.2))) fun s5 =>
 Option.bind (α := (List yB5) × List (List UInt8 × Int × Int)) (
 bif decide (r8.1.1 = 3) then (
 gd (fits (s5.2.length + 1) 32) <|
 some (s5.1, s5.2 ++ [(r8.1.2.2.2.1, (r8.1.2.2.2.2.1, r8.1.2.2.2.2.2))]))
 else (
 some (s5.1, s5.2))) fun s6 =>
 some (.inl (wi64 (count + 1), r8.2.1, r8.2.2, r9.1.1.1, r9.1.1.2.1, r9.1.1.2.2.1, r9.1.1.2.2.2, r9.1.2.1, r9.1.2.2.1, r9.1.2.2.2, s6.1, s6.2)))) fun s7 =>
 s7.elim (fun s8 =>
 some (.inl (s8.1, wi64 (i + 1), s8.2.1, s8.2.2.1, s8.2.2.2.1, s8.2.2.2.2.1, s8.2.2.2.2.2.1, s8.2.2.2.2.2.2.1, s8.2.2.2.2.2.2.2.1, s8.2.2.2.2.2.2.2.2.1, s8.2.2.2.2.2.2.2.2.2.1, s8.2.2.2.2.2.2.2.2.2.2.1, s8.2.2.2.2.2.2.2.2.2.2.2)))
 (fun s9 =>
 some (.inr (.inr s9))))
 else (
 some (.inr (.inl (count, c, c2, c3, c4, c5, c6, c7, s4.2.2.2.1, s4.2.2.2.2))))
def qeX (l : List Int) : Option (Bool) :=
 (qm4 l).bind fun r =>
 bif !r then (
 (qgr).bind fun r2 =>
 some r2)
 else (
 (qoi l).bind fun r3 =>
 (qd0 r3.1 r3.2).bind fun r4 =>
 (qf3 (r4.1.1, (r4.1.2.1, (r4.1.2.2.1, (r4.1.2.2.2.1, (r4.1.2.2.2.2.1, r4.1.2.2.2.2.2))))) 2).bind fun r5 =>
 (qkq (r4.1.1, (r4.1.2.1, (r4.1.2.2.1, (r4.1.2.2.2.1, (r4.1.2.2.2.2.1, r4.1.2.2.2.2.2))))) 2).bind fun r6 =>
 Option.bind (α := Bool) (
 bif !decide (r5.2 = 0) then (
 some true)
 else (
 some (!decide (r6.2 = 0)))) fun s =>
 bif s then (
 some false)
 else (
 (iter (fun x => qdt r4 x.1 x.2.1 x.2.2.1 x.2.2.2.1 x.2.2.2.2.1 x.2.2.2.2.2.1 x.2.2.2.2.2.2.1 x.2.2.2.2.2.2.2.1 x.2.2.2.2.2.2.2.2.1 x.2.2.2.2.2.2.2.2.2.1 x.2.2.2.2.2.2.2.2.2.2.1 x.2.2.2.2.2.2.2.2.2.2.2.1 x.2.2.2.2.2.2.2.2.2.2.2.2) (0, 0, r4.2.1, r4.2.2, r5.1.1.1, r5.1.1.2.1, r5.1.1.2.2.1, r5.1.1.2.2.2, r5.1.2.1, r5.1.2.2.1, r5.1.2.2.2, [], [])).bind fun s10 =>
 s10.elim (fun s11 =>
 (qmM (r4.1.1, (r4.1.2.1, (r4.1.2.2.1, (r4.1.2.2.2.1, (r4.1.2.2.2.2.1, r4.1.2.2.2.2.2))))) (r6.1.1, (r6.1.2.1, (r6.1.2.2.1, r6.1.2.2.2))) s11.2.2.2.2.2.2.2.2.1).bind fun r11 =>
 (qkz s11.2.2.2.2.2.2.2.2.2).bind fun r12 =>
 bif decide (r11.2.2 = 0) then (
 bif decide (r12.2 = 0) then (
 bif decide (r11.2.1 = (s11.2.2.2.2.2.2.2.2.1.length : Int)) then (
 (qhK (r11.1.1, (r11.1.2.1, (r11.1.2.2.1, r11.1.2.2.2))) (s11.2.1, (s11.2.2.1, (s11.2.2.2.1, s11.2.2.2.2.1)))).bind fun r13 =>
 bif r13 then (
 (qhL r12.1 s11.2.2.2.2.2.2.1).bind fun r14 =>
 bif r14 then (
 bif decide (s11.2.2.2.2.2.2.2.1 = s11.1) then (
 (qgr).bind fun r15 =>
 some r15)
 else (
 some false))
 else (
 some false))
 else (
 some false))
 else (
 some false))
 else (
 some false))
 else (
 some false))
 (fun s12 =>
 some s12)))
def qfH : Fun :=
 ⟨5, 1, 1,
 ⟨r99_, [], []⟩,
 ⟨[(0, bb)], [], []⟩,
 fun x => qeX x⟩
theorem qkD : FO qfH := fi [] [qlW, qkY, qpk, qgz, qfM, qmA, qi1, qi5, qeA, qik, qnH, qmO, qii, qij] 135 [] ((nn (nn (nn (nn (nn (nn (mm (mm (.mk [.join [⟨.n, ⟨[(3, pt 432 0), (4, pt 80 0), (5, pt 96 0), (7, pt 128 0), (44, bb)], [(432, 128, [.keep, .keep]), (80, 50, (kp 6)), (96, 61, (kp 7)), (128, 57, (kp 4))], []⟩⟩]] none .nil .nil) .nil) (nn (nn (nn (mm (nn (mm (.mk [] (some (⟨[(3, pt 432 0), (4, pt 80 0), (5, pt 96 0), (7, pt 128 0), (9, ow 171), (10, ow 187), (11, ii), (12, ii)], v17_, a11_⟩, [⟨.x 0, ⟨[(4, pt 80 0), (5, pt 96 0), (7, pt 128 0), (9, ow 171), (10, ow 187), (11, ii)], [(80, 50, (kp 6)), (96, 61, [.data (.sl tT1), .data (.sl I6), .data (.sl I6), .data (.sl (.bool)), .data (.sl tT3), .data (.sl tT2), .data I6]), (128, 57, (kp 4))], a11_⟩⟩, ⟨.r, ⟨[(2, bb)], [], []⟩⟩])) (mm (mm (.mk [.join [⟨.n, ⟨[(3, pt 432 0), (4, pt 80 0), (5, pt 96 0), (7, pt 128 0), (9, ow 171), (10, ow 187), (11, kk), (12, kk), (50, bb)], [(432, 128, [.data (.sl I6), .data I6]), (80, 50, (kp 6)), (96, 61, (kp 7)), (128, 57, (kp 4))], a11_⟩⟩]] none .nil .nil) .nil) (mm (.mk [.join [⟨.n, ⟨[(3, pt 432 0), (4, pt 80 0), (5, pt 96 0), (7, pt 128 0), (9, ow 171), (10, ow 187), (11, ii), (12, kk)], v17_, a11_⟩⟩, ⟨.r, ⟨[(2, bb)], [], []⟩⟩]] none (nn (nn (nn (mm (nn (.mk [.join [⟨.n, ⟨[(3, pt 432 0), (4, pt 80 0), (5, pt 96 0), (7, pt 128 0), (9, ow 171), (10, ow 187), (11, kk), (12, kk), (13, pt 224 0), (14, pt 240 0)], [(432, 128, [.keep, .keep]), (80, 50, (kp 6)), (96, 61, (kp 7)), (128, 57, (kp 4)), (224, 32, (kp 12)), (240, 61, (kp 7))], a11_⟩⟩]] none .nil .nil)) (mm (nn (.mk [.join [⟨.n, ⟨[(3, pt 432 0), (4, pt 80 0), (5, pt 96 0), (7, pt 128 0), (9, ow 171), (10, ow 187), (11, kk), (12, kk), (14, pt 240 0)], [(432, 128, [.keep, .keep]), (80, 50, (kp 6)), (96, 61, (kp 7)), (128, 57, (kp 4)), (240, 61, (kp 7))], a11_⟩⟩]] none .nil .nil)) .nil))))) .nil) .nil)) .nil) .nil)) (mm (.mk [.fz [9]] none .nil .nil) (mm (.mk [.fz [10]] none .nil .nil) .nil)))))))))))))) func5 ⟨⟨qqU, qpU, qtc, qlr, qh5, qq9, qn3, qn6, qgp, qmz, qsd, qri, qmx, qmy, trivial⟩, trivial⟩
end
end Go.Proofs.YtnkfkceghbkkkaaGreat
