/- Functions, evaluated. No condition. -/
import Derived.Test.YtnkfkceghbkkkaaGreatProg
import Derived.Test.YtnkfkceghbkkkaaGreatQu
namespace Go.Proofs.YtnkfkceghbkkkaaGreat
open Go Go.Sq
open Go.Proofs.Tryz
noncomputable section
def qf5 (n : yB0) (c : yB12) (s : List Int) (s2 : Int) : Option (yB11 × List Int × Int) :=
 (qab 4 s s2).bind fun r =>
 bif decide (r.1 = 0) then (
 (qab 4 r.2.1 r.2.2).bind fun r2 =>
 (qdv r2.1 r2.2.1 r2.2.2).bind fun r3 =>
 gd (fits (5 + r3.1.2.2.2.2.2.length) 8) <|
 some ((1, ([r3.1.1, r3.1.2.1, r3.1.2.2.1, r3.1.2.2.2.1, r3.1.2.2.2.2.1] ++ r3.1.2.2.2.2.2, ((0, (0, (0, (0, (0, ([], 0)))))), ([], (0, 0))))), r3.2.1, r3.2.2))
 else (
 bif decide (r.1 = 1) then (
 (qfd 2 r.2.1 r.2.2).bind fun r4 =>
 bif decide ((r4.2.2.length : Int) = 0) then (
 (qab 5 r4.1 r4.2.1).bind fun r5 =>
 some ((r5.1, ([], ((0, (0, (0, (0, (0, ([], 0)))))), ([], (0, 0))))), r5.2.1, r5.2.2))
 else (
 gd (inB 0 r4.2.2.length) <|
 some ((3, ([], ((0, (0, (0, (0, (0, ([], 0)))))), ((r4.2.2.getD 0 ([], (0, 0))).1, (((r4.2.2.getD 0 ([], (0, 0))).2).1, ((r4.2.2.getD 0 ([], (0, 0))).2).2))))), r4.1, r4.2.1)))
 else (
 (qiy (n.1, (n.2.1, (n.2.2.1, (n.2.2.2.1, (n.2.2.2.2.1, n.2.2.2.2.2))))) (c.1.1, (c.1.2.1, (c.1.2.2.1, c.1.2.2.2))) r.2.1 r.2.2).bind fun r6 =>
 some ((2, ([], ((r6.1.1, (r6.1.2.1, (r6.1.2.2.1, (r6.1.2.2.2.1, (r6.1.2.2.2.2.1, (r6.1.2.2.2.2.2.1, r6.1.2.2.2.2.2.2)))))), ([], (0, 0))))), r6.2.1, r6.2.2)))
def qi4 : Fun :=
 ⟨20, 3, 1,
 ⟨[(0, pt 0 0), (1, dd (.pair (.sl (.str)) tT0)), (2, dd (.pair (.pair (.sl tT1) tT6) (.pair (.sl tT3) (.pair (.sl tT2) I6))))], v3_, []⟩,
 ⟨r46_, v3_, []⟩,
 fun x => qf5 x.1 x.2.1 x.2.2.1 x.2.2.2⟩
theorem qnQ : FO qi4 := fi [27] [qa8, qfO, qhY, qkW] 52 [] .nil func20 ⟨⟨qbi, qkx, qm2, qpH, trivial⟩, trivial⟩
def qh0 (a : List Int × List Int) (b : List Int × List Int) : Option (Bool) :=
 bif decide (qcZ a.1 = qcZ b.1) then (
 some (decide (qcZ a.2 = qcZ b.2)))
 else (
 some false)
def qmr : Fun :=
 ⟨23, 2, 1,
 ⟨[(0, dd (.pair (.sl (.int .u8)) (.sl (.int .u8)))), (1, dd (.pair (.sl (.int .u8)) (.sl (.int .u8))))], [], []⟩,
 ⟨[(0, bb)], [], []⟩,
 fun x => qh0 x.1 x.2⟩
theorem qqV : FO qmr := fi [] [] 21 [] .nil func23 ⟨trivial, trivial⟩
def qhh (n : Int) : Option (Int) :=
 bif decide (0 ≤ n) then (
 some (wu64 ((wu64 n) * 2)))
 else (
 some (wu64 ((wu64 ((wu64 (wi64 (0 - (wi64 (n + 1))))) * 2)) + 1)))
def qjW : Fun :=
 ⟨142, 1, 1,
 ⟨[(0, ii)], [], []⟩,
 ⟨[(0, dd (.int .u64))], [], []⟩,
 fun x => qhh x⟩
theorem qpb : FO qjW := fi [] [] 14 [] .nil func142 ⟨trivial, trivial⟩
def qcy (u : Int) (out : List Int) : Option ((Int × List Int) ⊕ (Int × List Int)) :=
 bif decide (128 ≤ u) then (
 gd (fits (out.length + 1) 1) <|
 some (.inl (wu64 (Int.tdiv u 128), out ++ [wu8 (wu64 ((Int.tmod u 128) + 128))])))
 else (
 some (.inr (u, out)))
def qhi (b : List Int) (n : Int) : Option (List Int) :=
 gd (fits (0 + b.length) 1) <|
 (qhh n).bind fun r =>
 (iter (fun x => qcy x.1 x.2) (r, ([] ++ b))).bind fun s =>
 gd (fits (s.2.length + 1) 1) <|
 some (s.2 ++ [wu8 s.1])
def qjX : Fun :=
 ⟨91, 2, 1,
 ⟨r63_, [], []⟩,
 ⟨[(0, ow 0)], [], a82_⟩,
 fun x => qhi x.1 x.2⟩
theorem qpc : FO qjX := fi [7] [qjW] 28 [] ((nn (nn (nn (mm (mm (.mk [] (some (⟨[(5, ow 107), (6, dd (.int .u64))], [], [(107, .arr 5 (.int .u8))]⟩, [⟨.x 0, ⟨[(5, ow 107), (6, dd (.int .u64))], [], [(107, .arr 5 (.int .u8))]⟩⟩])) .nil .nil) .nil) .nil))))) func91 ⟨⟨qpb, trivial⟩, trivial⟩
def qiz (b : List Int) : Option (Int × List Int) :=
 bif decide (4000 < (b.length : Int)) then (
 some (4, []))
 else (
 (qhi [] (b.length : Int)).bind fun r =>
 gd (fits (r.length + b.length) 1) <|
 some (0, r ++ b))
def qkX : Fun :=
 ⟨64, 1, 2,
 ⟨r50_, [], []⟩,
 ⟨r96_, [], a82_⟩,
 fun x => qiz x⟩
theorem qpI : FO qkX := fi [] [qjX] 12 [] .nil func64 ⟨⟨qpc, trivial⟩, trivial⟩
def qdV (u : Int) : Option (Int) :=
 bif decide (Int.tmod u 2 = 0) then (
 some (wi64 (wu64 (Int.tdiv u 2))))
 else (
 some (wi64 ((wi64 (0 - (wi64 (wu64 (Int.tdiv u 2))))) - 1)))
def qh1 : Fun :=
 ⟨143, 1, 1,
 ⟨[(0, dd (.int .u64))], [], []⟩,
 ⟨[(0, ii)], [], []⟩,
 fun x => qdV x⟩
theorem qm4 : FO qh1 := fi [] [] 14 [] .nil func143 ⟨trivial, trivial⟩
def qbq (b : List Int) (vat : Int) (u : Int) (k : Int) : Option ((Int × Int) ⊕ (Unit ⊕ (Int × Int × Int))) :=
 bif decide (k < 10) then (
 bif decide ((b.length : Int) ≤ wi64 (vat + k)) then (
 some (.inr (.inr (0, 0, 2))))
 else (
 gd (inB (wi64 (vat + k)) b.length) <|
 Option.bind (α := Bool) (
 bif decide (k = 9) then (
 some (decide (1 < b.getD (wi64 (vat + k)).toNat 0)))
 else (
 some false)) fun s2 =>
 bif s2 then (
 some (.inr (.inr (0, 0, 3))))
 else (
 gd (!decide (wi64 (7 * k) < 0)) <|
 bif decide (b.getD (wi64 (vat + k)).toNat 0 < 128) then (
 Option.bind (α := Bool) (
 bif decide (b.getD (wi64 (vat + k)).toNat 0 = 0) then (
 some (decide (0 < k)))
 else (
 some false)) fun s3 =>
 bif s3 then (
 some (.inr (.inr (0, 0, 3))))
 else (
 (qdV (wu64 (u + (wu64 ((wu64 (Int.tmod (b.getD (wi64 (vat + k)).toNat 0) 128)) * 2 ^ shAmt .u64 (wi64 (7 * k))))))).bind fun r =>
 some (.inr (.inr (r, wi64 ((wi64 (vat + k)) + 1), 0)))))
 else (
 some (.inl (wu64 (u + (wu64 ((wu64 (Int.tmod (b.getD (wi64 (vat + k)).toNat 0) 128)) * 2 ^ shAmt .u64 (wi64 (7 * k))))), wi64 (k + 1)))))))
 else (
 some (.inr (.inl ())))
def qms (b : List Int) (vat : Int) : Option (Int × Int × Int) :=
 Option.bind (α := Bool) (
 bif decide (vat < 0) then (
 some true)
 else (
 some (decide ((b.length : Int) < vat)))) fun s =>
 bif s then (
 some (0, 0, 1))
 else (
 (iter (fun x => qbq b vat x.1 x.2) (0, 0)).bind fun s4 =>
 s4.elim (fun s5 =>
 some (0, 0, 3))
 (fun s6 =>
 some (s6.1, s6.2.1, s6.2.2)))
def qnt : Fun :=
 ⟨93, 2, 3,
 ⟨r63_, [], []⟩,
 ⟨r104_, [], []⟩,
 fun x => qms x.1 x.2⟩
theorem qrV : FO qnt := fi [] [qh1] 62 [] ((nn (mm (mm (.mk [.join [⟨.n, ⟨[(0, kk), (1, kk), (17, bb)], [], []⟩⟩]] none .nil .nil) .nil) (nn (mm (nn (mm (.mk [] (some (⟨[(0, kk), (1, kk), (7, dd (.int .u64)), (8, ii)], [], []⟩, [⟨.x 0, ⟨[], [], []⟩⟩, ⟨.r, ⟨[(4, ii), (5, ii), (6, ii)], [], []⟩⟩])) (nn (mm (mm (nn (nn (mm (mm (.mk [.join [⟨.n, ⟨[(0, kk), (1, kk), (7, kk), (8, kk), (9, kk), (39, bb)], [], []⟩⟩]] none .nil .nil) .nil) (nn (nn (mm (mm (mm (.mk [.join [⟨.n, ⟨[(1, kk), (7, kk), (8, kk), (55, bb)], [], []⟩⟩]] none .nil .nil) .nil) .nil) .nil)))))) .nil) .nil)) .nil) .nil)) .nil))))) func93 ⟨⟨qm4, trivial⟩, trivial⟩
def qdw (b : List Int) (vat : Int) (out : List (List Int)) : Option ((Int × List (List Int)) ⊕ (Int × List (List Int))) :=
 bif decide (vat < (b.length : Int)) then (
 (qms b vat).bind fun r =>
 Option.bind (α := Bool × List (List Int)) (
 bif !decide (r.2.2 = 0) then (
 some (true, out))
 else (
 bif decide (r.1 < 0) then (
 some (true, out))
 else (
 bif decide (4000 < r.1) then (
 some (true, out))
 else (
 some (decide (wi64 ((b.length : Int) - r.2.1) < r.1), out))))) fun s =>
 bif s.1 then (
 some (.inr (vat, s.2)))
 else (
 gd (inR r.2.1 (wi64 (r.2.1 + r.1)) b.length) <|
 gd (fits (0 + ((b.take (wi64 (r.2.1 + r.1)).toNat).drop r.2.1.toNat).length) 1) <|
 gd (fits (s.2.length + 1) 24) <|
 some (.inl (wi64 (r.2.1 + r.1), s.2 ++ [([] ++ ((b.take (wi64 (r.2.1 + r.1)).toNat).drop r.2.1.toNat))]))))
 else (
 some (.inr (vat, out)))
def qkt (b : List Int) : Option (Int × List (List Int)) :=
 (iter (fun x => qdw b x.1 x.2) (0, [])).bind fun s2 =>
 some (s2.1, s2.2)
def qmt : Fun :=
 ⟨65, 1, 2,
 ⟨r50_, [], []⟩,
 ⟨r96_, [], a109_⟩,
 fun x => qkt x⟩
theorem qqW : FO qmt := fi [39, 1000046] [qnt] 54 [] ((nn (nn (nn (mm (mm (.mk [] (some (⟨[(0, kk), (4, ow 91), (5, ii)], [], a57_⟩, [⟨.x 0, ⟨[(4, ow 91), (5, ii)], [], a57_⟩⟩])) (nn (mm (nn (mm (mm (.mk [.join [⟨.n, ⟨r99_, [], a57_⟩⟩]] none .nil .nil) .nil) .nil)) .nil)) .nil) .nil) .nil))))) func65 ⟨⟨qrV, trivial⟩, trivial⟩
def qhj (f : List Int × List Int) (b : List Int) : Option ((List Int × List Int) × Int) :=
 (qiz b).bind fun r =>
 bif !decide (r.1 = 0) then (
 some ((f.1, f.2), r.1))
 else (
 (qkt f.1).bind fun r2 =>
 bif !decide (r2.1 = (f.1.length : Int)) then (
 some ((f.1, f.2), 21))
 else (
 bif decide (65536 < wi64 ((wi64 ((f.1.length : Int) + (f.2.length : Int))) + (r.2.length : Int))) then (
 some ((f.1, f.2), 29))
 else (
 gd (fits (0 + f.1.length) 1) <|
 gd (fits (0 + f.2.length) 1) <|
 gd (fits (([] ++ f.2).length + r.2.length) 1) <|
 some ((([] ++ f.1), ([] ++ f.2) ++ r.2), 0))))
def qjY : Fun :=
 ⟨24, 2, 2,
 ⟨r75_, [], []⟩,
 ⟨r43_, [], []⟩,
 fun x => qhj x.1 x.2⟩
theorem qpd : FO qjY := fi [43, 47] [qkX, qmt] 54 [] .nil func24 ⟨⟨qpI, qqW, trivial⟩, trivial⟩
def qku (f : List Int × List Int) : Option (List Int × List Int) :=
 (qeZ (f.1, f.2) (f.2.length : Int)).bind fun r =>
 some (r.1, r.2)
def qmu : Fun :=
 ⟨25, 1, 1,
 ⟨r15_, [], []⟩,
 ⟨r15_, [], []⟩,
 fun x => qku x⟩
theorem qqX : FO qmu := fi [] [qfc] 8 [] .nil func25 ⟨⟨qhw, trivial⟩, trivial⟩
def qiA (n : yB0) : Option (Int) :=
 some (wi64 ((n.2.1.length : Int) + (n.2.2.1.length : Int)))
def qi5 : Fun :=
 ⟨75, 1, 1,
 ⟨r22_, [], []⟩,
 ⟨[(0, ii)], [], []⟩,
 fun x => qiA x⟩
theorem qnR : FO qi5 := fi [] [] 10 [] .nil func75 ⟨trivial, trivial⟩
def qiB (v : Int × Int × Bool × Bool) : Option (Bool) :=
 bif decide (1 ≤ v.1) then (
 bif decide (v.1 ≤ 60) then (
 bif decide (0 ≤ v.2.1) then (
 some (decide (v.2.1 ≤ v.1)))
 else (
 some false))
 else (
 some false))
 else (
 some false)
def qhA : Fun :=
 ⟨115, 1, 1,
 ⟨[(0, dd tT1)], [], []⟩,
 ⟨[(0, bb)], [], []⟩,
 fun x => qiB x⟩
theorem qkY : FO qhA := fi [] [] 23 [] .nil func115 ⟨trivial, trivial⟩
def qgN (l : yB3) (i : Int) : Option (Int ⊕ (Unit ⊕ Int)) :=
 bif decide (i < (l.length : Int)) then (
 gd (inB i l.length) <|
 (qiB (l.getD i.toNat (0, (0, (false, false))))).bind fun r2 =>
 bif !r2 then (
 some (.inr (.inr 20)))
 else (
 some (.inl (wi64 (i + 1)))))
 else (
 some (.inr (.inl ())))
def qhk (n : yB0) (l : yB3) : Option (Int) :=
 (qiA (n.1, (n.2.1, (n.2.2.1, (n.2.2.2.1, (n.2.2.2.2.1, n.2.2.2.2.2)))))).bind fun r =>
 bif !decide ((l.length : Int) = r) then (
 some 20)
 else (
 (iter (fun x => qgN l x) 0).bind fun s =>
 s.elim (fun s2 =>
 some 0)
 (fun s3 =>
 some s3))
def qjZ : Fun :=
 ⟨69, 2, 1,
 ⟨[(0, dd (.pair (.sl (.str)) tT0)), (1, dd (.sl tT1))], [], []⟩,
 ⟨[(0, ii)], [], []⟩,
 fun x => qhk x.1 x.2⟩
theorem qpe : FO qjZ := fi [] [qi5, qhA] 23 [] ((nn (nn (mm (nn (mm (.mk [] (some (⟨[(1, kk), (5, ii)], [], []⟩, [⟨.x 0, ⟨[], [], []⟩⟩, ⟨.r, ⟨[(4, ii)], [], []⟩⟩])) .nil .nil) .nil)) .nil)))) func69 ⟨⟨qnR, qkY, trivial⟩, trivial⟩
def qco (p : yB5) (i : Int) (l : List Bool) : Option ((Int × List Bool) ⊕ (List Bool)) :=
 bif decide (i < (p.1.length : Int)) then (
 gd (inB i p.1.length) <|
 gd (fits (l.length + 1) 1) <|
 some (.inl (wi64 (i + 1), l ++ [(!decide (p.1.getD i.toNat 0 = 0))])))
 else (
 some (.inr l))
def qcp (p : yB5) (i2 : Int) (l2 : List Bool) (l3 : List Bool) : Option ((Int × List Bool × List Bool) ⊕ (List Bool × List Bool)) :=
 bif decide (i2 < (p.2.1.length : Int)) then (
 gd (inB i2 p.2.1.length) <|
 gd (fits (l3.length + 1) 1) <|
 some (.inl (wi64 (i2 + 1), l2, l3 ++ [(!decide (p.2.1.getD i2.toNat 0 = 0))])))
 else (
 some (.inr (l2, l3)))
def qiC (p : yB5) : Option (List Bool × List Bool) :=
 (iter (fun x => qco p x.1 x.2) (0, [])).bind fun s =>
 (iter (fun x2 => qcp p x2.1 x2.2.1 x2.2.2) (0, s, [])).bind fun s2 =>
 some (s2.1, s2.2)
def qkZ : Fun :=
 ⟨72, 1, 1,
 ⟨[(0, dd tT6)], [], []⟩,
 ⟨[(0, .agg [.own 0, .own 1])], [], [(0, .arr 4 (.bool)), (1, .arr 4 (.bool))]⟩,
 fun x => qiC x⟩
theorem qpJ : FO qkZ := fi [] [] 43 [] ((nn (nn (mm (nn (mm (.mk [] (some (⟨[(1, pt 32 0), (2, pt 48 0), (3, pt 64 0), (4, ii)], v60_, [(1049, .arr 4 (.bool))]⟩, [⟨.x 0, ⟨r37_, v60_, [(1049, .arr 4 (.bool))]⟩⟩])) .nil .nil) .nil)) (mm (nn (mm (.mk [] (some (⟨[(1, pt 32 0), (2, pt 48 0), (3, pt 64 0), (5, ii)], [(32, 55, [.keep, .keep, .keep]), (48, 148, [.keep, .keep]), (64, 148, [.own 1049, .own 1065])], [(1049, .arr 4 (.bool)), (1065, .arr 4 (.bool))]⟩, [⟨.x 2, ⟨r32_, [(48, 148, [.keep, .keep]), (64, 148, [.own 1049, .own 1065])], [(1049, .arr 4 (.bool)), (1065, .arr 4 (.bool))]⟩⟩])) .nil .nil) .nil)) .nil))))) func72 ⟨trivial, trivial⟩
def qmv (l : List Bool × List Bool) : Option (List Bool) :=
 gd (fits (0 + l.1.length) 1) <|
 gd (fits (([] ++ l.1).length + l.2.length) 1) <|
 some (([] ++ l.1) ++ l.2)
def qnu : Fun :=
 ⟨71, 1, 1,
 ⟨[(0, dd (.pair (.sl (.bool)) (.sl (.bool))))], [], []⟩,
 ⟨[(0, ow 0)], [], a113_⟩,
 fun x => qmv x⟩
theorem qrW : FO qnu := fi [3] [] 10 [] .nil func71 ⟨trivial, trivial⟩
def qm5 (v : Int × Int × Bool × Bool) : Option (Bool) :=
 (qiB (v.1, (v.2.1, (v.2.2.1, v.2.2.2)))).bind fun r =>
 bif r then (
 some (decide (v.2.1 = v.1)))
 else (
 some false)
def qmw : Fun :=
 ⟨73, 1, 1,
 ⟨[(0, dd tT1)], [], []⟩,
 ⟨[(0, bb)], [], []⟩,
 fun x => qm5 x⟩
theorem qqY : FO qmw := fi [] [qhA] 12 [] .nil func73 ⟨⟨qkY, trivial⟩, trivial⟩
def qf6 (n : yB0) (p : yB5) (node : Int) : Option (Int × Int) :=
 (qe4 (n.1, (n.2.1, (n.2.2.1, (n.2.2.2.1, (n.2.2.2.2.1, n.2.2.2.2.2))))) (p.1, (p.2.1, p.2.2))).bind fun r =>
 bif !decide (r = 0) then (
 some (0, r))
 else (
 Option.bind (α := Bool) (
 bif decide (node < 0) then (
 some true)
 else (
 some (decide ((n.1.length : Int) ≤ node)))) fun s =>
 bif s then (
 some (0, 8))
 else (
 (qhZ (n.1, (n.2.1, (n.2.2.1, (n.2.2.2.1, (n.2.2.2.2.1, n.2.2.2.2.2))))) (p.1, (p.2.1, p.2.2)) node).bind fun r2 =>
 some (r2.1, 0)))
def qi6 : Fun :=
 ⟨118, 3, 2,
 ⟨r45_, [], []⟩,
 ⟨r53_, [], []⟩,
 fun x => qf6 x.1 x.2.1 x.2.2⟩
theorem qnS : FO qi6 := fi [] [qfm, qiw] 34 [] ((nn (nn (mm (mm (.mk [.join [⟨.n, ⟨[(2, kk), (3, pt 64 0), (4, pt 80 0), (25, bb)], v27_, []⟩⟩]] none .nil .nil) .nil) .nil)))) func118 ⟨⟨qhz, qmo, trivial⟩, trivial⟩
def qj0 (n : yB0) (p : yB5) (i : Int) : Option (Int ⊕ (Unit ⊕ Bool)) :=
 bif decide (i < (n.2.2.2.1.length : Int)) then (
 gd (inB i p.2.2.length) <|
 Option.bind (α := Unit ⊕ Bool) (
 bif p.2.2.getD i.toNat false then (
 gd (inB i n.2.2.2.1.length) <|
 (qf6 (n.1, (n.2.1, (n.2.2.1, (n.2.2.2.1, (n.2.2.2.2.1, n.2.2.2.2.2))))) (p.1, (p.2.1, p.2.2)) (((n.2.2.2.1.getD i.toNat ([], (0, (0, (0, 0))))).2).1)).bind fun r =>
 Option.bind (α := Bool) (
 bif !decide (r.2 = 0) then (
 some true)
 else (
 some (decide (r.1 = 0)))) fun s =>
 bif s then (
 some (.inr false))
 else (
 some (.inl ())))
 else (
 some (.inl ()))) fun s2 =>
 s2.elim (fun s3 =>
 some (.inl (wi64 (i + 1))))
 (fun s4 =>
 some (.inr (.inr s4))))
 else (
 some (.inr (.inl ())))
def qmx (n : yB0) (p : yB5) : Option (Bool) :=
 (iter (fun x => qj0 n p x) 0).bind fun s5 =>
 s5.elim (fun s6 =>
 some true)
 (fun s7 =>
 some s7)
def qnv : Fun :=
 ⟨74, 2, 1,
 ⟨r17_, [], []⟩,
 ⟨[(0, bb)], [], []⟩,
 fun x => qmx x.1 x.2⟩
theorem qrX : FO qnv := fi [] [qi6] 38 [] ((nn (mm (nn (mm (.mk [] (some (⟨[(2, pt 48 0), (3, pt 64 0), (5, ii)], v0_, []⟩, [⟨.x 0, ⟨[], [], []⟩⟩, ⟨.r, ⟨[(4, bb)], [], []⟩⟩])) (nn (mm (mm (nn (.mk [.join [⟨.n, ⟨[(2, pt 48 0), (3, pt 64 0), (5, kk)], v0_, []⟩⟩, ⟨.r, ⟨[(4, bb)], [], []⟩⟩]] none (nn (mm (.mk [.join [⟨.n, ⟨[(2, pt 48 0), (3, pt 64 0), (5, kk), (37, bb)], v0_, []⟩⟩]] none .nil .nil) .nil)) .nil)) .nil) .nil)) .nil) .nil)) .nil))) func74 ⟨⟨qnS, trivial⟩, trivial⟩
def qbv (d : yB4) (i : Int) (need : List Bool) : Option ((Int × List Bool) ⊕ (Unit ⊕ Int)) :=
 bif decide (i < (need.length : Int)) then (
 Option.bind (α := Bool × List Bool) (
 gd (inB i need.length) <|
 bif need.getD i.toNat false then (
 gd (inB i d.1.length) <|
 (qm5 (d.1.getD i.toNat (0, (0, (false, false))))).bind fun r6 =>
 bif !r6 then (
 some (true, need))
 else (
 gd (inB i d.1.length) <|
 some ((!((((d.1.getD i.toNat (0, (0, (false, false)))).2).2).1)), need)))
 else (
 some (false, need))) fun s =>
 bif s.1 then (
 some (.inr (.inr 21)))
 else (
 some (.inl (wi64 (i + 1), s.2))))
 else (
 some (.inr (.inl ())))
def qiD (n : yB0) (d : yB4) : Option (Int) :=
 (qgH (n.1, (n.2.1, (n.2.2.1, (n.2.2.2.1, (n.2.2.2.2.1, n.2.2.2.2.2)))))).bind fun r =>
 bif !decide (r = 0) then (
 some r)
 else (
 (qhk (n.1, (n.2.1, (n.2.2.1, (n.2.2.2.1, (n.2.2.2.2.1, n.2.2.2.2.2))))) d.1).bind fun r2 =>
 bif !decide (r2 = 0) then (
 some r2)
 else (
 (qe4 (n.1, (n.2.1, (n.2.2.1, (n.2.2.2.1, (n.2.2.2.2.1, n.2.2.2.2.2))))) (d.2.1, (d.2.2.1, d.2.2.2))).bind fun r3 =>
 bif !decide (r3 = 0) then (
 some r3)
 else (
 (qiC (d.2.1, (d.2.2.1, d.2.2.2))).bind fun r4 =>
 (qmv (r4.1, r4.2)).bind fun r5 =>
 (iter (fun x => qbv d x.1 x.2) (0, r5)).bind fun s2 =>
 s2.elim (fun s3 =>
 (qmx (n.1, (n.2.1, (n.2.2.1, (n.2.2.2.1, (n.2.2.2.2.1, n.2.2.2.2.2))))) (d.2.1, (d.2.2.1, d.2.2.2))).bind fun r7 =>
 bif !r7 then (
 some 21)
 else (
 some 0))
 (fun s4 =>
 some s4))))
def qk0 : Fun :=
 ⟨30, 2, 1,
 ⟨r87_, [], []⟩,
 ⟨[(0, ii)], [], []⟩,
 fun x => qiD x.1 x.2⟩
theorem qpK : FO qk0 := fi [] [qhy, qjZ, qfm, qkZ, qnu, qmw, qnv] 66 [] ((nn (nn (nn (nn (nn (mm (nn (mm (.mk [] (some (⟨[(2, pt 48 0), (3, pt 64 0), (8, ow 528), (9, ii)], v38_, [(528, .arr 4 (.bool))]⟩, [⟨.x 0, ⟨r32_, v38_, []⟩⟩, ⟨.r, ⟨[(4, ii)], [], []⟩⟩])) (nn (mm (mm (mm (.mk [.join [⟨.n, ⟨[(2, pt 48 0), (3, pt 64 0), (8, ow 528), (9, kk), (60, bb)], v38_, [(528, .arr 4 (.bool))]⟩⟩]] none .nil .nil) .nil) .nil) .nil)) .nil) .nil)) .nil))))))) func30 ⟨⟨qkU, qpe, qhz, qpJ, qrW, qqY, qrX, trivial⟩, trivial⟩
def qcJ (r4 : yB0 × List Int × Int) (i : Int) (s : List Int) (s2 : Int) (c : yB3) (c2 : List Int) (c3 : List Int) (c4 : List Bool) (c5 : List yB2) (c6 : List yB1) (c7 : Int) (f : List Int) (f2 : List Int) : Option ((Int × List Int × Int × yB3 × List Int × List Int × List Bool × (List yB2) × (List yB1) × Int × List Int × List Int) ⊕ ((yB3 × List Int × List Int × List Bool × (List yB2) × (List yB1) × Int × List Int × List Int) ⊕ Bool)) :=
 Option.bind (α := Bool × List Int × Int) (
 bif decide (i < 12) then (
 (qit s s2).bind fun r6 =>
 some (r6.1, r6.2.1, r6.2.2))
 else (
 some (false, s, s2))) fun s3 =>
 bif s3.1 then (
 Option.bind (α := (List Int × Int × yB3 × List Int × List Int × List Bool × (List yB2) × (List yB1) × Int × List Int × List Int) ⊕ Bool) (
 (qf5 (r4.1.1, (r4.1.2.1, (r4.1.2.2.1, (r4.1.2.2.2.1, (r4.1.2.2.2.2.1, r4.1.2.2.2.2.2))))) ((c, (c2, (c3, c4))), (c5, (c6, c7))) s3.2.1 s3.2.2).bind fun r7 =>
 (qfD (r4.1.1, (r4.1.2.1, (r4.1.2.2.1, (r4.1.2.2.2.1, (r4.1.2.2.2.2.1, r4.1.2.2.2.2.2))))) (f, f2) ((c, (c2, (c3, c4))), (c5, (c6, c7))) (r7.1.1, (r7.1.2.1, ((r7.1.2.2.1.1, (r7.1.2.2.1.2.1, (r7.1.2.2.1.2.2.1, (r7.1.2.2.1.2.2.2.1, (r7.1.2.2.1.2.2.2.2.1, (r7.1.2.2.1.2.2.2.2.2.1, r7.1.2.2.1.2.2.2.2.2.2)))))), (r7.1.2.2.2.1, (r7.1.2.2.2.2.1, r7.1.2.2.2.2.2)))))).bind fun r8 =>
 bif !decide (r8.2.2 = 0) then (
 Option.bind (α := Bool) (
 (qbj ((c, (c2, (c3, c4))), (c5, (c6, c7))) ((r8.2.1.1.1, (r8.2.1.1.2.1, (r8.2.1.1.2.2.1, r8.2.1.1.2.2.2))), (r8.2.1.2.1, (r8.2.1.2.2.1, r8.2.1.2.2.2)))).bind fun r9 =>
 bif !r9 then (
 some true)
 else (
 (qh0 (f, f2) (r8.1.1, r8.1.2)).bind fun r10 =>
 some (!r10))) fun s4 =>
 bif s4 then (
 some (.inr false))
 else (
 some (.inl (r7.2.1, r7.2.2, c, c2, c3, c4, c5, c6, c7, f, f2))))
 else (
 (qdo (r7.1.1, (r7.1.2.1, ((r7.1.2.2.1.1, (r7.1.2.2.1.2.1, (r7.1.2.2.1.2.2.1, (r7.1.2.2.1.2.2.2.1, (r7.1.2.2.1.2.2.2.2.1, (r7.1.2.2.1.2.2.2.2.2.1, r7.1.2.2.1.2.2.2.2.2.2)))))), (r7.1.2.2.2.1, (r7.1.2.2.2.2.1, r7.1.2.2.2.2.2)))))).bind fun r11 =>
 (qhj (f, f2) r11.2).bind fun r12 =>
 Option.bind (α := Bool) (
 bif !decide (r11.1 = 0) then (
 some true)
 else (
 bif !decide (r12.2 = 0) then (
 some true)
 else (
 (qku (r12.1.1, r12.1.2)).bind fun r13 =>
 (qh0 r13 (r8.1.1, r8.1.2)).bind fun r14 =>
 some (!r14)))) fun s5 =>
 bif s5 then (
 some (.inr false))
 else (
 (qab (wi64 ((r12.1.2.length : Int) + 1)) r7.2.1 r7.2.2).bind fun r15 =>
 (qam [0, 1, wi64 ((r12.1.2.length : Int) - 1), (r12.1.2.length : Int), r15.1] r15.2.1 r15.2.2).bind fun r16 =>
 (qeZ (r12.1.1, r12.1.2) r16.1).bind fun r17 =>
 (qcW (r4.1.1, (r4.1.2.1, (r4.1.2.2.1, (r4.1.2.2.2.1, (r4.1.2.2.2.2.1, r4.1.2.2.2.2.2))))) 2 r17).bind fun r18 =>
 Option.bind (α := Bool) (
 bif !decide (r18.2.2 = 0) then (
 some true)
 else (
 (qbj ((r18.2.1.1.1, (r18.2.1.1.2.1, (r18.2.1.1.2.2.1, r18.2.1.1.2.2.2))), (r18.2.1.2.1, (r18.2.1.2.2.1, r18.2.1.2.2.2))) ((c, (c2, (c3, c4))), (c5, (c6, c7)))).bind fun r19 =>
 bif !r19 then (
 (qbj ((r18.2.1.1.1, (r18.2.1.1.2.1, (r18.2.1.1.2.2.1, r18.2.1.1.2.2.2))), (r18.2.1.2.1, (r18.2.1.2.2.1, r18.2.1.2.2.2))) ((r8.2.1.1.1, (r8.2.1.1.2.1, (r8.2.1.1.2.2.1, r8.2.1.1.2.2.2))), (r8.2.1.2.1, (r8.2.1.2.2.1, r8.2.1.2.2.2)))).bind fun r20 =>
 bif !r20 then (
 some true)
 else (
 bif decide (r16.1 = (r12.1.2.length : Int)) then (
 (qbj ((r18.2.1.1.1, (r18.2.1.1.2.1, (r18.2.1.1.2.2.1, r18.2.1.1.2.2.2))), (r18.2.1.2.1, (r18.2.1.2.2.1, r18.2.1.2.2.2))) ((r8.2.1.1.1, (r8.2.1.1.2.1, (r8.2.1.1.2.2.1, r8.2.1.1.2.2.2))), (r8.2.1.2.1, (r8.2.1.2.2.1, r8.2.1.2.2.2)))).bind fun r21 =>
 bif !r21 then (
 some true)
 else (
 bif decide (r16.1 < (r12.1.2.length : Int)) then (
 (qbj ((r18.2.1.1.1, (r18.2.1.1.2.1, (r18.2.1.1.2.2.1, r18.2.1.1.2.2.2))), (r18.2.1.2.1, (r18.2.1.2.2.1, r18.2.1.2.2.2))) ((c, (c2, (c3, c4))), (c5, (c6, c7)))).bind fun r22 =>
 some (!r22))
 else (
 some false)))
 else (
 bif decide (r16.1 < (r12.1.2.length : Int)) then (
 (qbj ((r18.2.1.1.1, (r18.2.1.1.2.1, (r18.2.1.1.2.2.1, r18.2.1.1.2.2.2))), (r18.2.1.2.1, (r18.2.1.2.2.1, r18.2.1.2.2.2))) ((c, (c2, (c3, c4))), (c5, (c6, c7)))).bind fun r23 =>
 some (!r23))
 else (
 some false))))
 else (
 bif decide (r16.1 = (r12.1.2.length : Int)) then (
 (qbj ((r18.2.1.1.1, (r18.2.1.1.2.1, (r18.2.1.1.2.2.1, r18.2.1.1.2.2.2))), (r18.2.1.2.1, (r18.2.1.2.2.1, r18.2.1.2.2.2))) ((r8.2.1.1.1, (r8.2.1.1.2.1, (r8.2.1.1.2.2.1, r8.2.1.1.2.2.2))), (r8.2.1.2.1, (r8.2.1.2.2.1, r8.2.1.2.2.2)))).bind fun r24 =>
 bif !r24 then (
 some true)
 else (
 bif decide (r16.1 < (r12.1.2.length : Int)) then (
 (qbj ((r18.2.1.1.1, (r18.2.1.1.2.1, (r18.2.1.1.2.2.1, r18.2.1.1.2.2.2))), (r18.2.1.2.1, (r18.2.1.2.2.1, r18.2.1.2.2.2))) ((c, (c2, (c3, c4))), (c5, (c6, c7)))).bind fun r25 =>
 some (!r25))
 else (
 some false)))
 else (
 bif decide (r16.1 < (r12.1.2.length : Int)) then (
 (qbj ((r18.2.1.1.1, (r18.2.1.1.2.1, (r18.2.1.1.2.2.1, r18.2.1.1.2.2.2))), (r18.2.1.2.1, (r18.2.1.2.2.1, r18.2.1.2.2.2))) ((c, (c2, (c3, c4))), (c5, (c6, c7)))).bind fun r26 =>
 some (!r26))
 else (
 some false))))) fun s6 =>
 bif s6 then (
 some (.inr false))
 else (
 some (.inl (r16.2.1, r16.2.2, r18.2.1.1.1, r18.2.1.1.2.1, r18.2.1.1.2.2.1, r18.2.1.1.2.2.2, r18.2.1.2.1, r18.2.1.2.2.1, r18.2.1.2.2.2, r18.1.1, r18.1.2)))))) fun s7 =>
 s7.elim (fun s8 =>
 some (.inl (wi64 (i + 1), s8.1, s8.2.1, s8.2.2.1, s8.2.2.2.1, s8.2.2.2.2.1, s8.2.2.2.2.2.1, s8.2.2.2.2.2.2.1, s8.2.2.2.2.2.2.2.1, s8.2.2.2.2.2.2.2.2.1, s8.2.2.2.2.2.2.2.2.2.1, s8.2.2.2.2.2.2.2.2.2.2)))
 (fun s9 =>
 some (.inr (.inr s9))))
 else (
 some (.inr (.inl (c, c2, c3, c4, c5, c6, c7, f, f2))))
def qdE (l : List Int) : Option (Bool) :=
 (qmQ l).bind fun r =>
 bif !r then (
 (qgy).bind fun r2 =>
 some r2)
 else (
 (qnZ l).bind fun r3 =>
 (qeb r3.1 r3.2).bind fun r4 =>
 (qeV (r4.1.1, (r4.1.2.1, (r4.1.2.2.1, (r4.1.2.2.2.1, (r4.1.2.2.2.2.1, r4.1.2.2.2.2.2))))) 2).bind fun r5 =>
 bif !decide (r5.2 = 0) then (
 some false)
 else (
 (iter (fun x => qcJ r4 x.1 x.2.1 x.2.2.1 x.2.2.2.1 x.2.2.2.2.1 x.2.2.2.2.2.1 x.2.2.2.2.2.2.1 x.2.2.2.2.2.2.2.1 x.2.2.2.2.2.2.2.2.1 x.2.2.2.2.2.2.2.2.2.1 x.2.2.2.2.2.2.2.2.2.2.1 x.2.2.2.2.2.2.2.2.2.2.2) (0, r4.2.1, r4.2.2, r5.1.1.1, r5.1.1.2.1, r5.1.1.2.2.1, r5.1.1.2.2.2, r5.1.2.1, r5.1.2.2.1, r5.1.2.2.2, [], [])).bind fun s10 =>
 s10.elim (fun s11 =>
 (qcW (r4.1.1, (r4.1.2.1, (r4.1.2.2.1, (r4.1.2.2.2.1, (r4.1.2.2.2.2.1, r4.1.2.2.2.2.2))))) 2 (s11.2.2.2.2.2.2.2.1, s11.2.2.2.2.2.2.2.2)).bind fun r27 =>
 bif decide (r27.2.2 = 0) then (
 (qbj ((r27.2.1.1.1, (r27.2.1.1.2.1, (r27.2.1.1.2.2.1, r27.2.1.1.2.2.2))), (r27.2.1.2.1, (r27.2.1.2.2.1, r27.2.1.2.2.2))) ((s11.1, (s11.2.1, (s11.2.2.1, s11.2.2.2.1))), (s11.2.2.2.2.1, (s11.2.2.2.2.2.1, s11.2.2.2.2.2.2.1)))).bind fun r28 =>
 bif r28 then (
 (qiD (r4.1.1, (r4.1.2.1, (r4.1.2.2.1, (r4.1.2.2.2.1, (r4.1.2.2.2.2.1, r4.1.2.2.2.2.2))))) (s11.1, (s11.2.1, (s11.2.2.1, s11.2.2.2.1)))).bind fun r29 =>
 bif decide (r29 = 0) then (
 (qgy).bind fun r30 =>
 some r30)
 else (
 some false))
 else (
 some false))
 else (
 some false))
 (fun s12 =>
 some s12)))
def qeM : Fun :=
 ⟨4, 1, 1,
 ⟨r89_, [], []⟩,
 ⟨[(0, bb)], [], []⟩,
 fun x => qdE x⟩
theorem qiE : FO qeM := fi [] [qlO, qkR, qo0, qgG, qfU, qi0, qi4, qgx, qis, qmr, qfM, qjY, qmu, qa8, qbp, qfc, qe0, qk0] 187 [] ((nn (nn (nn (nn (nn (nn (nn (mm (nn (mm (.mk [] (some (⟨[(3, pt 480 0), (4, pt 80 0), (5, pt 96 0), (7, pt 128 0), (8, ii)], v11_, []⟩, [⟨.x 0, ⟨[(4, pt 80 0), (5, pt 96 0), (7, pt 128 0)], [(80, 50, (kp 6)), (96, 61, [.data (.sl tT1), .data (.sl I6), .data (.sl I6), .data (.sl (.bool)), .data (.sl tT3), .data (.sl tT2), .data I6]), (128, 65, [.data (.sl (.int .u8)), .data (.sl (.int .u8))])], []⟩⟩, ⟨.r, ⟨[(2, bb)], [], []⟩⟩])) (mm (mm (.mk [.join [⟨.n, ⟨[(3, pt 480 0), (4, pt 80 0), (5, pt 96 0), (7, pt 128 0), (8, kk), (44, bb)], [(480, 128, [.data (.sl I6), .data I6]), (80, 50, (kp 6)), (96, 61, (kp 7)), (128, 65, [.keep, .keep])], []⟩⟩]] none .nil .nil) .nil) (mm (.mk [.join [⟨.n, ⟨[(3, pt 480 0), (4, pt 80 0), (5, pt 96 0), (7, pt 128 0), (8, kk)], v11_, []⟩⟩, ⟨.r, ⟨[(2, bb)], [], []⟩⟩]] none (nn (nn (mm (nn (mm (mm (mm (.mk [.join [⟨.n, ⟨[(3, pt 480 0), (4, pt 80 0), (5, pt 96 0), (7, pt 128 0), (8, kk), (71, bb)], [(480, 128, [.keep, .keep]), (80, 50, (kp 6)), (96, 61, (kp 7)), (128, 65, [.keep, .keep])], []⟩⟩]] none .nil .nil) .nil) .nil) .nil)) (nn (mm (.mk [.fz [13]] none .nil .nil) (mm (mm (.mk [.join [⟨.n, ⟨[(3, pt 480 0), (4, pt 80 0), (5, pt 96 0), (7, pt 128 0), (8, kk), (11, pt 192 0), (15, pt 256 0), (95, bb)], [(480, 128, [.keep, .keep]), (80, 50, (kp 6)), (96, 61, (kp 7)), (128, 65, [.keep, .keep]), (192, 61, (kp 7)), (256, 65, [.keep, .keep])], []⟩⟩]] none .nil .nil) .nil) (nn (nn (mm (mm (.mk [.join [⟨.n, ⟨[(3, pt 480 0), (4, pt 80 0), (5, pt 96 0), (7, pt 128 0), (8, kk), (18, pt 304 0), (19, pt 320 0), (160, bb)], [(480, 128, [.keep, .keep]), (80, 50, (kp 6)), (96, 61, (kp 7)), (128, 65, [.keep, .keep]), (304, 65, [.keep, .keep]), (320, 61, (kp 7))], []⟩⟩]] none .nil .nil) .nil) .nil))))))))) .nil) .nil)) .nil) .nil)) .nil))))))))) func4 ⟨⟨qqB, qpA, qta, qlj, qid, qnN, qnQ, qjI, qml, qqV, qiV, qpd, qqX, qbi, qbL, qhw, qhV, qpK, trivial⟩, trivial⟩
end
end Go.Proofs.YtnkfkceghbkkkaaGreat
