/- Functions, evaluated. No condition. -/
import Derived.Test.YtpgigbdefbeagaaGreatDoorProg
import Derived.Test.YtpgigbdefbeagaaGreatDoorSqDI
import Derived.Test.YtpgigbdefbeagaaGreatDoorLx
import Derived.Test.YtpgigbdefbeagaaGreatDoorLc
namespace Go.Proofs.YtpgigbdefbeagaaGreatDoor
open Go Go.Sq
open Go.Proofs.Tryz
noncomputable section
abbrev I6 : Ty := .int .i64
abbrev dd (τ : Ty) : Sh := .one (.data τ)
abbrev pt (b o : Nat) : Sh := .one (.ptr b o)
abbrev ow (b : Nat) : Sh := .one (.own b)
abbrev FO (e : Fun) : Prop := FunOk Tryz.prog e
abbrev yT0 : Type := List UInt8 × Int × Int × Int × Int × Int × List (Int × Int × Int)
abbrev tT0 : Ty := .pair (.str) (.pair I6 (.pair I6 (.pair I6 (.pair I6 (.pair I6 (.sl (.pair I6 (.pair I6 I6))))))))
abbrev tT1 : Ty := .pair (.str) (.pair I6 (.pair I6 (.pair I6 I6)))
abbrev yB0 : Type := List UInt8 × Int × Int × Int × Int
abbrev yB1 : Type := List (List UInt8) × List yT0 × List (List UInt8 × Int × Int) × List yB0 × Int × Int
abbrev yB2 : Type := List (List UInt8 × Int × Int)
abbrev yB3 : Type := Int × Int × Int × Int × List UInt8 × List (List UInt8) × (List yT0) × yB2 × List yB0
abbrev fd (n : String) (t o : Nat) (p : String) (b : Nat) : Field := { name := n, type := t, offset := o, embedded := false, tag := "", pkgPath := p, byteOffset := b }
def ti3 : TI := ⟨3, .int .i64, 1, 8, .int .i64 0, .int .i64, false⟩
theorem tk3 : ti3.ok prog := ⟨underlying3, by kernel_rfl, fun h => by cases h⟩
def ti4 : TI := ⟨4, .bool, 1, 1, .bool false, .bool, false⟩
theorem tk4 : ti4.ok prog := ⟨underlying4, by kernel_rfl, fun h => by cases h⟩
def ti5 : TI := ⟨5, .int .u8, 1, 1, .int .u8 0, .int .u8, false⟩
theorem tk5 : ti5.ok prog := ⟨underlying5, by kernel_rfl, fun h => by cases h⟩
def ti9 : TI := ⟨9, .string, 1, 16, .string ⟨#[]⟩, .str, false⟩
theorem tk9 : ti9.ok prog := ⟨underlying9, by kernel_rfl, fun h => by cases h⟩
def ti22 : TI := ⟨22, .slice 3, 1, 24, .slice none 0 0, .sl I6, false⟩
theorem tk22 : ti22.ok prog := ⟨underlying22, by kernel_rfl, fun h => by cases h⟩
def ti29 : TI := ⟨29, .slice 9, 1, 24, .slice none 0 0, .sl (.str), false⟩
theorem tk29 : ti29.ok prog := ⟨underlying29, by kernel_rfl, fun h => by cases h⟩
def ti30 : TI := ⟨30, .slice 52, 1, 24, .slice none 0 0, .sl tT0, false⟩
theorem tk30 : ti30.ok prog := ⟨underlying30, by kernel_rfl, fun h => by cases h⟩
def ti31 : TI := ⟨31, .slice 47, 1, 24, .slice none 0 0, .sl (.pair (.str) (.pair I6 I6)), false⟩
theorem tk31 : ti31.ok prog := ⟨underlying31, by kernel_rfl, fun h => by cases h⟩
def ti32 : TI := ⟨32, .slice 55, 1, 24, .slice none 0 0, .sl tT1, false⟩
theorem tk32 : ti32.ok prog := ⟨underlying32, by kernel_rfl, fun h => by cases h⟩
def ti34 : TI := ⟨34, .struct #[fd "Nodes" 29 0 "" 0, fd "Segments" 30 1 "" 24, fd "Ports" 31 2 "" 48, fd "Stations" 32 3 "" 72, fd "Vapour" 3 4 "" 96, fd "Settle" 3 5 "" 104], 6, 112, .agg #[.slice none 0 0, .slice none 0 0, .slice none 0 0, .slice none 0 0, .int .i64 0, .int .i64 0], .pair (.sl (.str)) (.pair (.sl tT0) (.pair (.sl (.pair (.str) (.pair I6 I6))) (.pair (.sl tT1) (.pair I6 I6)))), true⟩
theorem tk34 : ti34.ok prog := ⟨underlying34, by kernel_rfl, fun _ => ⟨eqGuardType34, stoodInHeld34⟩⟩
def ti47 : TI := ⟨47, .struct #[fd "Name" 9 0 "" 0, fd "Node" 3 1 "" 16, fd "Pressure" 3 2 "" 24], 3, 32, .agg #[.string ⟨#[]⟩, .int .i64 0, .int .i64 0], .pair (.str) (.pair I6 I6), true⟩
theorem tk47 : ti47.ok prog := ⟨underlying47, by kernel_rfl, fun _ => ⟨eqGuardType47, stoodInHeld47⟩⟩
def ti50 : TI := ⟨50, .slice 61, 1, 24, .slice none 0 0, .sl (.pair I6 (.pair I6 I6)), false⟩
theorem tk50 : ti50.ok prog := ⟨underlying50, by kernel_rfl, fun h => by cases h⟩
def ti52 : TI := ⟨52, .struct #[fd "Name" 9 0 "" 0, fd "From" 3 1 "" 16, fd "To" 3 2 "" 24, fd "Capacity" 3 3 "" 32, fd "Resist" 3 4 "" 40, fd "Wave" 3 5 "" 48, fd "Points" 50 6 "" 56], 7, 80, .agg #[.string ⟨#[]⟩, .int .i64 0, .int .i64 0, .int .i64 0, .int .i64 0, .int .i64 0, .slice none 0 0], .pair (.str) (.pair I6 (.pair I6 (.pair I6 (.pair I6 (.pair I6 (.sl (.pair I6 (.pair I6 I6)))))))), true⟩
theorem tk52 : ti52.ok prog := ⟨underlying52, by kernel_rfl, fun _ => ⟨eqGuardType52, stoodInHeld52⟩⟩
def ti55 : TI := ⟨55, .struct #[fd "Name" 9 0 "" 0, fd "Node" 3 1 "" 16, fd "Head" 3 2 "" 24, fd "Fall" 3 3 "" 32, fd "Suction" 3 4 "" 40], 5, 48, .agg #[.string ⟨#[]⟩, .int .i64 0, .int .i64 0, .int .i64 0, .int .i64 0], .pair (.str) (.pair I6 (.pair I6 (.pair I6 I6))), true⟩
theorem tk55 : ti55.ok prog := ⟨underlying55, by kernel_rfl, fun _ => ⟨eqGuardType55, stoodInHeld55⟩⟩
def ti57 : TI := ⟨57, .struct #[fd "L" 22 0 "" 0, fd "At" 3 1 "" 24], 2, 32, .agg #[.slice none 0 0, .int .i64 0], .pair (.sl I6) I6, true⟩
theorem tk57 : ti57.ok prog := ⟨underlying57, by kernel_rfl, fun _ => ⟨eqGuardType57, stoodInHeld57⟩⟩
def ti59 : TI := ⟨59, .slice 29, 1, 24, .slice none 0 0, .sl (.sl (.str)), false⟩
theorem tk59 : ti59.ok prog := ⟨underlying59, by kernel_rfl, fun h => by cases h⟩
def ti61 : TI := ⟨61, .struct #[fd "At" 3 0 "" 0, fd "Height" 3 1 "" 8, fd "Limit" 3 2 "" 16], 3, 24, .agg #[.int .i64 0, .int .i64 0, .int .i64 0], .pair I6 (.pair I6 I6), true⟩
theorem tk61 : ti61.ok prog := ⟨underlying61, by kernel_rfl, fun _ => ⟨eqGuardType61, stoodInHeld61⟩⟩
def ti72 : TI := ⟨72, .struct #[fd "n" 34 0 "batchline/network" 0, fd "rank" 3 6 "batchline/network" 112, fd "last" 9 7 "batchline/network" 120], 8, 136, .agg #[.slice none 0 0, .slice none 0 0, .slice none 0 0, .slice none 0 0, .int .i64 0, .int .i64 0, .int .i64 0, .string ⟨#[]⟩], .pair (.pair (.sl (.str)) (.pair (.sl tT0) (.pair (.sl (.pair (.str) (.pair I6 I6))) (.pair (.sl tT1) (.pair I6 I6))))) (.pair I6 (.str)), true⟩
theorem tk72 : ti72.ok prog := ⟨underlying72, by kernel_rfl, fun _ => ⟨eqGuardType72, stoodInHeld72⟩⟩
def ti80 : TI := ⟨80, .array 4 29, 4, 96, .agg #[.slice none 0 0, .slice none 0 0, .slice none 0 0, .slice none 0 0], .pair (.sl (.str)) (.pair (.sl (.str)) (.pair (.sl (.str)) (.sl (.str)))), false⟩
theorem tk80 : ti80.ok prog := ⟨underlying80, by kernel_rfl, fun h => by cases h⟩
def ti92 : TI := ⟨92, .slice 5, 1, 24, .slice none 0 0, .sl (.int .u8), false⟩
theorem tk92 : ti92.ok prog := ⟨underlying92, by kernel_rfl, fun h => by cases h⟩
def ti99 : TI := ⟨99, .func #[29, 22] #[26] false, 1, 8, .nilFunc, .unit, false⟩
theorem tk99 : ti99.ok prog := ⟨underlying99, by kernel_rfl, fun h => by cases h⟩
def ti101 : TI := ⟨101, .struct #[fd "rank" 3 0 "batchline/network" 0, fd "words" 3 1 "batchline/network" 8, fd "names" 3 2 "batchline/network" 16, fd "take" 99 3 "batchline/network" 24], 4, 32, .agg #[.int .i64 0, .int .i64 0, .int .i64 0, .nilFunc], .unit, true⟩
theorem tk101 : ti101.ok prog := ⟨underlying101, by kernel_rfl, fun _ => ⟨eqGuardType101, stoodInHeld101⟩⟩
def ti103 : TI := ⟨103, .map 9 101, 1, 8, .map none, .unit, false⟩
theorem tk103 : ti103.ok prog := ⟨underlying103, by kernel_rfl, fun h => by cases h⟩
def ti119 : TI := ⟨119, .interface #[("Error", 39)], 1, 16, .nilIface, .err, false⟩
theorem tk119 : ti119.ok prog := ⟨underlying119, by kernel_rfl, fun h => by cases h⟩
def types : List TI := [ti3, ti4, ti5, ti9, ti22, ti29, ti30, ti31, ti32, ti34, ti47, ti50, ti52, ti55, ti57, ti59, ti61, ti72, ti80, ti92, ti99, ti101, ti103, ti119]
theorem qcN : Tys prog types := ⟨tk3, tk4, tk5, tk9, tk22, tk29, tk30, tk31, tk32, tk34, tk47, tk50, tk52, tk55, tk57, tk59, tk61, tk72, tk80, tk92, tk99, tk101, tk103, tk119, trivial⟩
def xt94 : Ext := qnz 94
theorem xk94 : ExtOk prog xt94 := qmz func94 (by kernel_rfl) (by kernel_rfl) (by kernel_rfl) (by kernel_rfl)
def xt138 : Ext := qny 138
theorem xk138 : ExtOk prog xt138 := qmy func138 (by kernel_rfl) (by kernel_rfl) (by kernel_rfl) (by kernel_rfl)
abbrev str_0 : List UInt8 := [110, 101, 116, 119, 111, 114, 107, 32, 53, 48, 48, 48, 48, 32, 49, 48, 10, 110, 111, 100, 101, 32, 97, 10, 110, 111, 100, 101, 32, 98, 10, 115, 101, 103, 109, 101, 110, 116, 32, 115, 32, 97, 32, 98, 32, 49, 48, 48, 32, 49, 32, 53, 48, 10, 112, 111, 105, 110, 116, 32, 48, 32, 48, 32, 57, 48, 48, 48, 48, 48, 10, 112, 111, 105, 110, 116, 32, 49, 48, 48, 32, 50, 48, 32, 57, 48, 48, 48, 48, 48, 10, 112, 111, 114, 116, 32, 105, 110, 32, 97, 32, 51, 48, 48, 48, 48, 48, 10, 112, 111, 114, 116, 32, 111, 117, 116, 32, 98, 32, 48, 10, 115, 116, 97, 116, 105, 111, 110, 32, 112, 32, 97, 32, 53, 48, 48, 48, 48, 48, 32, 50, 48, 48, 32, 49, 48, 48, 48, 48, 48]
theorem mx : prog.follows .mixedOrders = true := by kernel_rfl
abbrev kk : Sh := .one .keep
abbrev ii : Sh := .one (.data (.int .i64))
abbrev bb : Sh := .one (.data .bool)
abbrev ss : Sh := .one (.data .str)
abbrev nn (r : Plan) : Plan := .mk [] none .nil r
abbrev mm (l r : Plan) : Plan := .mk [] none l r
abbrev kp (n : Nat) : List Sh1 := List.replicate n .keep
theorem fi {e : Fun} {fn : Func} {c : Code} (ow : List Nat) (fs : List Fun) (N : Nat) (xs : List Ext) (p : Plan) (hf : Tryz.prog.funcs[e.f]? = some fn) (hfs : CxOk Tryz.prog ⟨types, ow, fs, N, xs⟩) (hb : fn.body = some c := by exact rfl) (hname : (fn.name == "runtime.NumGoroutine") = false := by kernel_rfl) (hN : fn.ntmps = N := by exact rfl) (hnp : Nat.ble e.np N = true := by exact rfl) (hnr : fn.results.toList.length = e.nr := by exact rfl) (hregs : e.ji.regs.all (fun q => Nat.blt q.1 e.np) = true := by exact rfl) (h : ∀ x, e.tw x = evFun ⟨types, ow, fs, N, xs⟩ e.ji e.jo fn.results.toList c p x := by intro x; kernel_rfl) : FunOk Tryz.prog e :=
 FunOk.intro (C := ⟨types, ow, fs, N, xs⟩) hf hb hname hN hnp hnr hregs qcN hfs mx h
abbrev a0_ : List (Nat × ObSh) := [(1, .arr 9 (.str)), (2, .nest 52 tT0 6 61), (3, .arr 47 (.pair (.str) (.pair I6 I6))), (4, .arr 55 tT1)]
abbrev r1_ : List (Nat × Sh) := [(0, dd (.pair (.sl (.str)) (.pair (.sl tT0) (.pair (.sl (.pair (.str) (.pair I6 I6))) (.pair (.sl tT1) (.pair I6 I6))))))]
abbrev a2_ : List (Nat × ObSh) := [(5, .arr 9 (.str)), (6, .nest 52 tT0 6 61), (7, .arr 47 (.pair (.str) (.pair I6 I6))), (8, .arr 55 tT1)]
abbrev v3_ : List (Nat × TypeId × List Sh1) := [(48, 34, [.data (.sl (.str)), .data (.sl tT0), .data (.sl (.pair (.str) (.pair I6 I6))), .data (.sl tT1), .data I6, .data I6]), (368, 72, [.own 5913, .own 5929, .own 5945, .own 5961, .data I6, .data I6, .data I6, .data (.str)])]
abbrev a4_ : List (Nat × ObSh) := [(1049, .arr 9 (.str)), (1065, .arr 52 tT0), (1081, .arr 47 (.pair (.str) (.pair I6 I6))), (1097, .arr 55 tT1)]
abbrev v5_ : List (Nat × TypeId × List Sh1) := [(0, 57, [.data (.sl I6), .data I6]), (48, 34, (kp 6)), (64, 34, [.own 1049, .own 1065, .own 1081, .own 1097, .keep, .keep])]
abbrev v6_ : List (Nat × TypeId × List Sh1) := [(0, 72, [.own 1, .own 2, .own 3, .own 4, .data I6, .data I6, .data I6, .data (.str)])]
abbrev v7_ : List (Nat × TypeId × List Sh1) := [(0, 72, [.own 5, .own 6, .own 7, .own 8, .data I6, .data I6, .data I6, .data (.str)])]
abbrev v8_ : List (Nat × TypeId × List Sh1) := [(0, 72, [.own 1, .own 2, .own 3, .own 4, .keep, .keep, .keep, .keep]), (96, 101, [.keep, .keep, .keep, .bfl [100, 101, 102, 103, 104, 105] 0])]
abbrev v9_ : List (Nat × TypeId × List Sh1) := [(0, 57, [.data (.sl I6), .data I6])]
abbrev v10_ : List (Nat × TypeId × List Sh1) := [(0, 57, [.data (.sl I6), .data I6]), (48, 34, (kp 6)), (64, 34, [.own 1049, .own 1065, .keep, .keep, .keep, .keep])]
abbrev a11_ : List (Nat × ObSh) := [(139, .arr 3 I6), (1, .arr 9 (.str)), (2, .nest 52 tT0 6 61), (3, .arr 47 (.pair (.str) (.pair I6 I6))), (4, .arr 55 tT1)]
abbrev v12_ : List (Nat × TypeId × List Sh1) := [(0, 57, [.data (.sl I6), .data I6]), (144, 52, (kp 7)), (160, 52, [.keep, .keep, .keep, .keep, .keep, .keep, .own 2681])]
abbrev a13_ : List (Nat × ObSh) := [(5913, .arr 9 (.str)), (5929, .nest 52 tT0 6 61), (5945, .arr 47 (.pair (.str) (.pair I6 I6))), (5961, .arr 55 tT1)]
abbrev r14_ : List (Nat × Sh) := [(0, pt 0 0), (1, dd (.sl (.str))), (2, dd (.sl I6))]
abbrev r15_ : List (Nat × Sh) := [(0, dd (.sl tT0)), (1, .one (.fn [.pair (.str) (.pair I6 (.pair I6 (.pair I6 (.pair I6 (.pair I6 (.sl (.pair I6 (.pair I6 I6))))))))] (.bool)))]
abbrev v16_ : List (Nat × TypeId × List Sh1) := [(48, 34, [.data (.sl (.str)), .data (.sl tT0), .data (.sl (.pair (.str) (.pair I6 I6))), .data (.sl tT1), .data I6, .data I6])]
abbrev r17_ : List (Nat × Sh) := [(0, kk), (1, kk), (7, kk), (8, ii)]
abbrev v18_ : List (Nat × TypeId × List Sh1) := [(32, 34, (kp 6))]
abbrev v19_ : List (Nat × TypeId × List Sh1) := [(0, 57, [.keep, .keep]), (48, 34, (kp 6)), (64, 34, [.own 1049, .keep, .keep, .keep, .keep, .keep])]
abbrev r20_ : List (Nat × Sh) := [(0, ss), (1, ss)]
abbrev r21_ : List (Nat × Sh) := [(0, dd (.sl (.pair (.str) (.pair I6 I6)))), (1, .one (.fn [.pair (.str) (.pair I6 I6)] (.bool)))]
abbrev r22_ : List (Nat × Sh) := [(0, dd (.sl tT1)), (1, .one (.fn [.pair (.str) (.pair I6 (.pair I6 (.pair I6 I6)))] (.bool)))]
abbrev a23_ : List (Nat × ObSh) := [(1049, .arr 9 (.str)), (1065, .arr 52 tT0)]
abbrev v24_ : List (Nat × TypeId × List Sh1) := [(32, 34, (kp 6)), (48, 80, (kp 4)), (64, 80, [.keep, .own 1065, .own 1081, .keep])]
abbrev v25_ : List (Nat × TypeId × List Sh1) := [(32, 34, (kp 6)), (48, 80, (kp 4)), (64, 80, [.keep, .own 1065, .keep, .keep])]
abbrev v26_ : List (Nat × TypeId × List Sh1) := [(48, 80, (kp 4)), (64, 80, [.keep, .own 1065, .own 1081, .own 1097])]
abbrev a27_ : List (Nat × ObSh) := [(1065, .arr 9 (.str)), (1081, .arr 9 (.str)), (1097, .arr 9 (.str))]
abbrev a28_ : List (Nat × ObSh) := [(2681, .arr 61 (.pair I6 (.pair I6 I6)))]
abbrev r29_ : List (Nat × Sh) := [(0, pt 0 0), (2, pt 48 0), (3, pt 64 0), (5, kk), (9, kk)]
abbrev r30_ : List (Nat × Sh) := [(0, dd (.sl I6)), (1, .one (.fn [.int .i64] (.bool)))]
abbrev r31_ : List (Nat × Sh) := [(0, dd (.sl (.str))), (1, .one (.fn [.str] (.bool)))]
abbrev a32_ : List (Nat × ObSh) := [(75, .arr 3 I6)]
abbrev a33_ : List (Nat × ObSh) := [(107, .arr 29 (.sl (.str)))]
def qge (l : List Int) : Option (List Int × Int) :=
 gd (cutG none (some (.i64, min (l.length : Int) 2000)) l.length) <|
 some (l.take (min (l.length : Int) 2000).toNat, 0)
def qg3 : Fun :=
 ⟨8, 1, 1,
 ⟨[(0, dd (.sl I6))], [], []⟩,
 ⟨[(0, pt 0 0)], v9_, []⟩,
 fun x => qge x⟩
theorem qjT : FO qg3 := fi [] [] 10 [] .nil func8 ⟨trivial, trivial⟩
def qdo (s : List Int) (s2 : Int) : Option (Int × List Int × Int) :=
 bif decide ((s.length : Int) ≤ s2) then (
 some (0, s, s2))
 else (
 gd (inB (wi64 ((wi64 (s2 + 1)) - 1)) s.length) <|
 some (s.getD (wi64 ((wi64 (s2 + 1)) - 1)).toNat 0, s, wi64 (s2 + 1)))
def qes : Fun :=
 ⟨63, 1, 1,
 ⟨[(0, pt 0 0)], v9_, []⟩,
 ⟨[(0, ii)], v9_, []⟩,
 fun x => qdo x.1 x.2⟩
theorem qg4 : FO qes := fi [] [] 31 [] .nil func63 ⟨trivial, trivial⟩
def qgf (x : Int) (n : Int) : Option (Int) :=
 bif decide (n < 1) then (
 some 0)
 else (
 gd (!decide (n = 0)) <|
 bif decide (Int.tmod x n < 0) then (
 some (wi64 ((Int.tmod x n) + n)))
 else (
 some (Int.tmod x n)))
def qg5 : Fun :=
 ⟨62, 2, 1,
 ⟨[(0, ii), (1, ii)], [], []⟩,
 ⟨[(0, ii)], [], []⟩,
 fun x => qgf x.1 x.2⟩
theorem qjU : FO qg5 := fi [] [] 16 [] .nil func62 ⟨trivial, trivial⟩
def qaR (n : Int) (s : List Int) (s2 : Int) : Option (Int × List Int × Int) :=
 (qdo s s2).bind fun r =>
 (qgf r.1 n).bind fun r2 =>
 some (r2, r.2.1, r.2.2)
def qbU : Fun :=
 ⟨30, 2, 1,
 ⟨[(0, pt 0 0), (1, ii)], v9_, []⟩,
 ⟨[(0, ii)], v9_, []⟩,
 fun x => qaR x.1 x.2.1 x.2.2⟩
theorem qcO : FO qbU := fi [] [qes, qg5] 9 [] .nil func30 ⟨⟨qg4, qjU, trivial⟩, trivial⟩
def qas (l : List Int) (s : List Int) (s2 : Int) : Option (Int × List Int × Int) :=
 (qaR (l.length : Int) s s2).bind fun r =>
 gd (inB r.1 l.length) <|
 some (l.getD r.1.toNat 0, r.2.1, r.2.2)
def qcy : Fun :=
 ⟨26, 2, 1,
 ⟨[(0, pt 0 0), (1, dd (.sl I6))], v9_, []⟩,
 ⟨[(0, ii)], v9_, []⟩,
 fun x => qas x.1 x.2.1 x.2.2⟩
theorem qd1 : FO qcy := fi [] [qbU] 12 [] .nil func26 ⟨⟨qcO, trivial⟩, trivial⟩
def qaA (lo : Int) (hi : Int) (s : List Int) (s2 : Int) : Option (Int × List Int × Int) :=
 (qaR (wi64 ((wi64 (hi - lo)) + 1)) s s2).bind fun r =>
 some (wi64 (lo + r.1), r.2.1, r.2.2)
def qck : Fun :=
 ⟨27, 3, 1,
 ⟨[(0, pt 0 0), (1, ii), (2, ii)], v9_, []⟩,
 ⟨[(0, ii)], v9_, []⟩,
 fun x => qaA x.1 x.2.1 x.2.2.1 x.2.2.2⟩
theorem qdC : FO qck := fi [] [qbU] 15 [] .nil func27 ⟨⟨qcO, trivial⟩, trivial⟩
def qcX (first : List UInt8) (n : Int) : Option (List UInt8) :=
 gd (Nat.ble (first.length + (qa2 [wu8 (wi64 (97 + (Int.tmod n 26)))]).length) 9223372036854775807) <|
 some (first ++ (qa2 [wu8 (wi64 (97 + (Int.tmod n 26)))]))
def qet : Fun :=
 ⟨28, 2, 1,
 ⟨[(0, ss), (1, ii)], [], []⟩,
 ⟨[(0, ss)], [], []⟩,
 fun x => qcX x.1 x.2⟩
theorem qfW : FO qet := fi [] [] 13 [] .nil func28 ⟨trivial, trivial⟩
def qcY (r3 : Int × List Int × Int) (r6 : Int × List Int × Int) (vat : Int) (s4 : List Int) (s5 : Int) (x : List (Int × Int × Int)) : Option ((Int × List Int × Int × List (Int × Int × Int)) ⊕ (List Int × Int × List (Int × Int × Int))) :=
 Option.bind (α := Bool × List Int × Int × List (Int × Int × Int)) (
 bif decide ((x.length : Int) < 7) then (
 (qaR 3 s4 s5).bind fun r8 =>
 some (decide (0 < r8.1), r8.2.1, r8.2.2, x))
 else (
 some (false, s4, s5, x))) fun s6 =>
 bif s6.1 then (
 (qaA 1 40 s6.2.1 s6.2.2.1).bind fun r9 =>
 bif decide (r3.1 ≤ wi64 (vat + r9.1)) then (
 some (.inr (r9.2.1, r9.2.2, s6.2.2.2)))
 else (
 (qaA (-5) 60 r9.2.1 r9.2.2).bind fun r10 =>
 (qas ([1, 1, 10] : List Int) r10.2.1 r10.2.2).bind fun r11 =>
 (qaR 3 r11.2.1 r11.2.2).bind fun r12 =>
 gd (fits (s6.2.2.2.length + 1) 24) <|
 some (.inl (wi64 (vat + r9.1), r12.2.1, r12.2.2, s6.2.2.2 ++ [(wi64 (vat + r9.1), (wi64 (r10.1 * r11.1), wi64 (r6.1 - (wi64 (r12.1 * 1000)))))]))))
 else (
 some (.inr (s6.2.1, s6.2.2.1, s6.2.2.2)))
def qbe (k : Int) (vfrom : Int) (to : Int) (s : List Int) (s2 : Int) : Option (yT0 × List Int × Int) :=
 (qaR 4 s s2).bind fun r =>
 Option.bind (α := Int × Int) (
 bif decide (r.1 = 0) then (
 some (to, vfrom))
 else (
 some (vfrom, to))) fun s3 =>
 (qcX [103] k).bind fun r2 =>
 (qas ([1, 2, 7, 20, 60, 200, 1000] : List Int) r.2.1 r.2.2).bind fun r3 =>
 (qas ([0, 1, 5, 1000] : List Int) r3.2.1 r3.2.2).bind fun r4 =>
 (qas ([0, 50, 1000, 100000] : List Int) r4.2.1 r4.2.2).bind fun r5 =>
 (qas ([1000000, 6000000, 100000000] : List Int) r5.2.1 r5.2.2).bind fun r6 =>
 (qaA (-5) 30 r6.2.1 r6.2.2).bind fun r7 =>
 (iter (fun x2 => qcY r3 r6 x2.1 x2.2.1 x2.2.2.1 x2.2.2.2) (0, r7.2.1, r7.2.2, [(0, (r7.1, r6.1))])).bind fun s7 =>
 (qaA (-5) 30 s7.1 s7.2.1).bind fun r13 =>
 gd (fits (s7.2.2.length + 1) 24) <|
 some ((r2, (s3.1, (s3.2, (r3.1, (r4.1, (r5.1, s7.2.2 ++ [(r3.1, (r13.1, r6.1))])))))), r13.2.1, r13.2.2)
def qcZ : Fun :=
 ⟨29, 4, 1,
 ⟨[(0, pt 0 0), (1, ii), (2, ii), (3, ii)], v9_, []⟩,
 ⟨[(0, dd tT0)], v9_, []⟩,
 fun x => qbe x.1 x.2.1 x.2.2.1 x.2.2.2.1 x.2.2.2.2⟩
theorem qe4 : FO qcZ := fi [] [qbU, qet, qcy, qck] 90 [] ((nn (mm (nn (.mk [.join [⟨.n, ⟨[(0, pt 0 0), (1, kk), (2, ii), (3, ii), (8, pt 144 0)], [(0, 57, [.keep, .keep]), (144, 52, (kp 7))], []⟩⟩]] none .nil .nil)) (nn (nn (nn (mm (nn (mm (.mk [] (some (⟨[(0, pt 0 0), (8, pt 144 0), (9, pt 160 0), (10, kk), (11, ii)], v12_, a28_⟩, [⟨.x 0, ⟨[(0, pt 0 0), (8, pt 144 0), (9, pt 160 0), (10, kk)], v12_, a28_⟩⟩])) (mm (mm (.mk [.join [⟨.n, ⟨[(0, pt 0 0), (8, pt 144 0), (9, pt 160 0), (10, kk), (11, kk), (51, bb)], v12_, a28_⟩⟩]] none .nil .nil) .nil) .nil) .nil) .nil)) .nil))))))) func29 ⟨⟨qcO, qfW, qd1, qdC, trivial⟩, trivial⟩
def qc0 (i : Int) (n : List (List UInt8)) : Option ((Int × List (List UInt8)) ⊕ (List (List UInt8))) :=
 bif decide (0 < i) then (
 (qcX [110] (n.length : Int)).bind fun r4 =>
 gd (fits (n.length + 1) 16) <|
 some (.inl (wi64 (i - 1), n ++ [r4])))
 else (
 some (.inr n))
def qc1 (s3 : List (List UInt8)) (i2 : Int) (s4 : List Int) (s5 : Int) (n2 : List (List UInt8)) (n3 : List yT0) : Option ((Int × List Int × Int × List (List UInt8) × List yT0) ⊕ (List Int × Int × List (List UInt8) × List yT0)) :=
 bif decide (i2 < wi64 ((s3.length : Int) - 1)) then (
 (qbe (n3.length : Int) i2 (wi64 (i2 + 1)) s4 s5).bind fun r5 =>
 gd (fits (n3.length + 1) 80) <|
 some (.inl (wi64 (i2 + 1), r5.2.1, r5.2.2, n2, n3 ++ [(r5.1.1, (r5.1.2.1, (r5.1.2.2.1, (r5.1.2.2.2.1, (r5.1.2.2.2.2.1, (r5.1.2.2.2.2.2.1, r5.1.2.2.2.2.2.2))))))])))
 else (
 some (.inr (s4, s5, n2, n3)))
def qc2 (s3 : List (List UInt8)) (i3 : Int) (s7 : List Int) (s8 : Int) (n4 : List (List UInt8)) (n5 : List yT0) : Option ((Int × List Int × Int × List (List UInt8) × List yT0) ⊕ (List Int × Int × List (List UInt8) × List yT0)) :=
 bif decide (0 < i3) then (
 (qaR (wi64 ((s3.length : Int) - 1)) s7 s8).bind fun r7 =>
 (qaA (wi64 (r7.1 + 1)) (wi64 ((s3.length : Int) - 1)) r7.2.1 r7.2.2).bind fun r8 =>
 (qbe (n5.length : Int) r7.1 r8.1 r8.2.1 r8.2.2).bind fun r9 =>
 gd (fits (n5.length + 1) 80) <|
 some (.inl (wi64 (i3 - 1), r9.2.1, r9.2.2, n4, n5 ++ [(r9.1.1, (r9.1.2.1, (r9.1.2.2.1, (r9.1.2.2.2.1, (r9.1.2.2.2.2.1, (r9.1.2.2.2.2.2.1, r9.1.2.2.2.2.2.2))))))])))
 else (
 some (.inr (s7, s8, n4, n5)))
def qc3 (s3 : List (List UInt8)) (i4 : Int) (s10 : List Int) (s11 : Int) (n6 : List (List UInt8)) (n7 : List yT0) (n8 : yB2) (n9 : List yB0) : Option ((Int × List Int × Int × List (List UInt8) × (List yT0) × yB2 × List yB0) ⊕ (List Int × Int × List (List UInt8) × (List yT0) × yB2 × List yB0)) :=
 bif decide (i4 ≤ wi64 ((s3.length : Int) - 1)) then (
 Option.bind (α := Bool × List Int × Int × List (List UInt8) × (List yT0) × yB2 × List yB0) (
 bif decide (i4 = 0) then (
 some (true, s10, s11, n6, n7, n8, n9))
 else (
 bif decide (i4 = wi64 ((s3.length : Int) - 1)) then (
 some (true, s10, s11, n6, n7, n8, n9))
 else (
 (qaR 2 s10 s11).bind fun r10 =>
 some (decide (r10.1 = 0), r10.2.1, r10.2.2, n6, n7, n8, n9)))) fun s12 =>
 Option.bind (α := List Int × Int × List (List UInt8) × (List yT0) × yB2 × List yB0) (
 bif s12.1 then (
 (qcX [113] (s12.2.2.2.2.2.1.length : Int)).bind fun r11 =>
 (qas ([300000, 1000000, 0, 5000000] : List Int) s12.2.1 s12.2.2.1).bind fun r12 =>
 gd (fits (s12.2.2.2.2.2.1.length + 1) 32) <|
 some (r12.2.1, r12.2.2, s12.2.2.2.1, s12.2.2.2.2.1, s12.2.2.2.2.2.1 ++ [(r11, (i4, r12.1))], s12.2.2.2.2.2.2))
 else (
 some (s12.2.1, s12.2.2.1, s12.2.2.2.1, s12.2.2.2.2.1, s12.2.2.2.2.2.1, s12.2.2.2.2.2.2))) fun s13 =>
 Option.bind (α := Bool × List Int × Int × List (List UInt8) × (List yT0) × yB2 × List yB0) (
 bif decide (i4 < wi64 ((s3.length : Int) - 1)) then (
 (qaR 3 s13.1 s13.2.1).bind fun r13 =>
 some (decide (r13.1 = 0), r13.2.1, r13.2.2, s13.2.2.1, s13.2.2.2.1, s13.2.2.2.2.1, s13.2.2.2.2.2))
 else (
 some (false, s13.1, s13.2.1, s13.2.2.1, s13.2.2.2.1, s13.2.2.2.2.1, s13.2.2.2.2.2))) fun s14 =>
 Option.bind (α := List Int × Int × List (List UInt8) × (List yT0) × yB2 × List yB0) (
 bif s14.1 then (
 (qcX [115] (s14.2.2.2.2.2.2.length : Int)).bind fun r14 =>
 (qas ([500000, 2000000, 0] : List Int) s14.2.1 s14.2.2.1).bind fun r15 =>
 (qas ([0, 200, 100000] : List Int) r15.2.1 r15.2.2).bind fun r16 =>
 (qas ([0, 100000, 400000] : List Int) r16.2.1 r16.2.2).bind fun r17 =>
 gd (fits (s14.2.2.2.2.2.2.length + 1) 48) <|
 some (r17.2.1, r17.2.2, s14.2.2.2.1, s14.2.2.2.2.1, s14.2.2.2.2.2.1, s14.2.2.2.2.2.2 ++ [(r14, (i4, (r15.1, (r16.1, r17.1))))]))
 else (
 some (s14.2.1, s14.2.2.1, s14.2.2.2.1, s14.2.2.2.2.1, s14.2.2.2.2.2.1, s14.2.2.2.2.2.2))) fun s15 =>
 some (.inl (wi64 (i4 + 1), s15.1, s15.2.1, s15.2.2.1, s15.2.2.2.1, s15.2.2.2.2.1, s15.2.2.2.2.2)))
 else (
 some (.inr (s10, s11, n6, n7, n8, n9)))
def qbz (s : List Int) (s2 : Int) : Option (yB1 × List Int × Int) :=
 (qas ([(-100000), 0, 50000] : List Int) s s2).bind fun r =>
 (qas ([0, 1, 5, 100] : List Int) r.2.1 r.2.2).bind fun r2 =>
 (qaA 2 6 r2.2.1 r2.2.2).bind fun r3 =>
 (iter (fun x => qc0 x.1 x.2) (r3.1, [])).bind fun s3 =>
 (iter (fun x2 => qc1 s3 x2.1 x2.2.1 x2.2.2.1 x2.2.2.2.1 x2.2.2.2.2) (0, r3.2.1, r3.2.2, s3, [])).bind fun s6 =>
 (qaR 4 s6.1 s6.2.1).bind fun r6 =>
 (iter (fun x3 => qc2 s3 x3.1 x3.2.1 x3.2.2.1 x3.2.2.2.1 x3.2.2.2.2) (r6.1, r6.2.1, r6.2.2, s6.2.2.1, s6.2.2.2)).bind fun s9 =>
 (iter (fun x4 => qc3 s3 x4.1 x4.2.1 x4.2.2.1 x4.2.2.2.1 x4.2.2.2.2.1 x4.2.2.2.2.2.1 x4.2.2.2.2.2.2) (0, s9.1, s9.2.1, s9.2.2.1, s9.2.2.2, [], [])).bind fun s16 =>
 some ((s16.2.2.1, (s16.2.2.2.1, (s16.2.2.2.2.1, (s16.2.2.2.2.2, (r.1, r2.1))))), s16.1, s16.2.1)
def qc4 : Fun :=
 ⟨10, 1, 1,
 ⟨[(0, pt 0 0)], v9_, []⟩,
 ⟨r1_, v9_, []⟩,
 fun x => qbz x.1 x.2⟩
theorem qe5 : FO qc4 := fi [] [qcy, qck, qet, qcZ, qbU] 139 [] ((nn (nn (mm (nn (mm (.mk [] (some (⟨[(0, pt 0 0), (2, pt 48 0), (3, pt 64 0), (4, ii)], v19_, [(1049, .arr 9 (.str))]⟩, [⟨.x 0, ⟨[(0, pt 0 0), (2, pt 48 0), (3, pt 64 0)], v19_, [(1049, .arr 9 (.str))]⟩⟩])) .nil .nil) .nil)) (nn (mm (nn (mm (.mk [] (some (⟨[(0, pt 0 0), (2, pt 48 0), (3, pt 64 0), (5, kk), (6, ii)], v10_, a23_⟩, [⟨.x 2, ⟨[(0, pt 0 0), (2, pt 48 0), (3, pt 64 0), (5, kk)], v10_, a23_⟩⟩])) .nil .nil) .nil)) (mm (nn (mm (.mk [] (some (⟨[(0, pt 0 0), (2, pt 48 0), (3, pt 64 0), (5, kk), (7, ii)], v10_, a23_⟩, [⟨.x 4, ⟨[(0, pt 0 0), (2, pt 48 0), (3, pt 64 0), (5, kk)], v10_, a23_⟩⟩])) .nil .nil) .nil)) (mm (nn (mm (.mk [] (some (⟨[(0, pt 0 0), (2, pt 48 0), (3, pt 64 0), (5, kk), (9, ii)], v5_, a4_⟩, [⟨.x 6, ⟨[(2, pt 48 0), (3, pt 64 0)], [(48, 34, (kp 6)), (64, 34, [.own 1049, .own 1065, .own 1081, .own 1097, .keep, .keep]), (0, 57, [.data (.sl I6), .data I6])], a4_⟩⟩])) (nn (mm (mm (mm (mm (.mk [.join [⟨.n, ⟨[(0, pt 0 0), (2, pt 48 0), (3, pt 64 0), (5, kk), (9, kk), (95, bb)], v5_, a4_⟩⟩]] none .nil .nil) (.mk [.join [⟨.n, ⟨r29_, v5_, a4_⟩⟩]] none .nil .nil)) (mm (.mk [.join [⟨.n, ⟨[(0, pt 0 0), (2, pt 48 0), (3, pt 64 0), (5, kk), (9, kk), (117, bb)], v5_, a4_⟩⟩]] none .nil .nil) (.mk [.join [⟨.n, ⟨r29_, v5_, a4_⟩⟩]] none .nil .nil))) .nil) .nil)) .nil) .nil)) .nil)))))))) func10 ⟨⟨qd1, qdC, qfW, qe4, qcO, trivial⟩, trivial⟩
def qab (s : List yT0) (f : yT0 × Unit → Option Bool) (v : Int) : Option (Int ⊕ (Unit ⊕ Int)) :=
 bif decide (v < (s.length : Int)) then (
 gd (inB v s.length) <|
 (f (s.getD v.toNat ([], (0, (0, (0, (0, (0, [])))))), ())).bind fun r =>
 bif r then (
 some (.inr (.inr v)))
 else (
 some (.inl (wi64 (v + 1)))))
 else (
 some (.inr (.inl ())))
def qan (s : List yT0) (f : yT0 × Unit → Option Bool) : Option (Int) :=
 (iter (fun x => qab s f x) 0).bind fun s2 =>
 s2.elim (fun s3 =>
 some (-1))
 (fun s4 =>
 some s4)
def qaC : Fun :=
 ⟨52, 2, 1,
 ⟨r15_, [], []⟩,
 ⟨[(0, ii)], [], []⟩,
 fun x => qan x.1 x.2⟩
theorem qba : FO qaC := fi [] [] 19 [] ((nn (mm (nn (mm (.mk [] (some (⟨r17_, [], []⟩, [⟨.x 0, ⟨[], [], []⟩⟩, ⟨.r, ⟨[(4, ii)], [], []⟩⟩])) .nil .nil) .nil)) .nil))) func52 ⟨trivial, trivial⟩
def qaf (s : List yT0) (f : yT0 × Unit → Option Bool) : Option (Bool) :=
 (qan s f).bind fun r =>
 some (decide (0 ≤ r))
def qap : Fun :=
 ⟨72, 2, 1,
 ⟨r15_, [], []⟩,
 ⟨[(0, bb)], [], []⟩,
 fun x => qaf x.1 x.2⟩
theorem qay : FO qap := fi [] [qaC] 9 [] .nil func72 ⟨⟨qba, trivial⟩, trivial⟩
def qcz (s : List UInt8 × Int × Int × Int × Int × Int × List (Int × Int × Int)) : Option (Bool) :=
 bif decide ((s.2.2.2.2.2.2.length : Int) < 2) then (
 some true)
 else (
 some (decide (8 < (s.2.2.2.2.2.2.length : Int))))
def qc5 : Fun :=
 ⟨73, 1, 1,
 ⟨[(0, dd tT0)], [], []⟩,
 ⟨[(0, bb)], [], []⟩,
 fun x => qcz x⟩
theorem qe6 : FO qc5 := fi [] [] 13 [] .nil func73 ⟨trivial, trivial⟩
def qbs (n : yB1) : Option (Bool) :=
 Option.bind (α := Bool) (
 bif decide ((n.1.length : Int) < 1) then (
 some true)
 else (
 bif decide (24 < (n.1.length : Int)) then (
 some true)
 else (
 bif decide (32 < (n.2.1.length : Int)) then (
 some true)
 else (
 bif decide (24 < (n.2.2.1.length : Int)) then (
 some true)
 else (
 some (decide (12 < (n.2.2.2.1.length : Int)))))))) fun s =>
 bif s then (
 some false)
 else (
 (qaf n.2.1 (fun h => (qcz h.1).bind fun y => some y)).bind fun r =>
 some (!r))
def qdD : Fun :=
 ⟨39, 1, 1,
 ⟨r1_, [], []⟩,
 ⟨[(0, bb)], [], []⟩,
 fun x => qbs x⟩
theorem qfN : FO qdD := fi [] [qap, qc5] 35 [] ((nn (mm (mm (.mk [.join [⟨.n, ⟨[(1, pt 32 0), (30, bb)], v18_, []⟩⟩]] none .nil .nil) .nil) .nil))) func39 ⟨⟨qay, qe6, trivial⟩, trivial⟩
def qbA (n : yB1) (v : Int) (out : List (List UInt8)) : Option ((Int × List (List UInt8)) ⊕ (List (List UInt8))) :=
 bif decide (v < (n.2.1.length : Int)) then (
 gd (inB v n.2.1.length) <|
 gd (fits (out.length + 1) 16) <|
 some (.inl (wi64 (v + 1), out ++ [(n.2.1.getD v.toNat ([], (0, (0, (0, (0, (0, []))))))).1])))
 else (
 some (.inr out))
def qbB (n : yB1) (v2 : Int) (out2 : List (List UInt8)) (out3 : List (List UInt8)) : Option ((Int × List (List UInt8) × List (List UInt8)) ⊕ (List (List UInt8) × List (List UInt8))) :=
 bif decide (v2 < (n.2.2.1.length : Int)) then (
 gd (inB v2 n.2.2.1.length) <|
 gd (fits (out3.length + 1) 16) <|
 some (.inl (wi64 (v2 + 1), out2, out3 ++ [(n.2.2.1.getD v2.toNat ([], (0, 0))).1])))
 else (
 some (.inr (out2, out3)))
def qbC (n : yB1) (v3 : Int) (out4 : List (List UInt8)) (out5 : List (List UInt8)) (out6 : List (List UInt8)) : Option ((Int × List (List UInt8) × List (List UInt8) × List (List UInt8)) ⊕ (List (List UInt8) × List (List UInt8) × List (List UInt8))) :=
 bif decide (v3 < (n.2.2.2.1.length : Int)) then (
 gd (inB v3 n.2.2.2.1.length) <|
 gd (fits (out6.length + 1) 16) <|
 some (.inl (wi64 (v3 + 1), out4, out5, out6 ++ [(n.2.2.2.1.getD v3.toNat ([], (0, (0, (0, 0))))).1])))
 else (
 some (.inr (out4, out5, out6)))
def qbb (n : yB1) : Option (List (List UInt8) × List (List UInt8) × List (List UInt8) × List (List UInt8)) :=
 (iter (fun x => qbA n x.1 x.2) (0, [])).bind fun s =>
 (iter (fun x2 => qbB n x2.1 x2.2.1 x2.2.2) (0, s, [])).bind fun s2 =>
 (iter (fun x3 => qbC n x3.1 x3.2.1 x3.2.2.1 x3.2.2.2) (0, s2.1, s2.2, [])).bind fun s3 =>
 some (n.1, (s3.1, (s3.2.1, s3.2.2)))
def qcA : Fun :=
 ⟨40, 1, 1,
 ⟨r1_, [], []⟩,
 ⟨[(0, dd (.pair (.sl (.str)) (.pair (.sl (.str)) (.pair (.sl (.str)) (.sl (.str))))))], [], []⟩,
 fun x => qbb x⟩
theorem qd2 : FO qcA := fi [] [] 59 [] ((nn (nn (nn (mm (nn (mm (.mk [] (some (⟨[(1, pt 32 0), (2, pt 48 0), (3, pt 64 0), (14, kk), (15, kk), (16, ii)], v25_, [(1065, .arr 9 (.str))]⟩, [⟨.x 0, ⟨[(1, pt 32 0), (2, pt 48 0), (3, pt 64 0)], v25_, [(1065, .arr 9 (.str))]⟩⟩])) .nil .nil) .nil)) (mm (nn (mm (.mk [] (some (⟨[(1, pt 32 0), (2, pt 48 0), (3, pt 64 0), (29, kk), (30, kk), (31, ii)], v24_, [(1065, .arr 9 (.str)), (1081, .arr 9 (.str))]⟩, [⟨.x 2, ⟨[(1, pt 32 0), (2, pt 48 0), (3, pt 64 0)], v24_, [(1065, .arr 9 (.str)), (1081, .arr 9 (.str))]⟩⟩])) .nil .nil) .nil)) (mm (nn (mm (.mk [] (some (⟨[(2, pt 48 0), (3, pt 64 0), (44, kk), (45, kk), (46, ii)], v26_, a27_⟩, [⟨.x 4, ⟨[(2, pt 48 0), (3, pt 64 0)], v26_, a27_⟩⟩])) .nil .nil) .nil)) .nil))))))) func40 ⟨trivial, trivial⟩
def qai (s : List (List UInt8)) (f : List UInt8 × Unit → Option Bool) (v : Int) : Option (Int ⊕ (Unit ⊕ Int)) :=
 bif decide (v < (s.length : Int)) then (
 gd (inB v s.length) <|
 (f (s.getD v.toNat [], ())).bind fun r =>
 bif r then (
 some (.inr (.inr v)))
 else (
 some (.inl (wi64 (v + 1)))))
 else (
 some (.inr (.inl ())))
def qav (s : List (List UInt8)) (f : List UInt8 × Unit → Option Bool) : Option (Int) :=
 (iter (fun x => qai s f x) 0).bind fun s2 =>
 s2.elim (fun s3 =>
 some (-1))
 (fun s4 =>
 some s4)
def qaW : Fun :=
 ⟨74, 2, 1,
 ⟨r31_, [], []⟩,
 ⟨[(0, ii)], [], []⟩,
 fun x => qav x.1 x.2⟩
theorem qbV : FO qaW := fi [] [] 19 [] ((nn (mm (nn (mm (.mk [] (some (⟨r17_, [], []⟩, [⟨.x 0, ⟨[], [], []⟩⟩, ⟨.r, ⟨[(4, ii)], [], []⟩⟩])) .nil .nil) .nil)) .nil))) func74 ⟨trivial, trivial⟩
def qaj (s : List (List UInt8)) (f : List UInt8 × Unit → Option Bool) : Option (Bool) :=
 (qav s f).bind fun r =>
 some (decide (0 ≤ r))
def qaQ : Fun :=
 ⟨41, 2, 1,
 ⟨r31_, [], []⟩,
 ⟨[(0, bb)], [], []⟩,
 fun x => qaj x.1 x.2⟩
theorem qbt : FO qaQ := fi [] [qaW] 9 [] .nil func41 ⟨⟨qbV, trivial⟩, trivial⟩
def qc6 (c : Int) : Option (Int) :=
 Option.bind (α := Unit ⊕ Unit ⊕ Int) (
 Option.bind (α := Bool) (
 bif decide (97 ≤ c) then (
 some (decide (c ≤ 122)))
 else (
 some false)) fun s =>
 bif s then (
 some (.inr (.inr 1)))
 else (
 Option.bind (α := Bool) (
 bif decide (48 ≤ c) then (
 some (decide (c ≤ 57)))
 else (
 some false)) fun s2 =>
 bif s2 then (
 some (.inl ()))
 else (
 bif decide (c = 45) then (
 some (.inl ()))
 else (
 some (.inr (.inl ())))))) fun s3 =>
 s3.elim (fun s4 =>
 some 2)
 (fun s5 =>
 s5.elim (fun s6 =>
 some 0)
 (fun s7 =>
 some s7))
def qeS : Fun :=
 ⟨75, 1, 1,
 ⟨[(0, dd (.int .u8))], [], []⟩,
 ⟨[(0, ii)], [], []⟩,
 fun x => qc6 x⟩
theorem qhg : FO qeS := fi [] [] 20 [] ((nn (mm (mm (mm (.mk [.join [⟨.n, ⟨[], [], []⟩⟩, ⟨.x 0, ⟨[], [], []⟩⟩, ⟨.r, ⟨[(2, ii)], [], []⟩⟩]] none (mm (mm (mm (mm (mm (mm (.mk [.join [⟨.n, ⟨[(0, kk), (3, bb)], [], []⟩⟩]] none .nil .nil) .nil) (mm (mm (.mk [.join [⟨.n, ⟨[(0, kk), (10, bb)], [], []⟩⟩]] none .nil .nil) .nil) .nil)) .nil) .nil) .nil) .nil) .nil) .nil) .nil) .nil))) func75 ⟨trivial, trivial⟩
def qbW (s : List UInt8) (v : Int) : Option (Int ⊕ (Unit ⊕ Bool)) :=
 bif decide (v < (s.length : Int)) then (
 gd (inB v s.length) <|
 (qc6 (Int.ofNat (s.getD v.toNat 0).toNat)).bind fun r2 =>
 bif decide (r2 = 0) then (
 some (.inr (.inr false)))
 else (
 some (.inl (wi64 (v + 1)))))
 else (
 some (.inr (.inl ())))
def qcR (s : List UInt8) : Option (Bool) :=
 Option.bind (α := Bool) (
 bif decide ((s.length : Int) < 1) then (
 some true)
 else (
 bif decide (12 < (s.length : Int)) then (
 some true)
 else (
 gd (inB 0 s.length) <|
 (qc6 (Int.ofNat (s.getD 0 0).toNat)).bind fun r =>
 some (!decide (r = 1))))) fun s2 =>
 bif s2 then (
 some false)
 else (
 (iter (fun x => qbW s x) 0).bind fun s3 =>
 s3.elim (fun s4 =>
 some true)
 (fun s5 =>
 some s5))
def qfx : Fun :=
 ⟨43, 1, 1,
 ⟨[(0, ss)], [], []⟩,
 ⟨[(0, bb)], [], []⟩,
 fun x => qcR x⟩
theorem qib : FO qfx := fi [] [qeS] 29 [] ((nn (mm (mm (.mk [.join [⟨.n, ⟨[(0, kk), (17, bb)], [], []⟩⟩]] none .nil .nil) .nil) (mm (nn (mm (.mk [] (some (⟨[(0, kk), (19, kk), (20, ii)], [], []⟩, [⟨.x 0, ⟨[], [], []⟩⟩, ⟨.r, ⟨[(2, bb)], [], []⟩⟩])) .nil .nil) .nil)) .nil)))) func43 ⟨⟨qhg, trivial⟩, trivial⟩
def qa3 (s : List UInt8) : Option (Bool) :=
 (qcR s).bind fun r =>
 some (!r)
def qdp : Fun :=
 ⟨42, 1, 1,
 ⟨[(0, ss)], [], []⟩,
 ⟨[(0, bb)], [], []⟩,
 fun x => qa3 x⟩
theorem qfy : FO qdp := fi [] [qfx] 6 [] .nil func42 ⟨⟨qib, trivial⟩, trivial⟩
def qao (s : List (List UInt8)) (v : List UInt8) (v2 : Int) : Option (Int ⊕ (Unit ⊕ Int)) :=
 bif decide (v2 < (s.length : Int)) then (
 gd (inB v2 s.length) <|
 bif decide (v = s.getD v2.toNat []) then (
 some (.inr (.inr v2)))
 else (
 some (.inl (wi64 (v2 + 1)))))
 else (
 some (.inr (.inl ())))
def qak (s : List (List UInt8)) (v : List UInt8) : Option (Int) :=
 (iter (fun x => qao s v x) 0).bind fun s2 =>
 s2.elim (fun s3 =>
 some (-1))
 (fun s4 =>
 some s4)
def qax : Fun :=
 ⟨51, 2, 1,
 ⟨[(0, dd (.sl (.str))), (1, ss)], [], []⟩,
 ⟨[(0, ii)], [], []⟩,
 fun x => qak x.1 x.2⟩
theorem qaN : FO qax := fi [] [] 19 [] ((nn (mm (nn (mm (.mk [] (some (⟨r17_, [], []⟩, [⟨.x 0, ⟨[], [], []⟩⟩, ⟨.r, ⟨[(4, ii)], [], []⟩⟩])) .nil .nil) .nil)) .nil))) func51 ⟨trivial, trivial⟩
def qeu (x : yB0) (v : yB0) : Option (Bool) :=
 some (decide (x.2.1 = v.2.1))
def qdq : Fun :=
 ⟨77, 2, 1,
 ⟨[(0, dd tT1), (1, .one (.sel tT1))], [], []⟩,
 ⟨[(0, bb)], [], []⟩,
 fun x => qeu x.1 x.2⟩
theorem qfz : FO qdq := fi [] [] 9 [] .nil func77 ⟨trivial, trivial⟩
def qac (s : List yB0) (f : yB0 × Unit → Option Bool) (v : Int) : Option (Int ⊕ (Unit ⊕ Int)) :=
 bif decide (v < (s.length : Int)) then (
 gd (inB v s.length) <|
 (f (s.getD v.toNat ([], (0, (0, (0, 0)))), ())).bind fun r =>
 bif r then (
 some (.inr (.inr v)))
 else (
 some (.inl (wi64 (v + 1)))))
 else (
 some (.inr (.inl ())))
def qad (s : List yB0) (f : yB0 × Unit → Option Bool) : Option (Int) :=
 (iter (fun x => qac s f x) 0).bind fun s2 =>
 s2.elim (fun s3 =>
 some (-1))
 (fun s4 =>
 some s4)
def qat : Fun :=
 ⟨76, 2, 1,
 ⟨r22_, [], []⟩,
 ⟨[(0, ii)], [], []⟩,
 fun x => qad x.1 x.2⟩
theorem qaD : FO qat := fi [] [] 19 [] ((nn (mm (nn (mm (.mk [] (some (⟨r17_, [], []⟩, [⟨.x 0, ⟨[], [], []⟩⟩, ⟨.r, ⟨[(4, ii)], [], []⟩⟩])) .nil .nil) .nil)) .nil))) func76 ⟨trivial, trivial⟩
def qbD (r : List (List UInt8) × List (List UInt8) × List (List UInt8) × List (List UInt8)) (v : Int) (v2 : Int) : Option (Int ⊕ (Unit ⊕ Bool)) :=
 bif decide (v2 < (([r.1, r.2.1, r.2.2.1, r.2.2.2].getD v.toNat []).length : Int)) then (
 gd (inB v2 ([r.1, r.2.1, r.2.2.1, r.2.2.2].getD v.toNat []).length) <|
 (qak ([r.1, r.2.1, r.2.2.1, r.2.2.2].getD v.toNat []) (([r.1, r.2.1, r.2.2.1, r.2.2.2].getD v.toNat []).getD v2.toNat [])).bind fun r2 =>
 bif decide (r2 < v2) then (
 some (.inr (.inr true)))
 else (
 some (.inl (wi64 (v2 + 1)))))
 else (
 some (.inr (.inl ())))
def qbE (r : List (List UInt8) × List (List UInt8) × List (List UInt8) × List (List UInt8)) (v : Int) : Option (Int ⊕ (Unit ⊕ Bool)) :=
 bif decide (v < 4) then (
 gd (inB v 4) <|
 (iter (fun x => qbD r v x) 0).bind fun s =>
 s.elim (fun s2 =>
 some (.inl (wi64 (v + 1))))
 (fun s3 =>
 some (.inr (.inr s3))))
 else (
 some (.inr (.inl ())))
def qbF (n : yB1) (v3 : Int) : Option (Int ⊕ (Unit ⊕ Bool)) :=
 bif decide (v3 < (n.2.2.2.1.length : Int)) then (
 gd (inB v3 n.2.2.2.1.length) <|
 (qad n.2.2.2.1 (fun h => (qeu h.1 ((n.2.2.2.1.getD v3.toNat ([], (0, (0, (0, 0))))).1, (((n.2.2.2.1.getD v3.toNat ([], (0, (0, (0, 0))))).2).1, ((((n.2.2.2.1.getD v3.toNat ([], (0, (0, (0, 0))))).2).2).1, (((((n.2.2.2.1.getD v3.toNat ([], (0, (0, (0, 0))))).2).2).2).1, ((((n.2.2.2.1.getD v3.toNat ([], (0, (0, (0, 0))))).2).2).2).2))))).bind fun y => some y)).bind fun r3 =>
 bif decide (r3 < v3) then (
 some (.inr (.inr true)))
 else (
 some (.inl (wi64 (v3 + 1)))))
 else (
 some (.inr (.inl ())))
def qbX (n : yB1) : Option (Bool) :=
 (qbb (n.1, (n.2.1, (n.2.2.1, (n.2.2.2.1, (n.2.2.2.2.1, n.2.2.2.2.2)))))).bind fun r =>
 (iter (fun x2 => qbE r x2) 0).bind fun s4 =>
 s4.elim (fun s5 =>
 (iter (fun x3 => qbF n x3) 0).bind fun s7 =>
 s7.elim (fun s8 =>
 some false)
 (fun s9 =>
 some s9))
 (fun s6 =>
 some s6)
def qd3 : Fun :=
 ⟨44, 1, 1,
 ⟨r1_, [], []⟩,
 ⟨[(0, bb)], [], []⟩,
 fun x => qbX x⟩
theorem qfZ : FO qd3 := fi [] [qcA, qax, qat, qdq] 43 [] ((nn (mm (nn (mm (.mk [] (some (⟨[(1, pt 32 0), (10, kk), (11, ii)], v18_, []⟩, [⟨.x 0, ⟨[(1, pt 32 0)], v18_, []⟩⟩, ⟨.r, ⟨[(2, bb)], [], []⟩⟩])) (nn (nn (mm (mm (nn (nn (mm (.mk [] (some (⟨[(1, pt 32 0), (4, kk), (10, kk), (11, kk), (14, kk), (15, kk), (16, ii)], v18_, []⟩, [⟨.x 2, ⟨[(1, pt 32 0), (10, kk), (11, kk)], v18_, []⟩⟩, ⟨.r, ⟨[(2, bb)], [], []⟩⟩])) .nil .nil) .nil))) .nil) .nil))) .nil) .nil)) (mm (nn (mm (.mk [] (some (⟨[(1, pt 32 0), (29, kk), (30, kk), (31, ii)], v18_, []⟩, [⟨.x 4, ⟨[], [], []⟩⟩, ⟨.r, ⟨[(2, bb)], [], []⟩⟩])) (nn (nn (mm (mm (nn (mm (.mk [.fv [(8, .pair (.str) (.pair I6 (.pair I6 (.pair I6 I6))))]] none .nil .nil) .nil)) .nil) .nil))) .nil) .nil)) .nil)))) func44 ⟨⟨qd2, qaN, qaD, qfz, trivial⟩, trivial⟩
def qbY (k : Int) (v : yB1) : Option (Bool) :=
 bif decide (k < 0) then (
 some true)
 else (
 some (decide ((v.1.length : Int) ≤ k)))
def qdr : Fun :=
 ⟨79, 2, 1,
 ⟨[(0, ii), (1, .one (.sel (.pair (.sl (.str)) (.pair (.sl tT0) (.pair (.sl (.pair (.str) (.pair I6 I6))) (.pair (.sl tT1) (.pair I6 I6)))))))], [], []⟩,
 ⟨[(0, bb)], [], []⟩,
 fun x => qbY x.1 x.2⟩
theorem qfA : FO qdr := fi [] [] 13 [] .nil func79 ⟨trivial, trivial⟩
def qar (s : List Int) (f : Int × Unit → Option Bool) (v : Int) : Option (Int ⊕ (Unit ⊕ Int)) :=
 bif decide (v < (s.length : Int)) then (
 gd (inB v s.length) <|
 (f (s.getD v.toNat 0, ())).bind fun r =>
 bif r then (
 some (.inr (.inr v)))
 else (
 some (.inl (wi64 (v + 1)))))
 else (
 some (.inr (.inl ())))
def qaL (s : List Int) (f : Int × Unit → Option Bool) : Option (Int) :=
 (iter (fun x => qar s f x) 0).bind fun s2 =>
 s2.elim (fun s3 =>
 some (-1))
 (fun s4 =>
 some s4)
def qbi : Fun :=
 ⟨108, 2, 1,
 ⟨r30_, [], []⟩,
 ⟨[(0, ii)], [], []⟩,
 fun x => qaL x.1 x.2⟩
theorem qc7 : FO qbi := fi [] [] 19 [] ((nn (mm (nn (mm (.mk [] (some (⟨r17_, [], []⟩, [⟨.x 0, ⟨[], [], []⟩⟩, ⟨.r, ⟨[(4, ii)], [], []⟩⟩])) .nil .nil) .nil)) .nil))) func108 ⟨trivial, trivial⟩
def qaE (s : List Int) (f : Int × Unit → Option Bool) : Option (Bool) :=
 (qaL s f).bind fun r =>
 some (decide (0 ≤ r))
def qa6 : Fun :=
 ⟨78, 2, 1,
 ⟨r30_, [], []⟩,
 ⟨[(0, bb)], [], []⟩,
 fun x => qaE x.1 x.2⟩
theorem qcs : FO qa6 := fi [] [qbi] 9 [] .nil func78 ⟨⟨qc7, trivial⟩, trivial⟩
def qbG (n : yB1) (v : Int) (all : List Int) : Option ((Int × List Int) ⊕ (List Int)) :=
 bif decide (v < (n.2.1.length : Int)) then (
 gd (inB v n.2.1.length) <|
 gd (fits (all.length + 2) 8) <|
 some (.inl (wi64 (v + 1), all ++ [((n.2.1.getD v.toNat ([], (0, (0, (0, (0, (0, []))))))).2).1, (((n.2.1.getD v.toNat ([], (0, (0, (0, (0, (0, []))))))).2).2).1])))
 else (
 some (.inr all))
def qbH (n : yB1) (v2 : Int) (all2 : List Int) : Option ((Int × List Int) ⊕ (List Int)) :=
 bif decide (v2 < (n.2.2.1.length : Int)) then (
 gd (inB v2 n.2.2.1.length) <|
 gd (fits (all2.length + 1) 8) <|
 some (.inl (wi64 (v2 + 1), all2 ++ [((n.2.2.1.getD v2.toNat ([], (0, 0))).2).1])))
 else (
 some (.inr all2))
def qbI (n : yB1) (v3 : Int) (all3 : List Int) : Option ((Int × List Int) ⊕ (List Int)) :=
 bif decide (v3 < (n.2.2.2.1.length : Int)) then (
 gd (inB v3 n.2.2.2.1.length) <|
 gd (fits (all3.length + 1) 8) <|
 some (.inl (wi64 (v3 + 1), all3 ++ [((n.2.2.2.1.getD v3.toNat ([], (0, (0, (0, 0))))).2).1])))
 else (
 some (.inr all3))
def qbZ (n : yB1) : Option (Bool) :=
 (iter (fun x => qbG n x.1 x.2) (0, [])).bind fun s =>
 (iter (fun x2 => qbH n x2.1 x2.2) (0, s)).bind fun s2 =>
 (iter (fun x3 => qbI n x3.1 x3.2) (0, s2)).bind fun s3 =>
 (qaE s3 (fun h => (qbY h.1 (n.1, (n.2.1, (n.2.2.1, (n.2.2.2.1, (n.2.2.2.2.1, n.2.2.2.2.2)))))).bind fun y => some y)).bind fun r =>
 some (!r)
def qd4 : Fun :=
 ⟨45, 1, 1,
 ⟨r1_, [], []⟩,
 ⟨[(0, bb)], [], []⟩,
 fun x => qbZ x⟩
theorem qf0 : FO qd4 := fi [] [qa6, qdr] 55 [] ((nn (nn (mm (nn (mm (.mk [] (some (⟨[(1, pt 32 0), (3, ow 75), (11, kk), (12, kk), (13, ii)], v18_, a32_⟩, [⟨.x 0, ⟨[(1, pt 32 0), (3, ow 75)], v18_, a32_⟩⟩])) .nil .nil) .nil)) (mm (nn (mm (.mk [] (some (⟨[(1, pt 32 0), (3, ow 75), (26, kk), (27, kk), (28, ii)], v18_, a32_⟩, [⟨.x 2, ⟨[(1, pt 32 0), (3, ow 75)], v18_, a32_⟩⟩])) .nil .nil) .nil)) (mm (nn (mm (.mk [] (some (⟨[(1, pt 32 0), (3, ow 75), (39, kk), (40, kk), (41, ii)], v18_, a32_⟩, [⟨.x 4, ⟨[(1, pt 32 0), (3, ow 75)], v18_, a32_⟩⟩])) .nil .nil) .nil)) (mm (.mk [.fv [(1, .pair (.sl (.str)) (.pair (.sl tT0) (.pair (.sl (.pair (.str) (.pair I6 I6))) (.pair (.sl tT1) (.pair I6 I6)))))]] none .nil .nil) .nil))))))) func45 ⟨⟨qcs, qfA, trivial⟩, trivial⟩
def qaM (n : Int) (least : Int) (most : Int) : Option (Bool) :=
 bif decide (least ≤ n) then (
 some (decide (n ≤ most)))
 else (
 some false)
def qb0 : Fun :=
 ⟨84, 3, 1,
 ⟨[(0, ii), (1, ii), (2, ii)], [], []⟩,
 ⟨[(0, bb)], [], []⟩,
 fun x => qaM x.1 x.2.1 x.2.2⟩
theorem qcP : FO qb0 := fi [] [] 15 [] .nil func84 ⟨trivial, trivial⟩
def qb1 (s : List UInt8 × Int × Int × Int × Int × Int × List (Int × Int × Int)) (v : Int) : Option (Int ⊕ (Unit ⊕ Bool)) :=
 bif decide (v < (s.2.2.2.2.2.2.length : Int)) then (
 gd (inB v s.2.2.2.2.2.2.length) <|
 Option.bind (α := Bool) (
 (qaM (((s.2.2.2.2.2.2.getD v.toNat (0, (0, 0))).2).1) (-500) 5000).bind fun r4 =>
 bif !r4 then (
 some true)
 else (
 (qaM (((s.2.2.2.2.2.2.getD v.toNat (0, (0, 0))).2).2) 0 100000000).bind fun r5 =>
 bif !r5 then (
 some true)
 else (
 bif decide (0 < v) then (
 gd (inB (wi64 (v - 1)) s.2.2.2.2.2.2.length) <|
 some (decide ((s.2.2.2.2.2.2.getD v.toNat (0, (0, 0))).1 ≤ (s.2.2.2.2.2.2.getD (wi64 (v - 1)).toNat (0, (0, 0))).1)))
 else (
 some false)))) fun s3 =>
 bif s3 then (
 some (.inr (.inr false)))
 else (
 some (.inl (wi64 (v + 1)))))
 else (
 some (.inr (.inl ())))
def qct (s : List UInt8 × Int × Int × Int × Int × Int × List (Int × Int × Int)) : Option (Bool) :=
 Option.bind (α := Bool) (
 bif decide (s.2.1 = s.2.2.1) then (
 some true)
 else (
 (qaM s.2.2.2.1 1 1000000).bind fun r =>
 bif !r then (
 some true)
 else (
 (qaM s.2.2.2.2.1 0 1000).bind fun r2 =>
 bif !r2 then (
 some true)
 else (
 (qaM s.2.2.2.2.2.1 0 100000).bind fun r3 =>
 some (!r3))))) fun s2 =>
 bif s2 then (
 some false)
 else (
 (iter (fun x => qb1 s x) 0).bind fun s4 =>
 s4.elim (fun s5 =>
 gd (inB 0 s.2.2.2.2.2.2.length) <|
 bif decide ((s.2.2.2.2.2.2.getD 0 (0, (0, 0))).1 = 0) then (
 gd (inB (wi64 ((s.2.2.2.2.2.2.length : Int) - 1)) s.2.2.2.2.2.2.length) <|
 some (decide ((s.2.2.2.2.2.2.getD (wi64 ((s.2.2.2.2.2.2.length : Int) - 1)).toNat (0, (0, 0))).1 = s.2.2.2.1)))
 else (
 some false))
 (fun s6 =>
 some s6))
def qev : Fun :=
 ⟨81, 1, 1,
 ⟨[(0, dd tT0)], [], []⟩,
 ⟨[(0, bb)], [], []⟩,
 fun x => qct x⟩
theorem qg6 : FO qev := fi [] [qb0] 83 [] ((nn (mm (mm (.mk [.join [⟨.n, ⟨[(1, pt 32 0), (27, bb)], [(32, 52, (kp 7))], []⟩⟩]] none .nil .nil) .nil) (mm (nn (mm (.mk [] (some (⟨[(1, pt 32 0), (29, kk), (30, kk), (31, ii)], [(32, 52, (kp 7))], []⟩, [⟨.x 0, ⟨[(1, pt 32 0)], [(32, 52, (kp 7))], []⟩⟩, ⟨.r, ⟨[(2, bb)], [], []⟩⟩])) (nn (nn (mm (mm (nn (mm (.mk [.join [⟨.n, ⟨[(1, pt 32 0), (29, kk), (30, kk), (31, kk), (61, bb)], [(32, 52, (kp 7))], []⟩⟩]] none .nil .nil) .nil)) .nil) .nil))) .nil) .nil)) .nil)))) func81 ⟨⟨qcP, trivial⟩, trivial⟩
def qbJ (s : List UInt8 × Int × Int × Int × Int × Int × List (Int × Int × Int)) : Option (Bool) :=
 (qct (s.1, (s.2.1, (s.2.2.1, (s.2.2.2.1, (s.2.2.2.2.1, (s.2.2.2.2.2.1, s.2.2.2.2.2.2))))))).bind fun r =>
 some (!r)
def qc8 : Fun :=
 ⟨80, 1, 1,
 ⟨[(0, dd tT0)], [], []⟩,
 ⟨[(0, bb)], [], []⟩,
 fun x => qbJ x⟩
theorem qe7 : FO qc8 := fi [] [qev] 6 [] .nil func80 ⟨⟨qg6, trivial⟩, trivial⟩
def qag (s : yB2) (f : (List UInt8 × Int × Int) × Unit → Option Bool) (v : Int) : Option (Int ⊕ (Unit ⊕ Int)) :=
 bif decide (v < (s.length : Int)) then (
 gd (inB v s.length) <|
 (f (s.getD v.toNat ([], (0, 0)), ())).bind fun r =>
 bif r then (
 some (.inr (.inr v)))
 else (
 some (.inl (wi64 (v + 1)))))
 else (
 some (.inr (.inl ())))
def qau (s : yB2) (f : (List UInt8 × Int × Int) × Unit → Option Bool) : Option (Int) :=
 (iter (fun x => qag s f x) 0).bind fun s2 =>
 s2.elim (fun s3 =>
 some (-1))
 (fun s4 =>
 some s4)
def qaP : Fun :=
 ⟨49, 2, 1,
 ⟨r21_, [], []⟩,
 ⟨[(0, ii)], [], []⟩,
 fun x => qau x.1 x.2⟩
theorem qbr : FO qaP := fi [] [] 19 [] ((nn (mm (nn (mm (.mk [] (some (⟨r17_, [], []⟩, [⟨.x 0, ⟨[], [], []⟩⟩, ⟨.r, ⟨[(4, ii)], [], []⟩⟩])) .nil .nil) .nil)) .nil))) func49 ⟨trivial, trivial⟩
def qaq (s : yB2) (f : (List UInt8 × Int × Int) × Unit → Option Bool) : Option (Bool) :=
 (qau s f).bind fun r =>
 some (decide (0 ≤ r))
def qaH : Fun :=
 ⟨82, 2, 1,
 ⟨r21_, [], []⟩,
 ⟨[(0, bb)], [], []⟩,
 fun x => qaq x.1 x.2⟩
theorem qbg : FO qaH := fi [] [qaP] 9 [] .nil func82 ⟨⟨qbr, trivial⟩, trivial⟩
def qbK (p : List UInt8 × Int × Int) : Option (Bool) :=
 (qaM p.2.2 0 100000000).bind fun r =>
 some (!r)
def qc9 : Fun :=
 ⟨83, 1, 1,
 ⟨[(0, dd (.pair (.str) (.pair I6 I6)))], [], []⟩,
 ⟨[(0, bb)], [], []⟩,
 fun x => qbK x⟩
theorem qe8 : FO qc9 := fi [] [qb0] 7 [] .nil func83 ⟨⟨qcP, trivial⟩, trivial⟩
def qal (s : List yB0) (f : yB0 × Unit → Option Bool) : Option (Bool) :=
 (qad s f).bind fun r =>
 some (decide (0 ≤ r))
def qaz : Fun :=
 ⟨85, 2, 1,
 ⟨r22_, [], []⟩,
 ⟨[(0, bb)], [], []⟩,
 fun x => qal x.1 x.2⟩
theorem qa0 : FO qaz := fi [] [qat] 9 [] .nil func85 ⟨⟨qaD, trivial⟩, trivial⟩
def qbL (s : yB0) : Option (Bool) :=
 (qaM s.2.2.1 0 100000000).bind fun r =>
 bif !r then (
 some true)
 else (
 (qaM s.2.2.2.1 0 100000).bind fun r2 =>
 bif !r2 then (
 some true)
 else (
 (qaM s.2.2.2.2 0 100000000).bind fun r3 =>
 some (!r3)))
def qda : Fun :=
 ⟨86, 1, 1,
 ⟨[(0, dd tT1)], [], []⟩,
 ⟨[(0, bb)], [], []⟩,
 fun x => qbL x⟩
theorem qe9 : FO qda := fi [] [qb0] 19 [] .nil func86 ⟨⟨qcP, trivial⟩, trivial⟩
def qbu (n : yB1) : Option (Bool) :=
 (qaf n.2.1 (fun h => (qbJ h.1).bind fun y => some y)).bind fun r =>
 bif r then (
 some false)
 else (
 (qaq n.2.2.1 (fun h2 => (qbK h2.1).bind fun y => some y)).bind fun r2 =>
 bif r2 then (
 some false)
 else (
 (qal n.2.2.2.1 (fun h3 => (qbL h3.1).bind fun y => some y)).bind fun r3 =>
 bif r3 then (
 some false)
 else (
 (qaM n.2.2.2.2.1 (-100000) 100000000).bind fun r4 =>
 bif r4 then (
 (qaM n.2.2.2.2.2 0 100).bind fun r5 =>
 some r5)
 else (
 some false))))
def qdE : Fun :=
 ⟨46, 1, 1,
 ⟨r1_, [], []⟩,
 ⟨[(0, bb)], [], []⟩,
 fun x => qbu x⟩
theorem qfO : FO qdE := fi [] [qap, qc8, qaH, qc9, qaz, qda, qb0] 20 [] .nil func46 ⟨⟨qay, qe7, qbg, qe8, qa0, qe9, qcP, trivial⟩, trivial⟩
def qbM (r2 : List (List UInt8) × List (List UInt8) × List (List UInt8) × List (List UInt8)) (v : Int) : Option (Int ⊕ (Unit ⊕ Int)) :=
 bif decide (v < 4) then (
 gd (inB v 4) <|
 (qaj ([r2.1, r2.2.1, r2.2.2.1, r2.2.2.2].getD v.toNat []) (fun h => (qa3 h.1).bind fun y => some y)).bind fun r3 =>
 bif r3 then (
 some (.inr (.inr 3)))
 else (
 some (.inl (wi64 (v + 1)))))
 else (
 some (.inr (.inl ())))
def qbn (n : yB1) : Option (Int) :=
 (qbs (n.1, (n.2.1, (n.2.2.1, (n.2.2.2.1, (n.2.2.2.2.1, n.2.2.2.2.2)))))).bind fun r =>
 bif !r then (
 some 4)
 else (
 (qbb (n.1, (n.2.1, (n.2.2.1, (n.2.2.2.1, (n.2.2.2.2.1, n.2.2.2.2.2)))))).bind fun r2 =>
 (iter (fun x => qbM r2 x) 0).bind fun s =>
 s.elim (fun s2 =>
 (qbX (n.1, (n.2.1, (n.2.2.1, (n.2.2.2.1, (n.2.2.2.2.1, n.2.2.2.2.2)))))).bind fun r4 =>
 bif r4 then (
 some 7)
 else (
 (qbZ (n.1, (n.2.1, (n.2.2.1, (n.2.2.2.1, (n.2.2.2.2.1, n.2.2.2.2.2)))))).bind fun r5 =>
 bif !r5 then (
 some 8)
 else (
 (qbu (n.1, (n.2.1, (n.2.2.1, (n.2.2.2.1, (n.2.2.2.2.1, n.2.2.2.2.2)))))).bind fun r6 =>
 bif !r6 then (
 some 9)
 else (
 some 0))))
 (fun s3 =>
 some s3))
def qcB : Fun :=
 ⟨18, 1, 1,
 ⟨r1_, [], []⟩,
 ⟨[(0, ii)], [], []⟩,
 fun x => qbn x⟩
theorem qd5 : FO qcB := fi [] [qdD, qcA, qaQ, qdp, qd3, qd4, qdE] 27 [] ((nn (nn (mm (nn (mm (.mk [] (some (⟨[(1, pt 32 0), (9, kk), (10, ii)], v18_, []⟩, [⟨.x 0, ⟨[(1, pt 32 0)], v18_, []⟩⟩, ⟨.r, ⟨[(2, ii)], [], []⟩⟩])) .nil .nil) .nil)) .nil)))) func18 ⟨⟨qfN, qd2, qbt, qfy, qfZ, qf0, qfO, trivial⟩, trivial⟩
def qhB : Option (List UInt8) :=
 some str_0
def qfB : Fun :=
 ⟨14, 0, 1,
 ⟨[], [], []⟩,
 ⟨[(0, ss)], [], []⟩,
 fun x => qhB⟩
def qic : Cx := ⟨types, [], [], 1, []⟩
set_option maxRecDepth 100000 in
theorem qid : FO qfB :=
 FunOk.intro (C := qic) (p := .nil)
  func14 rfl (by kernel_rfl) rfl rfl rfl rfl qcN ⟨trivial, trivial⟩ mx (fun x => by kernel_rfl)
def qa7 (s : List UInt8) (c : Int) : Option (Int) :=
 (idxB s c).bind fun r =>
 some r
def qaX : Fun :=
 ⟨121, 2, 1,
 ⟨[(0, ss), (1, dd (.int .u8))], [], []⟩,
 ⟨[(0, ii)], [], []⟩,
 fun x => qa7 x.1 x.2⟩
theorem qb2 : FO qaX := fi [] [] 8 [xt138] .nil func121 ⟨trivial, ⟨xk138, trivial⟩⟩
def qaU (s : List UInt8) (substr : List UInt8) : Option (Int) :=
 Option.bind (α := Bool) (
 bif decide ((substr.length : Int) = 0) then (
 some true)
 else (
 some (decide (substr = s)))) fun s2 =>
 bif s2 then (
 some 0)
 else (
 bif decide ((substr.length : Int) = 1) then (
 gd (inB 0 substr.length) <|
 (qa7 s (Int.ofNat (substr.getD 0 0).toNat)).bind fun r =>
 some r)
 else (
 bif decide ((s.length : Int) ≤ (substr.length : Int)) then (
 some (-1))
 else (
 none)))
def qaO : Fun :=
 ⟨112, 2, 1,
 ⟨r20_, [], []⟩,
 ⟨[(0, ii)], [], []⟩,
 fun x => qaU x.1 x.2⟩
theorem qbf : FO qaO := fi [] [qaX] 143 [] ((nn (nn (mm (mm (mm (.mk [.join [⟨.n, ⟨[(0, kk), (1, kk), (5, kk), (16, bb)], [], []⟩⟩]] none .nil .nil) .nil) .nil) .nil)))) func112 ⟨⟨qb2, trivial⟩, trivial⟩
def qdQ (s : List UInt8) (substr : List UInt8) : Option (Int) :=
 (qaU s substr).bind fun r =>
 some r
def qcC : Fun :=
 ⟨95, 2, 1,
 ⟨r20_, [], []⟩,
 ⟨[(0, ii)], [], []⟩,
 fun x => qdQ x.1 x.2⟩
theorem qd6 : FO qcC := fi [] [qaO] 8 [] .nil func95 ⟨⟨qbf, trivial⟩, trivial⟩
def qf1 (substr : List UInt8) (s2 : List UInt8) (n : Int) : Option ((List UInt8 × Int) ⊕ Int) :=
 (qdQ s2 substr).bind fun r2 =>
 bif decide (r2 = (-1)) then (
 some (.inr n))
 else (
 gd (cutG (some (.i64, wi64 (r2 + (substr.length : Int)))) none s2.length) <|
 some (.inl (s2.drop (wi64 (r2 + (substr.length : Int))).toNat, wi64 (n + 1))))
def qdR (s : List UInt8) (substr : List UInt8) : Option (Int) :=
 bif decide ((substr.length : Int) = 0) then (
 none)
 else (
 bif decide ((substr.length : Int) = 1) then (
 gd (inB 0 substr.length) <|
 (cntB s (Int.ofNat (substr.getD 0 0).toNat)).bind fun r =>
 some r)
 else (
 (iter (fun x => qf1 substr x.1 x.2) (s, 0)).bind fun s3 =>
 some s3))
def qcD : Fun :=
 ⟨64, 2, 1,
 ⟨r20_, [], []⟩,
 ⟨[(0, ii)], [], []⟩,
 fun x => qdR x.1 x.2⟩
theorem qd7 : FO qcD := fi [] [qcC] 34 [xt94] ((nn (nn (nn (nn (mm (.mk [] (some (⟨[(0, ss), (1, kk), (5, ii)], [], []⟩, [⟨.r, ⟨[(4, ii)], [], []⟩⟩])) .nil .nil) .nil)))))) func64 ⟨⟨qd6, trivial⟩, ⟨xk94, trivial⟩⟩
def qa8 (s : List UInt8) (suffix : List UInt8) : Option (Bool) :=
 bif decide ((suffix.length : Int) ≤ (s.length : Int)) then (
 gd (cutG (some (.i64, wi64 ((s.length : Int) - (suffix.length : Int)))) none s.length) <|
 some (decide (s.drop (wi64 ((s.length : Int) - (suffix.length : Int))).toNat = suffix)))
 else (
 some false)
def qaY : Fun :=
 ⟨96, 2, 1,
 ⟨r20_, [], []⟩,
 ⟨[(0, bb)], [], []⟩,
 fun x => qa8 x.1 x.2⟩
theorem qb3 : FO qaY := fi [] [] 21 [] .nil func96 ⟨trivial, trivial⟩
def qdF (s : List UInt8) (suffix : List UInt8) : Option (Bool) :=
 (qa8 s suffix).bind fun r =>
 some r
def qcH : Fun :=
 ⟨65, 2, 1,
 ⟨r20_, [], []⟩,
 ⟨[(0, bb)], [], []⟩,
 fun x => qdF x.1 x.2⟩
theorem qeM : FO qcH := fi [] [qaY] 8 [] .nil func65 ⟨⟨qb3, trivial⟩, trivial⟩
def qbS (s : List UInt8) (sep : List UInt8) : Option (List UInt8 × List UInt8 × Bool) :=
 (qaU s sep).bind fun r =>
 bif decide (0 ≤ r) then (
 gd (cutG none (some (.i64, r)) s.length) <|
 gd (cutG (some (.i64, wi64 (r + (sep.length : Int)))) none s.length) <|
 some (s.take r.toNat, s.drop (wi64 (r + (sep.length : Int))).toNat, true))
 else (
 some (s, [], false))
def qbj : Fun :=
 ⟨97, 2, 3,
 ⟨r20_, [], []⟩,
 ⟨[(0, ss), (1, ss), (2, bb)], [], []⟩,
 fun x => qbS x.1 x.2⟩
theorem qdb : FO qbj := fi [] [qaO] 23 [] .nil func97 ⟨⟨qbf, trivial⟩, trivial⟩
def qg7 (s : List UInt8) (sep : List UInt8) : Option (List UInt8 × List UInt8 × Bool) :=
 (qbS s sep).bind fun r =>
 some (r.1, r.2.1, r.2.2)
def qeT : Fun :=
 ⟨66, 2, 3,
 ⟨r20_, [], []⟩,
 ⟨[(0, ss), (1, ss), (2, bb)], [], []⟩,
 fun x => qg7 x.1 x.2⟩
theorem qhh : FO qeT := fi [] [qbj] 13 [] .nil func66 ⟨⟨qdb, trivial⟩, trivial⟩
def qfa (s : List UInt8) (sep : List UInt8) (sepSave : Int) (s2 : Int) (s3 : List UInt8) (i : Int) (a : List (List UInt8)) : Option ((List UInt8 × Int × List (List UInt8)) ⊕ (List UInt8 × Int × List (List UInt8))) :=
 bif decide (i < wi64 ((min s2 (wi64 ((s.length : Int) + 1))) - 1)) then (
 (qdQ s3 sep).bind fun r2 =>
 bif decide (r2 < 0) then (
 some (.inr (s3, i, a)))
 else (
 gd (cutG none (some (.i64, wi64 (r2 + sepSave))) s3.length) <|
 gd (inB i a.length) <|
 gd (cutG (some (.i64, wi64 (r2 + (sep.length : Int)))) none s3.length) <|
 some (.inl (s3.drop (wi64 (r2 + (sep.length : Int))).toNat, wi64 (i + 1), a.set i.toNat (s3.take (wi64 (r2 + sepSave)).toNat)))))
 else (
 some (.inr (s3, i, a)))
def qd8 (s : List UInt8) (sep : List UInt8) (sepSave : Int) (n : Int) : Option (List (List UInt8)) :=
 bif decide (n = 0) then (
 some [])
 else (
 bif decide (sep = []) then (
 none)
 else (
 Option.bind (α := Int) (
 bif decide (n < 0) then (
 (qdR s sep).bind fun r =>
 some (wi64 (r + 1)))
 else (
 some n)) fun s2 =>
 gd (makeG 16 (min s2 (wi64 ((s.length : Int) + 1)))) <|
 (iter (fun x => qfa s sep sepSave s2 x.1 x.2.1 x.2.2) (s, 0, List.replicate (min s2 (wi64 ((s.length : Int) + 1))).toNat ([] : List UInt8))).bind fun s4 =>
 gd (inB s4.2.1 s4.2.2.length) <|
 gd (cutG none (some (.i64, wi64 (s4.2.1 + 1))) (s4.2.2.set s4.2.1.toNat s4.1).length) <|
 some ((s4.2.2.set s4.2.1.toNat s4.1).take (wi64 (s4.2.1 + 1)).toNat)))
def qdc : Fun :=
 ⟨98, 4, 1,
 ⟨[(0, ss), (1, ss), (2, ii), (3, ii)], [], []⟩,
 ⟨[(0, dd (.sl (.str)))], [], []⟩,
 fun x => qd8 x.1 x.2.1 x.2.2.1 x.2.2.2⟩
theorem qfb : FO qdc := fi [] [qcD, qcC] 66 [] ((nn (nn (nn (mm (nn (.mk [.join [⟨.n, ⟨[(0, kk), (1, kk), (2, kk), (3, ii)], [], []⟩⟩]] none .nil .nil)) (nn (nn (nn (nn (mm (mm (.mk [] (some (⟨[(0, ss), (1, kk), (2, kk), (3, kk), (9, ow 512), (10, ii)], [], [(512, .arr 9 (.str))]⟩, [⟨.x 0, ⟨[(0, ss), (9, ow 512), (10, ii)], [], [(512, .arr 9 (.str))]⟩⟩])) .nil .nil) .nil) (nn (mm (.mk [.fz [9]] none .nil .nil) .nil)))))))))))) func98 ⟨⟨qd7, qd6, trivial⟩, trivial⟩
def qfC (s : List UInt8) (sep : List UInt8) : Option (List (List UInt8)) :=
 (qd8 s sep 0 (-1)).bind fun r =>
 some r
def qd9 : Fun :=
 ⟨67, 2, 1,
 ⟨r20_, [], []⟩,
 ⟨[(0, dd (.sl (.str)))], [], []⟩,
 fun x => qfC x.1 x.2⟩
theorem qf2 : FO qd9 := fi [] [qdc] 8 [] .nil func67 ⟨⟨qfb, trivial⟩, trivial⟩
def qie (s : List UInt8) (v : Int) : Option (Int ⊕ (Unit ⊕ Bool)) :=
 bif decide (v < (s.length : Int)) then (
 Option.bind (α := Bool) (
 gd (inB v s.length) <|
 bif decide ((Int.ofNat (s.getD v.toNat 0).toNat) < 33) then (
 some true)
 else (
 gd (inB v s.length) <|
 some (decide (126 < (Int.ofNat (s.getD v.toNat 0).toNat))))) fun s2 =>
 bif s2 then (
 some (.inr (.inr false)))
 else (
 some (.inl (wi64 (v + 1)))))
 else (
 some (.inr (.inl ())))
def qhC (s : List UInt8) : Option (Bool) :=
 (iter (fun x => qie s x) 0).bind fun s3 =>
 s3.elim (fun s4 =>
 some (!decide (s = [])))
 (fun s5 =>
 some s5)
def qfD : Fun :=
 ⟨99, 1, 1,
 ⟨[(0, ss)], [], []⟩,
 ⟨[(0, bb)], [], []⟩,
 fun x => qhC x⟩
theorem qif : FO qfD := fi [] [] 22 [] ((nn (mm (nn (mm (.mk [] (some (⟨[(0, kk), (5, kk), (6, ii)], [], []⟩, [⟨.x 0, ⟨[(0, kk)], [], []⟩⟩, ⟨.r, ⟨[(2, bb)], [], []⟩⟩])) (nn (nn (mm (mm (nn (mm (.mk [.join [⟨.n, ⟨[(0, kk), (5, kk), (6, kk), (18, bb)], [], []⟩⟩]] none .nil .nil) .nil)) .nil) .nil))) .nil) .nil)) .nil))) func99 ⟨trivial, trivial⟩
def qhi (l : List (List UInt8)) (v : Int) : Option (Int ⊕ (Unit ⊕ Bool)) :=
 bif decide (v < (l.length : Int)) then (
 gd (inB v l.length) <|
 (qhC (l.getD v.toNat [])).bind fun r =>
 bif !r then (
 some (.inr (.inr false)))
 else (
 some (.inl (wi64 (v + 1)))))
 else (
 some (.inr (.inl ())))
def qg8 (l : List (List UInt8)) : Option (Bool) :=
 Option.bind (α := Bool) (
 bif decide ((l.length : Int) < 1) then (
 some true)
 else (
 some (decide (16 < (l.length : Int))))) fun s =>
 bif s then (
 some false)
 else (
 (iter (fun x => qhi l x) 0).bind fun s2 =>
 s2.elim (fun s3 =>
 gd (inB 0 l.length) <|
 gd (inB 0 (l.getD 0 []).length) <|
 some (!decide ((Int.ofNat ((l.getD 0 []).getD 0 0).toNat) = 35)))
 (fun s4 =>
 some s4))
def qeU : Fun :=
 ⟨68, 1, 1,
 ⟨[(0, dd (.sl (.str)))], [], []⟩,
 ⟨[(0, bb)], [], []⟩,
 fun x => qg8 x⟩
theorem qhj : FO qeU := fi [] [qfD] 28 [] ((nn (mm (mm (.mk [.join [⟨.n, ⟨[(0, kk), (12, bb)], [], []⟩⟩]] none .nil .nil) .nil) (mm (nn (mm (.mk [] (some (⟨[(0, kk), (13, kk), (14, kk), (15, ii)], [], []⟩, [⟨.x 0, ⟨[(0, kk)], [], []⟩⟩, ⟨.r, ⟨[(2, bb)], [], []⟩⟩])) .nil .nil) .nil)) .nil)))) func68 ⟨⟨qif, trivial⟩, trivial⟩
def qhk (text2 : List UInt8) (out : List (List (List UInt8))) : Option ((List UInt8 × List (List (List UInt8))) ⊕ ((List (List (List UInt8))) ⊕ (List (List (List UInt8)) × Int))) :=
 bif !decide (text2 = []) then (
 (qg7 text2 [10]).bind fun r3 =>
 Option.bind (α := Bool × List (List (List UInt8))) (
 bif decide (r3.1 = []) then (
 some (true, out))
 else (
 gd (inB 0 r3.1.length) <|
 some (decide ((Int.ofNat (r3.1.getD 0 0).toNat) = 35), out))) fun s4 =>
 bif s4.1 then (
 gd (fits (s4.2.length + 1) 24) <|
 some (.inl (r3.2.1, s4.2 ++ [[]])))
 else (
 (qfC r3.1 [32]).bind fun r4 =>
 (qg8 r4).bind fun r5 =>
 bif !r5 then (
 some (.inr (.inr ([], 3))))
 else (
 gd (fits (s4.2.length + 1) 24) <|
 some (.inl (r3.2.1, s4.2 ++ [r4])))))
 else (
 some (.inr (.inl out)))
def qg9 (text : List UInt8) : Option (List (List (List UInt8)) × Int) :=
 (qdR text [10]).bind fun r =>
 Option.bind (α := Bool) (
 bif !decide (text = []) then (
 (qdF text [10]).bind fun r2 =>
 some (!r2))
 else (
 some false)) fun s =>
 Option.bind (α := Int) (
 bif s then (
 some (wi64 (r + 1)))
 else (
 some r)) fun s2 =>
 Option.bind (α := Bool) (
 bif decide (16384 < (text.length : Int)) then (
 some true)
 else (
 some (decide (400 < s2)))) fun s3 =>
 bif s3 then (
 some ([], 4))
 else (
 gd ((decide (0 ≤ 0) && decide (0 ≤ s2)) && makeG 24 s2) <|
 (iter (fun x => qhk x.1 x.2) (text, List.replicate 0 ([] : List (List UInt8)))).bind fun s5 =>
 s5.elim (fun s6 =>
 some (s6, 0))
 (fun s7 =>
 some (s7.1, s7.2)))
def qeV : Fun :=
 ⟨32, 1, 2,
 ⟨[(0, ss)], [], []⟩,
 ⟨[(0, dd (.sl (.sl (.str)))), (1, ii)], [], []⟩,
 fun x => qg9 x⟩
theorem qhl : FO qeV := fi [] [qcD, qcH, qeT, qd9, qeU] 59 [] ((nn (nn (mm (mm (.mk [.join [⟨.n, ⟨[(0, kk), (4, kk), (18, bb)], [], []⟩⟩]] none .nil .nil) (.mk [.join [⟨.n, ⟨[(0, kk), (4, ii)], [], []⟩⟩]] none .nil .nil)) (mm (mm (.mk [.join [⟨.n, ⟨[(0, kk), (4, kk), (27, bb)], [], []⟩⟩]] none .nil .nil) .nil) (nn (mm (mm (.mk [] (some (⟨[(0, ss), (5, ow 107)], [], a33_⟩, [⟨.x 0, ⟨[(5, ow 107)], [], a33_⟩⟩, ⟨.r, ⟨[(2, dd (.sl (.sl (.str)))), (3, ii)], [], []⟩⟩])) (nn (mm (nn (nn (mm (mm (.mk [.join [⟨.n, ⟨[(0, kk), (5, ow 107), (6, kk), (45, bb)], [], a33_⟩⟩]] none .nil .nil) .nil) .nil))) .nil)) .nil) .nil) .nil))))))) func32 ⟨⟨qd7, qeM, qhh, qf2, qhj, trivial⟩, trivial⟩
def qcc (v : List (List UInt8)) (n : List Int) (r : Int) (r2 : Int) (r3 : Int) (r4 : List UInt8) (r5 : List (List UInt8)) (r6 : List yT0) (r7 : yB2) (r8 : List yB0) : Option yB3 :=
 gd (inB 0 n.length) <|
 gd (inB 1 n.length) <|
 some (0, n.getD 0 0, n.getD 1 0, r3, r4, r5, r6, r7, r8)
def qbv : Fun :=
 ⟨100, 3, 1,
 ⟨r14_, v6_, a0_⟩,
 ⟨[(0, ii)], v7_, a2_⟩,
 fun x => qcc x.1 x.2.1 x.2.2.1 x.2.2.2.1 x.2.2.2.2.1 x.2.2.2.2.2.1 x.2.2.2.2.2.2.1 x.2.2.2.2.2.2.2.1 x.2.2.2.2.2.2.2.2.1 x.2.2.2.2.2.2.2.2.2⟩
theorem qdu : FO qbv := fi [] [] 21 [] .nil func100 ⟨trivial, trivial⟩
def qdd (w : List (List UInt8)) (v : List Int) (r : Int) (r2 : Int) (r3 : Int) (r4 : List UInt8) (r5 : List (List UInt8)) (r6 : List yT0) (r7 : yB2) (r8 : List yB0) : Option yB3 :=
 gd (inB 0 w.length) <|
 gd (fits (r5.length + 1) 16) <|
 some (0, r, r2, r3, r4, r5 ++ [w.getD 0 []], r6, r7, r8)
def qcd : Fun :=
 ⟨101, 3, 1,
 ⟨r14_, v6_, a0_⟩,
 ⟨[(0, ii)], v7_, a2_⟩,
 fun x => qdd x.1 x.2.1 x.2.2.1 x.2.2.2.1 x.2.2.2.2.1 x.2.2.2.2.2.1 x.2.2.2.2.2.2.1 x.2.2.2.2.2.2.2.1 x.2.2.2.2.2.2.2.2.1 x.2.2.2.2.2.2.2.2.2⟩
theorem qec : FO qcd := fi [] [] 21 [] .nil func101 ⟨trivial, trivial⟩
def qfX (n : yB1) (name : List UInt8) : Option (Int) :=
 (qak n.1 name).bind fun r =>
 some r
def qew : Fun :=
 ⟨21, 2, 1,
 ⟨[(0, dd (.pair (.sl (.str)) (.pair (.sl tT0) (.pair (.sl (.pair (.str) (.pair I6 I6))) (.pair (.sl tT1) (.pair I6 I6)))))), (1, ss)], [], []⟩,
 ⟨[(0, ii)], [], []⟩,
 fun x => qfX x.1 x.2⟩
theorem qha : FO qew := fi [] [qax] 9 [] .nil func21 ⟨⟨qaN, trivial⟩, trivial⟩
def qdS (s : List Int) (v : Int) (v2 : Int) : Option (Int ⊕ (Unit ⊕ Int)) :=
 bif decide (v2 < (s.length : Int)) then (
 gd (inB v2 s.length) <|
 bif decide (v = s.getD v2.toNat 0) then (
 some (.inr (.inr v2)))
 else (
 some (.inl (wi64 (v2 + 1)))))
 else (
 some (.inr (.inl ())))
def qcI (s : List Int) (v : Int) : Option (Int) :=
 (iter (fun x => qdS s v x) 0).bind fun s2 =>
 s2.elim (fun s3 =>
 some (-1))
 (fun s4 =>
 some s4)
def qb4 : Fun :=
 ⟨141, 2, 1,
 ⟨[(0, dd (.sl I6)), (1, ii)], [], []⟩,
 ⟨[(0, ii)], [], []⟩,
 fun x => qcI x.1 x.2⟩
theorem qdT : FO qb4 := fi [] [] 19 [] ((nn (mm (nn (mm (.mk [] (some (⟨r17_, [], []⟩, [⟨.x 0, ⟨[], [], []⟩⟩, ⟨.r, ⟨[(4, ii)], [], []⟩⟩])) .nil .nil) .nil)) .nil))) func141 ⟨trivial, trivial⟩
def qb5 (s : List Int) (v : Int) : Option (Bool) :=
 (qcI s v).bind fun r =>
 some (decide (0 ≤ r))
def qbp : Fun :=
 ⟨126, 2, 1,
 ⟨[(0, dd (.sl I6)), (1, ii)], [], []⟩,
 ⟨[(0, bb)], [], []⟩,
 fun x => qb5 x.1 x.2⟩
theorem qdj : FO qbp := fi [] [qb4] 9 [] .nil func126 ⟨⟨qdT, trivial⟩, trivial⟩
def qcQ (nodes : List Int) : Option (Int) :=
 (qb5 nodes (-1)).bind fun r =>
 bif r then (
 some 8)
 else (
 some 0)
def qbN : Fun :=
 ⟨114, 1, 1,
 ⟨[(0, dd (.sl I6))], [], []⟩,
 ⟨[(0, ii)], [], []⟩,
 fun x => qcQ x⟩
theorem qcE : FO qbN := fi [] [qbp] 5 [] .nil func114 ⟨⟨qdj, trivial⟩, trivial⟩
def qbw (n : List (List UInt8)) (name : List UInt8) : Option (Int) :=
 (qak n name).bind fun r =>
 some r
def qbo : Fun :=
 ⟨21, 2, 1,
 ⟨[(0, .agg [.data (.sl (.str)), .any, .any, .any, .any, .any]), (1, ss)], [], []⟩,
 ⟨[(0, ii)], [], []⟩,
 fun x => qbw x.1 x.2⟩
theorem qcl : FO qbo := fi [] [qax] 9 [] .nil func21 ⟨⟨qaN, trivial⟩, trivial⟩
def qce (w : List (List UInt8)) (n : List Int) (r : Int) (r2 : Int) (r3 : Int) (r4 : List UInt8) (r5 : List (List UInt8)) (r6 : List yT0) (r7 : yB2) (r8 : List yB0) : Option yB3 :=
 gd (inB 0 w.length) <|
 gd (inB 1 w.length) <|
 (qbw r5 (w.getD 1 [])).bind fun r9 =>
 gd (inB 2 w.length) <|
 (qbw r5 (w.getD 2 [])).bind fun r10 =>
 gd (inB 0 n.length) <|
 gd (inB 1 n.length) <|
 gd (inB 2 n.length) <|
 gd (fits (r6.length + 1) 80) <|
 (qcQ [r9, r10]).bind fun r11 =>
 some (r11, r, r2, r3, r4, r5, r6 ++ [(w.getD 0 [], (r9, (r10, (n.getD 0 0, (n.getD 1 0, (n.getD 2 0, []))))))], r7, r8)
def qbx : Fun :=
 ⟨102, 3, 1,
 ⟨r14_, v6_, a0_⟩,
 ⟨[(0, ii)], v7_, a2_⟩,
 fun x => qce x.1 x.2.1 x.2.2.1 x.2.2.2.1 x.2.2.2.2.1 x.2.2.2.2.2.1 x.2.2.2.2.2.2.1 x.2.2.2.2.2.2.2.1 x.2.2.2.2.2.2.2.2.1 x.2.2.2.2.2.2.2.2.2⟩
theorem qdv : FO qbx := fi [6000044, 68687590904794540] [qbo, qbN] 55 [] .nil func102 ⟨⟨qcl, qcE, trivial⟩, trivial⟩
def qcJ (v : List (List UInt8)) (n : List Int) (r : Int) (r2 : Int) (r3 : Int) (r4 : List UInt8) (r5 : List (List UInt8)) (r6 : List yT0) (r7 : yB2) (r8 : List yB0) : Option yB3 :=
 gd (inB (wi64 ((r6.length : Int) - 1)) r6.length) <|
 gd (inB 0 n.length) <|
 gd (inB 1 n.length) <|
 gd (inB 2 n.length) <|
 gd (fits ((((((((r6.getD ((wi64 ((r6.length : Int) - 1)).toNat) ([], (0, (0, (0, (0, (0, []))))))).2).2).2).2).2).2).length + 1) 24) <|
 gd (Nat.beq ((wi64 ((r6.length : Int) - 1)).toNat) ((wi64 ((r6.length : Int) - 1)).toNat)) <|
 some (0, r, r2, r3, r4, r5, r6.set ((wi64 ((r6.length : Int) - 1)).toNat) ((r6.getD ((wi64 ((r6.length : Int) - 1)).toNat) ([], (0, (0, (0, (0, (0, []))))))).1, (((r6.getD ((wi64 ((r6.length : Int) - 1)).toNat) ([], (0, (0, (0, (0, (0, []))))))).2).1, ((((r6.getD ((wi64 ((r6.length : Int) - 1)).toNat) ([], (0, (0, (0, (0, (0, []))))))).2).2).1, (((((r6.getD ((wi64 ((r6.length : Int) - 1)).toNat) ([], (0, (0, (0, (0, (0, []))))))).2).2).2).1, ((((((r6.getD ((wi64 ((r6.length : Int) - 1)).toNat) ([], (0, (0, (0, (0, (0, []))))))).2).2).2).2).1, (((((((r6.getD ((wi64 ((r6.length : Int) - 1)).toNat) ([], (0, (0, (0, (0, (0, []))))))).2).2).2).2).2).1, (((((((r6.getD ((wi64 ((r6.length : Int) - 1)).toNat) ([], (0, (0, (0, (0, (0, []))))))).2).2).2).2).2).2) ++ [(n.getD 0 0, (n.getD 1 0, n.getD 2 0))])))))), r7, r8)
def qb6 : Fun :=
 ⟨103, 3, 1,
 ⟨r14_, v6_, a0_⟩,
 ⟨[(0, ii)], v7_, a2_⟩,
 fun x => qcJ x.1 x.2.1 x.2.2.1 x.2.2.2.1 x.2.2.2.2.1 x.2.2.2.2.2.1 x.2.2.2.2.2.2.1 x.2.2.2.2.2.2.2.1 x.2.2.2.2.2.2.2.2.1 x.2.2.2.2.2.2.2.2.2⟩
theorem qdU : FO qb6 := fi [] [] 40 [] .nil func103 ⟨trivial, trivial⟩
def qde (w : List (List UInt8)) (n : List Int) (r : Int) (r2 : Int) (r3 : Int) (r4 : List UInt8) (r5 : List (List UInt8)) (r6 : List yT0) (r7 : yB2) (r8 : List yB0) : Option yB3 :=
 gd (inB 0 w.length) <|
 gd (inB 1 w.length) <|
 (qbw r5 (w.getD 1 [])).bind fun r9 =>
 gd (inB 0 n.length) <|
 gd (fits (r7.length + 1) 32) <|
 (qcQ [r9]).bind fun r10 =>
 some (r10, r, r2, r3, r4, r5, r6, r7 ++ [(w.getD 0 [], (r9, n.getD 0 0))], r8)
def qcf : Fun :=
 ⟨104, 3, 1,
 ⟨r14_, v6_, a0_⟩,
 ⟨[(0, ii)], v7_, a2_⟩,
 fun x => qde x.1 x.2.1 x.2.2.1 x.2.2.2.1 x.2.2.2.2.1 x.2.2.2.2.2.1 x.2.2.2.2.2.2.1 x.2.2.2.2.2.2.2.1 x.2.2.2.2.2.2.2.2.1 x.2.2.2.2.2.2.2.2.2⟩
theorem qed : FO qcf := fi [] [qbo, qbN] 39 [] .nil func104 ⟨⟨qcl, qcE, trivial⟩, trivial⟩
def qcg (w : List (List UInt8)) (n : List Int) (r : Int) (r2 : Int) (r3 : Int) (r4 : List UInt8) (r5 : List (List UInt8)) (r6 : List yT0) (r7 : yB2) (r8 : List yB0) : Option yB3 :=
 gd (inB 0 w.length) <|
 gd (inB 1 w.length) <|
 (qbw r5 (w.getD 1 [])).bind fun r9 =>
 gd (inB 0 n.length) <|
 gd (inB 1 n.length) <|
 gd (inB 2 n.length) <|
 gd (fits (r8.length + 1) 48) <|
 (qcQ [r9]).bind fun r10 =>
 some (r10, r, r2, r3, r4, r5, r6, r7, r8 ++ [(w.getD 0 [], (r9, (n.getD 0 0, (n.getD 1 0, n.getD 2 0))))])
def qby : Fun :=
 ⟨105, 3, 1,
 ⟨r14_, v6_, a0_⟩,
 ⟨[(0, ii)], v7_, a2_⟩,
 fun x => qcg x.1 x.2.1 x.2.2.1 x.2.2.2.1 x.2.2.2.2.1 x.2.2.2.2.2.1 x.2.2.2.2.2.2.1 x.2.2.2.2.2.2.2.1 x.2.2.2.2.2.2.2.2.1 x.2.2.2.2.2.2.2.2.2⟩
theorem qdw : FO qby := fi [] [qbo, qbN] 45 [] .nil func105 ⟨⟨qcl, qcE, trivial⟩, trivial⟩
def qah : List (List UInt8 × List Int × Nat) := [([110, 101, 116, 119, 111, 114, 107], [1, 2, 0], 100), ([110, 111, 100, 101], [2, 1, 1], 101), ([115, 101, 103, 109, 101, 110, 116], [3, 6, 3], 102), ([112, 111, 105, 110, 116], [3, 3, 0], 103), ([112, 111, 114, 116], [4, 3, 2], 104), ([115, 116, 97, 116, 105, 111, 110], [5, 5, 2], 105)]
def qeN (a0 : Int) (a1 : Int) (a2 : Int) (a3 : List UInt8) (a4 : List (List UInt8)) (a5 : List yT0) (a6 : yB2) (a7 : List yB0) : Option (Int × Int × Int × List UInt8 × List (List UInt8) × (List yT0) × yB2 × List yB0) := some (a0, a1, a2, a3, a4, a5, a6, a7)
noncomputable  def formCode : Code := f69.body.getD .skip
noncomputable  def formOps : Array Oper := qnA (seqL (seqR formCode))
set_option maxRecDepth 100000 in
theorem qm8 : qjS prog formOps 23 103 101 qah := ⟨by kernel_rfl, by decide, qnS (by kernel_rfl), ⟨(formOps.getD 0 oDum).type, (formOps.getD 0 oDum).pos, (formOps.getD 0 oDum).after, by kernel_rfl⟩, (by intro j q h; match j, h with | 0, h => have e : q = ([110, 101, 116, 119, 111, 114, 107], [1, 2, 0], 100) := (Option.some.inj h).symm; subst e; exact ⟨(formOps.getD 1 oDum).type, (formOps.getD 1 oDum).pos, (formOps.getD 1 oDum).after, by kernel_rfl⟩ | 1, h => have e : q = ([110, 111, 100, 101], [2, 1, 1], 101) := (Option.some.inj h).symm; subst e; exact ⟨(formOps.getD 5 oDum).type, (formOps.getD 5 oDum).pos, (formOps.getD 5 oDum).after, by kernel_rfl⟩ | 2, h => have e : q = ([115, 101, 103, 109, 101, 110, 116], [3, 6, 3], 102) := (Option.some.inj h).symm; subst e; exact ⟨(formOps.getD 9 oDum).type, (formOps.getD 9 oDum).pos, (formOps.getD 9 oDum).after, by kernel_rfl⟩ | 3, h => have e : q = ([112, 111, 105, 110, 116], [3, 3, 0], 103) := (Option.some.inj h).symm; subst e; exact ⟨(formOps.getD 13 oDum).type, (formOps.getD 13 oDum).pos, (formOps.getD 13 oDum).after, by kernel_rfl⟩ | 4, h => have e : q = ([112, 111, 114, 116], [4, 3, 2], 104) := (Option.some.inj h).symm; subst e; exact ⟨(formOps.getD 17 oDum).type, (formOps.getD 17 oDum).pos, (formOps.getD 17 oDum).after, by kernel_rfl⟩ | 5, h => have e : q = ([115, 116, 97, 116, 105, 111, 110], [5, 5, 2], 105) := (Option.some.inj h).symm; subst e; exact ⟨(formOps.getD 21 oDum).type, (formOps.getD 21 oDum).pos, (formOps.getD 21 oDum).after, by kernel_rfl⟩ | j + 6, h => cases h), (by intro j q h; match j, h with | 0, h => have e : q = ([110, 101, 116, 119, 111, 114, 107], [1, 2, 0], 100) := (Option.some.inj h).symm; subst e; exact ⟨(formOps.getD 2 oDum).type, (formOps.getD 2 oDum).pos, (formOps.getD 2 oDum).after, by kernel_rfl, qa5 (by kernel_rfl)⟩ | 1, h => have e : q = ([110, 111, 100, 101], [2, 1, 1], 101) := (Option.some.inj h).symm; subst e; exact ⟨(formOps.getD 6 oDum).type, (formOps.getD 6 oDum).pos, (formOps.getD 6 oDum).after, by kernel_rfl, qa5 (by kernel_rfl)⟩ | 2, h => have e : q = ([115, 101, 103, 109, 101, 110, 116], [3, 6, 3], 102) := (Option.some.inj h).symm; subst e; exact ⟨(formOps.getD 10 oDum).type, (formOps.getD 10 oDum).pos, (formOps.getD 10 oDum).after, by kernel_rfl, qa5 (by kernel_rfl)⟩ | 3, h => have e : q = ([112, 111, 105, 110, 116], [3, 3, 0], 103) := (Option.some.inj h).symm; subst e; exact ⟨(formOps.getD 14 oDum).type, (formOps.getD 14 oDum).pos, (formOps.getD 14 oDum).after, by kernel_rfl, qa5 (by kernel_rfl)⟩ | 4, h => have e : q = ([112, 111, 114, 116], [4, 3, 2], 104) := (Option.some.inj h).symm; subst e; exact ⟨(formOps.getD 18 oDum).type, (formOps.getD 18 oDum).pos, (formOps.getD 18 oDum).after, by kernel_rfl, qa5 (by kernel_rfl)⟩ | 5, h => have e : q = ([115, 116, 97, 116, 105, 111, 110], [5, 5, 2], 105) := (Option.some.inj h).symm; subst e; exact ⟨(formOps.getD 22 oDum).type, (formOps.getD 22 oDum).pos, (formOps.getD 22 oDum).after, by kernel_rfl, qa5 (by kernel_rfl)⟩ | j + 6, h => cases h), (by intro j q h; match j, h with | 0, h => have e : q = ([110, 101, 116, 119, 111, 114, 107], [1, 2, 0], 100) := (Option.some.inj h).symm; subst e; exact ⟨(formOps.getD 3 oDum).type, (formOps.getD 3 oDum).pos, (formOps.getD 3 oDum).after, _, (by kernel_rfl : formOps[3]? = some ⟨some 6, .build 101 #[(0, .const (.int .i64 1)), (1, .const (.int .i64 2)), (2, .const (.int .i64 0)), (3, .tmp 5)], (formOps.getD 3 oDum).type, (formOps.getD 3 oDum).pos, (formOps.getD 3 oDum).after, none⟩), qa5 (by kernel_rfl), fun a w g hh => qfM (i := ti101) qcN tk101 rfl rfl rfl a w g hh⟩ | 1, h => have e : q = ([110, 111, 100, 101], [2, 1, 1], 101) := (Option.some.inj h).symm; subst e; exact ⟨(formOps.getD 7 oDum).type, (formOps.getD 7 oDum).pos, (formOps.getD 7 oDum).after, _, (by kernel_rfl : formOps[7]? = some ⟨some 9, .build 101 #[(0, .const (.int .i64 2)), (1, .const (.int .i64 1)), (2, .const (.int .i64 1)), (3, .tmp 8)], (formOps.getD 7 oDum).type, (formOps.getD 7 oDum).pos, (formOps.getD 7 oDum).after, none⟩), qa5 (by kernel_rfl), fun a w g hh => qfM (i := ti101) qcN tk101 rfl rfl rfl a w g hh⟩ | 2, h => have e : q = ([115, 101, 103, 109, 101, 110, 116], [3, 6, 3], 102) := (Option.some.inj h).symm; subst e; exact ⟨(formOps.getD 11 oDum).type, (formOps.getD 11 oDum).pos, (formOps.getD 11 oDum).after, _, (by kernel_rfl : formOps[11]? = some ⟨some 12, .build 101 #[(0, .const (.int .i64 3)), (1, .const (.int .i64 6)), (2, .const (.int .i64 3)), (3, .tmp 11)], (formOps.getD 11 oDum).type, (formOps.getD 11 oDum).pos, (formOps.getD 11 oDum).after, none⟩), qa5 (by kernel_rfl), fun a w g hh => qfM (i := ti101) qcN tk101 rfl rfl rfl a w g hh⟩ | 3, h => have e : q = ([112, 111, 105, 110, 116], [3, 3, 0], 103) := (Option.some.inj h).symm; subst e; exact ⟨(formOps.getD 15 oDum).type, (formOps.getD 15 oDum).pos, (formOps.getD 15 oDum).after, _, (by kernel_rfl : formOps[15]? = some ⟨some 15, .build 101 #[(0, .const (.int .i64 3)), (1, .const (.int .i64 3)), (2, .const (.int .i64 0)), (3, .tmp 14)], (formOps.getD 15 oDum).type, (formOps.getD 15 oDum).pos, (formOps.getD 15 oDum).after, none⟩), qa5 (by kernel_rfl), fun a w g hh => qfM (i := ti101) qcN tk101 rfl rfl rfl a w g hh⟩ | 4, h => have e : q = ([112, 111, 114, 116], [4, 3, 2], 104) := (Option.some.inj h).symm; subst e; exact ⟨(formOps.getD 19 oDum).type, (formOps.getD 19 oDum).pos, (formOps.getD 19 oDum).after, _, (by kernel_rfl : formOps[19]? = some ⟨some 18, .build 101 #[(0, .const (.int .i64 4)), (1, .const (.int .i64 3)), (2, .const (.int .i64 2)), (3, .tmp 17)], (formOps.getD 19 oDum).type, (formOps.getD 19 oDum).pos, (formOps.getD 19 oDum).after, none⟩), qa5 (by kernel_rfl), fun a w g hh => qfM (i := ti101) qcN tk101 rfl rfl rfl a w g hh⟩ | 5, h => have e : q = ([115, 116, 97, 116, 105, 111, 110], [5, 5, 2], 105) := (Option.some.inj h).symm; subst e; exact ⟨(formOps.getD 23 oDum).type, (formOps.getD 23 oDum).pos, (formOps.getD 23 oDum).after, _, (by kernel_rfl : formOps[23]? = some ⟨some 21, .build 101 #[(0, .const (.int .i64 5)), (1, .const (.int .i64 5)), (2, .const (.int .i64 2)), (3, .tmp 20)], (formOps.getD 23 oDum).type, (formOps.getD 23 oDum).pos, (formOps.getD 23 oDum).after, none⟩), qa5 (by kernel_rfl), fun a w g hh => qfM (i := ti101) qcN tk101 rfl rfl rfl a w g hh⟩ | j + 6, h => cases h), (by intro j q h; match j, h with | 0, h => have e : q = ([110, 101, 116, 119, 111, 114, 107], [1, 2, 0], 100) := (Option.some.inj h).symm; subst e; exact ⟨(formOps.getD 4 oDum).type, (formOps.getD 4 oDum).pos, (formOps.getD 4 oDum).after, by kernel_rfl, qa5 (by kernel_rfl), qa5 (by kernel_rfl)⟩ | 1, h => have e : q = ([110, 111, 100, 101], [2, 1, 1], 101) := (Option.some.inj h).symm; subst e; exact ⟨(formOps.getD 8 oDum).type, (formOps.getD 8 oDum).pos, (formOps.getD 8 oDum).after, by kernel_rfl, qa5 (by kernel_rfl), qa5 (by kernel_rfl)⟩ | 2, h => have e : q = ([115, 101, 103, 109, 101, 110, 116], [3, 6, 3], 102) := (Option.some.inj h).symm; subst e; exact ⟨(formOps.getD 12 oDum).type, (formOps.getD 12 oDum).pos, (formOps.getD 12 oDum).after, by kernel_rfl, qa5 (by kernel_rfl), qa5 (by kernel_rfl)⟩ | 3, h => have e : q = ([112, 111, 105, 110, 116], [3, 3, 0], 103) := (Option.some.inj h).symm; subst e; exact ⟨(formOps.getD 16 oDum).type, (formOps.getD 16 oDum).pos, (formOps.getD 16 oDum).after, by kernel_rfl, qa5 (by kernel_rfl), qa5 (by kernel_rfl)⟩ | 4, h => have e : q = ([112, 111, 114, 116], [4, 3, 2], 104) := (Option.some.inj h).symm; subst e; exact ⟨(formOps.getD 20 oDum).type, (formOps.getD 20 oDum).pos, (formOps.getD 20 oDum).after, by kernel_rfl, qa5 (by kernel_rfl), qa5 (by kernel_rfl)⟩ | 5, h => have e : q = ([115, 116, 97, 116, 105, 111, 110], [5, 5, 2], 105) := (Option.some.inj h).symm; subst e; exact ⟨(formOps.getD 24 oDum).type, (formOps.getD 24 oDum).pos, (formOps.getD 24 oDum).after, by kernel_rfl, qa5 (by kernel_rfl), qa5 (by kernel_rfl)⟩ | j + 6, h => cases h), ⟨(formOps.getD 25 oDum).type, (formOps.getD 25 oDum).pos, (formOps.getD 25 oDum).after, by kernel_rfl, qa5 (by kernel_rfl)⟩, ⟨(formOps.getD 26 oDum).type, (formOps.getD 26 oDum).pos, (formOps.getD 26 oDum).after, by kernel_rfl, qa5 (by kernel_rfl)⟩⟩
def qb7 : Fun := qcx 69 [(0, 72, [.own 1, .own 2, .own 3, .own 4, .data I6, .data I6, .data I6, .data (.str)])] [(1, .arr 9 (.str)), (2, .nest 52 tT0 6 61), (3, .arr 47 (.pair (.str) (.pair I6 I6))), (4, .arr 55 tT1)] qah
set_option maxRecDepth 100000 in
theorem qdV : FO qb7 := qnR ⟨_, func69, (by kernel_rfl), rfl⟩ (qlb func69 (by kernel_rfl : f69.body = some (.seq (.region 0 #[((qnA (seqL formCode)).getD 0 oDum)] false) (.seq (.region 1 formOps false) .ret))) (by kernel_rfl) (by kernel_rfl) ⟨by kernel_rfl, by kernel_rfl, by kernel_rfl⟩ qm8 (by kernel_rfl) qcN tk9 (by kernel_rfl) rfl underlying103)
def qa9 (s : List UInt8) (vprefix : List UInt8) : Option (Bool) :=
 bif decide ((vprefix.length : Int) ≤ (s.length : Int)) then (
 gd (cutG none (some (.i64, (vprefix.length : Int))) s.length) <|
 some (decide (s.take (vprefix.length : Int).toNat = vprefix)))
 else (
 some false)
def qaZ : Fun :=
 ⟨127, 2, 1,
 ⟨r20_, [], []⟩,
 ⟨[(0, bb)], [], []⟩,
 fun x => qa9 x.1 x.2⟩
theorem qb8 : FO qaZ := fi [] [] 18 [] .nil func127 ⟨trivial, trivial⟩
def qa4 (s : List UInt8) (vprefix : List UInt8) : Option (List UInt8) :=
 (qa9 s vprefix).bind fun r =>
 bif r then (
 gd (cutG (some (.i64, (vprefix.length : Int))) none s.length) <|
 some (s.drop (vprefix.length : Int).toNat))
 else (
 some s)
def qaT : Fun :=
 ⟨115, 2, 1,
 ⟨r20_, [], []⟩,
 ⟨[(0, ss)], [], []⟩,
 fun x => qa4 x.1 x.2⟩
theorem qbT : FO qaT := fi [] [qaZ] 13 [] .nil func115 ⟨⟨qb8, trivial⟩, trivial⟩
def qds (s : List UInt8) (vprefix : List UInt8) : Option (List UInt8) :=
 (qa4 s vprefix).bind fun r =>
 some r
def qcu : Fun :=
 ⟨106, 2, 1,
 ⟨r20_, [], []⟩,
 ⟨[(0, ss)], [], []⟩,
 fun x => qds x.1 x.2⟩
theorem qex : FO qcu := fi [] [qaT] 8 [] .nil func106 ⟨⟨qbT, trivial⟩, trivial⟩
def qey : Fun := qmA 107
theorem qhb : FO qey := qnQ ⟨_, func107, (by kernel_rfl), rfl⟩ strconv_Atoi_ok strconv_Atoi_syn strconv_Atoi_range (by unfold globs; exact .head _) (by unfold globs; exact .tail _ (.head _))
def qhc (r : List UInt8) (v : Int) : Option (Int ⊕ (Unit ⊕ (Int × Int))) :=
 bif decide (v < (r.length : Int)) then (
 Option.bind (α := Bool) (
 gd (inB v r.length) <|
 bif decide ((Int.ofNat (r.getD v.toNat 0).toNat) < 48) then (
 some true)
 else (
 gd (inB v r.length) <|
 some (decide (57 < (Int.ofNat (r.getD v.toNat 0).toNat))))) fun s3 =>
 bif s3 then (
 some (.inr (.inr (0, 3))))
 else (
 some (.inl (wi64 (v + 1)))))
 else (
 some (.inr (.inl ())))
def qfY (s : List UInt8) : Option (Int × Int) :=
 (qds s [45]).bind fun r =>
 Option.bind (α := Bool) (
 bif decide (r = []) then (
 some true)
 else (
 gd (inB 0 r.length) <|
 bif decide ((Int.ofNat (r.getD 0 0).toNat) = 48) then (
 some (!decide (s = [48])))
 else (
 some false))) fun s2 =>
 bif s2 then (
 some (0, 3))
 else (
 (iter (fun x => qhc r x) 0).bind fun s4 =>
 s4.elim (fun s5 =>
 (atoiT s).bind fun r2 =>
 Option.bind (α := Bool) (
 bif r2.2 then (
 some true)
 else (
 bif decide (r2.1 < (-9007199254740992)) then (
 some true)
 else (
 some (decide (9007199254740992 < r2.1))))) fun s7 =>
 bif s7 then (
 some (0, 1))
 else (
 some (r2.1, 0)))
 (fun s6 =>
 some (s6.1, s6.2)))
def qez : Fun :=
 ⟨70, 1, 2,
 ⟨[(0, ss)], [], []⟩,
 ⟨[(0, ii), (1, ii)], [], []⟩,
 fun x => qfY x⟩
theorem qhd : FO qez := fi [] [qcu, qey] 53 [] ((nn (nn (mm (mm (.mk [.join [⟨.n, ⟨[(0, kk), (4, kk), (20, bb)], [], []⟩⟩]] none .nil .nil) .nil) (mm (nn (mm (.mk [] (some (⟨[(0, kk), (4, kk), (22, kk), (23, ii)], [], []⟩, [⟨.x 0, ⟨[(0, kk)], [], []⟩⟩, ⟨.r, ⟨[(2, ii), (3, ii)], [], []⟩⟩])) (nn (nn (mm (mm (nn (mm (.mk [.join [⟨.n, ⟨[(0, kk), (4, kk), (22, kk), (23, kk), (35, bb)], [], []⟩⟩]] none .nil .nil) .nil)) .nil) .nil))) .nil) .nil)) (nn (mm (mm (.mk [.join [⟨.n, ⟨[(6, kk), (51, bb)], [], []⟩⟩]] none .nil .nil) .nil) .nil))))))) func70 ⟨⟨qex, qhb, trivial⟩, trivial⟩
def qee (w : List (List UInt8)) (v : Int) (f : Nat) (n : List Int) (r10 : List (List UInt8)) (r11 : List yT0) (r12 : yB2) (r13 : List yB0) : Option ((Int × Nat × List Int × List (List UInt8) × (List yT0) × yB2 × List yB0) ⊕ ((Nat × List Int × List (List UInt8) × (List yT0) × yB2 × List yB0) ⊕ (Int × List (List UInt8) × (List yT0) × yB2 × List yB0))) :=
 bif decide (v < ((w.drop (wi64 (1 + (dispN qah 2 (qaK qah (w.getD 0 []))))).toNat).length : Int)) then (
 gd (inB v (w.drop (wi64 (1 + (dispN qah 2 (qaK qah (w.getD 0 []))))).toNat).length) <|
 (qfY ((w.drop (wi64 (1 + (dispN qah 2 (qaK qah (w.getD 0 []))))).toNat).getD v.toNat [])).bind fun r14 =>
 bif !decide (r14.2 = 0) then (
 some (.inr (.inr (3, r10, r11, r12, r13))))
 else (
 gd (fits (n.length + 1) 8) <|
 some (.inl (wi64 (v + 1), f, n ++ [r14.1], r10, r11, r12, r13))))
 else (
 some (.inr (.inl (f, n, r10, r11, r12, r13))))
def qdf (w : List (List UInt8)) (r : Int) (r2 : Int) (r3 : Int) (r4 : List UInt8) (r5 : List (List UInt8)) (r6 : List yT0) (r7 : yB2) (r8 : List yB0) : Option yB3 :=
 (qeN r r2 r3 r4 r5 r6 r7 r8).bind fun r9 =>
 gd (inB 0 w.length) <|
 Option.bind (α := Bool × Nat × List (List UInt8) × (List yT0) × yB2 × List yB0) (
 bif !(!Nat.beq (qaK qah (w.getD 0 [])) 0) then (
 some (true, qaK qah (w.getD 0 []), r9.2.2.2.2.1, r9.2.2.2.2.2.1, r9.2.2.2.2.2.2.1, r9.2.2.2.2.2.2.2))
 else (
 some ((!decide ((w.length : Int) = wi64 ((dispN qah 1 (qaK qah (w.getD 0 []))) + 1))), qaK qah (w.getD 0 []), r9.2.2.2.2.1, r9.2.2.2.2.2.1, r9.2.2.2.2.2.2.1, r9.2.2.2.2.2.2.2))) fun s =>
 bif s.1 then (
 some (3, r9.1, r9.2.1, r9.2.2.1, r9.2.2.2.1, s.2.2.1, s.2.2.2.1, s.2.2.2.2.1, s.2.2.2.2.2))
 else (
 gd (cutG (some (.i64, wi64 (1 + (dispN qah 2 (qaK qah (w.getD 0 [])))))) none w.length) <|
 (iter (fun x => qee w x.1 x.2.1 x.2.2.1 x.2.2.2.1 x.2.2.2.2.1 x.2.2.2.2.2.1 x.2.2.2.2.2.2) (0, s.2.1, [], s.2.2.1, s.2.2.2.1, s.2.2.2.2.1, s.2.2.2.2.2)).bind fun s2 =>
 s2.elim (fun s3 =>
 Option.bind (α := Bool × Nat × List Int × List (List UInt8) × (List yT0) × yB2 × List yB0) (
 bif !(decide (r9.2.2.1 = 0) == decide (dispN qah 0 (qaK qah (w.getD 0 [])) = 1)) then (
 some (true, s3.1, s3.2.1, s3.2.2.1, s3.2.2.2.1, s3.2.2.2.2.1, s3.2.2.2.2.2))
 else (
 bif decide (dispN qah 0 (qaK qah (w.getD 0 [])) < r9.2.2.1) then (
 some (true, s3.1, s3.2.1, s3.2.2.1, s3.2.2.2.1, s3.2.2.2.2.1, s3.2.2.2.2.2))
 else (
 gd (inB 0 w.length) <|
 bif decide (w.getD 0 [] = [112, 111, 105, 110, 116]) then (
 bif !decide (r9.2.2.2.1 = [115, 101, 103, 109, 101, 110, 116]) then (
 some ((!decide (r9.2.2.2.1 = [112, 111, 105, 110, 116])), s3.1, s3.2.1, s3.2.2.1, s3.2.2.2.1, s3.2.2.2.2.1, s3.2.2.2.2.2))
 else (
 some (false, s3.1, s3.2.1, s3.2.2.1, s3.2.2.2.1, s3.2.2.2.2.1, s3.2.2.2.2.2)))
 else (
 some (false, s3.1, s3.2.1, s3.2.2.1, s3.2.2.2.1, s3.2.2.2.2.1, s3.2.2.2.2.2))))) fun s5 =>
 bif s5.1 then (
 some (6, r9.1, r9.2.1, r9.2.2.1, r9.2.2.2.1, s5.2.2.2.1, s5.2.2.2.2.1, s5.2.2.2.2.2.1, s5.2.2.2.2.2.2))
 else (
 gd (inB 0 w.length) <|
 gd (inR 1 (wi64 (1 + (dispN qah 2 (qaK qah (w.getD 0 []))))) w.length) <|
 bif decide (s5.2.1 = 1) then (
 (qcc ((w.take (wi64 (1 + (dispN qah 2 (qaK qah (w.getD 0 []))))).toNat).drop 1) s5.2.2.1 r9.1 r9.2.1 (dispN qah 0 (qaK qah (w.getD 0 []))) (w.getD 0 []) s5.2.2.2.1 s5.2.2.2.2.1 s5.2.2.2.2.2.1 s5.2.2.2.2.2.2).bind fun r15 =>
 some (r15.1, r15.2.1, r15.2.2.1, r15.2.2.2.1, r15.2.2.2.2.1, r15.2.2.2.2.2.1, r15.2.2.2.2.2.2.1, r15.2.2.2.2.2.2.2.1, r15.2.2.2.2.2.2.2.2))
 else (
 bif decide (s5.2.1 = 2) then (
 (qdd ((w.take (wi64 (1 + (dispN qah 2 (qaK qah (w.getD 0 []))))).toNat).drop 1) s5.2.2.1 r9.1 r9.2.1 (dispN qah 0 (qaK qah (w.getD 0 []))) (w.getD 0 []) s5.2.2.2.1 s5.2.2.2.2.1 s5.2.2.2.2.2.1 s5.2.2.2.2.2.2).bind fun r16 =>
 some (r16.1, r16.2.1, r16.2.2.1, r16.2.2.2.1, r16.2.2.2.2.1, r16.2.2.2.2.2.1, r16.2.2.2.2.2.2.1, r16.2.2.2.2.2.2.2.1, r16.2.2.2.2.2.2.2.2))
 else (
 bif decide (s5.2.1 = 3) then (
 (qce ((w.take (wi64 (1 + (dispN qah 2 (qaK qah (w.getD 0 []))))).toNat).drop 1) s5.2.2.1 r9.1 r9.2.1 (dispN qah 0 (qaK qah (w.getD 0 []))) (w.getD 0 []) s5.2.2.2.1 s5.2.2.2.2.1 s5.2.2.2.2.2.1 s5.2.2.2.2.2.2).bind fun r17 =>
 some (r17.1, r17.2.1, r17.2.2.1, r17.2.2.2.1, r17.2.2.2.2.1, r17.2.2.2.2.2.1, r17.2.2.2.2.2.2.1, r17.2.2.2.2.2.2.2.1, r17.2.2.2.2.2.2.2.2))
 else (
 bif decide (s5.2.1 = 4) then (
 (qcJ ((w.take (wi64 (1 + (dispN qah 2 (qaK qah (w.getD 0 []))))).toNat).drop 1) s5.2.2.1 r9.1 r9.2.1 (dispN qah 0 (qaK qah (w.getD 0 []))) (w.getD 0 []) s5.2.2.2.1 s5.2.2.2.2.1 s5.2.2.2.2.2.1 s5.2.2.2.2.2.2).bind fun r18 =>
 some (r18.1, r18.2.1, r18.2.2.1, r18.2.2.2.1, r18.2.2.2.2.1, r18.2.2.2.2.2.1, r18.2.2.2.2.2.2.1, r18.2.2.2.2.2.2.2.1, r18.2.2.2.2.2.2.2.2))
 else (
 bif decide (s5.2.1 = 5) then (
 (qde ((w.take (wi64 (1 + (dispN qah 2 (qaK qah (w.getD 0 []))))).toNat).drop 1) s5.2.2.1 r9.1 r9.2.1 (dispN qah 0 (qaK qah (w.getD 0 []))) (w.getD 0 []) s5.2.2.2.1 s5.2.2.2.2.1 s5.2.2.2.2.2.1 s5.2.2.2.2.2.2).bind fun r19 =>
 some (r19.1, r19.2.1, r19.2.2.1, r19.2.2.2.1, r19.2.2.2.2.1, r19.2.2.2.2.2.1, r19.2.2.2.2.2.2.1, r19.2.2.2.2.2.2.2.1, r19.2.2.2.2.2.2.2.2))
 else (
 bif decide (s5.2.1 = 6) then (
 (qcg ((w.take (wi64 (1 + (dispN qah 2 (qaK qah (w.getD 0 []))))).toNat).drop 1) s5.2.2.1 r9.1 r9.2.1 (dispN qah 0 (qaK qah (w.getD 0 []))) (w.getD 0 []) s5.2.2.2.1 s5.2.2.2.2.1 s5.2.2.2.2.2.1 s5.2.2.2.2.2.2).bind fun r20 =>
 some (r20.1, r20.2.1, r20.2.2.1, r20.2.2.2.1, r20.2.2.2.2.1, r20.2.2.2.2.2.1, r20.2.2.2.2.2.2.1, r20.2.2.2.2.2.2.2.1, r20.2.2.2.2.2.2.2.2))
 else (
 none))))))))
 (fun s4 =>
 some (s4.1, r9.1, r9.2.1, r9.2.2.1, r9.2.2.2.1, s4.2.1, s4.2.2.1, s4.2.2.2.1, s4.2.2.2.2)))
def qch : Fun :=
 ⟨33, 2, 1,
 ⟨[(0, pt 0 0), (1, dd (.sl (.str)))], v6_, a0_⟩,
 ⟨[(0, ii)], v7_, a2_⟩,
 fun x => qdf x.1 x.2.1 x.2.2.1 x.2.2.2.1 x.2.2.2.2.1 x.2.2.2.2.2.1 x.2.2.2.2.2.2.1 x.2.2.2.2.2.2.2.1 x.2.2.2.2.2.2.2.2⟩
theorem qef : FO qch := fi [4000112] [qb7, qez, qbv, qcd, qbx, qb6, qcf, qby] 113 [] ((nn (nn (mm (mm (.mk [.join [⟨.n, ⟨[(0, pt 0 0), (1, kk), (5, pt 96 0), (31, bb)], v8_, a0_⟩⟩]] none .nil .nil) .nil) (nn (mm (nn (mm (.mk [] (some (⟨[(0, pt 0 0), (1, kk), (5, pt 96 0), (7, ow 139), (36, kk), (37, kk), (38, ii)], v8_, a11_⟩, [⟨.x 0, ⟨[(0, pt 0 0), (1, kk), (5, pt 96 0), (7, ow 139)], v8_, a11_⟩⟩, ⟨.r, ⟨[(4, ii)], [(0, 72, [.own 1, .own 2, .own 3, .own 4, .keep, .keep, .keep, .keep])], a0_⟩⟩])) .nil .nil) .nil)) (nn (mm (mm (.mk [.join [⟨.n, ⟨[(0, pt 0 0), (1, kk), (5, pt 96 0), (7, ow 139), (92, bb)], v8_, a11_⟩⟩]] none .nil .nil) .nil) (nn (mm (.mk [.fz [7]] none .nil .nil) .nil)))))))))) func33 ⟨⟨qdV, qhd, qdu, qec, qdv, qdU, qed, qdw, trivial⟩, trivial⟩
def qf3 (r : List (List (List UInt8)) × Int) (v : Int) (v2 : List (List UInt8)) (v3 : List yT0) (v4 : yB2) (v5 : List yB0) (v6 : Int) (v7 : Int) (r2 : Int) (r3 : Int) (r4 : Int) (r5 : List UInt8) (r6 : List (List UInt8)) (r7 : List yT0) (r8 : yB2) (r9 : List yB0) : Option ((Int × List (List UInt8) × (List yT0) × yB2 × (List yB0) × Int × Int × Int × Int × Int × List UInt8 × List (List UInt8) × (List yT0) × yB2 × List yB0) ⊕ ((List (List UInt8) × (List yT0) × yB2 × (List yB0) × Int × Int × Int × Int × Int × List UInt8 × List (List UInt8) × (List yT0) × yB2 × List yB0) ⊕ (Int × Int × List (List UInt8) × (List yT0) × yB2 × (List yB0) × Int × Int))) :=
 bif decide (v < (r.1.length : Int)) then (
 Option.bind (α := (List (List UInt8) × (List yT0) × yB2 × (List yB0) × Int × Int × Int × Int × Int × List UInt8 × List (List UInt8) × (List yT0) × yB2 × List yB0) ⊕ (Int × Int × List (List UInt8) × (List yT0) × yB2 × (List yB0) × Int × Int)) (
 gd (inB v r.1.length) <|
 bif decide (((r.1.getD v.toNat []).length : Int) = 0) then (
 some (.inl (v2, v3, v4, v5, v6, v7, r2, r3, r4, r5, r6, r7, r8, r9)))
 else (
 (qdf (r.1.getD v.toNat []) r2 r3 r4 r5 r6 r7 r8 r9).bind fun r10 =>
 bif !decide (r10.1 = 0) then (
 some (.inr (wi64 (v + 1), r10.1, [], [], [], [], 0, 0)))
 else (
 some (.inl (v2, v3, v4, v5, v6, v7, r10.2.1, r10.2.2.1, r10.2.2.2.1, r10.2.2.2.2.1, r10.2.2.2.2.2.1, r10.2.2.2.2.2.2.1, r10.2.2.2.2.2.2.2.1, r10.2.2.2.2.2.2.2.2))))) fun s =>
 s.elim (fun s2 =>
 some (.inl (wi64 (v + 1), s2.1, s2.2.1, s2.2.2.1, s2.2.2.2.1, s2.2.2.2.2.1, s2.2.2.2.2.2.1, s2.2.2.2.2.2.2.1, s2.2.2.2.2.2.2.2.1, s2.2.2.2.2.2.2.2.2.1, s2.2.2.2.2.2.2.2.2.2.1, s2.2.2.2.2.2.2.2.2.2.2.1, s2.2.2.2.2.2.2.2.2.2.2.2.1, s2.2.2.2.2.2.2.2.2.2.2.2.2.1, s2.2.2.2.2.2.2.2.2.2.2.2.2.2)))
 (fun s3 =>
 some (.inr (.inr (s3.1, s3.2.1, s3.2.2.1, s3.2.2.2.1, s3.2.2.2.2.1, s3.2.2.2.2.2.1, s3.2.2.2.2.2.2.1, s3.2.2.2.2.2.2.2)))))
 else (
 some (.inr (.inl (v2, v3, v4, v5, v6, v7, r2, r3, r4, r5, r6, r7, r8, r9))))
def qdW (text : List UInt8) : Option (yB1 × Int × Int) :=
 (qg9 text).bind fun r =>
 bif !decide (r.2 = 0) then (
 some (([], ([], ([], ([], (0, 0))))), 0, r.2))
 else (
 (iter (fun x => qf3 r x.1 x.2.1 x.2.2.1 x.2.2.2.1 x.2.2.2.2.1 x.2.2.2.2.2.1 x.2.2.2.2.2.2.1 x.2.2.2.2.2.2.2.1 x.2.2.2.2.2.2.2.2.1 x.2.2.2.2.2.2.2.2.2.1 x.2.2.2.2.2.2.2.2.2.2.1 x.2.2.2.2.2.2.2.2.2.2.2.1 x.2.2.2.2.2.2.2.2.2.2.2.2.1 x.2.2.2.2.2.2.2.2.2.2.2.2.2.1 x.2.2.2.2.2.2.2.2.2.2.2.2.2.2) (0, [], [], [], [], 0, 0, 0, 0, 0, [], [], [], [], [])).bind fun s4 =>
 s4.elim (fun s5 =>
 bif decide (s5.2.2.2.2.2.2.2.2.1 = 0) then (
 some (([], ([], ([], ([], (0, 0))))), 0, 3))
 else (
 (qbn (s5.2.2.2.2.2.2.2.2.2.2.1, (s5.2.2.2.2.2.2.2.2.2.2.2.1, (s5.2.2.2.2.2.2.2.2.2.2.2.2.1, (s5.2.2.2.2.2.2.2.2.2.2.2.2.2, (s5.2.2.2.2.2.2.1, s5.2.2.2.2.2.2.2.1)))))).bind fun r11 =>
 bif !decide (r11 = 0) then (
 some (([], ([], ([], ([], (0, 0))))), 0, r11))
 else (
 some ((s5.2.2.2.2.2.2.2.2.2.2.1, (s5.2.2.2.2.2.2.2.2.2.2.2.1, (s5.2.2.2.2.2.2.2.2.2.2.2.2.1, (s5.2.2.2.2.2.2.2.2.2.2.2.2.2, (s5.2.2.2.2.2.2.1, s5.2.2.2.2.2.2.2.1))))), 0, 0))))
 (fun s6 =>
 some ((s6.2.2.1, (s6.2.2.2.1, (s6.2.2.2.2.1, (s6.2.2.2.2.2.1, (s6.2.2.2.2.2.2.1, s6.2.2.2.2.2.2.2))))), s6.1, s6.2.1)))
def qea : Fun :=
 ⟨15, 1, 3,
 ⟨[(0, ss)], [], []⟩,
 ⟨[(0, dd (.pair (.sl (.str)) (.pair (.sl tT0) (.pair (.sl (.pair (.str) (.pair I6 I6))) (.pair (.sl tT1) (.pair I6 I6)))))), (1, ii), (2, ii)], [], []⟩,
 fun x => qdW x⟩
theorem qf4 : FO qea := fi [7000053] [qeV, qch, qcB] 62 [] ((nn (nn (nn (nn (mm (nn (mm (.mk [] (some (⟨[(2, pt 48 0), (7, pt 368 0), (23, kk), (24, kk), (25, ii)], v3_, a13_⟩, [⟨.x 0, ⟨[(2, pt 48 0), (7, pt 368 0)], v3_, a13_⟩⟩, ⟨.r, ⟨[(2, pt 48 0), (3, ii), (4, ii)], v16_, []⟩⟩])) (nn (nn (mm (.mk [.join [⟨.n, ⟨[(2, pt 48 0), (7, pt 368 0), (23, kk), (24, kk), (25, kk)], v3_, a13_⟩⟩, ⟨.r, ⟨[(2, pt 48 0), (3, ii), (4, ii)], v16_, []⟩⟩]] none .nil .nil) .nil))) .nil) .nil)) .nil)))))) func15 ⟨⟨qhl, qef, qd5, trivial⟩, trivial⟩
def qfc : Option (Bool) :=
 (qhB).bind fun r =>
 (qdW r).bind fun r2 =>
 (qdW [110, 111, 100, 101, 32, 97]).bind fun r3 =>
 bif decide (r2.2.2 = 0) then (
 bif decide (r2.2.1 = 0) then (
 bif decide ((r2.1.1.length : Int) = 2) then (
 bif decide ((r2.1.2.1.length : Int) = 1) then (
 gd (inB 0 r2.1.2.1.length) <|
 bif decide (((((r2.1.2.1.getD 0 ([], (0, (0, (0, (0, (0, []))))))).2).2).2).1 = 100) then (
 bif decide ((r2.1.2.2.2.1.length : Int) = 1) then (
 gd (inB 0 r2.1.2.2.2.1.length) <|
 bif decide (((((r2.1.2.2.2.1.getD 0 ([], (0, (0, (0, 0))))).2).2).2).1 = 200) then (
 (qfX (r2.1.1, (r2.1.2.1, (r2.1.2.2.1, (r2.1.2.2.2.1, (r2.1.2.2.2.2.1, r2.1.2.2.2.2.2))))) [98]).bind fun r4 =>
 bif decide (r4 = 1) then (
 bif decide (r3.2.1 = 1) then (
 some (decide (r3.2.2 = 6)))
 else (
 some false))
 else (
 some false))
 else (
 some false))
 else (
 some false))
 else (
 some false))
 else (
 some false))
 else (
 some false))
 else (
 some false))
 else (
 some false)
def qeW : Fun :=
 ⟨7, 0, 1,
 ⟨[], [], []⟩,
 ⟨[(0, bb)], [], []⟩,
 fun x => qfc⟩
theorem qhm : FO qeW := fi [] [qfB, qea, qew] 71 [] .nil func7 ⟨⟨qid, qf4, qha, trivial⟩, trivial⟩
def qb9 (l : List Int) (i : Int) (k : Int) : Option (Bool) :=
 (qge l).bind fun r =>
 (qbz r.1 r.2).bind fun r2 =>
 gd (!decide ((r2.1.1.length : Int) = 0)) <|
 gd (!decide ((r2.1.1.length : Int) = 0)) <|
 gd (fits (0 + r2.1.1.length) 16) <|
 gd (fits (0 + r2.1.1.length) 16) <|
 gd (inB (Int.tmod (wi64 k) (r2.1.1.length : Int)) r2.1.1.length) <|
 gd (inB (Int.tmod (wi64 i) (r2.1.1.length : Int)) ([] ++ r2.1.1).length) <|
 gd (inB (Int.tmod (wi64 i) (r2.1.1.length : Int)) ([] ++ r2.1.1).length) <|
 Option.bind (α := Int × List (List UInt8) × List (List UInt8)) (
 bif decide (Int.tmod (wi64 i) (r2.1.1.length : Int) = Int.tmod (wi64 k) (r2.1.1.length : Int)) then (
 some (0, ([] ++ r2.1.1).set ((Int.tmod (wi64 i) (r2.1.1.length : Int)).toNat) [102, 114, 101, 101, 45, 110, 97, 109, 101], ([] ++ r2.1.1).set ((Int.tmod (wi64 i) (r2.1.1.length : Int)).toNat) (r2.1.1.getD (Int.tmod (wi64 k) (r2.1.1.length : Int)).toNat [])))
 else (
 some (7, ([] ++ r2.1.1).set ((Int.tmod (wi64 i) (r2.1.1.length : Int)).toNat) [102, 114, 101, 101, 45, 110, 97, 109, 101], ([] ++ r2.1.1).set ((Int.tmod (wi64 i) (r2.1.1.length : Int)).toNat) (r2.1.1.getD (Int.tmod (wi64 k) (r2.1.1.length : Int)).toNat [])))) fun s =>
 (qbn (s.2.1, (r2.1.2.1, (r2.1.2.2.1, (r2.1.2.2.2.1, (r2.1.2.2.2.2.1, r2.1.2.2.2.2.2)))))).bind fun r3 =>
 bif decide (r3 = 0) then (
 (qbn (s.2.2, (r2.1.2.1, (r2.1.2.2.1, (r2.1.2.2.2.1, (r2.1.2.2.2.2.1, r2.1.2.2.2.2.2)))))).bind fun r4 =>
 bif decide (r4 = s.1) then (
 (qfc).bind fun r5 =>
 some r5)
 else (
 some false))
 else (
 some false)
def qcv : Fun :=
 ⟨4, 3, 1,
 ⟨[(0, dd (.sl I6)), (1, dd (.int .u8)), (2, dd (.int .u8))], [], []⟩,
 ⟨[(0, bb)], [], []⟩,
 fun x => qb9 x.1 x.2.1 x.2.2⟩
theorem qeA : FO qcv := fi [30, 34] [qg3, qc4, qcB, qeW] 68 [] ((nn (nn (nn (nn (nn (nn (nn (mm (nn (.mk [.join [⟨.n, ⟨[(8, pt 144 0), (9, pt 160 0), (12, ii)], [(144, 34, [.own 544, .keep, .keep, .keep, .keep, .keep]), (160, 34, [.own 608, .keep, .keep, .keep, .keep, .keep])], [(544, .arr 9 (.str)), (608, .arr 9 (.str))]⟩⟩]] none .nil .nil)) .nil))))))))) func4 ⟨⟨qjT, qe5, qd5, qhm, trivial⟩, trivial⟩
end
end Go.Proofs.YtpgigbdefbeagaaGreatDoor
