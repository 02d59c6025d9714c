/- Functions, evaluated. No condition. -/
import Derived.Test.YtpgigbdefbeagaaGreatDoorProg
import Derived.Test.YtpgigbdefbeagaaGreatDoorSqDI
import Derived.Test.YtpgigbdefbeagaaGreatDoorLx
import Derived.Test.YtpgigbdefbeagaaGreatDoorLc
namespace Go.Proofs.YtpgigbdefbeagaaGreatDoor
open Go Go.Sq
open Go.Proofs.Tryz
noncomputable section
abbrev I6 : Ty := .int .i64
abbrev dd (τ : Ty) : Sh := .one (.data τ)
abbrev pt (b o : Nat) : Sh := .one (.ptr b o)
abbrev ow (b : Nat) : Sh := .one (.own b)
abbrev FO (e : Fun) : Prop := FunOk Tryz.prog e
abbrev yT0 : Type := List UInt8 × Int × Int × Int × Int × Int × List (Int × Int × Int)
abbrev tT0 : Ty := .pair (.str) (.pair I6 (.pair I6 (.pair I6 (.pair I6 (.pair I6 (.sl (.pair I6 (.pair I6 I6))))))))
abbrev tT1 : Ty := .pair (.str) (.pair I6 (.pair I6 (.pair I6 I6)))
abbrev tT2 : Ty := .pair (.str) (.pair I6 I6)
abbrev yB0 : Type := List (List UInt8) × List yT0 × List (List UInt8 × Int × Int) × List (List UInt8 × Int × Int × Int × Int) × Int × Int
abbrev yB1 : Type := List UInt8 × Int × Int × Int × Int
abbrev yB2 : Type := List (List UInt8 × Int × Int)
abbrev yB3 : Type := Int × Int × List (List UInt8) × (List yT0) × yB2 × (List yB1) × Int × Int
abbrev yB4 : Type := Int × Int × Int × Int × List UInt8 × List (List UInt8) × (List yT0) × yB2 × List yB1
abbrev yB5 : Type := List (List UInt8) × List (List UInt8) × List (List UInt8) × List (List UInt8)
abbrev yB6 : Type := List UInt8 × Int × Int × Int × Int × Int × List (Int × Int × Int)
abbrev yB7 : Type := Int × Int × List (List UInt8) × (List yT0) × yB2 × List yB1
abbrev fd (n : String) (t o : Nat) (p : String) (b : Nat) : Field := { name := n, type := t, offset := o, embedded := false, tag := "", pkgPath := p, byteOffset := b }
def ti3 : TI := ⟨3, .int .i64, 1, 8, .int .i64 0, .int .i64, false⟩
theorem tk3 : ti3.ok prog := ⟨underlying3, by kernel_rfl, fun h => by cases h⟩
def ti4 : TI := ⟨4, .bool, 1, 1, .bool false, .bool, false⟩
theorem tk4 : ti4.ok prog := ⟨underlying4, by kernel_rfl, fun h => by cases h⟩
def ti5 : TI := ⟨5, .int .u8, 1, 1, .int .u8 0, .int .u8, false⟩
theorem tk5 : ti5.ok prog := ⟨underlying5, by kernel_rfl, fun h => by cases h⟩
def ti9 : TI := ⟨9, .string, 1, 16, .string ⟨#[]⟩, .str, false⟩
theorem tk9 : ti9.ok prog := ⟨underlying9, by kernel_rfl, fun h => by cases h⟩
def ti22 : TI := ⟨22, .slice 3, 1, 24, .slice none 0 0, .sl I6, false⟩
theorem tk22 : ti22.ok prog := ⟨underlying22, by kernel_rfl, fun h => by cases h⟩
def ti29 : TI := ⟨29, .slice 9, 1, 24, .slice none 0 0, .sl (.str), false⟩
theorem tk29 : ti29.ok prog := ⟨underlying29, by kernel_rfl, fun h => by cases h⟩
def ti30 : TI := ⟨30, .slice 52, 1, 24, .slice none 0 0, .sl tT0, false⟩
theorem tk30 : ti30.ok prog := ⟨underlying30, by kernel_rfl, fun h => by cases h⟩
def ti31 : TI := ⟨31, .slice 47, 1, 24, .slice none 0 0, .sl tT2, false⟩
theorem tk31 : ti31.ok prog := ⟨underlying31, by kernel_rfl, fun h => by cases h⟩
def ti32 : TI := ⟨32, .slice 55, 1, 24, .slice none 0 0, .sl tT1, false⟩
theorem tk32 : ti32.ok prog := ⟨underlying32, by kernel_rfl, fun h => by cases h⟩
def ti34 : TI := ⟨34, .struct #[fd "Nodes" 29 0 "" 0, fd "Segments" 30 1 "" 24, fd "Ports" 31 2 "" 48, fd "Stations" 32 3 "" 72, fd "Vapour" 3 4 "" 96, fd "Settle" 3 5 "" 104], 6, 112, .agg #[.slice none 0 0, .slice none 0 0, .slice none 0 0, .slice none 0 0, .int .i64 0, .int .i64 0], .pair (.sl (.str)) (.pair (.sl tT0) (.pair (.sl tT2) (.pair (.sl tT1) (.pair I6 I6)))), true⟩
theorem tk34 : ti34.ok prog := ⟨underlying34, by kernel_rfl, fun _ => ⟨eqGuardType34, stoodInHeld34⟩⟩
def ti47 : TI := ⟨47, .struct #[fd "Name" 9 0 "" 0, fd "Node" 3 1 "" 16, fd "Pressure" 3 2 "" 24], 3, 32, .agg #[.string ⟨#[]⟩, .int .i64 0, .int .i64 0], .pair (.str) (.pair I6 I6), true⟩
theorem tk47 : ti47.ok prog := ⟨underlying47, by kernel_rfl, fun _ => ⟨eqGuardType47, stoodInHeld47⟩⟩
def ti50 : TI := ⟨50, .slice 61, 1, 24, .slice none 0 0, .sl (.pair I6 (.pair I6 I6)), false⟩
theorem tk50 : ti50.ok prog := ⟨underlying50, by kernel_rfl, fun h => by cases h⟩
def ti52 : TI := ⟨52, .struct #[fd "Name" 9 0 "" 0, fd "From" 3 1 "" 16, fd "To" 3 2 "" 24, fd "Capacity" 3 3 "" 32, fd "Resist" 3 4 "" 40, fd "Wave" 3 5 "" 48, fd "Points" 50 6 "" 56], 7, 80, .agg #[.string ⟨#[]⟩, .int .i64 0, .int .i64 0, .int .i64 0, .int .i64 0, .int .i64 0, .slice none 0 0], .pair (.str) (.pair I6 (.pair I6 (.pair I6 (.pair I6 (.pair I6 (.sl (.pair I6 (.pair I6 I6)))))))), true⟩
theorem tk52 : ti52.ok prog := ⟨underlying52, by kernel_rfl, fun _ => ⟨eqGuardType52, stoodInHeld52⟩⟩
def ti55 : TI := ⟨55, .struct #[fd "Name" 9 0 "" 0, fd "Node" 3 1 "" 16, fd "Head" 3 2 "" 24, fd "Fall" 3 3 "" 32, fd "Suction" 3 4 "" 40], 5, 48, .agg #[.string ⟨#[]⟩, .int .i64 0, .int .i64 0, .int .i64 0, .int .i64 0], .pair (.str) (.pair I6 (.pair I6 (.pair I6 I6))), true⟩
theorem tk55 : ti55.ok prog := ⟨underlying55, by kernel_rfl, fun _ => ⟨eqGuardType55, stoodInHeld55⟩⟩
def ti57 : TI := ⟨57, .struct #[fd "L" 22 0 "" 0, fd "At" 3 1 "" 24], 2, 32, .agg #[.slice none 0 0, .int .i64 0], .pair (.sl I6) I6, true⟩
theorem tk57 : ti57.ok prog := ⟨underlying57, by kernel_rfl, fun _ => ⟨eqGuardType57, stoodInHeld57⟩⟩
def ti59 : TI := ⟨59, .slice 29, 1, 24, .slice none 0 0, .sl (.sl (.str)), false⟩
theorem tk59 : ti59.ok prog := ⟨underlying59, by kernel_rfl, fun h => by cases h⟩
def ti61 : TI := ⟨61, .struct #[fd "At" 3 0 "" 0, fd "Height" 3 1 "" 8, fd "Limit" 3 2 "" 16], 3, 24, .agg #[.int .i64 0, .int .i64 0, .int .i64 0], .pair I6 (.pair I6 I6), true⟩
theorem tk61 : ti61.ok prog := ⟨underlying61, by kernel_rfl, fun _ => ⟨eqGuardType61, stoodInHeld61⟩⟩
def ti72 : TI := ⟨72, .struct #[fd "n" 34 0 "batchline/network" 0, fd "rank" 3 6 "batchline/network" 112, fd "last" 9 7 "batchline/network" 120], 8, 136, .agg #[.slice none 0 0, .slice none 0 0, .slice none 0 0, .slice none 0 0, .int .i64 0, .int .i64 0, .int .i64 0, .string ⟨#[]⟩], .pair (.pair (.sl (.str)) (.pair (.sl tT0) (.pair (.sl tT2) (.pair (.sl tT1) (.pair I6 I6))))) (.pair I6 (.str)), true⟩
theorem tk72 : ti72.ok prog := ⟨underlying72, by kernel_rfl, fun _ => ⟨eqGuardType72, stoodInHeld72⟩⟩
def ti80 : TI := ⟨80, .array 4 29, 4, 96, .agg #[.slice none 0 0, .slice none 0 0, .slice none 0 0, .slice none 0 0], .pair (.sl (.str)) (.pair (.sl (.str)) (.pair (.sl (.str)) (.sl (.str)))), false⟩
theorem tk80 : ti80.ok prog := ⟨underlying80, by kernel_rfl, fun h => by cases h⟩
def ti92 : TI := ⟨92, .slice 5, 1, 24, .slice none 0 0, .sl (.int .u8), false⟩
theorem tk92 : ti92.ok prog := ⟨underlying92, by kernel_rfl, fun h => by cases h⟩
def ti99 : TI := ⟨99, .func #[29, 22] #[26] false, 1, 8, .nilFunc, .unit, false⟩
theorem tk99 : ti99.ok prog := ⟨underlying99, by kernel_rfl, fun h => by cases h⟩
def ti101 : TI := ⟨101, .struct #[fd "rank" 3 0 "batchline/network" 0, fd "words" 3 1 "batchline/network" 8, fd "names" 3 2 "batchline/network" 16, fd "take" 99 3 "batchline/network" 24], 4, 32, .agg #[.int .i64 0, .int .i64 0, .int .i64 0, .nilFunc], .unit, true⟩
theorem tk101 : ti101.ok prog := ⟨underlying101, by kernel_rfl, fun _ => ⟨eqGuardType101, stoodInHeld101⟩⟩
def ti103 : TI := ⟨103, .map 9 101, 1, 8, .map none, .unit, false⟩
theorem tk103 : ti103.ok prog := ⟨underlying103, by kernel_rfl, fun h => by cases h⟩
def ti119 : TI := ⟨119, .interface #[("Error", 39)], 1, 16, .nilIface, .err, false⟩
theorem tk119 : ti119.ok prog := ⟨underlying119, by kernel_rfl, fun h => by cases h⟩
def types : List TI := [ti3, ti4, ti5, ti9, ti22, ti29, ti30, ti31, ti32, ti34, ti47, ti50, ti52, ti55, ti57, ti59, ti61, ti72, ti80, ti92, ti99, ti101, ti103, ti119]
theorem qef : Tys prog types := ⟨tk3, tk4, tk5, tk9, tk22, tk29, tk30, tk31, tk32, tk34, tk47, tk50, tk52, tk55, tk57, tk59, tk61, tk72, tk80, tk92, tk99, tk101, tk103, tk119, trivial⟩
def xt94 : Ext := qrX 94
theorem xk94 : ExtOk prog xt94 := qp4 func94 (by kernel_rfl) (by kernel_rfl) (by kernel_rfl) (by kernel_rfl)
def xt138 : Ext := qrW 138
theorem xk138 : ExtOk prog xt138 := qp3 func138 (by kernel_rfl) (by kernel_rfl) (by kernel_rfl) (by kernel_rfl)
abbrev str_0 : List UInt8 := [110, 101, 116, 119, 111, 114, 107, 32, 53, 48, 48, 48, 48, 32, 49, 48, 10, 110, 111, 100, 101, 32, 97, 10, 110, 111, 100, 101, 32, 98, 10, 115, 101, 103, 109, 101, 110, 116, 32, 115, 32, 97, 32, 98, 32, 49, 48, 48, 32, 49, 32, 53, 48, 10, 112, 111, 105, 110, 116, 32, 48, 32, 48, 32, 57, 48, 48, 48, 48, 48, 10, 112, 111, 105, 110, 116, 32, 49, 48, 48, 32, 50, 48, 32, 57, 48, 48, 48, 48, 48, 10, 112, 111, 114, 116, 32, 105, 110, 32, 97, 32, 51, 48, 48, 48, 48, 48, 10, 112, 111, 114, 116, 32, 111, 117, 116, 32, 98, 32, 48, 10, 115, 116, 97, 116, 105, 111, 110, 32, 112, 32, 97, 32, 53, 48, 48, 48, 48, 48, 32, 50, 48, 48, 32, 49, 48, 48, 48, 48, 48]
theorem mx : prog.follows .mixedOrders = true := by kernel_rfl
abbrev kk : Sh := .one .keep
abbrev ii : Sh := .one (.data (.int .i64))
abbrev bb : Sh := .one (.data .bool)
abbrev ss : Sh := .one (.data .str)
abbrev nn (r : Plan) : Plan := .mk [] none .nil r
abbrev mm (l r : Plan) : Plan := .mk [] none l r
abbrev kp (n : Nat) : List Sh1 := List.replicate n .keep
theorem fi {e : Fun} {fn : Func} {c : Code} (ow : List Nat) (fs : List Fun) (N : Nat) (xs : List Ext) (p : Plan) (hf : Tryz.prog.funcs[e.f]? = some fn) (hfs : CxOk Tryz.prog ⟨types, ow, fs, N, xs⟩) (hb : fn.body = some c := by exact rfl) (hname : (fn.name == "runtime.NumGoroutine") = false := by kernel_rfl) (hN : fn.ntmps = N := by exact rfl) (hnp : Nat.ble e.np N = true := by exact rfl) (hnr : fn.results.toList.length = e.nr := by exact rfl) (hregs : e.ji.regs.all (fun q => Nat.blt q.1 e.np) = true := by exact rfl) (h : ∀ x, e.tw x = evFun ⟨types, ow, fs, N, xs⟩ e.ji e.jo fn.results.toList c p x := by intro x; kernel_rfl) : FunOk Tryz.prog e :=
 FunOk.intro (C := ⟨types, ow, fs, N, xs⟩) hf hb hname hN hnp hnr hregs qef hfs mx h
abbrev v0_ : List (Nat × TypeId × List Sh1) := [(48, 34, [.data (.sl (.str)), .data (.sl tT0), .data (.sl tT2), .data (.sl tT1), .data I6, .data I6]), (139, 34, [.own 2249, .own 2265, .own 2281, .own 2297, .data I6, .data I6])]
abbrev r1_ : List (Nat × Sh) := [(0, dd (.pair (.sl (.str)) (.pair (.sl tT0) (.pair (.sl tT2) (.pair (.sl tT1) (.pair I6 I6))))))]
abbrev a2_ : List (Nat × ObSh) := [(2249, .arr 9 (.str)), (2265, .nest 52 tT0 6 61), (2281, .arr 47 tT2), (2297, .arr 55 tT1)]
abbrev v3_ : List (Nat × TypeId × List Sh1) := [(32, 34, (kp 6))]
abbrev v4_ : List (Nat × TypeId × List Sh1) := [(48, 34, [.data (.sl (.str)), .data (.sl tT0), .data (.sl tT2), .data (.sl tT1), .data I6, .data I6])]
abbrev v5_ : List (Nat × TypeId × List Sh1) := [(48, 34, (kp 6)), (139, 34, [.own 2249, .own 2265, .own 2281, .own 2297, .data I6, .data I6])]
abbrev a6_ : List (Nat × ObSh) := [(1, .arr 9 (.str)), (2, .nest 52 tT0 6 61), (3, .arr 47 tT2), (4, .arr 55 tT1)]
abbrev v7_ : List (Nat × TypeId × List Sh1) := [(0, 57, [.data (.sl I6), .data I6])]
abbrev v8_ : List (Nat × TypeId × List Sh1) := [(0, 57, [.data (.sl I6), .data I6]), (48, 34, (kp 6)), (64, 34, [.own 1049, .own 1065, .own 1081, .own 1097, .keep, .keep])]
abbrev v9_ : List (Nat × TypeId × List Sh1) := [(48, 34, [.data (.sl (.str)), .data (.sl tT0), .data (.sl tT2), .data (.sl tT1), .data I6, .data I6]), (368, 72, [.own 5913, .own 5929, .own 5945, .own 5961, .data I6, .data I6, .data I6, .data (.str)])]
abbrev v10_ : List (Nat × TypeId × List Sh1) := [(0, 72, [.own 1, .own 2, .own 3, .own 4, .data I6, .data I6, .data I6, .data (.str)])]
abbrev v11_ : List (Nat × TypeId × List Sh1) := [(0, 72, [.own 5, .own 6, .own 7, .own 8, .data I6, .data I6, .data I6, .data (.str)])]
abbrev v12_ : List (Nat × TypeId × List Sh1) := [(0, 72, [.own 1, .own 2, .own 3, .own 4, .keep, .keep, .keep, .keep]), (96, 101, [.keep, .keep, .keep, .bfl [100, 101, 102, 103, 104, 105] 0])]
abbrev a13_ : List (Nat × ObSh) := [(5, .arr 9 (.str)), (6, .nest 52 tT0 6 61), (7, .arr 47 tT2), (8, .arr 55 tT1)]
abbrev a14_ : List (Nat × ObSh) := [(1049, .arr 9 (.str)), (1065, .arr 52 tT0), (1081, .arr 47 tT2), (1097, .arr 55 tT1)]
abbrev r15_ : List (Nat × Sh) := [(2, pt 48 0), (7, pt 139 0), (8, kk), (9, kk), (13, kk), (19, kk), (37, kk), (38, kk), (39, kk)]
abbrev v16_ : List (Nat × TypeId × List Sh1) := [(0, 57, [.data (.sl I6), .data I6]), (48, 34, (kp 6)), (64, 34, [.own 1049, .own 1065, .keep, .keep, .keep, .keep])]
abbrev a17_ : List (Nat × ObSh) := [(267, .arr 3 I6), (2249, .arr 9 (.str)), (2265, .nest 52 tT0 6 61), (2281, .arr 47 tT2), (2297, .arr 55 tT1)]
abbrev a18_ : List (Nat × ObSh) := [(107, .arr 29 (.sl (.str)))]
abbrev a19_ : List (Nat × ObSh) := [(267, .arr 3 I6), (347, .arr 3 I6), (2249, .arr 9 (.str)), (2265, .nest 52 tT0 6 61), (2281, .arr 47 tT2), (2297, .arr 55 tT1)]
abbrev v20_ : List (Nat × TypeId × List Sh1) := [(0, 57, [.data (.sl I6), .data I6]), (144, 52, (kp 7)), (160, 52, [.keep, .keep, .keep, .keep, .keep, .keep, .own 2681])]
abbrev v21_ : List (Nat × TypeId × List Sh1) := [(32, 34, (kp 6)), (48, 80, (kp 4)), (64, 80, [.keep, .own 1065, .own 1081, .keep])]
abbrev v22_ : List (Nat × TypeId × List Sh1) := [(48, 34, (kp 6)), (64, 34, (kp 6))]
abbrev v23_ : List (Nat × TypeId × List Sh1) := [(32, 34, (kp 6)), (48, 80, (kp 4)), (64, 80, [.keep, .own 1065, .keep, .keep])]
abbrev r24_ : List (Nat × Sh) := [(0, pt 0 0), (1, dd (.sl (.str))), (2, dd (.sl I6))]
abbrev r25_ : List (Nat × Sh) := [(0, kk), (9, pt 576 0), (10, kk), (12, kk), (14, ow 832), (15, kk), (16, kk), (17, kk), (18, kk), (19, kk), (20, kk), (21, ii), (63, kk), (64, kk)]
abbrev a26_ : List (Nat × ObSh) := [(139, .arr 3 I6), (1, .arr 9 (.str)), (2, .nest 52 tT0 6 61), (3, .arr 47 tT2), (4, .arr 55 tT1)]
abbrev r27_ : List (Nat × Sh) := [(0, dd (.sl tT0)), (1, .one (.fn [.pair (.str) (.pair I6 (.pair I6 (.pair I6 (.pair I6 (.pair I6 (.sl (.pair I6 (.pair I6 I6))))))))] (.bool)))]
abbrev r28_ : List (Nat × Sh) := [(0, kk), (1, kk), (7, kk), (8, ii)]
abbrev v29_ : List (Nat × TypeId × List Sh1) := [(48, 80, (kp 4)), (64, 80, [.keep, .own 1065, .own 1081, .own 1097])]
abbrev a30_ : List (Nat × ObSh) := [(1065, .arr 9 (.str)), (1081, .arr 9 (.str)), (1097, .arr 9 (.str))]
abbrev a31_ : List (Nat × ObSh) := [(5913, .arr 9 (.str)), (5929, .nest 52 tT0 6 61), (5945, .arr 47 tT2), (5961, .arr 55 tT1)]
abbrev r32_ : List (Nat × Sh) := [(2, pt 48 0), (3, ii), (4, ii)]
abbrev a33_ : List (Nat × ObSh) := [(1049, .arr 9 (.str)), (256, .arr 52 tT0), (336, .arr 47 tT2), (416, .arr 55 tT1), (656, .arr 61 (.pair I6 (.pair I6 I6)))]
abbrev r34_ : List (Nat × Sh) := [(0, dd (.pair (.sl (.str)) (.pair (.sl tT0) (.pair (.sl tT2) (.pair (.sl tT1) (.pair I6 I6)))))), (1, ii), (2, ii)]
abbrev r35_ : List (Nat × Sh) := [(0, dd (.pair (.sl (.str)) (.pair (.sl tT0) (.pair (.sl tT2) (.pair (.sl tT1) (.pair I6 I6)))))), (1, ss)]
abbrev v36_ : List (Nat × TypeId × List Sh1) := [(0, 57, [.keep, .keep]), (48, 34, (kp 6)), (64, 34, [.own 1049, .keep, .keep, .keep, .keep, .keep])]
abbrev r37_ : List (Nat × Sh) := [(0, ss), (1, ss)]
abbrev r38_ : List (Nat × Sh) := [(0, dd (.sl tT1)), (1, .one (.fn [.pair (.str) (.pair I6 (.pair I6 (.pair I6 I6)))] (.bool)))]
abbrev a39_ : List (Nat × ObSh) := [(1065, .arr 9 (.str)), (1081, .arr 9 (.str))]
abbrev a40_ : List (Nat × ObSh) := [(1049, .arr 9 (.str)), (1065, .arr 52 tT0)]
abbrev r41_ : List (Nat × Sh) := [(0, dd (.pair (.sl (.str)) (.pair (.sl (.str)) (.pair (.sl (.str)) (.sl (.str))))))]
abbrev r42_ : List (Nat × Sh) := [(1, pt 32 0), (2, pt 48 0), (3, pt 64 0)]
abbrev r43_ : List (Nat × Sh) := [(2, pt 48 0), (3, pt 64 0)]
abbrev r44_ : List (Nat × Sh) := [(0, dd (.sl (.str)))]
abbrev a45_ : List (Nat × ObSh) := [(208, .arr 9 (.str)), (107, .arr 29 (.sl (.str)))]
abbrev v46_ : List (Nat × TypeId × List Sh1) := [(48, 34, (kp 6)), (64, 34, (kp 6)), (128, 52, (kp 7)), (144, 52, (kp 7))]
abbrev a47_ : List (Nat × ObSh) := [(75, .arr 9 (.str))]
abbrev r48_ : List (Nat × Sh) := [(0, dd (.sl tT2)), (1, .one (.fn [.pair (.str) (.pair I6 I6)] (.bool)))]
abbrev r49_ : List (Nat × Sh) := [(1, pt 32 0), (2, pt 48 0), (3, pt 64 0), (14, kk), (15, kk), (16, ii)]
abbrev r50_ : List (Nat × Sh) := [(1, pt 32 0), (2, pt 48 0), (3, pt 64 0), (29, kk), (30, kk), (31, ii)]
abbrev v51_ : List (Nat × TypeId × List Sh1) := [(32, 34, (kp 6)), (96, 80, (kp 4))]
abbrev r52_ : List (Nat × Sh) := [(0, .agg [.data (.sl (.str)), .any, .any, .any, .any, .any]), (1, ss)]
abbrev v53_ : List (Nat × TypeId × List Sh1) := [(32, 52, (kp 7))]
abbrev a54_ : List (Nat × ObSh) := [(2681, .arr 61 (.pair I6 (.pair I6 I6)))]
abbrev r55_ : List (Nat × Sh) := [(0, pt 0 0), (2, pt 48 0), (3, pt 64 0), (5, kk), (9, kk)]
abbrev r56_ : List (Nat × Sh) := [(2, pt 48 0), (3, pt 64 0), (44, kk), (45, kk), (46, ii)]
abbrev r57_ : List (Nat × Sh) := [(2, dd (.sl (.sl (.str)))), (3, ii)]
abbrev r58_ : List (Nat × Sh) := [(0, dd (.sl I6)), (1, .one (.fn [.int .i64] (.bool)))]
abbrev a59_ : List (Nat × ObSh) := [(832, .arr 9 (.str))]
abbrev r60_ : List (Nat × Sh) := [(0, dd (.sl (.str))), (1, .one (.fn [.str] (.bool)))]
abbrev a61_ : List (Nat × ObSh) := [(75, .arr 3 I6)]
abbrev a62_ : List (Nat × ObSh) := [(1065, .arr 9 (.str))]
def qgB : Option (List UInt8) :=
 some str_0
def qfs : Fun :=
 ⟨14, 0, 1,
 ⟨[], [], []⟩,
 ⟨[(0, ss)], [], []⟩,
 fun x => qgB⟩
def qkR : Cx := ⟨types, [], [], 1, []⟩
set_option maxRecDepth 100000 in
theorem qhG : FO qfs :=
 FunOk.intro (C := qkR) (p := .nil)
  func14 rfl (by kernel_rfl) rfl rfl rfl rfl qef ⟨trivial, trivial⟩ mx (fun x => by kernel_rfl)
def qa3 (s : List UInt8) (c : Int) : Option (Int) :=
 (idxB s c).bind fun r =>
 some r
def qbo : Fun :=
 ⟨121, 2, 1,
 ⟨[(0, ss), (1, dd (.int .u8))], [], []⟩,
 ⟨[(0, ii)], [], []⟩,
 fun x => qa3 x.1 x.2⟩
theorem qc4 : FO qbo := fi [] [] 8 [xt138] .nil func121 ⟨trivial, ⟨xk138, trivial⟩⟩
def qaD (s : List UInt8) (substr : List UInt8) : Option (Int) :=
 Option.bind (α := Bool) (
 bif decide ((substr.length : Int) = 0) then (
 some true)
 else (
 some (decide (substr = s)))) fun s2 =>
 bif s2 then (
 some 0)
 else (
 bif decide ((substr.length : Int) = 1) then (
 gd (inB 0 substr.length) <|
 (qa3 s (Int.ofNat (substr.getD 0 0).toNat)).bind fun r =>
 some r)
 else (
 bif decide ((s.length : Int) ≤ (substr.length : Int)) then (
 some (-1))
 else (
 none)))
def qbc : Fun :=
 ⟨112, 2, 1,
 ⟨r37_, [], []⟩,
 ⟨[(0, ii)], [], []⟩,
 fun x => qaD x.1 x.2⟩
theorem qbU : FO qbc := fi [] [qbo] 143 [] ((nn (nn (mm (mm (mm (.mk [.join [⟨.n, ⟨[(0, kk), (1, kk), (5, kk), (16, bb)], [], []⟩⟩]] none .nil .nil) .nil) .nil) .nil)))) func112 ⟨⟨qc4, trivial⟩, trivial⟩
def qc5 (s : List UInt8) (substr : List UInt8) : Option (Int) :=
 (qaD s substr).bind fun r =>
 some r
def qdZ : Fun :=
 ⟨95, 2, 1,
 ⟨r37_, [], []⟩,
 ⟨[(0, ii)], [], []⟩,
 fun x => qc5 x.1 x.2⟩
theorem qfL : FO qdZ := fi [] [qbc] 8 [] .nil func95 ⟨⟨qbU, trivial⟩, trivial⟩
def qin (substr : List UInt8) (s2 : List UInt8) (n : Int) : Option ((List UInt8 × Int) ⊕ Int) :=
 (qc5 s2 substr).bind fun r2 =>
 bif decide (r2 = (-1)) then (
 some (.inr n))
 else (
 gd (cutG (some (.i64, wi64 (r2 + (substr.length : Int)))) none s2.length) <|
 some (.inl (s2.drop (wi64 (r2 + (substr.length : Int))).toNat, wi64 (n + 1))))
def qc6 (s : List UInt8) (substr : List UInt8) : Option (Int) :=
 bif decide ((substr.length : Int) = 0) then (
 none)
 else (
 bif decide ((substr.length : Int) = 1) then (
 gd (inB 0 substr.length) <|
 (cntB s (Int.ofNat (substr.getD 0 0).toNat)).bind fun r =>
 some r)
 else (
 (iter (fun x => qin substr x.1 x.2) (s, 0)).bind fun s3 =>
 some s3))
def qd0 : Fun :=
 ⟨64, 2, 1,
 ⟨r37_, [], []⟩,
 ⟨[(0, ii)], [], []⟩,
 fun x => qc6 x.1 x.2⟩
theorem qfM : FO qd0 := fi [] [qdZ] 34 [xt94] ((nn (nn (nn (nn (mm (.mk [] (some (⟨[(0, ss), (1, kk), (5, ii)], [], []⟩, [⟨.r, ⟨[(4, ii)], [], []⟩⟩])) .nil .nil) .nil)))))) func64 ⟨⟨qfL, trivial⟩, ⟨xk94, trivial⟩⟩
def qa4 (s : List UInt8) (suffix : List UInt8) : Option (Bool) :=
 bif decide ((suffix.length : Int) ≤ (s.length : Int)) then (
 gd (cutG (some (.i64, wi64 ((s.length : Int) - (suffix.length : Int)))) none s.length) <|
 some (decide (s.drop (wi64 ((s.length : Int) - (suffix.length : Int))).toNat = suffix)))
 else (
 some false)
def qbp : Fun :=
 ⟨96, 2, 1,
 ⟨r37_, [], []⟩,
 ⟨[(0, bb)], [], []⟩,
 fun x => qa4 x.1 x.2⟩
theorem qc7 : FO qbp := fi [] [] 21 [] .nil func96 ⟨trivial, trivial⟩
def qaY (s : List UInt8) (suffix : List UInt8) : Option (Bool) :=
 (qa4 s suffix).bind fun r =>
 some r
def qd9 : Fun :=
 ⟨65, 2, 1,
 ⟨r37_, [], []⟩,
 ⟨[(0, bb)], [], []⟩,
 fun x => qaY x.1 x.2⟩
theorem qgJ : FO qd9 := fi [] [qbp] 8 [] .nil func65 ⟨⟨qc7, trivial⟩, trivial⟩
def qa9 (s : List UInt8) (sep : List UInt8) : Option (List UInt8 × List UInt8 × Bool) :=
 (qaD s sep).bind fun r =>
 bif decide (0 ≤ r) then (
 gd (cutG none (some (.i64, r)) s.length) <|
 gd (cutG (some (.i64, wi64 (r + (sep.length : Int)))) none s.length) <|
 some (s.take r.toNat, s.drop (wi64 (r + (sep.length : Int))).toNat, true))
 else (
 some (s, [], false))
def qb6 : Fun :=
 ⟨97, 2, 3,
 ⟨r37_, [], []⟩,
 ⟨[(0, ss), (1, ss), (2, bb)], [], []⟩,
 fun x => qa9 x.1 x.2⟩
theorem qer : FO qb6 := fi [] [qbc] 23 [] .nil func97 ⟨⟨qbU, trivial⟩, trivial⟩
def qcX (s : List UInt8) (sep : List UInt8) : Option (List UInt8 × List UInt8 × Bool) :=
 (qa9 s sep).bind fun r =>
 some (r.1, r.2.1, r.2.2)
def qgO : Fun :=
 ⟨66, 2, 3,
 ⟨r37_, [], []⟩,
 ⟨[(0, ss), (1, ss), (2, bb)], [], []⟩,
 fun x => qcX x.1 x.2⟩
theorem qjJ : FO qgO := fi [] [qb6] 13 [] .nil func66 ⟨⟨qer, trivial⟩, trivial⟩
def qcY (s : List UInt8) (sep : List UInt8) (sepSave : Int) (s2 : Int) (s3 : List UInt8) (i : Int) (a : List (List UInt8)) : Option ((List UInt8 × Int × List (List UInt8)) ⊕ (List UInt8 × Int × List (List UInt8))) :=
 bif decide (i < wi64 ((min s2 (wi64 ((s.length : Int) + 1))) - 1)) then (
 (qc5 s3 sep).bind fun r2 =>
 bif decide (r2 < 0) then (
 some (.inr (s3, i, a)))
 else (
 gd (cutG none (some (.i64, wi64 (r2 + sepSave))) s3.length) <|
 gd (inB i a.length) <|
 gd (cutG (some (.i64, wi64 (r2 + (sep.length : Int)))) none s3.length) <|
 some (.inl (s3.drop (wi64 (r2 + (sep.length : Int))).toNat, wi64 (i + 1), a.set i.toNat (s3.take (wi64 (r2 + sepSave)).toNat)))))
 else (
 some (.inr (s3, i, a)))
def qd1 (s : List UInt8) (sep : List UInt8) (sepSave : Int) (n : Int) : Option (List (List UInt8)) :=
 bif decide (n = 0) then (
 some [])
 else (
 bif decide (sep = []) then (
 none)
 else (
 Option.bind (α := Int) (
 bif decide (n < 0) then (
 (qc6 s sep).bind fun r =>
 some (wi64 (r + 1)))
 else (
 some n)) fun s2 =>
 gd (makeG 16 (min s2 (wi64 ((s.length : Int) + 1)))) <|
 (iter (fun x => qcY s sep sepSave s2 x.1 x.2.1 x.2.2) (s, 0, List.replicate (min s2 (wi64 ((s.length : Int) + 1))).toNat ([] : List UInt8))).bind fun s4 =>
 gd (inB s4.2.1 s4.2.2.length) <|
 gd (cutG none (some (.i64, wi64 (s4.2.1 + 1))) (s4.2.2.set s4.2.1.toNat s4.1).length) <|
 some ((s4.2.2.set s4.2.1.toNat s4.1).take (wi64 (s4.2.1 + 1)).toNat)))
def qes : Fun :=
 ⟨98, 4, 1,
 ⟨[(0, ss), (1, ss), (2, ii), (3, ii)], [], []⟩,
 ⟨r44_, [], []⟩,
 fun x => qd1 x.1 x.2.1 x.2.2.1 x.2.2.2⟩
theorem qg9 : FO qes := fi [] [qd0, qdZ] 66 [] ((nn (nn (nn (mm (nn (.mk [.join [⟨.n, ⟨[(0, kk), (1, kk), (2, kk), (3, ii)], [], []⟩⟩]] none .nil .nil)) (nn (nn (nn (nn (mm (mm (.mk [] (some (⟨[(0, ss), (1, kk), (2, kk), (3, kk), (9, ow 512), (10, ii)], [], [(512, .arr 9 (.str))]⟩, [⟨.x 0, ⟨[(0, ss), (9, ow 512), (10, ii)], [], [(512, .arr 9 (.str))]⟩⟩])) .nil .nil) .nil) (nn (mm (.mk [.fz [9]] none .nil .nil) .nil)))))))))))) func98 ⟨⟨qfM, qfL, trivial⟩, trivial⟩
def qeg (s : List UInt8) (sep : List UInt8) : Option (List (List UInt8)) :=
 (qd1 s sep 0 (-1)).bind fun r =>
 some r
def qfN : Fun :=
 ⟨67, 2, 1,
 ⟨r37_, [], []⟩,
 ⟨r44_, [], []⟩,
 fun x => qeg x.1 x.2⟩
theorem qio : FO qfN := fi [] [qes] 8 [] .nil func67 ⟨⟨qg9, trivial⟩, trivial⟩
def qc8 (s : List UInt8) (v : Int) : Option (Int ⊕ (Unit ⊕ Bool)) :=
 bif decide (v < (s.length : Int)) then (
 Option.bind (α := Bool) (
 gd (inB v s.length) <|
 bif decide ((Int.ofNat (s.getD v.toNat 0).toNat) < 33) then (
 some true)
 else (
 gd (inB v s.length) <|
 some (decide (126 < (Int.ofNat (s.getD v.toNat 0).toNat))))) fun s2 =>
 bif s2 then (
 some (.inr (.inr false)))
 else (
 some (.inl (wi64 (v + 1)))))
 else (
 some (.inr (.inl ())))
def qgC (s : List UInt8) : Option (Bool) :=
 (iter (fun x => qc8 s x) 0).bind fun s3 =>
 s3.elim (fun s4 =>
 some (!decide (s = [])))
 (fun s5 =>
 some s5)
def qhH : Fun :=
 ⟨99, 1, 1,
 ⟨[(0, ss)], [], []⟩,
 ⟨[(0, bb)], [], []⟩,
 fun x => qgC x⟩
theorem qkS : FO qhH := fi [] [] 22 [] ((nn (mm (nn (mm (.mk [] (some (⟨[(0, kk), (5, kk), (6, ii)], [], []⟩, [⟨.x 0, ⟨[(0, kk)], [], []⟩⟩, ⟨.r, ⟨[(2, bb)], [], []⟩⟩])) (nn (nn (mm (mm (nn (mm (.mk [.join [⟨.n, ⟨[(0, kk), (5, kk), (6, kk), (18, bb)], [], []⟩⟩]] none .nil .nil) .nil)) .nil) .nil))) .nil) .nil)) .nil))) func99 ⟨trivial, trivial⟩
def qct (l : List (List UInt8)) (v : Int) : Option (Int ⊕ (Unit ⊕ Bool)) :=
 bif decide (v < (l.length : Int)) then (
 gd (inB v l.length) <|
 (qgC (l.getD v.toNat [])).bind fun r =>
 bif !r then (
 some (.inr (.inr false)))
 else (
 some (.inl (wi64 (v + 1)))))
 else (
 some (.inr (.inl ())))
def qft (l : List (List UInt8)) : Option (Bool) :=
 Option.bind (α := Bool) (
 bif decide ((l.length : Int) < 1) then (
 some true)
 else (
 some (decide (16 < (l.length : Int))))) fun s =>
 bif s then (
 some false)
 else (
 (iter (fun x => qct l x) 0).bind fun s2 =>
 s2.elim (fun s3 =>
 gd (inB 0 l.length) <|
 gd (inB 0 (l.getD 0 []).length) <|
 some (!decide ((Int.ofNat ((l.getD 0 []).getD 0 0).toNat) = 35)))
 (fun s4 =>
 some s4))
def qgP : Fun :=
 ⟨68, 1, 1,
 ⟨r44_, [], []⟩,
 ⟨[(0, bb)], [], []⟩,
 fun x => qft x⟩
theorem qjK : FO qgP := fi [] [qhH] 28 [] ((nn (mm (mm (.mk [.join [⟨.n, ⟨[(0, kk), (12, bb)], [], []⟩⟩]] none .nil .nil) .nil) (mm (nn (mm (.mk [] (some (⟨[(0, kk), (13, kk), (14, kk), (15, ii)], [], []⟩, [⟨.x 0, ⟨[(0, kk)], [], []⟩⟩, ⟨.r, ⟨[(2, bb)], [], []⟩⟩])) .nil .nil) .nil)) .nil)))) func68 ⟨⟨qkS, trivial⟩, trivial⟩
def qe1 (text2 : List UInt8) (out : List (List (List UInt8))) : Option ((List UInt8 × List (List (List UInt8))) ⊕ ((List (List (List UInt8))) ⊕ (List (List (List UInt8)) × Int))) :=
 bif !decide (text2 = []) then (
 (qcX text2 [10]).bind fun r3 =>
 Option.bind (α := Bool × List (List (List UInt8))) (
 bif decide (r3.1 = []) then (
 some (true, out))
 else (
 gd (inB 0 r3.1.length) <|
 some (decide ((Int.ofNat (r3.1.getD 0 0).toNat) = 35), out))) fun s4 =>
 bif s4.1 then (
 gd (fits (s4.2.length + 1) 24) <|
 some (.inl (r3.2.1, s4.2 ++ [[]])))
 else (
 (qeg r3.1 [32]).bind fun r4 =>
 (qft r4).bind fun r5 =>
 bif !r5 then (
 some (.inr (.inr ([], 3))))
 else (
 gd (fits (s4.2.length + 1) 24) <|
 some (.inl (r3.2.1, s4.2 ++ [r4])))))
 else (
 some (.inr (.inl out)))
def qfu (text : List UInt8) : Option (List (List (List UInt8)) × Int) :=
 (qc6 text [10]).bind fun r =>
 Option.bind (α := Bool) (
 bif !decide (text = []) then (
 (qaY text [10]).bind fun r2 =>
 some (!r2))
 else (
 some false)) fun s =>
 Option.bind (α := Int) (
 bif s then (
 some (wi64 (r + 1)))
 else (
 some r)) fun s2 =>
 Option.bind (α := Bool) (
 bif decide (16384 < (text.length : Int)) then (
 some true)
 else (
 some (decide (400 < s2)))) fun s3 =>
 bif s3 then (
 some ([], 4))
 else (
 gd ((decide (0 ≤ 0) && decide (0 ≤ s2)) && makeG 24 s2) <|
 (iter (fun x => qe1 x.1 x.2) (text, List.replicate 0 ([] : List (List UInt8)))).bind fun s5 =>
 s5.elim (fun s6 =>
 some (s6, 0))
 (fun s7 =>
 some (s7.1, s7.2)))
def qgQ : Fun :=
 ⟨32, 1, 2,
 ⟨[(0, ss)], [], []⟩,
 ⟨[(0, dd (.sl (.sl (.str)))), (1, ii)], [], []⟩,
 fun x => qfu x⟩
theorem qjL : FO qgQ := fi [] [qd0, qd9, qgO, qfN, qgP] 59 [] ((nn (nn (mm (mm (.mk [.join [⟨.n, ⟨[(0, kk), (4, kk), (18, bb)], [], []⟩⟩]] none .nil .nil) (.mk [.join [⟨.n, ⟨[(0, kk), (4, ii)], [], []⟩⟩]] none .nil .nil)) (mm (mm (.mk [.join [⟨.n, ⟨[(0, kk), (4, kk), (27, bb)], [], []⟩⟩]] none .nil .nil) .nil) (nn (mm (mm (.mk [] (some (⟨[(0, ss), (5, ow 107)], [], a18_⟩, [⟨.x 0, ⟨[(5, ow 107)], [], a18_⟩⟩, ⟨.r, ⟨r57_, [], []⟩⟩])) (nn (mm (nn (nn (mm (mm (.mk [.join [⟨.n, ⟨[(0, kk), (5, ow 107), (6, kk), (45, bb)], [], a18_⟩⟩]] none .nil .nil) .nil) .nil))) .nil)) .nil) .nil) .nil))))))) func32 ⟨⟨qfM, qgJ, qjJ, qio, qjK, trivial⟩, trivial⟩
def qaT (v : List (List UInt8)) (n : List Int) (r : Int) (r2 : Int) (r3 : Int) (r4 : List UInt8) (r5 : List (List UInt8)) (r6 : List yT0) (r7 : yB2) (r8 : List yB1) : Option yB4 :=
 gd (inB 0 n.length) <|
 gd (inB 1 n.length) <|
 some (0, n.getD 0 0, n.getD 1 0, r3, r4, r5, r6, r7, r8)
def qcu : Fun :=
 ⟨100, 3, 1,
 ⟨r24_, v10_, a6_⟩,
 ⟨[(0, ii)], v11_, a13_⟩,
 fun x => qaT x.1 x.2.1 x.2.2.1 x.2.2.2.1 x.2.2.2.2.1 x.2.2.2.2.2.1 x.2.2.2.2.2.2.1 x.2.2.2.2.2.2.2.1 x.2.2.2.2.2.2.2.2.1 x.2.2.2.2.2.2.2.2.2⟩
theorem qe2 : FO qcu := fi [] [] 21 [] .nil func100 ⟨trivial, trivial⟩
def qbk (w : List (List UInt8)) (v : List Int) (r : Int) (r2 : Int) (r3 : Int) (r4 : List UInt8) (r5 : List (List UInt8)) (r6 : List yT0) (r7 : yB2) (r8 : List yB1) : Option yB4 :=
 gd (inB 0 w.length) <|
 gd (fits (r5.length + 1) 16) <|
 some (0, r, r2, r3, r4, r5 ++ [w.getD 0 []], r6, r7, r8)
def qds : Fun :=
 ⟨101, 3, 1,
 ⟨r24_, v10_, a6_⟩,
 ⟨[(0, ii)], v11_, a13_⟩,
 fun x => qbk x.1 x.2.1 x.2.2.1 x.2.2.2.1 x.2.2.2.2.1 x.2.2.2.2.2.1 x.2.2.2.2.2.2.1 x.2.2.2.2.2.2.2.1 x.2.2.2.2.2.2.2.2.1 x.2.2.2.2.2.2.2.2.2⟩
theorem qfW : FO qds := fi [] [] 21 [] .nil func101 ⟨trivial, trivial⟩
def qar (s : List (List UInt8)) (v : List UInt8) (v2 : Int) : Option (Int ⊕ (Unit ⊕ Int)) :=
 bif decide (v2 < (s.length : Int)) then (
 gd (inB v2 s.length) <|
 bif decide (v = s.getD v2.toNat []) then (
 some (.inr (.inr v2)))
 else (
 some (.inl (wi64 (v2 + 1)))))
 else (
 some (.inr (.inl ())))
def qal (s : List (List UInt8)) (v : List UInt8) : Option (Int) :=
 (iter (fun x => qar s v x) 0).bind fun s2 =>
 s2.elim (fun s3 =>
 some (-1))
 (fun s4 =>
 some s4)
def qaG : Fun :=
 ⟨51, 2, 1,
 ⟨[(0, dd (.sl (.str))), (1, ss)], [], []⟩,
 ⟨[(0, ii)], [], []⟩,
 fun x => qal x.1 x.2⟩
theorem qbd : FO qaG := fi [] [] 19 [] ((nn (mm (nn (mm (.mk [] (some (⟨r28_, [], []⟩, [⟨.x 0, ⟨[], [], []⟩⟩, ⟨.r, ⟨[(4, ii)], [], []⟩⟩])) .nil .nil) .nil)) .nil))) func51 ⟨trivial, trivial⟩
def qil (n : yB0) (name : List UInt8) : Option (Int) :=
 (qal n.1 name).bind fun r =>
 some r
def qga : Fun :=
 ⟨21, 2, 1,
 ⟨r35_, [], []⟩,
 ⟨[(0, ii)], [], []⟩,
 fun x => qil x.1 x.2⟩
theorem qjq : FO qga := fi [] [qaG] 9 [] .nil func21 ⟨⟨qbd, trivial⟩, trivial⟩
def qaB (s : List Int) (v : Int) (v2 : Int) : Option (Int ⊕ (Unit ⊕ Int)) :=
 bif decide (v2 < (s.length : Int)) then (
 gd (inB v2 s.length) <|
 bif decide (v = s.getD v2.toNat 0) then (
 some (.inr (.inr v2)))
 else (
 some (.inl (wi64 (v2 + 1)))))
 else (
 some (.inr (.inl ())))
def qby (s : List Int) (v : Int) : Option (Int) :=
 (iter (fun x => qaB s v x) 0).bind fun s2 =>
 s2.elim (fun s3 =>
 some (-1))
 (fun s4 =>
 some s4)
def qc9 : Fun :=
 ⟨141, 2, 1,
 ⟨[(0, dd (.sl I6)), (1, ii)], [], []⟩,
 ⟨[(0, ii)], [], []⟩,
 fun x => qby x.1 x.2⟩
theorem qfv : FO qc9 := fi [] [] 19 [] ((nn (mm (nn (mm (.mk [] (some (⟨r28_, [], []⟩, [⟨.x 0, ⟨[], [], []⟩⟩, ⟨.r, ⟨[(4, ii)], [], []⟩⟩])) .nil .nil) .nil)) .nil))) func141 ⟨trivial, trivial⟩
def qbI (s : List Int) (v : Int) : Option (Bool) :=
 (qby s v).bind fun r =>
 some (decide (0 ≤ r))
def qcq : Fun :=
 ⟨126, 2, 1,
 ⟨[(0, dd (.sl I6)), (1, ii)], [], []⟩,
 ⟨[(0, bb)], [], []⟩,
 fun x => qbI x.1 x.2⟩
theorem qeN : FO qcq := fi [] [qc9] 9 [] .nil func126 ⟨⟨qfv, trivial⟩, trivial⟩
def qcj (nodes : List Int) : Option (Int) :=
 (qbI nodes (-1)).bind fun r =>
 bif r then (
 some 8)
 else (
 some 0)
def qcG : Fun :=
 ⟨114, 1, 1,
 ⟨[(0, dd (.sl I6))], [], []⟩,
 ⟨[(0, ii)], [], []⟩,
 fun x => qcj x⟩
theorem qd2 : FO qcG := fi [] [qcq] 5 [] .nil func114 ⟨⟨qeN, trivial⟩, trivial⟩
def qbt (n : List (List UInt8)) (name : List UInt8) : Option (Int) :=
 (qal n name).bind fun r =>
 some r
def qck : Fun :=
 ⟨21, 2, 1,
 ⟨r52_, [], []⟩,
 ⟨[(0, ii)], [], []⟩,
 fun x => qbt x.1 x.2⟩
theorem qdy : FO qck := fi [] [qaG] 9 [] .nil func21 ⟨⟨qbd, trivial⟩, trivial⟩
def qaU (w : List (List UInt8)) (n : List Int) (r : Int) (r2 : Int) (r3 : Int) (r4 : List UInt8) (r5 : List (List UInt8)) (r6 : List yT0) (r7 : yB2) (r8 : List yB1) : Option yB4 :=
 gd (inB 0 w.length) <|
 gd (inB 1 w.length) <|
 (qbt r5 (w.getD 1 [])).bind fun r9 =>
 gd (inB 2 w.length) <|
 (qbt r5 (w.getD 2 [])).bind fun r10 =>
 gd (inB 0 n.length) <|
 gd (inB 1 n.length) <|
 gd (inB 2 n.length) <|
 gd (fits (r6.length + 1) 80) <|
 (qcj [r9, r10]).bind fun r11 =>
 some (r11, r, r2, r3, r4, r5, r6 ++ [(w.getD 0 [], (r9, (r10, (n.getD 0 0, (n.getD 1 0, (n.getD 2 0, []))))))], r7, r8)
def qcv : Fun :=
 ⟨102, 3, 1,
 ⟨r24_, v10_, a6_⟩,
 ⟨[(0, ii)], v11_, a13_⟩,
 fun x => qaU x.1 x.2.1 x.2.2.1 x.2.2.2.1 x.2.2.2.2.1 x.2.2.2.2.2.1 x.2.2.2.2.2.2.1 x.2.2.2.2.2.2.2.1 x.2.2.2.2.2.2.2.2.1 x.2.2.2.2.2.2.2.2.2⟩
theorem qe3 : FO qcv := fi [6000044, 68687590904794540] [qck, qcG] 55 [] .nil func102 ⟨⟨qdy, qd2, trivial⟩, trivial⟩
def qbf (v : List (List UInt8)) (n : List Int) (r : Int) (r2 : Int) (r3 : Int) (r4 : List UInt8) (r5 : List (List UInt8)) (r6 : List yT0) (r7 : yB2) (r8 : List yB1) : Option yB4 :=
 gd (inB (wi64 ((r6.length : Int) - 1)) r6.length) <|
 gd (inB 0 n.length) <|
 gd (inB 1 n.length) <|
 gd (inB 2 n.length) <|
 gd (fits ((((((((r6.getD ((wi64 ((r6.length : Int) - 1)).toNat) ([], (0, (0, (0, (0, (0, []))))))).2).2).2).2).2).2).length + 1) 24) <|
 gd (Nat.beq ((wi64 ((r6.length : Int) - 1)).toNat) ((wi64 ((r6.length : Int) - 1)).toNat)) <|
 some (0, r, r2, r3, r4, r5, r6.set ((wi64 ((r6.length : Int) - 1)).toNat) ((r6.getD ((wi64 ((r6.length : Int) - 1)).toNat) ([], (0, (0, (0, (0, (0, []))))))).1, (((r6.getD ((wi64 ((r6.length : Int) - 1)).toNat) ([], (0, (0, (0, (0, (0, []))))))).2).1, ((((r6.getD ((wi64 ((r6.length : Int) - 1)).toNat) ([], (0, (0, (0, (0, (0, []))))))).2).2).1, (((((r6.getD ((wi64 ((r6.length : Int) - 1)).toNat) ([], (0, (0, (0, (0, (0, []))))))).2).2).2).1, ((((((r6.getD ((wi64 ((r6.length : Int) - 1)).toNat) ([], (0, (0, (0, (0, (0, []))))))).2).2).2).2).1, (((((((r6.getD ((wi64 ((r6.length : Int) - 1)).toNat) ([], (0, (0, (0, (0, (0, []))))))).2).2).2).2).2).1, (((((((r6.getD ((wi64 ((r6.length : Int) - 1)).toNat) ([], (0, (0, (0, (0, (0, []))))))).2).2).2).2).2).2) ++ [(n.getD 0 0, (n.getD 1 0, n.getD 2 0))])))))), r7, r8)
def qda : Fun :=
 ⟨103, 3, 1,
 ⟨r24_, v10_, a6_⟩,
 ⟨[(0, ii)], v11_, a13_⟩,
 fun x => qbf x.1 x.2.1 x.2.2.1 x.2.2.2.1 x.2.2.2.2.1 x.2.2.2.2.2.1 x.2.2.2.2.2.2.1 x.2.2.2.2.2.2.2.1 x.2.2.2.2.2.2.2.2.1 x.2.2.2.2.2.2.2.2.2⟩
theorem qfw : FO qda := fi [] [] 40 [] .nil func103 ⟨trivial, trivial⟩
def qbl (w : List (List UInt8)) (n : List Int) (r : Int) (r2 : Int) (r3 : Int) (r4 : List UInt8) (r5 : List (List UInt8)) (r6 : List yT0) (r7 : yB2) (r8 : List yB1) : Option yB4 :=
 gd (inB 0 w.length) <|
 gd (inB 1 w.length) <|
 (qbt r5 (w.getD 1 [])).bind fun r9 =>
 gd (inB 0 n.length) <|
 gd (fits (r7.length + 1) 32) <|
 (qcj [r9]).bind fun r10 =>
 some (r10, r, r2, r3, r4, r5, r6, r7 ++ [(w.getD 0 [], (r9, n.getD 0 0))], r8)
def qdt : Fun :=
 ⟨104, 3, 1,
 ⟨r24_, v10_, a6_⟩,
 ⟨[(0, ii)], v11_, a13_⟩,
 fun x => qbl x.1 x.2.1 x.2.2.1 x.2.2.2.1 x.2.2.2.2.1 x.2.2.2.2.2.1 x.2.2.2.2.2.2.1 x.2.2.2.2.2.2.2.1 x.2.2.2.2.2.2.2.2.1 x.2.2.2.2.2.2.2.2.2⟩
theorem qfX : FO qdt := fi [] [qck, qcG] 39 [] .nil func104 ⟨⟨qdy, qd2, trivial⟩, trivial⟩
def qaV (w : List (List UInt8)) (n : List Int) (r : Int) (r2 : Int) (r3 : Int) (r4 : List UInt8) (r5 : List (List UInt8)) (r6 : List yT0) (r7 : yB2) (r8 : List yB1) : Option yB4 :=
 gd (inB 0 w.length) <|
 gd (inB 1 w.length) <|
 (qbt r5 (w.getD 1 [])).bind fun r9 =>
 gd (inB 0 n.length) <|
 gd (inB 1 n.length) <|
 gd (inB 2 n.length) <|
 gd (fits (r8.length + 1) 48) <|
 (qcj [r9]).bind fun r10 =>
 some (r10, r, r2, r3, r4, r5, r6, r7, r8 ++ [(w.getD 0 [], (r9, (n.getD 0 0, (n.getD 1 0, n.getD 2 0))))])
def qcw : Fun :=
 ⟨105, 3, 1,
 ⟨r24_, v10_, a6_⟩,
 ⟨[(0, ii)], v11_, a13_⟩,
 fun x => qaV x.1 x.2.1 x.2.2.1 x.2.2.2.1 x.2.2.2.2.1 x.2.2.2.2.2.1 x.2.2.2.2.2.2.1 x.2.2.2.2.2.2.2.1 x.2.2.2.2.2.2.2.2.1 x.2.2.2.2.2.2.2.2.2⟩
theorem qe4 : FO qcw := fi [] [qck, qcG] 45 [] .nil func105 ⟨⟨qdy, qd2, trivial⟩, trivial⟩
def qac : List (List UInt8 × List Int × Nat) := [([110, 101, 116, 119, 111, 114, 107], [1, 2, 0], 100), ([110, 111, 100, 101], [2, 1, 1], 101), ([115, 101, 103, 109, 101, 110, 116], [3, 6, 3], 102), ([112, 111, 105, 110, 116], [3, 3, 0], 103), ([112, 111, 114, 116], [4, 3, 2], 104), ([115, 116, 97, 116, 105, 111, 110], [5, 5, 2], 105)]
def qea (a0 : Int) (a1 : Int) (a2 : Int) (a3 : List UInt8) (a4 : List (List UInt8)) (a5 : List yT0) (a6 : yB2) (a7 : List yB1) : Option (Int × Int × Int × List UInt8 × List (List UInt8) × (List yT0) × yB2 × List yB1) := some (a0, a1, a2, a3, a4, a5, a6, a7)
noncomputable  def formCode : Code := f69.body.getD .skip
noncomputable  def formOps : Array Oper := qrY (seqL (seqR formCode))
set_option maxRecDepth 100000 in
theorem qq7 : qm5 prog formOps 23 103 101 qac := ⟨by kernel_rfl, by decide, qsn (by kernel_rfl), ⟨(formOps.getD 0 oDum).type, (formOps.getD 0 oDum).pos, (formOps.getD 0 oDum).after, by kernel_rfl⟩, (by intro j q h; match j, h with | 0, h => have e : q = ([110, 101, 116, 119, 111, 114, 107], [1, 2, 0], 100) := (Option.some.inj h).symm; subst e; exact ⟨(formOps.getD 1 oDum).type, (formOps.getD 1 oDum).pos, (formOps.getD 1 oDum).after, by kernel_rfl⟩ | 1, h => have e : q = ([110, 111, 100, 101], [2, 1, 1], 101) := (Option.some.inj h).symm; subst e; exact ⟨(formOps.getD 5 oDum).type, (formOps.getD 5 oDum).pos, (formOps.getD 5 oDum).after, by kernel_rfl⟩ | 2, h => have e : q = ([115, 101, 103, 109, 101, 110, 116], [3, 6, 3], 102) := (Option.some.inj h).symm; subst e; exact ⟨(formOps.getD 9 oDum).type, (formOps.getD 9 oDum).pos, (formOps.getD 9 oDum).after, by kernel_rfl⟩ | 3, h => have e : q = ([112, 111, 105, 110, 116], [3, 3, 0], 103) := (Option.some.inj h).symm; subst e; exact ⟨(formOps.getD 13 oDum).type, (formOps.getD 13 oDum).pos, (formOps.getD 13 oDum).after, by kernel_rfl⟩ | 4, h => have e : q = ([112, 111, 114, 116], [4, 3, 2], 104) := (Option.some.inj h).symm; subst e; exact ⟨(formOps.getD 17 oDum).type, (formOps.getD 17 oDum).pos, (formOps.getD 17 oDum).after, by kernel_rfl⟩ | 5, h => have e : q = ([115, 116, 97, 116, 105, 111, 110], [5, 5, 2], 105) := (Option.some.inj h).symm; subst e; exact ⟨(formOps.getD 21 oDum).type, (formOps.getD 21 oDum).pos, (formOps.getD 21 oDum).after, by kernel_rfl⟩ | j + 6, h => cases h), (by intro j q h; match j, h with | 0, h => have e : q = ([110, 101, 116, 119, 111, 114, 107], [1, 2, 0], 100) := (Option.some.inj h).symm; subst e; exact ⟨(formOps.getD 2 oDum).type, (formOps.getD 2 oDum).pos, (formOps.getD 2 oDum).after, by kernel_rfl, qbG (by kernel_rfl)⟩ | 1, h => have e : q = ([110, 111, 100, 101], [2, 1, 1], 101) := (Option.some.inj h).symm; subst e; exact ⟨(formOps.getD 6 oDum).type, (formOps.getD 6 oDum).pos, (formOps.getD 6 oDum).after, by kernel_rfl, qbG (by kernel_rfl)⟩ | 2, h => have e : q = ([115, 101, 103, 109, 101, 110, 116], [3, 6, 3], 102) := (Option.some.inj h).symm; subst e; exact ⟨(formOps.getD 10 oDum).type, (formOps.getD 10 oDum).pos, (formOps.getD 10 oDum).after, by kernel_rfl, qbG (by kernel_rfl)⟩ | 3, h => have e : q = ([112, 111, 105, 110, 116], [3, 3, 0], 103) := (Option.some.inj h).symm; subst e; exact ⟨(formOps.getD 14 oDum).type, (formOps.getD 14 oDum).pos, (formOps.getD 14 oDum).after, by kernel_rfl, qbG (by kernel_rfl)⟩ | 4, h => have e : q = ([112, 111, 114, 116], [4, 3, 2], 104) := (Option.some.inj h).symm; subst e; exact ⟨(formOps.getD 18 oDum).type, (formOps.getD 18 oDum).pos, (formOps.getD 18 oDum).after, by kernel_rfl, qbG (by kernel_rfl)⟩ | 5, h => have e : q = ([115, 116, 97, 116, 105, 111, 110], [5, 5, 2], 105) := (Option.some.inj h).symm; subst e; exact ⟨(formOps.getD 22 oDum).type, (formOps.getD 22 oDum).pos, (formOps.getD 22 oDum).after, by kernel_rfl, qbG (by kernel_rfl)⟩ | j + 6, h => cases h), (by intro j q h; match j, h with | 0, h => have e : q = ([110, 101, 116, 119, 111, 114, 107], [1, 2, 0], 100) := (Option.some.inj h).symm; subst e; exact ⟨(formOps.getD 3 oDum).type, (formOps.getD 3 oDum).pos, (formOps.getD 3 oDum).after, _, (by kernel_rfl : formOps[3]? = some ⟨some 6, .build 101 #[(0, .const (.int .i64 1)), (1, .const (.int .i64 2)), (2, .const (.int .i64 0)), (3, .tmp 5)], (formOps.getD 3 oDum).type, (formOps.getD 3 oDum).pos, (formOps.getD 3 oDum).after, none⟩), qbG (by kernel_rfl), fun a w g hh => qh8 (i := ti101) qef tk101 rfl rfl rfl a w g hh⟩ | 1, h => have e : q = ([110, 111, 100, 101], [2, 1, 1], 101) := (Option.some.inj h).symm; subst e; exact ⟨(formOps.getD 7 oDum).type, (formOps.getD 7 oDum).pos, (formOps.getD 7 oDum).after, _, (by kernel_rfl : formOps[7]? = some ⟨some 9, .build 101 #[(0, .const (.int .i64 2)), (1, .const (.int .i64 1)), (2, .const (.int .i64 1)), (3, .tmp 8)], (formOps.getD 7 oDum).type, (formOps.getD 7 oDum).pos, (formOps.getD 7 oDum).after, none⟩), qbG (by kernel_rfl), fun a w g hh => qh8 (i := ti101) qef tk101 rfl rfl rfl a w g hh⟩ | 2, h => have e : q = ([115, 101, 103, 109, 101, 110, 116], [3, 6, 3], 102) := (Option.some.inj h).symm; subst e; exact ⟨(formOps.getD 11 oDum).type, (formOps.getD 11 oDum).pos, (formOps.getD 11 oDum).after, _, (by kernel_rfl : formOps[11]? = some ⟨some 12, .build 101 #[(0, .const (.int .i64 3)), (1, .const (.int .i64 6)), (2, .const (.int .i64 3)), (3, .tmp 11)], (formOps.getD 11 oDum).type, (formOps.getD 11 oDum).pos, (formOps.getD 11 oDum).after, none⟩), qbG (by kernel_rfl), fun a w g hh => qh8 (i := ti101) qef tk101 rfl rfl rfl a w g hh⟩ | 3, h => have e : q = ([112, 111, 105, 110, 116], [3, 3, 0], 103) := (Option.some.inj h).symm; subst e; exact ⟨(formOps.getD 15 oDum).type, (formOps.getD 15 oDum).pos, (formOps.getD 15 oDum).after, _, (by kernel_rfl : formOps[15]? = some ⟨some 15, .build 101 #[(0, .const (.int .i64 3)), (1, .const (.int .i64 3)), (2, .const (.int .i64 0)), (3, .tmp 14)], (formOps.getD 15 oDum).type, (formOps.getD 15 oDum).pos, (formOps.getD 15 oDum).after, none⟩), qbG (by kernel_rfl), fun a w g hh => qh8 (i := ti101) qef tk101 rfl rfl rfl a w g hh⟩ | 4, h => have e : q = ([112, 111, 114, 116], [4, 3, 2], 104) := (Option.some.inj h).symm; subst e; exact ⟨(formOps.getD 19 oDum).type, (formOps.getD 19 oDum).pos, (formOps.getD 19 oDum).after, _, (by kernel_rfl : formOps[19]? = some ⟨some 18, .build 101 #[(0, .const (.int .i64 4)), (1, .const (.int .i64 3)), (2, .const (.int .i64 2)), (3, .tmp 17)], (formOps.getD 19 oDum).type, (formOps.getD 19 oDum).pos, (formOps.getD 19 oDum).after, none⟩), qbG (by kernel_rfl), fun a w g hh => qh8 (i := ti101) qef tk101 rfl rfl rfl a w g hh⟩ | 5, h => have e : q = ([115, 116, 97, 116, 105, 111, 110], [5, 5, 2], 105) := (Option.some.inj h).symm; subst e; exact ⟨(formOps.getD 23 oDum).type, (formOps.getD 23 oDum).pos, (formOps.getD 23 oDum).after, _, (by kernel_rfl : formOps[23]? = some ⟨some 21, .build 101 #[(0, .const (.int .i64 5)), (1, .const (.int .i64 5)), (2, .const (.int .i64 2)), (3, .tmp 20)], (formOps.getD 23 oDum).type, (formOps.getD 23 oDum).pos, (formOps.getD 23 oDum).after, none⟩), qbG (by kernel_rfl), fun a w g hh => qh8 (i := ti101) qef tk101 rfl rfl rfl a w g hh⟩ | j + 6, h => cases h), (by intro j q h; match j, h with | 0, h => have e : q = ([110, 101, 116, 119, 111, 114, 107], [1, 2, 0], 100) := (Option.some.inj h).symm; subst e; exact ⟨(formOps.getD 4 oDum).type, (formOps.getD 4 oDum).pos, (formOps.getD 4 oDum).after, by kernel_rfl, qbG (by kernel_rfl), qbG (by kernel_rfl)⟩ | 1, h => have e : q = ([110, 111, 100, 101], [2, 1, 1], 101) := (Option.some.inj h).symm; subst e; exact ⟨(formOps.getD 8 oDum).type, (formOps.getD 8 oDum).pos, (formOps.getD 8 oDum).after, by kernel_rfl, qbG (by kernel_rfl), qbG (by kernel_rfl)⟩ | 2, h => have e : q = ([115, 101, 103, 109, 101, 110, 116], [3, 6, 3], 102) := (Option.some.inj h).symm; subst e; exact ⟨(formOps.getD 12 oDum).type, (formOps.getD 12 oDum).pos, (formOps.getD 12 oDum).after, by kernel_rfl, qbG (by kernel_rfl), qbG (by kernel_rfl)⟩ | 3, h => have e : q = ([112, 111, 105, 110, 116], [3, 3, 0], 103) := (Option.some.inj h).symm; subst e; exact ⟨(formOps.getD 16 oDum).type, (formOps.getD 16 oDum).pos, (formOps.getD 16 oDum).after, by kernel_rfl, qbG (by kernel_rfl), qbG (by kernel_rfl)⟩ | 4, h => have e : q = ([112, 111, 114, 116], [4, 3, 2], 104) := (Option.some.inj h).symm; subst e; exact ⟨(formOps.getD 20 oDum).type, (formOps.getD 20 oDum).pos, (formOps.getD 20 oDum).after, by kernel_rfl, qbG (by kernel_rfl), qbG (by kernel_rfl)⟩ | 5, h => have e : q = ([115, 116, 97, 116, 105, 111, 110], [5, 5, 2], 105) := (Option.some.inj h).symm; subst e; exact ⟨(formOps.getD 24 oDum).type, (formOps.getD 24 oDum).pos, (formOps.getD 24 oDum).after, by kernel_rfl, qbG (by kernel_rfl), qbG (by kernel_rfl)⟩ | j + 6, h => cases h), ⟨(formOps.getD 25 oDum).type, (formOps.getD 25 oDum).pos, (formOps.getD 25 oDum).after, by kernel_rfl, qbG (by kernel_rfl)⟩, ⟨(formOps.getD 26 oDum).type, (formOps.getD 26 oDum).pos, (formOps.getD 26 oDum).after, by kernel_rfl, qbG (by kernel_rfl)⟩⟩
def qdb : Fun := qdY 69 [(0, 72, [.own 1, .own 2, .own 3, .own 4, .data I6, .data I6, .data I6, .data (.str)])] [(1, .arr 9 (.str)), (2, .nest 52 tT0 6 61), (3, .arr 47 tT2), (4, .arr 55 tT1)] qac
set_option maxRecDepth 100000 in
theorem qfx : FO qdb := qsm ⟨_, func69, (by kernel_rfl), rfl⟩ (qoD func69 (by kernel_rfl : f69.body = some (.seq (.region 0 #[((qrY (seqL formCode)).getD 0 oDum)] false) (.seq (.region 1 formOps false) .ret))) (by kernel_rfl) (by kernel_rfl) ⟨by kernel_rfl, by kernel_rfl, by kernel_rfl⟩ qq7 (by kernel_rfl) qef tk9 (by kernel_rfl) rfl underlying103)
def qa5 (s : List UInt8) (vprefix : List UInt8) : Option (Bool) :=
 bif decide ((vprefix.length : Int) ≤ (s.length : Int)) then (
 gd (cutG none (some (.i64, (vprefix.length : Int))) s.length) <|
 some (decide (s.take (vprefix.length : Int).toNat = vprefix)))
 else (
 some false)
def qbq : Fun :=
 ⟨127, 2, 1,
 ⟨r37_, [], []⟩,
 ⟨[(0, bb)], [], []⟩,
 fun x => qa5 x.1 x.2⟩
theorem qdc : FO qbq := fi [] [] 18 [] .nil func127 ⟨trivial, trivial⟩
def qaZ (s : List UInt8) (vprefix : List UInt8) : Option (List UInt8) :=
 (qa5 s vprefix).bind fun r =>
 bif r then (
 gd (cutG (some (.i64, (vprefix.length : Int))) none s.length) <|
 some (s.drop (vprefix.length : Int).toNat))
 else (
 some s)
def qbm : Fun :=
 ⟨115, 2, 1,
 ⟨r37_, [], []⟩,
 ⟨[(0, ss)], [], []⟩,
 fun x => qaZ x.1 x.2⟩
theorem qc3 : FO qbm := fi [] [qbq] 13 [] .nil func115 ⟨⟨qdc, trivial⟩, trivial⟩
def qb1 (s : List UInt8) (vprefix : List UInt8) : Option (List UInt8) :=
 (qaZ s vprefix).bind fun r =>
 some r
def qdO : Fun :=
 ⟨106, 2, 1,
 ⟨r37_, [], []⟩,
 ⟨[(0, ss)], [], []⟩,
 fun x => qb1 x.1 x.2⟩
theorem qgb : FO qdO := fi [] [qbm] 8 [] .nil func106 ⟨⟨qc3, trivial⟩, trivial⟩
def qgc : Fun := qp5 107
theorem qjr : FO qgc := qsl ⟨_, func107, (by kernel_rfl), rfl⟩ strconv_Atoi_ok strconv_Atoi_syn strconv_Atoi_range (by unfold globs; exact .head _) (by unfold globs; exact .tail _ (.head _))
def qb7 (r : List UInt8) (v : Int) : Option (Int ⊕ (Unit ⊕ (Int × Int))) :=
 bif decide (v < (r.length : Int)) then (
 Option.bind (α := Bool) (
 gd (inB v r.length) <|
 bif decide ((Int.ofNat (r.getD v.toNat 0).toNat) < 48) then (
 some true)
 else (
 gd (inB v r.length) <|
 some (decide (57 < (Int.ofNat (r.getD v.toNat 0).toNat))))) fun s3 =>
 bif s3 then (
 some (.inr (.inr (0, 3))))
 else (
 some (.inl (wi64 (v + 1)))))
 else (
 some (.inr (.inl ())))
def qeS (s : List UInt8) : Option (Int × Int) :=
 (qb1 s [45]).bind fun r =>
 Option.bind (α := Bool) (
 bif decide (r = []) then (
 some true)
 else (
 gd (inB 0 r.length) <|
 bif decide ((Int.ofNat (r.getD 0 0).toNat) = 48) then (
 some (!decide (s = [48])))
 else (
 some false))) fun s2 =>
 bif s2 then (
 some (0, 3))
 else (
 (iter (fun x => qb7 r x) 0).bind fun s4 =>
 s4.elim (fun s5 =>
 (atoiT s).bind fun r2 =>
 Option.bind (α := Bool) (
 bif r2.2 then (
 some true)
 else (
 bif decide (r2.1 < (-9007199254740992)) then (
 some true)
 else (
 some (decide (9007199254740992 < r2.1))))) fun s7 =>
 bif s7 then (
 some (0, 1))
 else (
 some (r2.1, 0)))
 (fun s6 =>
 some (s6.1, s6.2)))
def qgd : Fun :=
 ⟨70, 1, 2,
 ⟨[(0, ss)], [], []⟩,
 ⟨[(0, ii), (1, ii)], [], []⟩,
 fun x => qeS x⟩
theorem qjs : FO qgd := fi [] [qdO, qgc] 53 [] ((nn (nn (mm (mm (.mk [.join [⟨.n, ⟨[(0, kk), (4, kk), (20, bb)], [], []⟩⟩]] none .nil .nil) .nil) (mm (nn (mm (.mk [] (some (⟨[(0, kk), (4, kk), (22, kk), (23, ii)], [], []⟩, [⟨.x 0, ⟨[(0, kk)], [], []⟩⟩, ⟨.r, ⟨[(2, ii), (3, ii)], [], []⟩⟩])) (nn (nn (mm (mm (nn (mm (.mk [.join [⟨.n, ⟨[(0, kk), (4, kk), (22, kk), (23, kk), (35, bb)], [], []⟩⟩]] none .nil .nil) .nil)) .nil) .nil))) .nil) .nil)) (nn (mm (mm (.mk [.join [⟨.n, ⟨[(6, kk), (51, bb)], [], []⟩⟩]] none .nil .nil) .nil) .nil))))))) func70 ⟨⟨qgb, qjr, trivial⟩, trivial⟩
def qap (w : List (List UInt8)) (v : Int) (f : Nat) (n : List Int) (r10 : List (List UInt8)) (r11 : List yT0) (r12 : yB2) (r13 : List yB1) : Option ((Int × Nat × List Int × List (List UInt8) × (List yT0) × yB2 × List yB1) ⊕ ((Nat × List Int × List (List UInt8) × (List yT0) × yB2 × List yB1) ⊕ (Int × List (List UInt8) × (List yT0) × yB2 × List yB1))) :=
 bif decide (v < ((w.drop (wi64 (1 + (dispN qac 2 (qaM qac (w.getD 0 []))))).toNat).length : Int)) then (
 gd (inB v (w.drop (wi64 (1 + (dispN qac 2 (qaM qac (w.getD 0 []))))).toNat).length) <|
 (qeS ((w.drop (wi64 (1 + (dispN qac 2 (qaM qac (w.getD 0 []))))).toNat).getD v.toNat [])).bind fun r14 =>
 bif !decide (r14.2 = 0) then (
 some (.inr (.inr (3, r10, r11, r12, r13))))
 else (
 gd (fits (n.length + 1) 8) <|
 some (.inl (wi64 (v + 1), f, n ++ [r14.1], r10, r11, r12, r13))))
 else (
 some (.inr (.inl (f, n, r10, r11, r12, r13))))
def qaJ (w : List (List UInt8)) (r : Int) (r2 : Int) (r3 : Int) (r4 : List UInt8) (r5 : List (List UInt8)) (r6 : List yT0) (r7 : yB2) (r8 : List yB1) : Option yB4 :=
 (qea r r2 r3 r4 r5 r6 r7 r8).bind fun r9 =>
 gd (inB 0 w.length) <|
 Option.bind (α := Bool × Nat × List (List UInt8) × (List yT0) × yB2 × List yB1) (
 bif !(!Nat.beq (qaM qac (w.getD 0 [])) 0) then (
 some (true, qaM qac (w.getD 0 []), r9.2.2.2.2.1, r9.2.2.2.2.2.1, r9.2.2.2.2.2.2.1, r9.2.2.2.2.2.2.2))
 else (
 some ((!decide ((w.length : Int) = wi64 ((dispN qac 1 (qaM qac (w.getD 0 []))) + 1))), qaM qac (w.getD 0 []), r9.2.2.2.2.1, r9.2.2.2.2.2.1, r9.2.2.2.2.2.2.1, r9.2.2.2.2.2.2.2))) fun s =>
 bif s.1 then (
 some (3, r9.1, r9.2.1, r9.2.2.1, r9.2.2.2.1, s.2.2.1, s.2.2.2.1, s.2.2.2.2.1, s.2.2.2.2.2))
 else (
 gd (cutG (some (.i64, wi64 (1 + (dispN qac 2 (qaM qac (w.getD 0 [])))))) none w.length) <|
 (iter (fun x => qap w x.1 x.2.1 x.2.2.1 x.2.2.2.1 x.2.2.2.2.1 x.2.2.2.2.2.1 x.2.2.2.2.2.2) (0, s.2.1, [], s.2.2.1, s.2.2.2.1, s.2.2.2.2.1, s.2.2.2.2.2)).bind fun s2 =>
 s2.elim (fun s3 =>
 Option.bind (α := Bool × Nat × List Int × List (List UInt8) × (List yT0) × yB2 × List yB1) (
 bif !(decide (r9.2.2.1 = 0) == decide (dispN qac 0 (qaM qac (w.getD 0 [])) = 1)) then (
 some (true, s3.1, s3.2.1, s3.2.2.1, s3.2.2.2.1, s3.2.2.2.2.1, s3.2.2.2.2.2))
 else (
 bif decide (dispN qac 0 (qaM qac (w.getD 0 [])) < r9.2.2.1) then (
 some (true, s3.1, s3.2.1, s3.2.2.1, s3.2.2.2.1, s3.2.2.2.2.1, s3.2.2.2.2.2))
 else (
 gd (inB 0 w.length) <|
 bif decide (w.getD 0 [] = [112, 111, 105, 110, 116]) then (
 bif !decide (r9.2.2.2.1 = [115, 101, 103, 109, 101, 110, 116]) then (
 some ((!decide (r9.2.2.2.1 = [112, 111, 105, 110, 116])), s3.1, s3.2.1, s3.2.2.1, s3.2.2.2.1, s3.2.2.2.2.1, s3.2.2.2.2.2))
 else (
 some (false, s3.1, s3.2.1, s3.2.2.1, s3.2.2.2.1, s3.2.2.2.2.1, s3.2.2.2.2.2)))
 else (
 some (false, s3.1, s3.2.1, s3.2.2.1, s3.2.2.2.1, s3.2.2.2.2.1, s3.2.2.2.2.2))))) fun s5 =>
 bif s5.1 then (
 some (6, r9.1, r9.2.1, r9.2.2.1, r9.2.2.2.1, s5.2.2.2.1, s5.2.2.2.2.1, s5.2.2.2.2.2.1, s5.2.2.2.2.2.2))
 else (
 gd (inB 0 w.length) <|
 gd (inR 1 (wi64 (1 + (dispN qac 2 (qaM qac (w.getD 0 []))))) w.length) <|
 bif decide (s5.2.1 = 1) then (
 (qaT ((w.take (wi64 (1 + (dispN qac 2 (qaM qac (w.getD 0 []))))).toNat).drop 1) s5.2.2.1 r9.1 r9.2.1 (dispN qac 0 (qaM qac (w.getD 0 []))) (w.getD 0 []) s5.2.2.2.1 s5.2.2.2.2.1 s5.2.2.2.2.2.1 s5.2.2.2.2.2.2).bind fun r15 =>
 some (r15.1, r15.2.1, r15.2.2.1, r15.2.2.2.1, r15.2.2.2.2.1, r15.2.2.2.2.2.1, r15.2.2.2.2.2.2.1, r15.2.2.2.2.2.2.2.1, r15.2.2.2.2.2.2.2.2))
 else (
 bif decide (s5.2.1 = 2) then (
 (qbk ((w.take (wi64 (1 + (dispN qac 2 (qaM qac (w.getD 0 []))))).toNat).drop 1) s5.2.2.1 r9.1 r9.2.1 (dispN qac 0 (qaM qac (w.getD 0 []))) (w.getD 0 []) s5.2.2.2.1 s5.2.2.2.2.1 s5.2.2.2.2.2.1 s5.2.2.2.2.2.2).bind fun r16 =>
 some (r16.1, r16.2.1, r16.2.2.1, r16.2.2.2.1, r16.2.2.2.2.1, r16.2.2.2.2.2.1, r16.2.2.2.2.2.2.1, r16.2.2.2.2.2.2.2.1, r16.2.2.2.2.2.2.2.2))
 else (
 bif decide (s5.2.1 = 3) then (
 (qaU ((w.take (wi64 (1 + (dispN qac 2 (qaM qac (w.getD 0 []))))).toNat).drop 1) s5.2.2.1 r9.1 r9.2.1 (dispN qac 0 (qaM qac (w.getD 0 []))) (w.getD 0 []) s5.2.2.2.1 s5.2.2.2.2.1 s5.2.2.2.2.2.1 s5.2.2.2.2.2.2).bind fun r17 =>
 some (r17.1, r17.2.1, r17.2.2.1, r17.2.2.2.1, r17.2.2.2.2.1, r17.2.2.2.2.2.1, r17.2.2.2.2.2.2.1, r17.2.2.2.2.2.2.2.1, r17.2.2.2.2.2.2.2.2))
 else (
 bif decide (s5.2.1 = 4) then (
 (qbf ((w.take (wi64 (1 + (dispN qac 2 (qaM qac (w.getD 0 []))))).toNat).drop 1) s5.2.2.1 r9.1 r9.2.1 (dispN qac 0 (qaM qac (w.getD 0 []))) (w.getD 0 []) s5.2.2.2.1 s5.2.2.2.2.1 s5.2.2.2.2.2.1 s5.2.2.2.2.2.2).bind fun r18 =>
 some (r18.1, r18.2.1, r18.2.2.1, r18.2.2.2.1, r18.2.2.2.2.1, r18.2.2.2.2.2.1, r18.2.2.2.2.2.2.1, r18.2.2.2.2.2.2.2.1, r18.2.2.2.2.2.2.2.2))
 else (
 bif decide (s5.2.1 = 5) then (
 (qbl ((w.take (wi64 (1 + (dispN qac 2 (qaM qac (w.getD 0 []))))).toNat).drop 1) s5.2.2.1 r9.1 r9.2.1 (dispN qac 0 (qaM qac (w.getD 0 []))) (w.getD 0 []) s5.2.2.2.1 s5.2.2.2.2.1 s5.2.2.2.2.2.1 s5.2.2.2.2.2.2).bind fun r19 =>
 some (r19.1, r19.2.1, r19.2.2.1, r19.2.2.2.1, r19.2.2.2.2.1, r19.2.2.2.2.2.1, r19.2.2.2.2.2.2.1, r19.2.2.2.2.2.2.2.1, r19.2.2.2.2.2.2.2.2))
 else (
 bif decide (s5.2.1 = 6) then (
 (qaV ((w.take (wi64 (1 + (dispN qac 2 (qaM qac (w.getD 0 []))))).toNat).drop 1) s5.2.2.1 r9.1 r9.2.1 (dispN qac 0 (qaM qac (w.getD 0 []))) (w.getD 0 []) s5.2.2.2.1 s5.2.2.2.2.1 s5.2.2.2.2.2.1 s5.2.2.2.2.2.2).bind fun r20 =>
 some (r20.1, r20.2.1, r20.2.2.1, r20.2.2.2.1, r20.2.2.2.2.1, r20.2.2.2.2.2.1, r20.2.2.2.2.2.2.1, r20.2.2.2.2.2.2.2.1, r20.2.2.2.2.2.2.2.2))
 else (
 none))))))))
 (fun s4 =>
 some (s4.1, r9.1, r9.2.1, r9.2.2.1, r9.2.2.2.1, s4.2.1, s4.2.2.1, s4.2.2.2.1, s4.2.2.2.2)))
def qdu : Fun :=
 ⟨33, 2, 1,
 ⟨[(0, pt 0 0), (1, dd (.sl (.str)))], v10_, a6_⟩,
 ⟨[(0, ii)], v11_, a13_⟩,
 fun x => qaJ x.1 x.2.1 x.2.2.1 x.2.2.2.1 x.2.2.2.2.1 x.2.2.2.2.2.1 x.2.2.2.2.2.2.1 x.2.2.2.2.2.2.2.1 x.2.2.2.2.2.2.2.2⟩
theorem qfY : FO qdu := fi [4000112] [qdb, qgd, qcu, qds, qcv, qda, qdt, qcw] 113 [] ((nn (nn (mm (mm (.mk [.join [⟨.n, ⟨[(0, pt 0 0), (1, kk), (5, pt 96 0), (31, bb)], v12_, a6_⟩⟩]] none .nil .nil) .nil) (nn (mm (nn (mm (.mk [] (some (⟨[(0, pt 0 0), (1, kk), (5, pt 96 0), (7, ow 139), (36, kk), (37, kk), (38, ii)], v12_, a26_⟩, [⟨.x 0, ⟨[(0, pt 0 0), (1, kk), (5, pt 96 0), (7, ow 139)], v12_, a26_⟩⟩, ⟨.r, ⟨[(4, ii)], [(0, 72, [.own 1, .own 2, .own 3, .own 4, .keep, .keep, .keep, .keep])], a6_⟩⟩])) .nil .nil) .nil)) (nn (mm (mm (.mk [.join [⟨.n, ⟨[(0, pt 0 0), (1, kk), (5, pt 96 0), (7, ow 139), (92, bb)], v12_, a26_⟩⟩]] none .nil .nil) .nil) (nn (mm (.mk [.fz [7]] none .nil .nil) .nil)))))))))) func33 ⟨⟨qfx, qjs, qe2, qfW, qe3, qfw, qfX, qe4, trivial⟩, trivial⟩
def qad (s : List yT0) (f : yT0 × Unit → Option Bool) (v : Int) : Option (Int ⊕ (Unit ⊕ Int)) :=
 bif decide (v < (s.length : Int)) then (
 gd (inB v s.length) <|
 (f (s.getD v.toNat ([], (0, (0, (0, (0, (0, [])))))), ())).bind fun r =>
 bif r then (
 some (.inr (.inr v)))
 else (
 some (.inl (wi64 (v + 1)))))
 else (
 some (.inr (.inl ())))
def qaq (s : List yT0) (f : yT0 × Unit → Option Bool) : Option (Int) :=
 (iter (fun x => qad s f x) 0).bind fun s2 =>
 s2.elim (fun s3 =>
 some (-1))
 (fun s4 =>
 some s4)
def qaN : Fun :=
 ⟨52, 2, 1,
 ⟨r27_, [], []⟩,
 ⟨[(0, ii)], [], []⟩,
 fun x => qaq x.1 x.2⟩
theorem qbJ : FO qaN := fi [] [] 19 [] ((nn (mm (nn (mm (.mk [] (some (⟨r28_, [], []⟩, [⟨.x 0, ⟨[], [], []⟩⟩, ⟨.r, ⟨[(4, ii)], [], []⟩⟩])) .nil .nil) .nil)) .nil))) func52 ⟨trivial, trivial⟩
def qah (s : List yT0) (f : yT0 × Unit → Option Bool) : Option (Bool) :=
 (qaq s f).bind fun r =>
 some (decide (0 ≤ r))
def qat : Fun :=
 ⟨72, 2, 1,
 ⟨r27_, [], []⟩,
 ⟨[(0, bb)], [], []⟩,
 fun x => qah x.1 x.2⟩
theorem qaH : FO qat := fi [] [qaN] 9 [] .nil func72 ⟨⟨qbJ, trivial⟩, trivial⟩
def qd3 (s : yB6) : Option (Bool) :=
 bif decide ((s.2.2.2.2.2.2.length : Int) < 2) then (
 some true)
 else (
 some (decide (8 < (s.2.2.2.2.2.2.length : Int))))
def qet : Fun :=
 ⟨73, 1, 1,
 ⟨[(0, dd tT0)], [], []⟩,
 ⟨[(0, bb)], [], []⟩,
 fun x => qd3 x⟩
theorem qha : FO qet := fi [] [] 13 [] .nil func73 ⟨trivial, trivial⟩
def qcx (n : yB0) : Option (Bool) :=
 Option.bind (α := Bool) (
 bif decide ((n.1.length : Int) < 1) then (
 some true)
 else (
 bif decide (24 < (n.1.length : Int)) then (
 some true)
 else (
 bif decide (32 < (n.2.1.length : Int)) then (
 some true)
 else (
 bif decide (24 < (n.2.2.1.length : Int)) then (
 some true)
 else (
 some (decide (12 < (n.2.2.2.1.length : Int)))))))) fun s =>
 bif s then (
 some false)
 else (
 (qah n.2.1 (fun h => (qd3 h.1).bind fun y => some y)).bind fun r =>
 some (!r))
def qfe : Fun :=
 ⟨39, 1, 1,
 ⟨r1_, [], []⟩,
 ⟨[(0, bb)], [], []⟩,
 fun x => qcx x⟩
theorem qh9 : FO qfe := fi [] [qat, qet] 35 [] ((nn (mm (mm (.mk [.join [⟨.n, ⟨[(1, pt 32 0), (30, bb)], v3_, []⟩⟩]] none .nil .nil) .nil) .nil))) func39 ⟨⟨qaH, qha, trivial⟩, trivial⟩
def qcH (n : yB0) (v : Int) (out : List (List UInt8)) : Option ((Int × List (List UInt8)) ⊕ (List (List UInt8))) :=
 bif decide (v < (n.2.1.length : Int)) then (
 gd (inB v n.2.1.length) <|
 gd (fits (out.length + 1) 16) <|
 some (.inl (wi64 (v + 1), out ++ [(n.2.1.getD v.toNat ([], (0, (0, (0, (0, (0, []))))))).1])))
 else (
 some (.inr out))
def qcI (n : yB0) (v2 : Int) (out2 : List (List UInt8)) (out3 : List (List UInt8)) : Option ((Int × List (List UInt8) × List (List UInt8)) ⊕ (List (List UInt8) × List (List UInt8))) :=
 bif decide (v2 < (n.2.2.1.length : Int)) then (
 gd (inB v2 n.2.2.1.length) <|
 gd (fits (out3.length + 1) 16) <|
 some (.inl (wi64 (v2 + 1), out2, out3 ++ [(n.2.2.1.getD v2.toNat ([], (0, 0))).1])))
 else (
 some (.inr (out2, out3)))
def qcJ (n : yB0) (v3 : Int) (out4 : List (List UInt8)) (out5 : List (List UInt8)) (out6 : List (List UInt8)) : Option ((Int × List (List UInt8) × List (List UInt8) × List (List UInt8)) ⊕ (List (List UInt8) × List (List UInt8) × List (List UInt8))) :=
 bif decide (v3 < (n.2.2.2.1.length : Int)) then (
 gd (inB v3 n.2.2.2.1.length) <|
 gd (fits (out6.length + 1) 16) <|
 some (.inl (wi64 (v3 + 1), out4, out5, out6 ++ [(n.2.2.2.1.getD v3.toNat ([], (0, (0, (0, 0))))).1])))
 else (
 some (.inr (out4, out5, out6)))
def qbh (n : yB0) : Option yB5 :=
 (iter (fun x => qcH n x.1 x.2) (0, [])).bind fun s =>
 (iter (fun x2 => qcI n x2.1 x2.2.1 x2.2.2) (0, s, [])).bind fun s2 =>
 (iter (fun x3 => qcJ n x3.1 x3.2.1 x3.2.2.1 x3.2.2.2) (0, s2.1, s2.2, [])).bind fun s3 =>
 some (n.1, (s3.1, (s3.2.1, s3.2.2)))
def qd4 : Fun :=
 ⟨40, 1, 1,
 ⟨r1_, [], []⟩,
 ⟨r41_, [], []⟩,
 fun x => qbh x⟩
theorem qfO : FO qd4 := fi [] [] 59 [] ((nn (nn (nn (mm (nn (mm (.mk [] (some (⟨r49_, v23_, a62_⟩, [⟨.x 0, ⟨r42_, v23_, a62_⟩⟩])) .nil .nil) .nil)) (mm (nn (mm (.mk [] (some (⟨r50_, v21_, a39_⟩, [⟨.x 2, ⟨r42_, v21_, a39_⟩⟩])) .nil .nil) .nil)) (mm (nn (mm (.mk [] (some (⟨r56_, v29_, a30_⟩, [⟨.x 4, ⟨r43_, v29_, a30_⟩⟩])) .nil .nil) .nil)) .nil))))))) func40 ⟨trivial, trivial⟩
def qaj (s : List (List UInt8)) (f : List UInt8 × Unit → Option Bool) (v : Int) : Option (Int ⊕ (Unit ⊕ Int)) :=
 bif decide (v < (s.length : Int)) then (
 gd (inB v s.length) <|
 (f (s.getD v.toNat [], ())).bind fun r =>
 bif r then (
 some (.inr (.inr v)))
 else (
 some (.inl (wi64 (v + 1)))))
 else (
 some (.inr (.inl ())))
def qaE (s : List (List UInt8)) (f : List UInt8 × Unit → Option Bool) : Option (Int) :=
 (iter (fun x => qaj s f x) 0).bind fun s2 =>
 s2.elim (fun s3 =>
 some (-1))
 (fun s4 =>
 some s4)
def qbr : Fun :=
 ⟨74, 2, 1,
 ⟨r60_, [], []⟩,
 ⟨[(0, ii)], [], []⟩,
 fun x => qaE x.1 x.2⟩
theorem qdd : FO qbr := fi [] [] 19 [] ((nn (mm (nn (mm (.mk [] (some (⟨r28_, [], []⟩, [⟨.x 0, ⟨[], [], []⟩⟩, ⟨.r, ⟨[(4, ii)], [], []⟩⟩])) .nil .nil) .nil)) .nil))) func74 ⟨trivial, trivial⟩
def qak (s : List (List UInt8)) (f : List UInt8 × Unit → Option Bool) : Option (Bool) :=
 (qaE s f).bind fun r =>
 some (decide (0 ≤ r))
def qbi : Fun :=
 ⟨41, 2, 1,
 ⟨r60_, [], []⟩,
 ⟨[(0, bb)], [], []⟩,
 fun x => qak x.1 x.2⟩
theorem qcy : FO qbi := fi [] [qbr] 9 [] .nil func41 ⟨⟨qdd, trivial⟩, trivial⟩
def qeu (c : Int) : Option (Int) :=
 Option.bind (α := Unit ⊕ Unit ⊕ Int) (
 Option.bind (α := Bool) (
 bif decide (97 ≤ c) then (
 some (decide (c ≤ 122)))
 else (
 some false)) fun s =>
 bif s then (
 some (.inr (.inr 1)))
 else (
 Option.bind (α := Bool) (
 bif decide (48 ≤ c) then (
 some (decide (c ≤ 57)))
 else (
 some false)) fun s2 =>
 bif s2 then (
 some (.inl ()))
 else (
 bif decide (c = 45) then (
 some (.inl ()))
 else (
 some (.inr (.inl ())))))) fun s3 =>
 s3.elim (fun s4 =>
 some 2)
 (fun s5 =>
 s5.elim (fun s6 =>
 some 0)
 (fun s7 =>
 some s7))
def qgR : Fun :=
 ⟨75, 1, 1,
 ⟨[(0, dd (.int .u8))], [], []⟩,
 ⟨[(0, ii)], [], []⟩,
 fun x => qeu x⟩
theorem qjM : FO qgR := fi [] [] 20 [] ((nn (mm (mm (mm (.mk [.join [⟨.n, ⟨[], [], []⟩⟩, ⟨.x 0, ⟨[], [], []⟩⟩, ⟨.r, ⟨[(2, ii)], [], []⟩⟩]] none (mm (mm (mm (mm (mm (mm (.mk [.join [⟨.n, ⟨[(0, kk), (3, bb)], [], []⟩⟩]] none .nil .nil) .nil) (mm (mm (.mk [.join [⟨.n, ⟨[(0, kk), (10, bb)], [], []⟩⟩]] none .nil .nil) .nil) .nil)) .nil) .nil) .nil) .nil) .nil) .nil) .nil) .nil))) func75 ⟨trivial, trivial⟩
def qde (s : List UInt8) (v : Int) : Option (Int ⊕ (Unit ⊕ Bool)) :=
 bif decide (v < (s.length : Int)) then (
 gd (inB v s.length) <|
 (qeu (Int.ofNat (s.getD v.toNat 0).toNat)).bind fun r2 =>
 bif decide (r2 = 0) then (
 some (.inr (.inr false)))
 else (
 some (.inl (wi64 (v + 1)))))
 else (
 some (.inr (.inl ())))
def qej (s : List UInt8) : Option (Bool) :=
 Option.bind (α := Bool) (
 bif decide ((s.length : Int) < 1) then (
 some true)
 else (
 bif decide (12 < (s.length : Int)) then (
 some true)
 else (
 gd (inB 0 s.length) <|
 (qeu (Int.ofNat (s.getD 0 0).toNat)).bind fun r =>
 some (!decide (r = 1))))) fun s2 =>
 bif s2 then (
 some false)
 else (
 (iter (fun x => qde s x) 0).bind fun s3 =>
 s3.elim (fun s4 =>
 some true)
 (fun s5 =>
 some s5))
def qhI : Fun :=
 ⟨43, 1, 1,
 ⟨[(0, ss)], [], []⟩,
 ⟨[(0, bb)], [], []⟩,
 fun x => qej x⟩
theorem qkT : FO qhI := fi [] [qgR] 29 [] ((nn (mm (mm (.mk [.join [⟨.n, ⟨[(0, kk), (17, bb)], [], []⟩⟩]] none .nil .nil) .nil) (mm (nn (mm (.mk [] (some (⟨[(0, kk), (19, kk), (20, ii)], [], []⟩, [⟨.x 0, ⟨[], [], []⟩⟩, ⟨.r, ⟨[(2, bb)], [], []⟩⟩])) .nil .nil) .nil)) .nil)))) func43 ⟨⟨qjM, trivial⟩, trivial⟩
def qbA (s : List UInt8) : Option (Bool) :=
 (qej s).bind fun r =>
 some (!r)
def qeT : Fun :=
 ⟨42, 1, 1,
 ⟨[(0, ss)], [], []⟩,
 ⟨[(0, bb)], [], []⟩,
 fun x => qbA x⟩
theorem qhJ : FO qeT := fi [] [qhI] 6 [] .nil func42 ⟨⟨qkT, trivial⟩, trivial⟩
def qge (x : yB1) (v : yB1) : Option (Bool) :=
 some (decide (x.2.1 = v.2.1))
def qeU : Fun :=
 ⟨77, 2, 1,
 ⟨[(0, dd tT1), (1, .one (.sel tT1))], [], []⟩,
 ⟨[(0, bb)], [], []⟩,
 fun x => qge x.1 x.2⟩
theorem qhK : FO qeU := fi [] [] 9 [] .nil func77 ⟨trivial, trivial⟩
def qae (s : List yB1) (f : yB1 × Unit → Option Bool) (v : Int) : Option (Int ⊕ (Unit ⊕ Int)) :=
 bif decide (v < (s.length : Int)) then (
 gd (inB v s.length) <|
 (f (s.getD v.toNat ([], (0, (0, (0, 0)))), ())).bind fun r =>
 bif r then (
 some (.inr (.inr v)))
 else (
 some (.inl (wi64 (v + 1)))))
 else (
 some (.inr (.inl ())))
def qaf (s : List yB1) (f : yB1 × Unit → Option Bool) : Option (Int) :=
 (iter (fun x => qae s f x) 0).bind fun s2 =>
 s2.elim (fun s3 =>
 some (-1))
 (fun s4 =>
 some s4)
def qaw : Fun :=
 ⟨76, 2, 1,
 ⟨r38_, [], []⟩,
 ⟨[(0, ii)], [], []⟩,
 fun x => qaf x.1 x.2⟩
theorem qaO : FO qaw := fi [] [] 19 [] ((nn (mm (nn (mm (.mk [] (some (⟨r28_, [], []⟩, [⟨.x 0, ⟨[], [], []⟩⟩, ⟨.r, ⟨[(4, ii)], [], []⟩⟩])) .nil .nil) .nil)) .nil))) func76 ⟨trivial, trivial⟩
def qcK (r : yB5) (v : Int) (v2 : Int) : Option (Int ⊕ (Unit ⊕ Bool)) :=
 bif decide (v2 < (([r.1, r.2.1, r.2.2.1, r.2.2.2].getD v.toNat []).length : Int)) then (
 gd (inB v2 ([r.1, r.2.1, r.2.2.1, r.2.2.2].getD v.toNat []).length) <|
 (qal ([r.1, r.2.1, r.2.2.1, r.2.2.2].getD v.toNat []) (([r.1, r.2.1, r.2.2.1, r.2.2.2].getD v.toNat []).getD v2.toNat [])).bind fun r2 =>
 bif decide (r2 < v2) then (
 some (.inr (.inr true)))
 else (
 some (.inl (wi64 (v2 + 1)))))
 else (
 some (.inr (.inl ())))
def qcL (r : yB5) (v : Int) : Option (Int ⊕ (Unit ⊕ Bool)) :=
 bif decide (v < 4) then (
 gd (inB v 4) <|
 (iter (fun x => qcK r v x) 0).bind fun s =>
 s.elim (fun s2 =>
 some (.inl (wi64 (v + 1))))
 (fun s3 =>
 some (.inr (.inr s3))))
 else (
 some (.inr (.inl ())))
def qcM (n : yB0) (v3 : Int) : Option (Int ⊕ (Unit ⊕ Bool)) :=
 bif decide (v3 < (n.2.2.2.1.length : Int)) then (
 gd (inB v3 n.2.2.2.1.length) <|
 (qaf n.2.2.2.1 (fun h => (qge h.1 ((n.2.2.2.1.getD v3.toNat ([], (0, (0, (0, 0))))).1, (((n.2.2.2.1.getD v3.toNat ([], (0, (0, (0, 0))))).2).1, ((((n.2.2.2.1.getD v3.toNat ([], (0, (0, (0, 0))))).2).2).1, (((((n.2.2.2.1.getD v3.toNat ([], (0, (0, (0, 0))))).2).2).2).1, ((((n.2.2.2.1.getD v3.toNat ([], (0, (0, (0, 0))))).2).2).2).2))))).bind fun y => some y)).bind fun r3 =>
 bif decide (r3 < v3) then (
 some (.inr (.inr true)))
 else (
 some (.inl (wi64 (v3 + 1)))))
 else (
 some (.inr (.inl ())))
def qdf (n : yB0) : Option (Bool) :=
 (qbh (n.1, (n.2.1, (n.2.2.1, (n.2.2.2.1, (n.2.2.2.2.1, n.2.2.2.2.2)))))).bind fun r =>
 (iter (fun x2 => qcL r x2) 0).bind fun s4 =>
 s4.elim (fun s5 =>
 (iter (fun x3 => qcM n x3) 0).bind fun s7 =>
 s7.elim (fun s8 =>
 some false)
 (fun s9 =>
 some s9))
 (fun s6 =>
 some s6)
def qfP : Fun :=
 ⟨44, 1, 1,
 ⟨r1_, [], []⟩,
 ⟨[(0, bb)], [], []⟩,
 fun x => qdf x⟩
theorem qip : FO qfP := fi [] [qd4, qaG, qaw, qeU] 43 [] ((nn (mm (nn (mm (.mk [] (some (⟨[(1, pt 32 0), (10, kk), (11, ii)], v3_, []⟩, [⟨.x 0, ⟨[(1, pt 32 0)], v3_, []⟩⟩, ⟨.r, ⟨[(2, bb)], [], []⟩⟩])) (nn (nn (mm (mm (nn (nn (mm (.mk [] (some (⟨[(1, pt 32 0), (4, kk), (10, kk), (11, kk), (14, kk), (15, kk), (16, ii)], v3_, []⟩, [⟨.x 2, ⟨[(1, pt 32 0), (10, kk), (11, kk)], v3_, []⟩⟩, ⟨.r, ⟨[(2, bb)], [], []⟩⟩])) .nil .nil) .nil))) .nil) .nil))) .nil) .nil)) (mm (nn (mm (.mk [] (some (⟨[(1, pt 32 0), (29, kk), (30, kk), (31, ii)], v3_, []⟩, [⟨.x 4, ⟨[], [], []⟩⟩, ⟨.r, ⟨[(2, bb)], [], []⟩⟩])) (nn (nn (mm (mm (nn (mm (.mk [.fv [(8, .pair (.str) (.pair I6 (.pair I6 (.pair I6 I6))))]] none .nil .nil) .nil)) .nil) .nil))) .nil) .nil)) .nil)))) func44 ⟨⟨qfO, qbd, qaO, qhK, trivial⟩, trivial⟩
def qdg (k : Int) (v : yB0) : Option (Bool) :=
 bif decide (k < 0) then (
 some true)
 else (
 some (decide ((v.1.length : Int) ≤ k)))
def qeV : Fun :=
 ⟨79, 2, 1,
 ⟨[(0, ii), (1, .one (.sel (.pair (.sl (.str)) (.pair (.sl tT0) (.pair (.sl tT2) (.pair (.sl tT1) (.pair I6 I6)))))))], [], []⟩,
 ⟨[(0, bb)], [], []⟩,
 fun x => qdg x.1 x.2⟩
theorem qhL : FO qeV := fi [] [] 13 [] .nil func79 ⟨trivial, trivial⟩
def qav (s : List Int) (f : Int × Unit → Option Bool) (v : Int) : Option (Int ⊕ (Unit ⊕ Int)) :=
 bif decide (v < (s.length : Int)) then (
 gd (inB v s.length) <|
 (f (s.getD v.toNat 0, ())).bind fun r =>
 bif r then (
 some (.inr (.inr v)))
 else (
 some (.inl (wi64 (v + 1)))))
 else (
 some (.inr (.inl ())))
def qba (s : List Int) (f : Int × Unit → Option Bool) : Option (Int) :=
 (iter (fun x => qav s f x) 0).bind fun s2 =>
 s2.elim (fun s3 =>
 some (-1))
 (fun s4 =>
 some s4)
def qb8 : Fun :=
 ⟨108, 2, 1,
 ⟨r58_, [], []⟩,
 ⟨[(0, ii)], [], []⟩,
 fun x => qba x.1 x.2⟩
theorem qev : FO qb8 := fi [] [] 19 [] ((nn (mm (nn (mm (.mk [] (some (⟨r28_, [], []⟩, [⟨.x 0, ⟨[], [], []⟩⟩, ⟨.r, ⟨[(4, ii)], [], []⟩⟩])) .nil .nil) .nil)) .nil))) func108 ⟨trivial, trivial⟩
def qaP (s : List Int) (f : Int × Unit → Option Bool) : Option (Bool) :=
 (qba s f).bind fun r =>
 some (decide (0 ≤ r))
def qbH : Fun :=
 ⟨78, 2, 1,
 ⟨r58_, [], []⟩,
 ⟨[(0, bb)], [], []⟩,
 fun x => qaP x.1 x.2⟩
theorem qdP : FO qbH := fi [] [qb8] 9 [] .nil func78 ⟨⟨qev, trivial⟩, trivial⟩
def qcN (n : yB0) (v : Int) (all : List Int) : Option ((Int × List Int) ⊕ (List Int)) :=
 bif decide (v < (n.2.1.length : Int)) then (
 gd (inB v n.2.1.length) <|
 gd (fits (all.length + 2) 8) <|
 some (.inl (wi64 (v + 1), all ++ [((n.2.1.getD v.toNat ([], (0, (0, (0, (0, (0, []))))))).2).1, (((n.2.1.getD v.toNat ([], (0, (0, (0, (0, (0, []))))))).2).2).1])))
 else (
 some (.inr all))
def qcO (n : yB0) (v2 : Int) (all2 : List Int) : Option ((Int × List Int) ⊕ (List Int)) :=
 bif decide (v2 < (n.2.2.1.length : Int)) then (
 gd (inB v2 n.2.2.1.length) <|
 gd (fits (all2.length + 1) 8) <|
 some (.inl (wi64 (v2 + 1), all2 ++ [((n.2.2.1.getD v2.toNat ([], (0, 0))).2).1])))
 else (
 some (.inr all2))
def qcP (n : yB0) (v3 : Int) (all3 : List Int) : Option ((Int × List Int) ⊕ (List Int)) :=
 bif decide (v3 < (n.2.2.2.1.length : Int)) then (
 gd (inB v3 n.2.2.2.1.length) <|
 gd (fits (all3.length + 1) 8) <|
 some (.inl (wi64 (v3 + 1), all3 ++ [((n.2.2.2.1.getD v3.toNat ([], (0, (0, (0, 0))))).2).1])))
 else (
 some (.inr all3))
def qdh (n : yB0) : Option (Bool) :=
 (iter (fun x => qcN n x.1 x.2) (0, [])).bind fun s =>
 (iter (fun x2 => qcO n x2.1 x2.2) (0, s)).bind fun s2 =>
 (iter (fun x3 => qcP n x3.1 x3.2) (0, s2)).bind fun s3 =>
 (qaP s3 (fun h => (qdg h.1 (n.1, (n.2.1, (n.2.2.1, (n.2.2.2.1, (n.2.2.2.2.1, n.2.2.2.2.2)))))).bind fun y => some y)).bind fun r =>
 some (!r)
def qfQ : Fun :=
 ⟨45, 1, 1,
 ⟨r1_, [], []⟩,
 ⟨[(0, bb)], [], []⟩,
 fun x => qdh x⟩
theorem qiq : FO qfQ := fi [] [qbH, qeV] 55 [] ((nn (nn (mm (nn (mm (.mk [] (some (⟨[(1, pt 32 0), (3, ow 75), (11, kk), (12, kk), (13, ii)], v3_, a61_⟩, [⟨.x 0, ⟨[(1, pt 32 0), (3, ow 75)], v3_, a61_⟩⟩])) .nil .nil) .nil)) (mm (nn (mm (.mk [] (some (⟨[(1, pt 32 0), (3, ow 75), (26, kk), (27, kk), (28, ii)], v3_, a61_⟩, [⟨.x 2, ⟨[(1, pt 32 0), (3, ow 75)], v3_, a61_⟩⟩])) .nil .nil) .nil)) (mm (nn (mm (.mk [] (some (⟨[(1, pt 32 0), (3, ow 75), (39, kk), (40, kk), (41, ii)], v3_, a61_⟩, [⟨.x 4, ⟨[(1, pt 32 0), (3, ow 75)], v3_, a61_⟩⟩])) .nil .nil) .nil)) (mm (.mk [.fv [(1, .pair (.sl (.str)) (.pair (.sl tT0) (.pair (.sl tT2) (.pair (.sl tT1) (.pair I6 I6)))))]] none .nil .nil) .nil))))))) func45 ⟨⟨qdP, qhL, trivial⟩, trivial⟩
def qbb (n : Int) (least : Int) (most : Int) : Option (Bool) :=
 bif decide (least ≤ n) then (
 some (decide (n ≤ most)))
 else (
 some false)
def qdi : Fun :=
 ⟨84, 3, 1,
 ⟨[(0, ii), (1, ii), (2, ii)], [], []⟩,
 ⟨[(0, bb)], [], []⟩,
 fun x => qbb x.1 x.2.1 x.2.2⟩
theorem qeh : FO qdi := fi [] [] 15 [] .nil func84 ⟨trivial, trivial⟩
def qdj (s : yB6) (v : Int) : Option (Int ⊕ (Unit ⊕ Bool)) :=
 bif decide (v < (s.2.2.2.2.2.2.length : Int)) then (
 gd (inB v s.2.2.2.2.2.2.length) <|
 Option.bind (α := Bool) (
 (qbb (((s.2.2.2.2.2.2.getD v.toNat (0, (0, 0))).2).1) (-500) 5000).bind fun r4 =>
 bif !r4 then (
 some true)
 else (
 (qbb (((s.2.2.2.2.2.2.getD v.toNat (0, (0, 0))).2).2) 0 100000000).bind fun r5 =>
 bif !r5 then (
 some true)
 else (
 bif decide (0 < v) then (
 gd (inB (wi64 (v - 1)) s.2.2.2.2.2.2.length) <|
 some (decide ((s.2.2.2.2.2.2.getD v.toNat (0, (0, 0))).1 ≤ (s.2.2.2.2.2.2.getD (wi64 (v - 1)).toNat (0, (0, 0))).1)))
 else (
 some false)))) fun s3 =>
 bif s3 then (
 some (.inr (.inr false)))
 else (
 some (.inl (wi64 (v + 1)))))
 else (
 some (.inr (.inl ())))
def qdQ (s : yB6) : Option (Bool) :=
 Option.bind (α := Bool) (
 bif decide (s.2.1 = s.2.2.1) then (
 some true)
 else (
 (qbb s.2.2.2.1 1 1000000).bind fun r =>
 bif !r then (
 some true)
 else (
 (qbb s.2.2.2.2.1 0 1000).bind fun r2 =>
 bif !r2 then (
 some true)
 else (
 (qbb s.2.2.2.2.2.1 0 100000).bind fun r3 =>
 some (!r3))))) fun s2 =>
 bif s2 then (
 some false)
 else (
 (iter (fun x => qdj s x) 0).bind fun s4 =>
 s4.elim (fun s5 =>
 gd (inB 0 s.2.2.2.2.2.2.length) <|
 bif decide ((s.2.2.2.2.2.2.getD 0 (0, (0, 0))).1 = 0) then (
 gd (inB (wi64 ((s.2.2.2.2.2.2.length : Int) - 1)) s.2.2.2.2.2.2.length) <|
 some (decide ((s.2.2.2.2.2.2.getD (wi64 ((s.2.2.2.2.2.2.length : Int) - 1)).toNat (0, (0, 0))).1 = s.2.2.2.1)))
 else (
 some false))
 (fun s6 =>
 some s6))
def qgf : Fun :=
 ⟨81, 1, 1,
 ⟨[(0, dd tT0)], [], []⟩,
 ⟨[(0, bb)], [], []⟩,
 fun x => qdQ x⟩
theorem qjt : FO qgf := fi [] [qdi] 83 [] ((nn (mm (mm (.mk [.join [⟨.n, ⟨[(1, pt 32 0), (27, bb)], v53_, []⟩⟩]] none .nil .nil) .nil) (mm (nn (mm (.mk [] (some (⟨[(1, pt 32 0), (29, kk), (30, kk), (31, ii)], v53_, []⟩, [⟨.x 0, ⟨[(1, pt 32 0)], v53_, []⟩⟩, ⟨.r, ⟨[(2, bb)], [], []⟩⟩])) (nn (nn (mm (mm (nn (mm (.mk [.join [⟨.n, ⟨[(1, pt 32 0), (29, kk), (30, kk), (31, kk), (61, bb)], v53_, []⟩⟩]] none .nil .nil) .nil)) .nil) .nil))) .nil) .nil)) .nil)))) func81 ⟨⟨qeh, trivial⟩, trivial⟩
def qcQ (s : yB6) : Option (Bool) :=
 (qdQ (s.1, (s.2.1, (s.2.2.1, (s.2.2.2.1, (s.2.2.2.2.1, (s.2.2.2.2.2.1, s.2.2.2.2.2.2))))))).bind fun r =>
 some (!r)
def qew : Fun :=
 ⟨80, 1, 1,
 ⟨[(0, dd tT0)], [], []⟩,
 ⟨[(0, bb)], [], []⟩,
 fun x => qcQ x⟩
theorem qhb : FO qew := fi [] [qgf] 6 [] .nil func80 ⟨⟨qjt, trivial⟩, trivial⟩
def qai (s : yB2) (f : (List UInt8 × Int × Int) × Unit → Option Bool) (v : Int) : Option (Int ⊕ (Unit ⊕ Int)) :=
 bif decide (v < (s.length : Int)) then (
 gd (inB v s.length) <|
 (f (s.getD v.toNat ([], (0, 0)), ())).bind fun r =>
 bif r then (
 some (.inr (.inr v)))
 else (
 some (.inl (wi64 (v + 1)))))
 else (
 some (.inr (.inl ())))
def qay (s : yB2) (f : (List UInt8 × Int × Int) × Unit → Option Bool) : Option (Int) :=
 (iter (fun x => qai s f x) 0).bind fun s2 =>
 s2.elim (fun s3 =>
 some (-1))
 (fun s4 =>
 some s4)
def qbg : Fun :=
 ⟨49, 2, 1,
 ⟨r48_, [], []⟩,
 ⟨[(0, ii)], [], []⟩,
 fun x => qay x.1 x.2⟩
theorem qcs : FO qbg := fi [] [] 19 [] ((nn (mm (nn (mm (.mk [] (some (⟨r28_, [], []⟩, [⟨.x 0, ⟨[], [], []⟩⟩, ⟨.r, ⟨[(4, ii)], [], []⟩⟩])) .nil .nil) .nil)) .nil))) func49 ⟨trivial, trivial⟩
def qau (s : yB2) (f : (List UInt8 × Int × Int) × Unit → Option Bool) : Option (Bool) :=
 (qay s f).bind fun r =>
 some (decide (0 ≤ r))
def qa0 : Fun :=
 ⟨82, 2, 1,
 ⟨r48_, [], []⟩,
 ⟨[(0, bb)], [], []⟩,
 fun x => qau x.1 x.2⟩
theorem qb4 : FO qa0 := fi [] [qbg] 9 [] .nil func82 ⟨⟨qcs, trivial⟩, trivial⟩
def qcR (p : List UInt8 × Int × Int) : Option (Bool) :=
 (qbb p.2.2 0 100000000).bind fun r =>
 some (!r)
def qex : Fun :=
 ⟨83, 1, 1,
 ⟨[(0, dd tT2)], [], []⟩,
 ⟨[(0, bb)], [], []⟩,
 fun x => qcR x⟩
theorem qhc : FO qex := fi [] [qdi] 7 [] .nil func83 ⟨⟨qeh, trivial⟩, trivial⟩
def qan (s : List yB1) (f : yB1 × Unit → Option Bool) : Option (Bool) :=
 (qaf s f).bind fun r =>
 some (decide (0 ≤ r))
def qaI : Fun :=
 ⟨85, 2, 1,
 ⟨r38_, [], []⟩,
 ⟨[(0, bb)], [], []⟩,
 fun x => qan x.1 x.2⟩
theorem qbx : FO qaI := fi [] [qaw] 9 [] .nil func85 ⟨⟨qaO, trivial⟩, trivial⟩
def qcS (s : yB1) : Option (Bool) :=
 (qbb s.2.2.1 0 100000000).bind fun r =>
 bif !r then (
 some true)
 else (
 (qbb s.2.2.2.1 0 100000).bind fun r2 =>
 bif !r2 then (
 some true)
 else (
 (qbb s.2.2.2.2 0 100000000).bind fun r3 =>
 some (!r3)))
def qey : Fun :=
 ⟨86, 1, 1,
 ⟨[(0, dd tT1)], [], []⟩,
 ⟨[(0, bb)], [], []⟩,
 fun x => qcS x⟩
theorem qhd : FO qey := fi [] [qdi] 19 [] .nil func86 ⟨⟨qeh, trivial⟩, trivial⟩
def qcz (n : yB0) : Option (Bool) :=
 (qah n.2.1 (fun h => (qcQ h.1).bind fun y => some y)).bind fun r =>
 bif r then (
 some false)
 else (
 (qau n.2.2.1 (fun h2 => (qcR h2.1).bind fun y => some y)).bind fun r2 =>
 bif r2 then (
 some false)
 else (
 (qan n.2.2.2.1 (fun h3 => (qcS h3.1).bind fun y => some y)).bind fun r3 =>
 bif r3 then (
 some false)
 else (
 (qbb n.2.2.2.2.1 (-100000) 100000000).bind fun r4 =>
 bif r4 then (
 (qbb n.2.2.2.2.2 0 100).bind fun r5 =>
 some r5)
 else (
 some false))))
def qff : Fun :=
 ⟨46, 1, 1,
 ⟨r1_, [], []⟩,
 ⟨[(0, bb)], [], []⟩,
 fun x => qcz x⟩
theorem qia : FO qff := fi [] [qat, qew, qa0, qex, qaI, qey, qdi] 20 [] .nil func46 ⟨⟨qaH, qhb, qb4, qhc, qbx, qhd, qeh, trivial⟩, trivial⟩
def qcT (r2 : yB5) (v : Int) : Option (Int ⊕ (Unit ⊕ Int)) :=
 bif decide (v < 4) then (
 gd (inB v 4) <|
 (qak ([r2.1, r2.2.1, r2.2.2.1, r2.2.2.2].getD v.toNat []) (fun h => (qbA h.1).bind fun y => some y)).bind fun r3 =>
 bif r3 then (
 some (.inr (.inr 3)))
 else (
 some (.inl (wi64 (v + 1)))))
 else (
 some (.inr (.inl ())))
def qdk (n : yB0) : Option (Int) :=
 (qcx (n.1, (n.2.1, (n.2.2.1, (n.2.2.2.1, (n.2.2.2.2.1, n.2.2.2.2.2)))))).bind fun r =>
 bif !r then (
 some 4)
 else (
 (qbh (n.1, (n.2.1, (n.2.2.1, (n.2.2.2.1, (n.2.2.2.2.1, n.2.2.2.2.2)))))).bind fun r2 =>
 (iter (fun x => qcT r2 x) 0).bind fun s =>
 s.elim (fun s2 =>
 (qdf (n.1, (n.2.1, (n.2.2.1, (n.2.2.2.1, (n.2.2.2.2.1, n.2.2.2.2.2)))))).bind fun r4 =>
 bif r4 then (
 some 7)
 else (
 (qdh (n.1, (n.2.1, (n.2.2.1, (n.2.2.2.1, (n.2.2.2.2.1, n.2.2.2.2.2)))))).bind fun r5 =>
 bif !r5 then (
 some 8)
 else (
 (qcz (n.1, (n.2.1, (n.2.2.1, (n.2.2.2.1, (n.2.2.2.2.1, n.2.2.2.2.2)))))).bind fun r6 =>
 bif !r6 then (
 some 9)
 else (
 some 0))))
 (fun s3 =>
 some s3))
def qfR : Fun :=
 ⟨18, 1, 1,
 ⟨r1_, [], []⟩,
 ⟨[(0, ii)], [], []⟩,
 fun x => qdk x⟩
theorem qir : FO qfR := fi [] [qfe, qd4, qbi, qeT, qfP, qfQ, qff] 27 [] ((nn (nn (mm (nn (mm (.mk [] (some (⟨[(1, pt 32 0), (9, kk), (10, ii)], v3_, []⟩, [⟨.x 0, ⟨[(1, pt 32 0)], v3_, []⟩⟩, ⟨.r, ⟨[(2, ii)], [], []⟩⟩])) .nil .nil) .nil)) .nil)))) func18 ⟨⟨qh9, qfO, qcy, qhJ, qip, qiq, qia, trivial⟩, trivial⟩
def qbV (r : List (List (List UInt8)) × Int) (v : Int) (v2 : List (List UInt8)) (v3 : List yT0) (v4 : yB2) (v5 : List yB1) (v6 : Int) (v7 : Int) (r2 : Int) (r3 : Int) (r4 : Int) (r5 : List UInt8) (r6 : List (List UInt8)) (r7 : List yT0) (r8 : yB2) (r9 : List yB1) : Option ((Int × List (List UInt8) × (List yT0) × yB2 × (List yB1) × Int × Int × Int × Int × Int × List UInt8 × List (List UInt8) × (List yT0) × yB2 × List yB1) ⊕ ((List (List UInt8) × (List yT0) × yB2 × (List yB1) × Int × Int × Int × Int × Int × List UInt8 × List (List UInt8) × (List yT0) × yB2 × List yB1) ⊕ yB3)) :=
 bif decide (v < (r.1.length : Int)) then (
 Option.bind (α := (List (List UInt8) × (List yT0) × yB2 × (List yB1) × Int × Int × Int × Int × Int × List UInt8 × List (List UInt8) × (List yT0) × yB2 × List yB1) ⊕ yB3) (
 gd (inB v r.1.length) <|
 bif decide (((r.1.getD v.toNat []).length : Int) = 0) then (
 some (.inl (v2, v3, v4, v5, v6, v7, r2, r3, r4, r5, r6, r7, r8, r9)))
 else (
 (qaJ (r.1.getD v.toNat []) r2 r3 r4 r5 r6 r7 r8 r9).bind fun r10 =>
 bif !decide (r10.1 = 0) then (
 some (.inr (wi64 (v + 1), r10.1, [], [], [], [], 0, 0)))
 else (
 some (.inl (v2, v3, v4, v5, v6, v7, r10.2.1, r10.2.2.1, r10.2.2.2.1, r10.2.2.2.2.1, r10.2.2.2.2.2.1, r10.2.2.2.2.2.2.1, r10.2.2.2.2.2.2.2.1, r10.2.2.2.2.2.2.2.2))))) fun s =>
 s.elim (fun s2 =>
 some (.inl (wi64 (v + 1), s2.1, s2.2.1, s2.2.2.1, s2.2.2.2.1, s2.2.2.2.2.1, s2.2.2.2.2.2.1, s2.2.2.2.2.2.2.1, s2.2.2.2.2.2.2.2.1, s2.2.2.2.2.2.2.2.2.1, s2.2.2.2.2.2.2.2.2.2.1, s2.2.2.2.2.2.2.2.2.2.2.1, s2.2.2.2.2.2.2.2.2.2.2.2.1, s2.2.2.2.2.2.2.2.2.2.2.2.2.1, s2.2.2.2.2.2.2.2.2.2.2.2.2.2)))
 (fun s3 =>
 some (.inr (.inr (s3.1, s3.2.1, s3.2.2.1, s3.2.2.2.1, s3.2.2.2.2.1, s3.2.2.2.2.2.1, s3.2.2.2.2.2.2.1, s3.2.2.2.2.2.2.2)))))
 else (
 some (.inr (.inl (v2, v3, v4, v5, v6, v7, r2, r3, r4, r5, r6, r7, r8, r9))))
def qbK (text : List UInt8) : Option (yB0 × Int × Int) :=
 (qfu text).bind fun r =>
 bif !decide (r.2 = 0) then (
 some (([], ([], ([], ([], (0, 0))))), 0, r.2))
 else (
 (iter (fun x => qbV r x.1 x.2.1 x.2.2.1 x.2.2.2.1 x.2.2.2.2.1 x.2.2.2.2.2.1 x.2.2.2.2.2.2.1 x.2.2.2.2.2.2.2.1 x.2.2.2.2.2.2.2.2.1 x.2.2.2.2.2.2.2.2.2.1 x.2.2.2.2.2.2.2.2.2.2.1 x.2.2.2.2.2.2.2.2.2.2.2.1 x.2.2.2.2.2.2.2.2.2.2.2.2.1 x.2.2.2.2.2.2.2.2.2.2.2.2.2.1 x.2.2.2.2.2.2.2.2.2.2.2.2.2.2) (0, [], [], [], [], 0, 0, 0, 0, 0, [], [], [], [], [])).bind fun s4 =>
 s4.elim (fun s5 =>
 bif decide (s5.2.2.2.2.2.2.2.2.1 = 0) then (
 some (([], ([], ([], ([], (0, 0))))), 0, 3))
 else (
 (qdk (s5.2.2.2.2.2.2.2.2.2.2.1, (s5.2.2.2.2.2.2.2.2.2.2.2.1, (s5.2.2.2.2.2.2.2.2.2.2.2.2.1, (s5.2.2.2.2.2.2.2.2.2.2.2.2.2, (s5.2.2.2.2.2.2.1, s5.2.2.2.2.2.2.2.1)))))).bind fun r11 =>
 bif !decide (r11 = 0) then (
 some (([], ([], ([], ([], (0, 0))))), 0, r11))
 else (
 some ((s5.2.2.2.2.2.2.2.2.2.2.1, (s5.2.2.2.2.2.2.2.2.2.2.2.1, (s5.2.2.2.2.2.2.2.2.2.2.2.2.1, (s5.2.2.2.2.2.2.2.2.2.2.2.2.2, (s5.2.2.2.2.2.2.1, s5.2.2.2.2.2.2.2.1))))), 0, 0))))
 (fun s6 =>
 some ((s6.2.2.1, (s6.2.2.2.1, (s6.2.2.2.2.1, (s6.2.2.2.2.2.1, (s6.2.2.2.2.2.2.1, s6.2.2.2.2.2.2.2))))), s6.1, s6.2.1)))
def qd5 : Fun :=
 ⟨15, 1, 3,
 ⟨[(0, ss)], [], []⟩,
 ⟨r34_, [], []⟩,
 fun x => qbK x⟩
theorem qfS : FO qd5 := fi [7000053] [qgQ, qdu, qfR] 62 [] ((nn (nn (nn (nn (mm (nn (mm (.mk [] (some (⟨[(2, pt 48 0), (7, pt 368 0), (23, kk), (24, kk), (25, ii)], v9_, a31_⟩, [⟨.x 0, ⟨[(2, pt 48 0), (7, pt 368 0)], v9_, a31_⟩⟩, ⟨.r, ⟨r32_, v4_, []⟩⟩])) (nn (nn (mm (.mk [.join [⟨.n, ⟨[(2, pt 48 0), (7, pt 368 0), (23, kk), (24, kk), (25, kk)], v9_, a31_⟩⟩, ⟨.r, ⟨r32_, v4_, []⟩⟩]] none .nil .nil) .nil))) .nil) .nil)) .nil)))))) func15 ⟨⟨qjL, qfY, qir, trivial⟩, trivial⟩
def qfy : Option (Bool) :=
 (qgB).bind fun r =>
 (qbK r).bind fun r2 =>
 (qbK [110, 111, 100, 101, 32, 97]).bind fun r3 =>
 bif decide (r2.2.2 = 0) then (
 bif decide (r2.2.1 = 0) then (
 bif decide ((r2.1.1.length : Int) = 2) then (
 bif decide ((r2.1.2.1.length : Int) = 1) then (
 gd (inB 0 r2.1.2.1.length) <|
 bif decide (((((r2.1.2.1.getD 0 ([], (0, (0, (0, (0, (0, []))))))).2).2).2).1 = 100) then (
 bif decide ((r2.1.2.2.2.1.length : Int) = 1) then (
 gd (inB 0 r2.1.2.2.2.1.length) <|
 bif decide (((((r2.1.2.2.2.1.getD 0 ([], (0, (0, (0, 0))))).2).2).2).1 = 200) then (
 (qil (r2.1.1, (r2.1.2.1, (r2.1.2.2.1, (r2.1.2.2.2.1, (r2.1.2.2.2.2.1, r2.1.2.2.2.2.2))))) [98]).bind fun r4 =>
 bif decide (r4 = 1) then (
 bif decide (r3.2.1 = 1) then (
 some (decide (r3.2.2 = 6)))
 else (
 some false))
 else (
 some false))
 else (
 some false))
 else (
 some false))
 else (
 some false))
 else (
 some false))
 else (
 some false))
 else (
 some false))
 else (
 some false)
def qgS : Fun :=
 ⟨7, 0, 1,
 ⟨[], [], []⟩,
 ⟨[(0, bb)], [], []⟩,
 fun x => qfy⟩
theorem qjN : FO qgS := fi [] [qfs, qd5, qga] 71 [] .nil func7 ⟨⟨qhG, qfS, qjq, trivial⟩, trivial⟩
def qiA (l : List Int) : Option (List Int × Int) :=
 gd (cutG none (some (.i64, min (l.length : Int) 2000)) l.length) <|
 some (l.take (min (l.length : Int) 2000).toNat, 0)
def qju : Fun :=
 ⟨8, 1, 1,
 ⟨[(0, dd (.sl I6))], [], []⟩,
 ⟨[(0, pt 0 0)], v7_, []⟩,
 fun x => qiA x⟩
theorem qm6 : FO qju := fi [] [] 10 [] .nil func8 ⟨trivial, trivial⟩
def qeW (s : List Int) (s2 : Int) : Option (Int × List Int × Int) :=
 bif decide ((s.length : Int) ≤ s2) then (
 some (0, s, s2))
 else (
 gd (inB (wi64 ((wi64 (s2 + 1)) - 1)) s.length) <|
 some (s.getD (wi64 ((wi64 (s2 + 1)) - 1)).toNat 0, s, wi64 (s2 + 1)))
def qgg : Fun :=
 ⟨63, 1, 1,
 ⟨[(0, pt 0 0)], v7_, []⟩,
 ⟨[(0, ii)], v7_, []⟩,
 fun x => qeW x.1 x.2⟩
theorem qjv : FO qgg := fi [] [] 31 [] .nil func63 ⟨trivial, trivial⟩
def qiB (x : Int) (n : Int) : Option (Int) :=
 bif decide (n < 1) then (
 some 0)
 else (
 gd (!decide (n = 0)) <|
 bif decide (Int.tmod x n < 0) then (
 some (wi64 ((Int.tmod x n) + n)))
 else (
 some (Int.tmod x n)))
def qjw : Fun :=
 ⟨62, 2, 1,
 ⟨[(0, ii), (1, ii)], [], []⟩,
 ⟨[(0, ii)], [], []⟩,
 fun x => qiB x.1 x.2⟩
theorem qm7 : FO qjw := fi [] [] 16 [] .nil func62 ⟨trivial, trivial⟩
def qas (n : Int) (s : List Int) (s2 : Int) : Option (Int × List Int × Int) :=
 (qeW s s2).bind fun r =>
 (qiB r.1 n).bind fun r2 =>
 some (r2, r.2.1, r.2.2)
def qbL : Fun :=
 ⟨30, 2, 1,
 ⟨[(0, pt 0 0), (1, ii)], v7_, []⟩,
 ⟨[(0, ii)], v7_, []⟩,
 fun x => qas x.1 x.2.1 x.2.2⟩
theorem qcl : FO qbL := fi [] [qgg, qjw] 9 [] .nil func30 ⟨⟨qjv, qm7, trivial⟩, trivial⟩
def qab (l : List Int) (s : List Int) (s2 : Int) : Option (Int × List Int × Int) :=
 (qas (l.length : Int) s s2).bind fun r =>
 gd (inB r.1 l.length) <|
 some (l.getD r.1.toNat 0, r.2.1, r.2.2)
def qcU : Fun :=
 ⟨26, 2, 1,
 ⟨[(0, pt 0 0), (1, dd (.sl I6))], v7_, []⟩,
 ⟨[(0, ii)], v7_, []⟩,
 fun x => qab x.1 x.2.1 x.2.2⟩
theorem qd6 : FO qcU := fi [] [qbL] 12 [] .nil func26 ⟨⟨qcl, trivial⟩, trivial⟩
def qaK (lo : Int) (hi : Int) (s : List Int) (s2 : Int) : Option (Int × List Int × Int) :=
 (qas (wi64 ((wi64 (hi - lo)) + 1)) s s2).bind fun r =>
 some (wi64 (lo + r.1), r.2.1, r.2.2)
def qdz : Fun :=
 ⟨27, 3, 1,
 ⟨[(0, pt 0 0), (1, ii), (2, ii)], v7_, []⟩,
 ⟨[(0, ii)], v7_, []⟩,
 fun x => qaK x.1 x.2.1 x.2.2.1 x.2.2.2⟩
theorem qfg : FO qdz := fi [] [qbL] 15 [] .nil func27 ⟨⟨qcl, trivial⟩, trivial⟩
def qb9 (first : List UInt8) (n : Int) : Option (List UInt8) :=
 gd (Nat.ble (first.length + (qa2 [wu8 (wi64 (97 + (Int.tmod n 26)))]).length) 9223372036854775807) <|
 some (first ++ (qa2 [wu8 (wi64 (97 + (Int.tmod n 26)))]))
def qeX : Fun :=
 ⟨28, 2, 1,
 ⟨[(0, ss), (1, ii)], [], []⟩,
 ⟨[(0, ss)], [], []⟩,
 fun x => qb9 x.1 x.2⟩
theorem qgh : FO qeX := fi [] [] 13 [] .nil func28 ⟨trivial, trivial⟩
def qez (r3 : Int × List Int × Int) (r6 : Int × List Int × Int) (vat : Int) (s4 : List Int) (s5 : Int) (x : List (Int × Int × Int)) : Option ((Int × List Int × Int × List (Int × Int × Int)) ⊕ (List Int × Int × List (Int × Int × Int))) :=
 Option.bind (α := Bool × List Int × Int × List (Int × Int × Int)) (
 bif decide ((x.length : Int) < 7) then (
 (qas 3 s4 s5).bind fun r8 =>
 some (decide (0 < r8.1), r8.2.1, r8.2.2, x))
 else (
 some (false, s4, s5, x))) fun s6 =>
 bif s6.1 then (
 (qaK 1 40 s6.2.1 s6.2.2.1).bind fun r9 =>
 bif decide (r3.1 ≤ wi64 (vat + r9.1)) then (
 some (.inr (r9.2.1, r9.2.2, s6.2.2.2)))
 else (
 (qaK (-5) 60 r9.2.1 r9.2.2).bind fun r10 =>
 (qab ([1, 1, 10] : List Int) r10.2.1 r10.2.2).bind fun r11 =>
 (qas 3 r11.2.1 r11.2.2).bind fun r12 =>
 gd (fits (s6.2.2.2.length + 1) 24) <|
 some (.inl (wi64 (vat + r9.1), r12.2.1, r12.2.2, s6.2.2.2 ++ [(wi64 (vat + r9.1), (wi64 (r10.1 * r11.1), wi64 (r6.1 - (wi64 (r12.1 * 1000)))))]))))
 else (
 some (.inr (s6.2.1, s6.2.2.1, s6.2.2.2)))
def qbW (k : Int) (vfrom : Int) (to : Int) (s : List Int) (s2 : Int) : Option (yT0 × List Int × Int) :=
 (qas 4 s s2).bind fun r =>
 Option.bind (α := Int × Int) (
 bif decide (r.1 = 0) then (
 some (to, vfrom))
 else (
 some (vfrom, to))) fun s3 =>
 (qb9 [103] k).bind fun r2 =>
 (qab ([1, 2, 7, 20, 60, 200, 1000] : List Int) r.2.1 r.2.2).bind fun r3 =>
 (qab ([0, 1, 5, 1000] : List Int) r3.2.1 r3.2.2).bind fun r4 =>
 (qab ([0, 50, 1000, 100000] : List Int) r4.2.1 r4.2.2).bind fun r5 =>
 (qab ([1000000, 6000000, 100000000] : List Int) r5.2.1 r5.2.2).bind fun r6 =>
 (qaK (-5) 30 r6.2.1 r6.2.2).bind fun r7 =>
 (iter (fun x2 => qez r3 r6 x2.1 x2.2.1 x2.2.2.1 x2.2.2.2) (0, r7.2.1, r7.2.2, [(0, (r7.1, r6.1))])).bind fun s7 =>
 (qaK (-5) 30 s7.1 s7.2.1).bind fun r13 =>
 gd (fits (s7.2.2.length + 1) 24) <|
 some ((r2, (s3.1, (s3.2, (r3.1, (r4.1, (r5.1, s7.2.2 ++ [(r3.1, (r13.1, r6.1))])))))), r13.2.1, r13.2.2)
def qeA : Fun :=
 ⟨29, 4, 1,
 ⟨[(0, pt 0 0), (1, ii), (2, ii), (3, ii)], v7_, []⟩,
 ⟨[(0, dd tT0)], v7_, []⟩,
 fun x => qbW x.1 x.2.1 x.2.2.1 x.2.2.2.1 x.2.2.2.2⟩
theorem qhe : FO qeA := fi [] [qbL, qeX, qcU, qdz] 90 [] ((nn (mm (nn (.mk [.join [⟨.n, ⟨[(0, pt 0 0), (1, kk), (2, ii), (3, ii), (8, pt 144 0)], [(0, 57, [.keep, .keep]), (144, 52, (kp 7))], []⟩⟩]] none .nil .nil)) (nn (nn (nn (mm (nn (mm (.mk [] (some (⟨[(0, pt 0 0), (8, pt 144 0), (9, pt 160 0), (10, kk), (11, ii)], v20_, a54_⟩, [⟨.x 0, ⟨[(0, pt 0 0), (8, pt 144 0), (9, pt 160 0), (10, kk)], v20_, a54_⟩⟩])) (mm (mm (.mk [.join [⟨.n, ⟨[(0, pt 0 0), (8, pt 144 0), (9, pt 160 0), (10, kk), (11, kk), (51, bb)], v20_, a54_⟩⟩]] none .nil .nil) .nil) .nil) .nil) .nil)) .nil))))))) func29 ⟨⟨qcl, qgh, qd6, qfg, trivial⟩, trivial⟩
def qeB (i : Int) (n : List (List UInt8)) : Option ((Int × List (List UInt8)) ⊕ (List (List UInt8))) :=
 bif decide (0 < i) then (
 (qb9 [110] (n.length : Int)).bind fun r4 =>
 gd (fits (n.length + 1) 16) <|
 some (.inl (wi64 (i - 1), n ++ [r4])))
 else (
 some (.inr n))
def qeC (s3 : List (List UInt8)) (i2 : Int) (s4 : List Int) (s5 : Int) (n2 : List (List UInt8)) (n3 : List yT0) : Option ((Int × List Int × Int × List (List UInt8) × List yT0) ⊕ (List Int × Int × List (List UInt8) × List yT0)) :=
 bif decide (i2 < wi64 ((s3.length : Int) - 1)) then (
 (qbW (n3.length : Int) i2 (wi64 (i2 + 1)) s4 s5).bind fun r5 =>
 gd (fits (n3.length + 1) 80) <|
 some (.inl (wi64 (i2 + 1), r5.2.1, r5.2.2, n2, n3 ++ [(r5.1.1, (r5.1.2.1, (r5.1.2.2.1, (r5.1.2.2.2.1, (r5.1.2.2.2.2.1, (r5.1.2.2.2.2.2.1, r5.1.2.2.2.2.2.2))))))])))
 else (
 some (.inr (s4, s5, n2, n3)))
def qeD (s3 : List (List UInt8)) (i3 : Int) (s7 : List Int) (s8 : Int) (n4 : List (List UInt8)) (n5 : List yT0) : Option ((Int × List Int × Int × List (List UInt8) × List yT0) ⊕ (List Int × Int × List (List UInt8) × List yT0)) :=
 bif decide (0 < i3) then (
 (qas (wi64 ((s3.length : Int) - 1)) s7 s8).bind fun r7 =>
 (qaK (wi64 (r7.1 + 1)) (wi64 ((s3.length : Int) - 1)) r7.2.1 r7.2.2).bind fun r8 =>
 (qbW (n5.length : Int) r7.1 r8.1 r8.2.1 r8.2.2).bind fun r9 =>
 gd (fits (n5.length + 1) 80) <|
 some (.inl (wi64 (i3 - 1), r9.2.1, r9.2.2, n4, n5 ++ [(r9.1.1, (r9.1.2.1, (r9.1.2.2.1, (r9.1.2.2.2.1, (r9.1.2.2.2.2.1, (r9.1.2.2.2.2.2.1, r9.1.2.2.2.2.2.2))))))])))
 else (
 some (.inr (s7, s8, n4, n5)))
def qeE (s3 : List (List UInt8)) (i4 : Int) (s10 : List Int) (s11 : Int) (n6 : List (List UInt8)) (n7 : List yT0) (n8 : yB2) (n9 : List yB1) : Option ((Int × List Int × Int × List (List UInt8) × (List yT0) × yB2 × List yB1) ⊕ (List Int × Int × List (List UInt8) × (List yT0) × yB2 × List yB1)) :=
 bif decide (i4 ≤ wi64 ((s3.length : Int) - 1)) then (
 Option.bind (α := Bool × List Int × Int × List (List UInt8) × (List yT0) × yB2 × List yB1) (
 bif decide (i4 = 0) then (
 some (true, s10, s11, n6, n7, n8, n9))
 else (
 bif decide (i4 = wi64 ((s3.length : Int) - 1)) then (
 some (true, s10, s11, n6, n7, n8, n9))
 else (
 (qas 2 s10 s11).bind fun r10 =>
 some (decide (r10.1 = 0), r10.2.1, r10.2.2, n6, n7, n8, n9)))) fun s12 =>
 Option.bind (α := List Int × Int × List (List UInt8) × (List yT0) × yB2 × List yB1) (
 bif s12.1 then (
 (qb9 [113] (s12.2.2.2.2.2.1.length : Int)).bind fun r11 =>
 (qab ([300000, 1000000, 0, 5000000] : List Int) s12.2.1 s12.2.2.1).bind fun r12 =>
 gd (fits (s12.2.2.2.2.2.1.length + 1) 32) <|
 some (r12.2.1, r12.2.2, s12.2.2.2.1, s12.2.2.2.2.1, s12.2.2.2.2.2.1 ++ [(r11, (i4, r12.1))], s12.2.2.2.2.2.2))
 else (
 some (s12.2.1, s12.2.2.1, s12.2.2.2.1, s12.2.2.2.2.1, s12.2.2.2.2.2.1, s12.2.2.2.2.2.2))) fun s13 =>
 Option.bind (α := Bool × List Int × Int × List (List UInt8) × (List yT0) × yB2 × List yB1) (
 bif decide (i4 < wi64 ((s3.length : Int) - 1)) then (
 (qas 3 s13.1 s13.2.1).bind fun r13 =>
 some (decide (r13.1 = 0), r13.2.1, r13.2.2, s13.2.2.1, s13.2.2.2.1, s13.2.2.2.2.1, s13.2.2.2.2.2))
 else (
 some (false, s13.1, s13.2.1, s13.2.2.1, s13.2.2.2.1, s13.2.2.2.2.1, s13.2.2.2.2.2))) fun s14 =>
 Option.bind (α := List Int × Int × List (List UInt8) × (List yT0) × yB2 × List yB1) (
 bif s14.1 then (
 (qb9 [115] (s14.2.2.2.2.2.2.length : Int)).bind fun r14 =>
 (qab ([500000, 2000000, 0] : List Int) s14.2.1 s14.2.2.1).bind fun r15 =>
 (qab ([0, 200, 100000] : List Int) r15.2.1 r15.2.2).bind fun r16 =>
 (qab ([0, 100000, 400000] : List Int) r16.2.1 r16.2.2).bind fun r17 =>
 gd (fits (s14.2.2.2.2.2.2.length + 1) 48) <|
 some (r17.2.1, r17.2.2, s14.2.2.2.1, s14.2.2.2.2.1, s14.2.2.2.2.2.1, s14.2.2.2.2.2.2 ++ [(r14, (i4, (r15.1, (r16.1, r17.1))))]))
 else (
 some (s14.2.1, s14.2.2.1, s14.2.2.2.1, s14.2.2.2.2.1, s14.2.2.2.2.2.1, s14.2.2.2.2.2.2))) fun s15 =>
 some (.inl (wi64 (i4 + 1), s15.1, s15.2.1, s15.2.2.1, s15.2.2.2.1, s15.2.2.2.2.1, s15.2.2.2.2.2)))
 else (
 some (.inr (s10, s11, n6, n7, n8, n9)))
def qbX (s : List Int) (s2 : Int) : Option (yB0 × List Int × Int) :=
 (qab ([(-100000), 0, 50000] : List Int) s s2).bind fun r =>
 (qab ([0, 1, 5, 100] : List Int) r.2.1 r.2.2).bind fun r2 =>
 (qaK 2 6 r2.2.1 r2.2.2).bind fun r3 =>
 (iter (fun x => qeB x.1 x.2) (r3.1, [])).bind fun s3 =>
 (iter (fun x2 => qeC s3 x2.1 x2.2.1 x2.2.2.1 x2.2.2.2.1 x2.2.2.2.2) (0, r3.2.1, r3.2.2, s3, [])).bind fun s6 =>
 (qas 4 s6.1 s6.2.1).bind fun r6 =>
 (iter (fun x3 => qeD s3 x3.1 x3.2.1 x3.2.2.1 x3.2.2.2.1 x3.2.2.2.2) (r6.1, r6.2.1, r6.2.2, s6.2.2.1, s6.2.2.2)).bind fun s9 =>
 (iter (fun x4 => qeE s3 x4.1 x4.2.1 x4.2.2.1 x4.2.2.2.1 x4.2.2.2.2.1 x4.2.2.2.2.2.1 x4.2.2.2.2.2.2) (0, s9.1, s9.2.1, s9.2.2.1, s9.2.2.2, [], [])).bind fun s16 =>
 some ((s16.2.2.1, (s16.2.2.2.1, (s16.2.2.2.2.1, (s16.2.2.2.2.2, (r.1, r2.1))))), s16.1, s16.2.1)
def qeF : Fun :=
 ⟨10, 1, 1,
 ⟨[(0, pt 0 0)], v7_, []⟩,
 ⟨r1_, v7_, []⟩,
 fun x => qbX x.1 x.2⟩
theorem qhf : FO qeF := fi [] [qcU, qdz, qeX, qeA, qbL] 139 [] ((nn (nn (mm (nn (mm (.mk [] (some (⟨[(0, pt 0 0), (2, pt 48 0), (3, pt 64 0), (4, ii)], v36_, [(1049, .arr 9 (.str))]⟩, [⟨.x 0, ⟨[(0, pt 0 0), (2, pt 48 0), (3, pt 64 0)], v36_, [(1049, .arr 9 (.str))]⟩⟩])) .nil .nil) .nil)) (nn (mm (nn (mm (.mk [] (some (⟨[(0, pt 0 0), (2, pt 48 0), (3, pt 64 0), (5, kk), (6, ii)], v16_, a40_⟩, [⟨.x 2, ⟨[(0, pt 0 0), (2, pt 48 0), (3, pt 64 0), (5, kk)], v16_, a40_⟩⟩])) .nil .nil) .nil)) (mm (nn (mm (.mk [] (some (⟨[(0, pt 0 0), (2, pt 48 0), (3, pt 64 0), (5, kk), (7, ii)], v16_, a40_⟩, [⟨.x 4, ⟨[(0, pt 0 0), (2, pt 48 0), (3, pt 64 0), (5, kk)], v16_, a40_⟩⟩])) .nil .nil) .nil)) (mm (nn (mm (.mk [] (some (⟨[(0, pt 0 0), (2, pt 48 0), (3, pt 64 0), (5, kk), (9, ii)], v8_, a14_⟩, [⟨.x 6, ⟨r43_, [(48, 34, (kp 6)), (64, 34, [.own 1049, .own 1065, .own 1081, .own 1097, .keep, .keep]), (0, 57, [.data (.sl I6), .data I6])], a14_⟩⟩])) (nn (mm (mm (mm (mm (.mk [.join [⟨.n, ⟨[(0, pt 0 0), (2, pt 48 0), (3, pt 64 0), (5, kk), (9, kk), (95, bb)], v8_, a14_⟩⟩]] none .nil .nil) (.mk [.join [⟨.n, ⟨r55_, v8_, a14_⟩⟩]] none .nil .nil)) (mm (.mk [.join [⟨.n, ⟨[(0, pt 0 0), (2, pt 48 0), (3, pt 64 0), (5, kk), (9, kk), (117, bb)], v8_, a14_⟩⟩]] none .nil .nil) (.mk [.join [⟨.n, ⟨r55_, v8_, a14_⟩⟩]] none .nil .nil))) .nil) .nil)) .nil) .nil)) .nil)))))))) func10 ⟨⟨qd6, qfg, qgh, qhe, qcl, trivial⟩, trivial⟩
def qaR (n : Int) (low : Int) (high : Int) : Option (Bool) :=
 bif decide (low ≤ n) then (
 some (decide (n ≤ high)))
 else (
 some false)
def qhg : Fun :=
 ⟨54, 3, 1,
 ⟨[(0, ii), (1, ii), (2, ii)], [], []⟩,
 ⟨[(0, bb)], [], []⟩,
 fun x => qaR x.1 x.2.1 x.2.2⟩
theorem qjx : FO qhg := fi [] [] 15 [] .nil func54 ⟨trivial, trivial⟩
def qjO (n : yB0) (v : Int) (out : List (List UInt8)) : Option ((Int × List (List UInt8)) ⊕ (List (List UInt8))) :=
 bif decide (v < (n.2.1.length : Int)) then (
 gd (inB v n.2.1.length) <|
 gd (fits (out.length + 1) 16) <|
 some (.inl (wi64 (v + 1), out ++ [(n.2.1.getD v.toNat ([], (0, (0, (0, (0, (0, []))))))).1])))
 else (
 some (.inr out))
def qjP (n : yB0) (v2 : Int) (out2 : List (List UInt8)) (out3 : List (List UInt8)) : Option ((Int × List (List UInt8) × List (List UInt8)) ⊕ (List (List UInt8) × List (List UInt8))) :=
 bif decide (v2 < (n.2.2.1.length : Int)) then (
 gd (inB v2 n.2.2.1.length) <|
 gd (fits (out3.length + 1) 16) <|
 some (.inl (wi64 (v2 + 1), out2, out3 ++ [(n.2.2.1.getD v2.toNat ([], (0, 0))).1])))
 else (
 some (.inr (out2, out3)))
def qjQ (n : yB0) (v3 : Int) (out4 : List (List UInt8)) (out5 : List (List UInt8)) (out6 : List (List UInt8)) : Option ((Int × List (List UInt8) × List (List UInt8) × List (List UInt8)) ⊕ (List (List UInt8) × List (List UInt8) × List (List UInt8))) :=
 bif decide (v3 < (n.2.2.2.1.length : Int)) then (
 gd (inB v3 n.2.2.2.1.length) <|
 gd (fits (out6.length + 1) 16) <|
 some (.inl (wi64 (v3 + 1), out4, out5, out6 ++ [(n.2.2.2.1.getD v3.toNat ([], (0, (0, (0, 0))))).1])))
 else (
 some (.inr (out4, out5, out6)))
def qhh (n : yB0) : Option yB5 :=
 (iter (fun x => qjO n x.1 x.2) (0, [])).bind fun s =>
 (iter (fun x2 => qjP n x2.1 x2.2.1 x2.2.2) (0, s, [])).bind fun s2 =>
 (iter (fun x3 => qjQ n x3.1 x3.2.1 x3.2.2.1 x3.2.2.2) (0, s2.1, s2.2, [])).bind fun s3 =>
 some (n.1, (s3.1, (s3.2.1, s3.2.2)))
def qgT : Fun :=
 ⟨55, 1, 1,
 ⟨r1_, [], []⟩,
 ⟨r41_, [], []⟩,
 fun x => qhh x⟩
theorem qjR : FO qgT := fi [] [] 59 [] ((nn (nn (nn (mm (nn (mm (.mk [] (some (⟨r49_, v23_, a62_⟩, [⟨.x 0, ⟨r42_, v23_, a62_⟩⟩])) .nil .nil) .nil)) (mm (nn (mm (.mk [] (some (⟨r50_, v21_, a39_⟩, [⟨.x 2, ⟨r42_, v21_, a39_⟩⟩])) .nil .nil) .nil)) (mm (nn (mm (.mk [] (some (⟨r56_, v29_, a30_⟩, [⟨.x 4, ⟨r43_, v29_, a30_⟩⟩])) .nil .nil) .nil)) .nil))))))) func55 ⟨trivial, trivial⟩
def qdl (s : List UInt8) (i : Int) : Option (Int ⊕ (Unit ⊕ Bool)) :=
 bif decide (i < (s.length : Int)) then (
 Option.bind (α := Bool) (
 gd (inB i s.length) <|
 bif decide ((Int.ofNat (s.getD i.toNat 0).toNat) < 97) then (
 gd (inB i s.length) <|
 bif decide ((Int.ofNat (s.getD i.toNat 0).toNat) < 48) then (
 gd (inB i s.length) <|
 some (!decide ((Int.ofNat (s.getD i.toNat 0).toNat) = 45)))
 else (
 gd (inB i s.length) <|
 bif decide (57 < (Int.ofNat (s.getD i.toNat 0).toNat)) then (
 gd (inB i s.length) <|
 some (!decide ((Int.ofNat (s.getD i.toNat 0).toNat) = 45)))
 else (
 some false)))
 else (
 gd (inB i s.length) <|
 bif decide (122 < (Int.ofNat (s.getD i.toNat 0).toNat)) then (
 gd (inB i s.length) <|
 bif decide ((Int.ofNat (s.getD i.toNat 0).toNat) < 48) then (
 gd (inB i s.length) <|
 some (!decide ((Int.ofNat (s.getD i.toNat 0).toNat) = 45)))
 else (
 gd (inB i s.length) <|
 bif decide (57 < (Int.ofNat (s.getD i.toNat 0).toNat)) then (
 gd (inB i s.length) <|
 some (!decide ((Int.ofNat (s.getD i.toNat 0).toNat) = 45)))
 else (
 some false)))
 else (
 some false))) fun s3 =>
 bif s3 then (
 some (.inr (.inr false)))
 else (
 some (.inl (wi64 (i + 1)))))
 else (
 some (.inr (.inl ())))
def qc1 (s : List UInt8) : Option (Bool) :=
 Option.bind (α := Bool) (
 bif decide ((s.length : Int) < 1) then (
 some true)
 else (
 bif decide (12 < (s.length : Int)) then (
 some true)
 else (
 gd (inB 0 s.length) <|
 bif decide ((Int.ofNat (s.getD 0 0).toNat) < 97) then (
 some true)
 else (
 gd (inB 0 s.length) <|
 some (decide (122 < (Int.ofNat (s.getD 0 0).toNat))))))) fun s2 =>
 bif s2 then (
 some false)
 else (
 (iter (fun x => qdl s x) 0).bind fun s4 =>
 s4.elim (fun s5 =>
 some true)
 (fun s6 =>
 some s6))
def qhM : Fun :=
 ⟨56, 1, 1,
 ⟨[(0, ss)], [], []⟩,
 ⟨[(0, bb)], [], []⟩,
 fun x => qc1 x⟩
theorem qkU : FO qhM := fi [] [] 56 [] ((nn (mm (mm (.mk [.join [⟨.n, ⟨[(0, kk), (21, bb)], [], []⟩⟩]] none .nil .nil) .nil) (mm (nn (mm (.mk [] (some (⟨[(0, kk), (3, ii)], [], []⟩, [⟨.x 0, ⟨[], [], []⟩⟩, ⟨.r, ⟨[(2, bb)], [], []⟩⟩])) (nn (mm (mm (mm (.mk [.join [⟨.n, ⟨[(0, kk), (3, kk), (55, bb)], [], []⟩⟩]] none .nil .nil) .nil) .nil) .nil)) .nil) .nil)) .nil)))) func56 ⟨trivial, trivial⟩
def qdE (l : List (List UInt8)) (v : Int) (k : Int) : Option (Int ⊕ (Unit ⊕ Bool)) :=
 bif decide (k < v) then (
 gd (inB v l.length) <|
 gd (inB k l.length) <|
 bif decide (l.getD v.toNat [] = l.getD k.toNat []) then (
 some (.inr (.inr true)))
 else (
 some (.inl (wi64 (k + 1)))))
 else (
 some (.inr (.inl ())))
def qe5 (l : List (List UInt8)) (v : Int) : Option (Int ⊕ (Unit ⊕ Bool)) :=
 bif decide (v < (l.length : Int)) then (
 (iter (fun x => qdE l v x) 0).bind fun s =>
 s.elim (fun s2 =>
 some (.inl (wi64 (v + 1))))
 (fun s3 =>
 some (.inr (.inr s3))))
 else (
 some (.inr (.inl ())))
def qfz (l : List (List UInt8)) : Option (Bool) :=
 (iter (fun x2 => qe5 l x2) 0).bind fun s4 =>
 s4.elim (fun s5 =>
 some false)
 (fun s6 =>
 some s6)
def qgU : Fun :=
 ⟨57, 1, 1,
 ⟨r44_, [], []⟩,
 ⟨[(0, bb)], [], []⟩,
 fun x => qfz x⟩
theorem qjS : FO qgU := fi [] [] 25 [] ((nn (mm (nn (mm (.mk [] (some (⟨[(0, kk), (6, kk), (7, ii)], [], []⟩, [⟨.x 0, ⟨[], [], []⟩⟩, ⟨.r, ⟨[(2, bb)], [], []⟩⟩])) (nn (nn (mm (mm (nn (nn (mm (.mk [] (some (⟨[(0, kk), (3, kk), (4, ii), (6, kk), (7, kk)], [], []⟩, [⟨.x 2, ⟨[(0, kk), (6, kk), (7, kk)], [], []⟩⟩, ⟨.r, ⟨[(2, bb)], [], []⟩⟩])) .nil .nil) .nil))) .nil) .nil))) .nil) .nil)) .nil))) func57 ⟨trivial, trivial⟩
def qdm (s : yB6) (v : Int) : Option (Int ⊕ (Unit ⊕ Bool)) :=
 bif decide (v < (s.2.2.2.2.2.2.length : Int)) then (
 gd (inB v s.2.2.2.2.2.2.length) <|
 Option.bind (α := Bool) (
 bif decide (0 < v) then (
 gd (inB (wi64 (v - 1)) s.2.2.2.2.2.2.length) <|
 bif decide ((s.2.2.2.2.2.2.getD v.toNat (0, (0, 0))).1 ≤ (s.2.2.2.2.2.2.getD (wi64 (v - 1)).toNat (0, (0, 0))).1) then (
 some true)
 else (
 (qaR (((s.2.2.2.2.2.2.getD v.toNat (0, (0, 0))).2).1) (-500) 5000).bind fun r4 =>
 bif !r4 then (
 some true)
 else (
 (qaR (((s.2.2.2.2.2.2.getD v.toNat (0, (0, 0))).2).2) 0 100000000).bind fun r5 =>
 some (!r5))))
 else (
 (qaR (((s.2.2.2.2.2.2.getD v.toNat (0, (0, 0))).2).1) (-500) 5000).bind fun r6 =>
 bif !r6 then (
 some true)
 else (
 (qaR (((s.2.2.2.2.2.2.getD v.toNat (0, (0, 0))).2).2) 0 100000000).bind fun r7 =>
 some (!r7)))) fun s3 =>
 bif s3 then (
 some (.inr (.inr false)))
 else (
 some (.inl (wi64 (v + 1)))))
 else (
 some (.inr (.inl ())))
def qc2 (s : yB6) : Option (Bool) :=
 Option.bind (α := Bool) (
 bif decide (s.2.1 = s.2.2.1) then (
 some true)
 else (
 (qaR s.2.2.2.1 1 1000000).bind fun r =>
 bif !r then (
 some true)
 else (
 (qaR s.2.2.2.2.1 0 1000).bind fun r2 =>
 bif !r2 then (
 some true)
 else (
 (qaR s.2.2.2.2.2.1 0 100000).bind fun r3 =>
 bif !r3 then (
 some true)
 else (
 gd (inB 0 s.2.2.2.2.2.2.length) <|
 bif !decide ((s.2.2.2.2.2.2.getD 0 (0, (0, 0))).1 = 0) then (
 some true)
 else (
 gd (inB (wi64 ((s.2.2.2.2.2.2.length : Int) - 1)) s.2.2.2.2.2.2.length) <|
 some (!decide ((s.2.2.2.2.2.2.getD (wi64 ((s.2.2.2.2.2.2.length : Int) - 1)).toNat (0, (0, 0))).1 = s.2.2.2.1)))))))) fun s2 =>
 bif s2 then (
 some false)
 else (
 (iter (fun x => qdm s x) 0).bind fun s4 =>
 s4.elim (fun s5 =>
 some true)
 (fun s6 =>
 some s6))
def qgi : Fun :=
 ⟨58, 1, 1,
 ⟨[(0, dd tT0)], [], []⟩,
 ⟨[(0, bb)], [], []⟩,
 fun x => qc2 x⟩
theorem qjy : FO qgi := fi [] [qhg] 85 [] ((nn (mm (mm (.mk [.join [⟨.n, ⟨[(1, pt 32 0), (49, bb)], v53_, []⟩⟩]] none .nil .nil) .nil) (mm (nn (mm (.mk [] (some (⟨[(1, pt 32 0), (51, kk), (52, kk), (53, ii)], v53_, []⟩, [⟨.x 0, ⟨[], [], []⟩⟩, ⟨.r, ⟨[(2, bb)], [], []⟩⟩])) (nn (nn (mm (mm (nn (mm (.mk [.join [⟨.n, ⟨[(1, pt 32 0), (51, kk), (52, kk), (53, kk), (83, bb)], v53_, []⟩⟩]] none .nil .nil) .nil)) .nil) .nil))) .nil) .nil)) .nil)))) func58 ⟨⟨qjx, trivial⟩, trivial⟩
def qcA (n : yB0) (v : Int) : Option (Int ⊕ (Unit ⊕ Int)) :=
 bif decide (v < (n.2.1.length : Int)) then (
 gd (inB v n.2.1.length) <|
 (qaR ((((((((n.2.1.getD v.toNat ([], (0, (0, (0, (0, (0, []))))))).2).2).2).2).2).2).length : Int) 2 8).bind fun r2 =>
 bif !r2 then (
 some (.inr (.inr 4)))
 else (
 some (.inl (wi64 (v + 1)))))
 else (
 some (.inr (.inl ())))
def qbY (v2 : List (List UInt8)) (v3 : List (List UInt8)) (v4 : List (List UInt8)) (v5 : List (List UInt8)) (v6 : Int) (v7 : List (List UInt8)) (v8 : List (List UInt8)) (v9 : List (List UInt8)) (v10 : List (List UInt8)) (v11 : Int) : Option ((List (List UInt8) × List (List UInt8) × List (List UInt8) × List (List UInt8) × Int) ⊕ (yB5 ⊕ Int)) :=
 bif decide (v11 < (([v2, v3, v4, v5].getD v6.toNat []).length : Int)) then (
 gd (inB v11 ([v2, v3, v4, v5].getD v6.toNat []).length) <|
 (qc1 (([v2, v3, v4, v5].getD v6.toNat []).getD v11.toNat [])).bind fun r4 =>
 bif !r4 then (
 some (.inr (.inr 3)))
 else (
 some (.inl (v7, v8, v9, v10, wi64 (v11 + 1)))))
 else (
 some (.inr (.inl (v7, v8, v9, v10))))
def qdF (v2 : List (List UInt8)) (v3 : List (List UInt8)) (v4 : List (List UInt8)) (v5 : List (List UInt8)) (v6 : Int) : Option ((List (List UInt8) × List (List UInt8) × List (List UInt8) × List (List UInt8) × Int) ⊕ (Unit ⊕ Int)) :=
 bif decide (v6 < 4) then (
 gd (inB v6 4) <|
 (iter (fun x2 => qbY v2 v3 v4 v5 v6 x2.1 x2.2.1 x2.2.2.1 x2.2.2.2.1 x2.2.2.2.2) (v2, v3, v4, v5, 0)).bind fun s5 =>
 s5.elim (fun s6 =>
 some (.inl (s6.1, s6.2.1, s6.2.2.1, s6.2.2.2, wi64 (v6 + 1))))
 (fun s7 =>
 some (.inr (.inr s7))))
 else (
 some (.inr (.inl ())))
def qdG (v12 : List (List UInt8)) (v13 : List (List UInt8)) (v14 : List (List UInt8)) (v15 : List (List UInt8)) (v16 : Int) : Option ((List (List UInt8) × List (List UInt8) × List (List UInt8) × List (List UInt8) × Int) ⊕ (Unit ⊕ Int)) :=
 bif decide (v16 < 4) then (
 gd (inB v16 4) <|
 (qfz ([v12, v13, v14, v15].getD v16.toNat [])).bind fun r5 =>
 bif r5 then (
 some (.inr (.inr 7)))
 else (
 some (.inl (v12, v13, v14, v15, wi64 (v16 + 1)))))
 else (
 some (.inr (.inl ())))
def qdH (n : yB0) (v17 : Int) (k : Int) : Option (Int ⊕ (Unit ⊕ Int)) :=
 bif decide (k < v17) then (
 gd (inB v17 n.2.2.2.1.length) <|
 gd (inB k n.2.2.2.1.length) <|
 bif decide (((n.2.2.2.1.getD v17.toNat ([], (0, (0, (0, 0))))).2).1 = ((n.2.2.2.1.getD k.toNat ([], (0, (0, (0, 0))))).2).1) then (
 some (.inr (.inr 7)))
 else (
 some (.inl (wi64 (k + 1)))))
 else (
 some (.inr (.inl ())))
def qdI (n : yB0) (v17 : Int) : Option (Int ⊕ (Unit ⊕ Int)) :=
 bif decide (v17 < (n.2.2.2.1.length : Int)) then (
 (iter (fun x5 => qdH n v17 x5) 0).bind fun s14 =>
 s14.elim (fun s15 =>
 some (.inl (wi64 (v17 + 1))))
 (fun s16 =>
 some (.inr (.inr s16))))
 else (
 some (.inr (.inl ())))
def qcB (n : yB0) (v18 : Int) : Option (Int ⊕ (Unit ⊕ Int)) :=
 bif decide (v18 < (n.2.1.length : Int)) then (
 gd (inB v18 n.2.1.length) <|
 Option.bind (α := Bool) (
 (qaR (((n.2.1.getD v18.toNat ([], (0, (0, (0, (0, (0, []))))))).2).1) 0 (wi64 ((n.1.length : Int) - 1))).bind fun r6 =>
 bif !r6 then (
 some true)
 else (
 (qaR ((((n.2.1.getD v18.toNat ([], (0, (0, (0, (0, (0, []))))))).2).2).1) 0 (wi64 ((n.1.length : Int) - 1))).bind fun r7 =>
 some (!r7))) fun s20 =>
 bif s20 then (
 some (.inr (.inr 8)))
 else (
 some (.inl (wi64 (v18 + 1)))))
 else (
 some (.inr (.inl ())))
def qcC (n : yB0) (v19 : Int) : Option (Int ⊕ (Unit ⊕ Int)) :=
 bif decide (v19 < (n.2.2.1.length : Int)) then (
 gd (inB v19 n.2.2.1.length) <|
 (qaR (((n.2.2.1.getD v19.toNat ([], (0, 0))).2).1) 0 (wi64 ((n.1.length : Int) - 1))).bind fun r8 =>
 bif !r8 then (
 some (.inr (.inr 8)))
 else (
 some (.inl (wi64 (v19 + 1)))))
 else (
 some (.inr (.inl ())))
def qcD (n : yB0) (v20 : Int) : Option (Int ⊕ (Unit ⊕ Int)) :=
 bif decide (v20 < (n.2.2.2.1.length : Int)) then (
 gd (inB v20 n.2.2.2.1.length) <|
 (qaR (((n.2.2.2.1.getD v20.toNat ([], (0, (0, (0, 0))))).2).1) 0 (wi64 ((n.1.length : Int) - 1))).bind fun r9 =>
 bif !r9 then (
 some (.inr (.inr 8)))
 else (
 some (.inl (wi64 (v20 + 1)))))
 else (
 some (.inr (.inl ())))
def qcE (n : yB0) (v21 : Int) : Option (Int ⊕ (Unit ⊕ Int)) :=
 bif decide (v21 < (n.2.1.length : Int)) then (
 gd (inB v21 n.2.1.length) <|
 (qc2 ((n.2.1.getD v21.toNat ([], (0, (0, (0, (0, (0, []))))))).1, (((n.2.1.getD v21.toNat ([], (0, (0, (0, (0, (0, []))))))).2).1, ((((n.2.1.getD v21.toNat ([], (0, (0, (0, (0, (0, []))))))).2).2).1, (((((n.2.1.getD v21.toNat ([], (0, (0, (0, (0, (0, []))))))).2).2).2).1, ((((((n.2.1.getD v21.toNat ([], (0, (0, (0, (0, (0, []))))))).2).2).2).2).1, (((((((n.2.1.getD v21.toNat ([], (0, (0, (0, (0, (0, []))))))).2).2).2).2).2).1, ((((((n.2.1.getD v21.toNat ([], (0, (0, (0, (0, (0, []))))))).2).2).2).2).2).2))))))).bind fun r10 =>
 bif !r10 then (
 some (.inr (.inr 9)))
 else (
 some (.inl (wi64 (v21 + 1)))))
 else (
 some (.inr (.inl ())))
def qca (n : yB0) (v22 : Int) : Option (Int ⊕ (Unit ⊕ Int)) :=
 bif decide (v22 < (n.2.2.1.length : Int)) then (
 gd (inB v22 n.2.2.1.length) <|
 (qaR (((n.2.2.1.getD v22.toNat ([], (0, 0))).2).2) 0 100000000).bind fun r11 =>
 bif !r11 then (
 some (.inr (.inr 9)))
 else (
 some (.inl (wi64 (v22 + 1)))))
 else (
 some (.inr (.inl ())))
def qcb (n : yB0) (v23 : Int) : Option (Int ⊕ (Unit ⊕ Int)) :=
 bif decide (v23 < (n.2.2.2.1.length : Int)) then (
 gd (inB v23 n.2.2.2.1.length) <|
 Option.bind (α := Bool) (
 (qaR ((((n.2.2.2.1.getD v23.toNat ([], (0, (0, (0, 0))))).2).2).1) 0 100000000).bind fun r12 =>
 bif !r12 then (
 some true)
 else (
 (qaR (((((n.2.2.2.1.getD v23.toNat ([], (0, (0, (0, 0))))).2).2).2).1) 0 100000).bind fun r13 =>
 bif !r13 then (
 some true)
 else (
 (qaR (((((n.2.2.2.1.getD v23.toNat ([], (0, (0, (0, 0))))).2).2).2).2) 0 100000000).bind fun r14 =>
 some (!r14)))) fun s36 =>
 bif s36 then (
 some (.inr (.inr 9)))
 else (
 some (.inl (wi64 (v23 + 1)))))
 else (
 some (.inr (.inl ())))
def qcc (n : yB0) : Option (Int) :=
 Option.bind (α := Bool) (
 (qaR (n.1.length : Int) 1 24).bind fun r =>
 bif !r then (
 some true)
 else (
 bif decide (32 < (n.2.1.length : Int)) then (
 some true)
 else (
 bif decide (24 < (n.2.2.1.length : Int)) then (
 some true)
 else (
 some (decide (12 < (n.2.2.2.1.length : Int))))))) fun s =>
 bif s then (
 some 4)
 else (
 (iter (fun x => qcA n x) 0).bind fun s2 =>
 s2.elim (fun s3 =>
 (qhh (n.1, (n.2.1, (n.2.2.1, (n.2.2.2.1, (n.2.2.2.2.1, n.2.2.2.2.2)))))).bind fun r3 =>
 (iter (fun x3 => qdF x3.1 x3.2.1 x3.2.2.1 x3.2.2.2.1 x3.2.2.2.2) (r3.1, r3.2.1, r3.2.2.1, r3.2.2.2, 0)).bind fun s8 =>
 s8.elim (fun s9 =>
 (iter (fun x4 => qdG x4.1 x4.2.1 x4.2.2.1 x4.2.2.2.1 x4.2.2.2.2) (r3.1, r3.2.1, r3.2.2.1, r3.2.2.2, 0)).bind fun s11 =>
 s11.elim (fun s12 =>
 (iter (fun x6 => qdI n x6) 0).bind fun s17 =>
 s17.elim (fun s18 =>
 (iter (fun x7 => qcB n x7) 0).bind fun s21 =>
 s21.elim (fun s22 =>
 (iter (fun x8 => qcC n x8) 0).bind fun s24 =>
 s24.elim (fun s25 =>
 (iter (fun x9 => qcD n x9) 0).bind fun s27 =>
 s27.elim (fun s28 =>
 (iter (fun x10 => qcE n x10) 0).bind fun s30 =>
 s30.elim (fun s31 =>
 (iter (fun x11 => qca n x11) 0).bind fun s33 =>
 s33.elim (fun s34 =>
 (iter (fun x12 => qcb n x12) 0).bind fun s37 =>
 s37.elim (fun s38 =>
 Option.bind (α := Bool) (
 (qaR n.2.2.2.2.1 (-100000) 100000000).bind fun r15 =>
 bif !r15 then (
 some true)
 else (
 (qaR n.2.2.2.2.2 0 100).bind fun r16 =>
 some (!r16))) fun s40 =>
 bif s40 then (
 some 9)
 else (
 some 0))
 (fun s39 =>
 some s39))
 (fun s35 =>
 some s35))
 (fun s32 =>
 some s32))
 (fun s29 =>
 some s29))
 (fun s26 =>
 some s26))
 (fun s23 =>
 some s23))
 (fun s19 =>
 some s19))
 (fun s13 =>
 some s13))
 (fun s10 =>
 some s10))
 (fun s4 =>
 some s4))
def qe6 : Fun :=
 ⟨23, 1, 1,
 ⟨r1_, [], []⟩,
 ⟨[(0, ii)], [], []⟩,
 fun x => qcc x⟩
theorem qgV : FO qe6 := fi [] [qhg, qgT, qhM, qgU, qgi] 219 [] ((nn (mm (mm (.mk [.join [⟨.n, ⟨[(1, pt 32 0), (49, bb)], v3_, []⟩⟩]] none .nil .nil) .nil) (mm (nn (mm (.mk [] (some (⟨[(1, pt 32 0), (51, kk), (52, kk), (53, ii)], v3_, []⟩, [⟨.x 0, ⟨[(1, pt 32 0)], v3_, []⟩⟩, ⟨.r, ⟨[(2, ii)], [], []⟩⟩])) .nil .nil) .nil)) (nn (mm (nn (mm (.mk [] (some (⟨[(1, pt 32 0), (5, pt 96 0), (65, .agg [.data (.sl (.str)), .data (.sl (.str)), .data (.sl (.str)), .data (.sl (.str))]), (66, ii)], v51_, []⟩, [⟨.x 2, ⟨[(1, pt 32 0), (5, pt 96 0)], v51_, []⟩⟩, ⟨.r, ⟨[(2, ii)], [], []⟩⟩])) (nn (nn (mm (mm (nn (nn (mm (.mk [] (some (⟨[(1, pt 32 0), (5, pt 96 0), (65, .agg [.data (.sl (.str)), .data (.sl (.str)), .data (.sl (.str)), .data (.sl (.str))]), (66, kk), (69, kk), (70, kk), (71, ii)], v51_, []⟩, [⟨.x 4, ⟨[(1, pt 32 0), (5, pt 96 0), (65, .agg [.data (.sl (.str)), .data (.sl (.str)), .data (.sl (.str)), .data (.sl (.str))]), (66, kk)], v51_, []⟩⟩, ⟨.r, ⟨[(2, ii)], [], []⟩⟩])) .nil .nil) .nil))) .nil) .nil))) .nil) .nil)) (mm (nn (mm (.mk [] (some (⟨[(1, pt 32 0), (80, .agg [.data (.sl (.str)), .data (.sl (.str)), .data (.sl (.str)), .data (.sl (.str))]), (81, ii)], v3_, []⟩, [⟨.x 6, ⟨[(1, pt 32 0)], v3_, []⟩⟩, ⟨.r, ⟨[(2, ii)], [], []⟩⟩])) .nil .nil) .nil)) (mm (nn (mm (.mk [] (some (⟨[(1, pt 32 0), (89, kk), (90, ii)], v3_, []⟩, [⟨.x 8, ⟨[(1, pt 32 0)], v3_, []⟩⟩, ⟨.r, ⟨[(2, ii)], [], []⟩⟩])) (nn (nn (mm (mm (nn (nn (mm (.mk [] (some (⟨[(1, pt 32 0), (12, kk), (13, ii), (89, kk), (90, kk)], v3_, []⟩, [⟨.x 10, ⟨[(1, pt 32 0), (89, kk), (90, kk)], v3_, []⟩⟩, ⟨.r, ⟨[(2, ii)], [], []⟩⟩])) .nil .nil) .nil))) .nil) .nil))) .nil) .nil)) (nn (mm (nn (mm (.mk [] (some (⟨[(1, pt 32 0), (14, kk), (117, kk), (118, kk), (119, ii)], v3_, []⟩, [⟨.x 12, ⟨[(1, pt 32 0), (14, kk)], v3_, []⟩⟩, ⟨.r, ⟨[(2, ii)], [], []⟩⟩])) (nn (nn (mm (mm (nn (mm (.mk [.join [⟨.n, ⟨[(1, pt 32 0), (14, kk), (117, kk), (118, kk), (119, kk), (134, bb)], v3_, []⟩⟩]] none .nil .nil) .nil)) .nil) .nil))) .nil) .nil)) (mm (nn (mm (.mk [] (some (⟨[(1, pt 32 0), (14, kk), (137, kk), (138, kk), (139, ii)], v3_, []⟩, [⟨.x 14, ⟨[(1, pt 32 0), (14, kk)], v3_, []⟩⟩, ⟨.r, ⟨[(2, ii)], [], []⟩⟩])) .nil .nil) .nil)) (mm (nn (mm (.mk [] (some (⟨[(1, pt 32 0), (14, kk), (150, kk), (151, kk), (152, ii)], v3_, []⟩, [⟨.x 16, ⟨[(1, pt 32 0)], v3_, []⟩⟩, ⟨.r, ⟨[(2, ii)], [], []⟩⟩])) .nil .nil) .nil)) (mm (nn (mm (.mk [] (some (⟨[(1, pt 32 0), (163, kk), (164, kk), (165, ii)], v3_, []⟩, [⟨.x 18, ⟨[(1, pt 32 0)], v3_, []⟩⟩, ⟨.r, ⟨[(2, ii)], [], []⟩⟩])) .nil .nil) .nil)) (mm (nn (mm (.mk [] (some (⟨[(1, pt 32 0), (174, kk), (175, kk), (176, ii)], v3_, []⟩, [⟨.x 20, ⟨[(1, pt 32 0)], v3_, []⟩⟩, ⟨.r, ⟨[(2, ii)], [], []⟩⟩])) .nil .nil) .nil)) (mm (nn (mm (.mk [] (some (⟨[(1, pt 32 0), (186, kk), (187, kk), (188, ii)], v3_, []⟩, [⟨.x 22, ⟨[(1, pt 32 0)], v3_, []⟩⟩, ⟨.r, ⟨[(2, ii)], [], []⟩⟩])) (nn (nn (mm (mm (nn (mm (.mk [.join [⟨.n, ⟨[(1, pt 32 0), (186, kk), (187, kk), (188, kk), (207, bb)], v3_, []⟩⟩]] none .nil .nil) .nil)) .nil) .nil))) .nil) .nil)) (mm (mm (.mk [.join [⟨.n, ⟨[(218, bb)], [], []⟩⟩]] none .nil .nil) .nil) .nil)))))))))))))))) func23 ⟨⟨qjx, qjR, qkU, qjS, qjy, trivial⟩, trivial⟩
def qcm (s : Int × List UInt8) (n2 : Int) (s2 : List UInt8) : Option ((Int × List UInt8) ⊕ (List UInt8)) :=
 gd (Nat.ble ((qa2 [wu8 (wi64 (48 + (Int.tmod n2 10)))]).length + s2.length) 9223372036854775807) <|
 bif decide (wi64 (Int.tdiv n2 10) ≤ 0) then (
 gd (Nat.ble (s.2.length + ((qa2 [wu8 (wi64 (48 + (Int.tmod n2 10)))]) ++ s2).length) 9223372036854775807) <|
 some (.inr (s.2 ++ ((qa2 [wu8 (wi64 (48 + (Int.tmod n2 10)))]) ++ s2))))
 else (
 some (.inl (wi64 (Int.tdiv n2 10), (qa2 [wu8 (wi64 (48 + (Int.tmod n2 10)))]) ++ s2)))
def qfh (n : Int) : Option (List UInt8) :=
 Option.bind (α := Int × List UInt8) (
 bif decide (n < 0) then (
 some (wi64 (0 - n), [45]))
 else (
 some (n, []))) fun s =>
 (iter (fun x => qcm s x.1 x.2) (s.1, [])).bind fun s3 =>
 some s3
def qhN : Fun :=
 ⟨59, 1, 1,
 ⟨[(0, ii)], [], []⟩,
 ⟨[(0, ss)], [], []⟩,
 fun x => qfh x⟩
theorem qkV : FO qhN := fi [] [] 24 [] ((nn (nn (mm (nn (.mk [.join [⟨.n, ⟨[(0, ii), (3, ss), (4, kk)], [], []⟩⟩]] none .nil .nil)) (mm (.mk [] (some (⟨[(0, ii), (3, kk), (4, ss)], [], []⟩, [⟨.r, ⟨[(2, ss)], [], []⟩⟩])) .nil .nil) .nil))))) func59 ⟨trivial, trivial⟩
def qcn (numbers : List Int) (v : Int) (out : List (List UInt8)) : Option ((Int × List (List UInt8)) ⊕ (List (List UInt8))) :=
 bif decide (v < (numbers.length : Int)) then (
 gd (inB v numbers.length) <|
 (qfh (numbers.getD v.toNat 0)).bind fun r =>
 gd (fits (out.length + 1) 16) <|
 some (.inl (wi64 (v + 1), out ++ [r])))
 else (
 some (.inr out))
def qco (word : List UInt8) (names : List (List UInt8)) (numbers : List Int) : Option (List (List UInt8)) :=
 gd (fits (1 + names.length) 16) <|
 (iter (fun x => qcn numbers x.1 x.2) (0, [word] ++ names)).bind fun s =>
 some s
def qhO : Fun :=
 ⟨24, 3, 1,
 ⟨[(0, ss), (1, dd (.sl (.str))), (2, dd (.sl I6))], [], []⟩,
 ⟨r44_, [], []⟩,
 fun x => qco x.1 x.2.1 x.2.2⟩
theorem qkW : FO qhO := fi [10] [qhN] 28 [] ((nn (nn (mm (nn (mm (.mk [] (some (⟨[(2, kk), (7, ow 139), (14, kk), (15, ii)], [], [(139, .arr 9 (.str))]⟩, [⟨.x 0, ⟨[(7, ow 139)], [], [(139, .arr 9 (.str))]⟩⟩])) .nil .nil) .nil)) .nil)))) func24 ⟨⟨qkV, trivial⟩, trivial⟩
def qcd (w : List (List UInt8)) (v : Int) (k : Int) : Option (Int ⊕ (Unit ⊕ Bool)) :=
 gd (inB v w.length) <|
 bif decide (k < ((w.getD v.toNat []).length : Int)) then (
 Option.bind (α := Bool) (
 gd (inB v w.length) <|
 gd (inB k (w.getD v.toNat []).length) <|
 bif decide ((Int.ofNat ((w.getD v.toNat []).getD k.toNat 0).toNat) < 33) then (
 some true)
 else (
 gd (inB v w.length) <|
 gd (inB k (w.getD v.toNat []).length) <|
 some (decide (126 < (Int.ofNat ((w.getD v.toNat []).getD k.toNat 0).toNat))))) fun s2 =>
 bif s2 then (
 some (.inr (.inr false)))
 else (
 some (.inl (wi64 (k + 1)))))
 else (
 some (.inr (.inl ())))
def qaQ (w : List (List UInt8)) (v : Int) : Option (Int ⊕ (Unit ⊕ Bool)) :=
 bif decide (v < (w.length : Int)) then (
 Option.bind (α := Bool) (
 gd (inB v w.length) <|
 bif decide (w.getD v.toNat [] = []) then (
 some true)
 else (
 bif decide (v = 0) then (
 gd (inB v w.length) <|
 gd (inB 0 (w.getD v.toNat []).length) <|
 some (decide ((Int.ofNat ((w.getD v.toNat []).getD 0 0).toNat) = 35)))
 else (
 some false))) fun s =>
 bif s then (
 some (.inr (.inr false)))
 else (
 (iter (fun x => qcd w v x) 0).bind fun s3 =>
 s3.elim (fun s4 =>
 some (.inl (wi64 (v + 1))))
 (fun s5 =>
 some (.inr (.inr s5)))))
 else (
 some (.inr (.inl ())))
def qdR (w : List (List UInt8)) : Option (Bool) :=
 bif decide (16 < (w.length : Int)) then (
 some false)
 else (
 (iter (fun x2 => qaQ w x2) 0).bind fun s6 =>
 s6.elim (fun s7 =>
 some true)
 (fun s8 =>
 some s8))
def qeG : Fun :=
 ⟨60, 1, 1,
 ⟨r44_, [], []⟩,
 ⟨[(0, bb)], [], []⟩,
 fun x => qdR x⟩
theorem qgj : FO qeG := fi [] [] 56 [] ((nn (nn (mm (nn (mm (.mk [] (some (⟨[(0, kk), (9, kk), (10, ii)], [], []⟩, [⟨.x 0, ⟨[], [], []⟩⟩, ⟨.r, ⟨[(2, bb)], [], []⟩⟩])) (nn (nn (mm (mm (nn (mm (mm (.mk [.join [⟨.n, ⟨[(0, kk), (3, kk), (9, kk), (10, kk), (29, bb)], [], []⟩⟩]] none .nil .nil) .nil) (nn (mm (.mk [] (some (⟨[(0, kk), (3, kk), (4, ii), (9, kk), (10, kk)], [], []⟩, [⟨.x 2, ⟨[(0, kk), (9, kk), (10, kk)], [], []⟩⟩, ⟨.r, ⟨[(2, bb)], [], []⟩⟩])) (nn (mm (mm (mm (.mk [.join [⟨.n, ⟨[(0, kk), (3, kk), (4, kk), (9, kk), (10, kk), (54, bb)], [], []⟩⟩]] none .nil .nil) .nil) .nil) .nil)) .nil) .nil)))) .nil) .nil))) .nil) .nil)) .nil)))) func60 ⟨trivial, trivial⟩
def qfA (w : List (List UInt8)) (s : List UInt8) (v : Int) : Option ((List UInt8 × Int) ⊕ (List UInt8)) :=
 bif decide (v < (w.length : Int)) then (
 Option.bind (α := List UInt8) (
 bif decide (0 < v) then (
 gd (Nat.ble (s.length + [32].length) 9223372036854775807) <|
 some (s ++ [32]))
 else (
 some s)) fun s2 =>
 gd (inB v w.length) <|
 gd (Nat.ble (s2.length + (w.getD v.toNat []).length) 9223372036854775807) <|
 some (.inl (s2 ++ (w.getD v.toNat []), wi64 (v + 1))))
 else (
 some (.inr s))
def qgD (w : List (List UInt8)) : Option (List UInt8) :=
 (iter (fun x => qfA w x.1 x.2) ([], 0)).bind fun s3 =>
 some s3
def qhP : Fun :=
 ⟨61, 1, 1,
 ⟨r44_, [], []⟩,
 ⟨[(0, ss)], [], []⟩,
 fun x => qgD x⟩
theorem qkX : FO qhP := fi [] [] 22 [] ((nn (nn (mm (nn (mm (.mk [] (some (⟨[(0, kk), (3, ss), (6, kk), (7, ii)], [], []⟩, [⟨.x 0, ⟨[(3, ss)], [], []⟩⟩])) (nn (nn (mm (mm (nn (mm (nn (.mk [.join [⟨.n, ⟨[(0, kk), (3, ss), (4, kk), (6, kk), (7, kk)], [], []⟩⟩]] none .nil .nil)) .nil)) .nil) .nil))) .nil) .nil)) .nil)))) func61 ⟨trivial, trivial⟩
def qdn (l : List (List (List UInt8))) (v : Int) : Option (Int ⊕ (Unit ⊕ (List UInt8 × Int))) :=
 bif decide (v < (l.length : Int)) then (
 gd (inB v l.length) <|
 (qdR (l.getD v.toNat [])).bind fun r =>
 bif !r then (
 some (.inr (.inr ([], 3))))
 else (
 some (.inl (wi64 (v + 1)))))
 else (
 some (.inr (.inl ())))
def qfB (l : List (List (List UInt8))) (s4 : List UInt8) (v2 : Int) : Option ((List UInt8 × Int) ⊕ ((List UInt8) ⊕ (List UInt8 × Int))) :=
 bif decide (v2 < (l.length : Int)) then (
 gd (inB v2 l.length) <|
 (qgD (l.getD v2.toNat [])).bind fun r2 =>
 gd (Nat.ble (r2.length + [10].length) 9223372036854775807) <|
 gd (Nat.ble (s4.length + (r2 ++ [10]).length) 9223372036854775807) <|
 bif decide (16384 < ((s4 ++ (r2 ++ [10])).length : Int)) then (
 some (.inr (.inr ([], 4))))
 else (
 some (.inl (s4 ++ (r2 ++ [10]), wi64 (v2 + 1)))))
 else (
 some (.inr (.inl s4)))
def qfi (l : List (List (List UInt8))) : Option (List UInt8 × Int) :=
 bif decide (400 < (l.length : Int)) then (
 some ([], 4))
 else (
 (iter (fun x => qdn l x) 0).bind fun s =>
 s.elim (fun s2 =>
 (iter (fun x2 => qfB l x2.1 x2.2) ([], 0)).bind fun s5 =>
 s5.elim (fun s6 =>
 some (s6, 0))
 (fun s7 =>
 some (s7.1, s7.2)))
 (fun s3 =>
 some (s3.1, s3.2)))
def qhQ : Fun :=
 ⟨25, 1, 2,
 ⟨[(0, dd (.sl (.sl (.str))))], [], []⟩,
 ⟨[(0, ss), (1, ii)], [], []⟩,
 fun x => qfi x⟩
theorem qkY : FO qhQ := fi [] [qeG, qhP] 40 [] ((nn (nn (nn (mm (nn (mm (.mk [] (some (⟨[(0, kk), (4, kk), (11, kk), (12, ii)], [], []⟩, [⟨.x 0, ⟨[(0, kk), (4, kk)], [], []⟩⟩, ⟨.r, ⟨[(2, ss), (3, ii)], [], []⟩⟩])) .nil .nil) .nil)) (mm (nn (mm (.mk [] (some (⟨[(0, kk), (4, ss), (23, kk), (24, ii)], [], []⟩, [⟨.x 2, ⟨[(4, ss)], [], []⟩⟩, ⟨.r, ⟨[(2, ss), (3, ii)], [], []⟩⟩])) .nil .nil) .nil)) .nil)))))) func25 ⟨⟨qgj, qkX, trivial⟩, trivial⟩
def qbB (n : yB0) (v : Int) (l : List (List (List UInt8))) : Option ((Int × List (List (List UInt8))) ⊕ (List (List (List UInt8)))) :=
 bif decide (v < (n.1.length : Int)) then (
 gd (inB v n.1.length) <|
 (qco [110, 111, 100, 101] [n.1.getD v.toNat []] []).bind fun r3 =>
 gd (fits (l.length + 1) 24) <|
 some (.inl (wi64 (v + 1), l ++ [r3])))
 else (
 some (.inr l))
def qbC (n : yB0) (v2 : Int) (v3 : Int) (l3 : List (List (List UInt8))) : Option ((Int × List (List (List UInt8))) ⊕ (List (List (List UInt8)))) :=
 bif decide (v3 < ((((((((n.2.1.getD v2.toNat ([], (0, (0, (0, (0, (0, []))))))).2).2).2).2).2).2).length : Int)) then (
 gd (inB v3 (((((((n.2.1.getD v2.toNat ([], (0, (0, (0, (0, (0, []))))))).2).2).2).2).2).2).length) <|
 (qco [112, 111, 105, 110, 116] [] [((((((((n.2.1.getD v2.toNat ([], (0, (0, (0, (0, (0, []))))))).2).2).2).2).2).2).getD v3.toNat (0, (0, 0))).1, (((((((((n.2.1.getD v2.toNat ([], (0, (0, (0, (0, (0, []))))))).2).2).2).2).2).2).getD v3.toNat (0, (0, 0))).2).1, (((((((((n.2.1.getD v2.toNat ([], (0, (0, (0, (0, (0, []))))))).2).2).2).2).2).2).getD v3.toNat (0, (0, 0))).2).2]).bind fun r5 =>
 gd (fits (l3.length + 1) 24) <|
 some (.inl (wi64 (v3 + 1), l3 ++ [r5])))
 else (
 some (.inr l3))
def qbD (n : yB0) (v2 : Int) (l2 : List (List (List UInt8))) : Option ((Int × List (List (List UInt8))) ⊕ (List (List (List UInt8)))) :=
 bif decide (v2 < (n.2.1.length : Int)) then (
 gd (inB v2 n.2.1.length) <|
 gd (inB (((n.2.1.getD v2.toNat ([], (0, (0, (0, (0, (0, []))))))).2).1) n.1.length) <|
 gd (inB ((((n.2.1.getD v2.toNat ([], (0, (0, (0, (0, (0, []))))))).2).2).1) n.1.length) <|
 (qco [115, 101, 103, 109, 101, 110, 116] [(n.2.1.getD v2.toNat ([], (0, (0, (0, (0, (0, []))))))).1, n.1.getD (((n.2.1.getD v2.toNat ([], (0, (0, (0, (0, (0, []))))))).2).1).toNat [], n.1.getD ((((n.2.1.getD v2.toNat ([], (0, (0, (0, (0, (0, []))))))).2).2).1).toNat []] [((((n.2.1.getD v2.toNat ([], (0, (0, (0, (0, (0, []))))))).2).2).2).1, (((((n.2.1.getD v2.toNat ([], (0, (0, (0, (0, (0, []))))))).2).2).2).2).1, ((((((n.2.1.getD v2.toNat ([], (0, (0, (0, (0, (0, []))))))).2).2).2).2).2).1]).bind fun r4 =>
 gd (fits (l2.length + 1) 24) <|
 (iter (fun x2 => qbC n v2 x2.1 x2.2) (0, l2 ++ [r4])).bind fun s2 =>
 some (.inl (wi64 (v2 + 1), s2)))
 else (
 some (.inr l2))
def qbE (n : yB0) (v4 : Int) (l4 : List (List (List UInt8))) : Option ((Int × List (List (List UInt8))) ⊕ (List (List (List UInt8)))) :=
 bif decide (v4 < (n.2.2.1.length : Int)) then (
 gd (inB v4 n.2.2.1.length) <|
 gd (inB (((n.2.2.1.getD v4.toNat ([], (0, 0))).2).1) n.1.length) <|
 (qco [112, 111, 114, 116] [(n.2.2.1.getD v4.toNat ([], (0, 0))).1, n.1.getD (((n.2.2.1.getD v4.toNat ([], (0, 0))).2).1).toNat []] [((n.2.2.1.getD v4.toNat ([], (0, 0))).2).2]).bind fun r6 =>
 gd (fits (l4.length + 1) 24) <|
 some (.inl (wi64 (v4 + 1), l4 ++ [r6])))
 else (
 some (.inr l4))
def qbF (n : yB0) (v5 : Int) (l5 : List (List (List UInt8))) : Option ((Int × List (List (List UInt8))) ⊕ (List (List (List UInt8)))) :=
 bif decide (v5 < (n.2.2.2.1.length : Int)) then (
 gd (inB v5 n.2.2.2.1.length) <|
 gd (inB (((n.2.2.2.1.getD v5.toNat ([], (0, (0, (0, 0))))).2).1) n.1.length) <|
 (qco [115, 116, 97, 116, 105, 111, 110] [(n.2.2.2.1.getD v5.toNat ([], (0, (0, (0, 0))))).1, n.1.getD (((n.2.2.2.1.getD v5.toNat ([], (0, (0, (0, 0))))).2).1).toNat []] [(((n.2.2.2.1.getD v5.toNat ([], (0, (0, (0, 0))))).2).2).1, ((((n.2.2.2.1.getD v5.toNat ([], (0, (0, (0, 0))))).2).2).2).1, ((((n.2.2.2.1.getD v5.toNat ([], (0, (0, (0, 0))))).2).2).2).2]).bind fun r7 =>
 gd (fits (l5.length + 1) 24) <|
 some (.inl (wi64 (v5 + 1), l5 ++ [r7])))
 else (
 some (.inr l5))
def qbs (n : yB0) : Option (List UInt8 × Int) :=
 (qcc (n.1, (n.2.1, (n.2.2.1, (n.2.2.2.1, (n.2.2.2.2.1, n.2.2.2.2.2)))))).bind fun r =>
 bif !decide (r = 0) then (
 some ([], r))
 else (
 (qco [110, 101, 116, 119, 111, 114, 107] [] [n.2.2.2.2.1, n.2.2.2.2.2]).bind fun r2 =>
 (iter (fun x => qbB n x.1 x.2) (0, [r2])).bind fun s =>
 (iter (fun x3 => qbD n x3.1 x3.2) (0, s)).bind fun s3 =>
 (iter (fun x4 => qbE n x4.1 x4.2) (0, s3)).bind fun s4 =>
 (iter (fun x5 => qbF n x5.1 x5.2) (0, s4)).bind fun s5 =>
 (qfi s5).bind fun r8 =>
 some (r8.1, r8.2))
def qgk : Fun :=
 ⟨9, 1, 2,
 ⟨r1_, [], []⟩,
 ⟨[(0, ss), (1, ii)], [], []⟩,
 fun x => qbs x⟩
theorem qjz : FO qgk := fi [27] [qe6, qhO, qhQ] 151 [] ((nn (nn (nn (mm (nn (mm (.mk [] (some (⟨[(1, pt 32 0), (5, ow 107), (29, kk), (30, kk), (31, ii)], v3_, a18_⟩, [⟨.x 0, ⟨[(1, pt 32 0), (5, ow 107)], v3_, a18_⟩⟩])) .nil .nil) .nil)) (mm (nn (mm (.mk [] (some (⟨[(1, pt 32 0), (5, ow 107), (43, kk), (44, kk), (45, ii)], v3_, a18_⟩, [⟨.x 2, ⟨[(1, pt 32 0), (5, ow 107)], v3_, a18_⟩⟩])) (nn (nn (mm (mm (nn (nn (nn (mm (.mk [] (some (⟨[(1, pt 32 0), (5, ow 107), (43, kk), (44, kk), (45, kk), (76, kk), (77, kk), (78, ii)], v3_, a18_⟩, [⟨.x 4, ⟨[(1, pt 32 0), (5, ow 107), (43, kk), (44, kk), (45, kk)], v3_, a18_⟩⟩])) .nil .nil) .nil)))) .nil) .nil))) .nil) .nil)) (mm (nn (mm (.mk [] (some (⟨[(1, pt 32 0), (5, ow 107), (96, kk), (97, kk), (98, ii)], v3_, a18_⟩, [⟨.x 6, ⟨[(1, pt 32 0), (5, ow 107)], v3_, a18_⟩⟩])) .nil .nil) .nil)) (mm (nn (mm (.mk [] (some (⟨[(1, pt 32 0), (5, ow 107), (120, kk), (121, kk), (122, ii)], v3_, a18_⟩, [⟨.x 8, ⟨[(5, ow 107)], [], a18_⟩⟩])) .nil .nil) .nil)) .nil)))))))) func9 ⟨⟨qgV, qkW, qkY, trivial⟩, trivial⟩
def qbM (l : List (List UInt8)) (s : List Int) (s2 : Int) : Option (List UInt8 × List Int × Int) :=
 (qas (l.length : Int) s s2).bind fun r =>
 gd (inB r.1 l.length) <|
 some (l.getD r.1.toNat [], r.2.1, r.2.2)
def qd7 : Fun :=
 ⟨13, 2, 1,
 ⟨[(0, pt 0 0), (1, dd (.sl (.str)))], v7_, []⟩,
 ⟨[(0, ss)], v7_, []⟩,
 fun x => qbM x.1 x.2.1 x.2.2⟩
theorem qfT : FO qd7 := fi [] [qbL] 12 [] .nil func13 ⟨⟨qcl, trivial⟩, trivial⟩
def qfj (s3 : List Int) (s4 : Int) (n2 : List (List UInt8)) (n3 : List yT0) (n4 : yB2) (n5 : List yB1) (x : List (Int × Int × Int)) : Option ((List Int × Int × List (List UInt8) × (List yT0) × yB2 × (List yB1) × List (Int × Int × Int)) ⊕ (List Int × Int × List (List UInt8) × (List yT0) × yB2 × (List yB1) × List (Int × Int × Int))) :=
 (qas 2 s3 s4).bind fun r25 =>
 bif decide ((n2.length : Int) ≤ wi64 (23 + r25.1)) then (
 (qb9 [121] (n2.length : Int)).bind fun r26 =>
 (qb9 [] (wi64 (Int.tdiv (n2.length : Int) 26))).bind fun r27 =>
 gd (Nat.ble (r26.length + r27.length) 9223372036854775807) <|
 gd (fits (n2.length + 1) 16) <|
 some (.inl (r25.2.1, r25.2.2, n2 ++ [r26 ++ r27], n3, n4, n5, x)))
 else (
 some (.inr (r25.2.1, r25.2.2, n2, n3, n4, n5, x)))
def qdJ (n : yB0) (s : List Int) (s2 : Int) : Option (yB0 × List Int × Int) :=
 gd (fits (0 + n.1.length) 16) <|
 gd (fits (0 + n.2.1.length) 80) <|
 gd (fits (0 + n.2.2.1.length) 32) <|
 gd (fits (0 + n.2.2.2.1.length) 48) <|
 (qas (([] ++ n.2.1).length : Int) s s2).bind fun r =>
 gd (inB r.1 ([] ++ n.2.1).length) <|
 gd (fits (0 + (((((((([] ++ n.2.1).getD r.1.toNat ([], (0, (0, (0, (0, (0, []))))))).2).2).2).2).2).2).length) 24) <|
 (qas 12 r.2.1 r.2.2).bind fun r2 =>
 Option.bind (α := Int × Int × Int × Int × Int × Int × (List (Int × Int × Int)) × List Int × Int × List (List UInt8) × (List yT0) × yB2 × List yB1) (
 bif decide (r2.1 = 0) then (
 (qas (([] ++ n.1).length : Int) r2.2.1 r2.2.2).bind fun r3 =>
 (qbM ([[], [110, 97], [65], [120, 45, 57]] : List (List UInt8)) r3.2.1 r3.2.2).bind fun r4 =>
 gd (inB r3.1 ([] ++ n.1).length) <|
 some (n.2.2.2.2.1, n.2.2.2.2.2, ((([] ++ n.2.1).getD r.1.toNat ([], (0, (0, (0, (0, (0, []))))))).2).1, ((((([] ++ n.2.1).getD r.1.toNat ([], (0, (0, (0, (0, (0, []))))))).2).2).2).1, (((((([] ++ n.2.1).getD r.1.toNat ([], (0, (0, (0, (0, (0, []))))))).2).2).2).2).1, ((((((([] ++ n.2.1).getD r.1.toNat ([], (0, (0, (0, (0, (0, []))))))).2).2).2).2).2).1, ([] ++ (((((((([] ++ n.2.1).getD r.1.toNat ([], (0, (0, (0, (0, (0, []))))))).2).2).2).2).2).2)), r4.2.1, r4.2.2, ([] ++ n.1).set r3.1.toNat r4.1, ([] ++ n.2.1), ([] ++ n.2.2.1), ([] ++ n.2.2.2.1)))
 else (
 bif decide (r2.1 = 1) then (
 (qab [(-1), (((([] ++ n.2.1).getD r.1.toNat ([], (0, (0, (0, (0, (0, []))))))).2).2).1, (([] ++ n.1).length : Int), 0] r2.2.1 r2.2.2).bind fun r5 =>
 some (n.2.2.2.2.1, n.2.2.2.2.2, r5.1, ((((([] ++ n.2.1).getD r.1.toNat ([], (0, (0, (0, (0, (0, []))))))).2).2).2).1, (((((([] ++ n.2.1).getD r.1.toNat ([], (0, (0, (0, (0, (0, []))))))).2).2).2).2).1, ((((((([] ++ n.2.1).getD r.1.toNat ([], (0, (0, (0, (0, (0, []))))))).2).2).2).2).2).1, ([] ++ (((((((([] ++ n.2.1).getD r.1.toNat ([], (0, (0, (0, (0, (0, []))))))).2).2).2).2).2).2)), r5.2.1, r5.2.2, ([] ++ n.1), ([] ++ n.2.1), ([] ++ n.2.2.1), ([] ++ n.2.2.2.1)))
 else (
 bif decide (r2.1 = 2) then (
 (qab [0, (-1), wi64 ((((((([] ++ n.2.1).getD r.1.toNat ([], (0, (0, (0, (0, (0, []))))))).2).2).2).1) + 1), 1000001] r2.2.1 r2.2.2).bind fun r6 =>
 some (n.2.2.2.2.1, n.2.2.2.2.2, ((([] ++ n.2.1).getD r.1.toNat ([], (0, (0, (0, (0, (0, []))))))).2).1, r6.1, (((((([] ++ n.2.1).getD r.1.toNat ([], (0, (0, (0, (0, (0, []))))))).2).2).2).2).1, ((((((([] ++ n.2.1).getD r.1.toNat ([], (0, (0, (0, (0, (0, []))))))).2).2).2).2).2).1, ([] ++ (((((((([] ++ n.2.1).getD r.1.toNat ([], (0, (0, (0, (0, (0, []))))))).2).2).2).2).2).2)), r6.2.1, r6.2.2, ([] ++ n.1), ([] ++ n.2.1), ([] ++ n.2.2.1), ([] ++ n.2.2.2.1)))
 else (
 bif decide (r2.1 = 3) then (
 (qab ([(-1), 1000, 1001] : List Int) r2.2.1 r2.2.2).bind fun r7 =>
 some (n.2.2.2.2.1, n.2.2.2.2.2, ((([] ++ n.2.1).getD r.1.toNat ([], (0, (0, (0, (0, (0, []))))))).2).1, ((((([] ++ n.2.1).getD r.1.toNat ([], (0, (0, (0, (0, (0, []))))))).2).2).2).1, r7.1, ((((((([] ++ n.2.1).getD r.1.toNat ([], (0, (0, (0, (0, (0, []))))))).2).2).2).2).2).1, ([] ++ (((((((([] ++ n.2.1).getD r.1.toNat ([], (0, (0, (0, (0, (0, []))))))).2).2).2).2).2).2)), r7.2.1, r7.2.2, ([] ++ n.1), ([] ++ n.2.1), ([] ++ n.2.2.1), ([] ++ n.2.2.2.1)))
 else (
 bif decide (r2.1 = 4) then (
 (qab ([(-1), 100000, 100001] : List Int) r2.2.1 r2.2.2).bind fun r8 =>
 some (n.2.2.2.2.1, n.2.2.2.2.2, ((([] ++ n.2.1).getD r.1.toNat ([], (0, (0, (0, (0, (0, []))))))).2).1, ((((([] ++ n.2.1).getD r.1.toNat ([], (0, (0, (0, (0, (0, []))))))).2).2).2).1, (((((([] ++ n.2.1).getD r.1.toNat ([], (0, (0, (0, (0, (0, []))))))).2).2).2).2).1, r8.1, ([] ++ (((((((([] ++ n.2.1).getD r.1.toNat ([], (0, (0, (0, (0, (0, []))))))).2).2).2).2).2).2)), r8.2.1, r8.2.2, ([] ++ n.1), ([] ++ n.2.1), ([] ++ n.2.2.1), ([] ++ n.2.2.2.1)))
 else (
 bif decide (r2.1 = 5) then (
 bif decide (0 < (([] ++ (((((((([] ++ n.2.1).getD r.1.toNat ([], (0, (0, (0, (0, (0, []))))))).2).2).2).2).2).2)).length : Int)) then (
 (qas (([] ++ (((((((([] ++ n.2.1).getD r.1.toNat ([], (0, (0, (0, (0, (0, []))))))).2).2).2).2).2).2)).length : Int) r2.2.1 r2.2.2).bind fun r9 =>
 (qab [(-1), 0, 1, ((((([] ++ n.2.1).getD r.1.toNat ([], (0, (0, (0, (0, (0, []))))))).2).2).2).1] r9.2.1 r9.2.2).bind fun r10 =>
 gd (inB r9.1 ([] ++ (((((((([] ++ n.2.1).getD r.1.toNat ([], (0, (0, (0, (0, (0, []))))))).2).2).2).2).2).2)).length) <|
 some (n.2.2.2.2.1, n.2.2.2.2.2, ((([] ++ n.2.1).getD r.1.toNat ([], (0, (0, (0, (0, (0, []))))))).2).1, ((((([] ++ n.2.1).getD r.1.toNat ([], (0, (0, (0, (0, (0, []))))))).2).2).2).1, (((((([] ++ n.2.1).getD r.1.toNat ([], (0, (0, (0, (0, (0, []))))))).2).2).2).2).1, ((((((([] ++ n.2.1).getD r.1.toNat ([], (0, (0, (0, (0, (0, []))))))).2).2).2).2).2).1, ([] ++ (((((((([] ++ n.2.1).getD r.1.toNat ([], (0, (0, (0, (0, (0, []))))))).2).2).2).2).2).2)).set r9.1.toNat (r10.1, (([] ++ (((((((([] ++ n.2.1).getD r.1.toNat ([], (0, (0, (0, (0, (0, []))))))).2).2).2).2).2).2)).getD r9.1.toNat (0, (0, 0))).2), r10.2.1, r10.2.2, ([] ++ n.1), ([] ++ n.2.1), ([] ++ n.2.2.1), ([] ++ n.2.2.2.1)))
 else (
 some (n.2.2.2.2.1, n.2.2.2.2.2, ((([] ++ n.2.1).getD r.1.toNat ([], (0, (0, (0, (0, (0, []))))))).2).1, ((((([] ++ n.2.1).getD r.1.toNat ([], (0, (0, (0, (0, (0, []))))))).2).2).2).1, (((((([] ++ n.2.1).getD r.1.toNat ([], (0, (0, (0, (0, (0, []))))))).2).2).2).2).1, ((((((([] ++ n.2.1).getD r.1.toNat ([], (0, (0, (0, (0, (0, []))))))).2).2).2).2).2).1, ([] ++ (((((((([] ++ n.2.1).getD r.1.toNat ([], (0, (0, (0, (0, (0, []))))))).2).2).2).2).2).2)), r2.2.1, r2.2.2, ([] ++ n.1), ([] ++ n.2.1), ([] ++ n.2.2.1), ([] ++ n.2.2.2.1))))
 else (
 bif decide (r2.1 = 6) then (
 (qas (min 3 (wi64 ((([] ++ (((((((([] ++ n.2.1).getD r.1.toNat ([], (0, (0, (0, (0, (0, []))))))).2).2).2).2).2).2)).length : Int) + 1))) r2.2.1 r2.2.2).bind fun r11 =>
 gd (cutG none (some (.i64, r11.1)) ([] ++ (((((((([] ++ n.2.1).getD r.1.toNat ([], (0, (0, (0, (0, (0, []))))))).2).2).2).2).2).2)).length) <|
 some (n.2.2.2.2.1, n.2.2.2.2.2, ((([] ++ n.2.1).getD r.1.toNat ([], (0, (0, (0, (0, (0, []))))))).2).1, ((((([] ++ n.2.1).getD r.1.toNat ([], (0, (0, (0, (0, (0, []))))))).2).2).2).1, (((((([] ++ n.2.1).getD r.1.toNat ([], (0, (0, (0, (0, (0, []))))))).2).2).2).2).1, ((((((([] ++ n.2.1).getD r.1.toNat ([], (0, (0, (0, (0, (0, []))))))).2).2).2).2).2).1, ([] ++ (((((((([] ++ n.2.1).getD r.1.toNat ([], (0, (0, (0, (0, (0, []))))))).2).2).2).2).2).2)).take r11.1.toNat, r11.2.1, r11.2.2, ([] ++ n.1), ([] ++ n.2.1), ([] ++ n.2.2.1), ([] ++ n.2.2.2.1)))
 else (
 bif decide (r2.1 = 7) then (
 bif decide (0 < (([] ++ (((((((([] ++ n.2.1).getD r.1.toNat ([], (0, (0, (0, (0, (0, []))))))).2).2).2).2).2).2)).length : Int)) then (
 (qas (([] ++ (((((((([] ++ n.2.1).getD r.1.toNat ([], (0, (0, (0, (0, (0, []))))))).2).2).2).2).2).2)).length : Int) r2.2.1 r2.2.2).bind fun r12 =>
 (qab ([(-501), (-500), 5000, 5001] : List Int) r12.2.1 r12.2.2).bind fun r13 =>
 gd (inB r12.1 ([] ++ (((((((([] ++ n.2.1).getD r.1.toNat ([], (0, (0, (0, (0, (0, []))))))).2).2).2).2).2).2)).length) <|
 some (n.2.2.2.2.1, n.2.2.2.2.2, ((([] ++ n.2.1).getD r.1.toNat ([], (0, (0, (0, (0, (0, []))))))).2).1, ((((([] ++ n.2.1).getD r.1.toNat ([], (0, (0, (0, (0, (0, []))))))).2).2).2).1, (((((([] ++ n.2.1).getD r.1.toNat ([], (0, (0, (0, (0, (0, []))))))).2).2).2).2).1, ((((((([] ++ n.2.1).getD r.1.toNat ([], (0, (0, (0, (0, (0, []))))))).2).2).2).2).2).1, ([] ++ (((((((([] ++ n.2.1).getD r.1.toNat ([], (0, (0, (0, (0, (0, []))))))).2).2).2).2).2).2)).set r12.1.toNat ((([] ++ (((((((([] ++ n.2.1).getD r.1.toNat ([], (0, (0, (0, (0, (0, []))))))).2).2).2).2).2).2)).getD r12.1.toNat (0, (0, 0))).1, (r13.1, ((([] ++ (((((((([] ++ n.2.1).getD r.1.toNat ([], (0, (0, (0, (0, (0, []))))))).2).2).2).2).2).2)).getD r12.1.toNat (0, (0, 0))).2).2)), r13.2.1, r13.2.2, ([] ++ n.1), ([] ++ n.2.1), ([] ++ n.2.2.1), ([] ++ n.2.2.2.1)))
 else (
 some (n.2.2.2.2.1, n.2.2.2.2.2, ((([] ++ n.2.1).getD r.1.toNat ([], (0, (0, (0, (0, (0, []))))))).2).1, ((((([] ++ n.2.1).getD r.1.toNat ([], (0, (0, (0, (0, (0, []))))))).2).2).2).1, (((((([] ++ n.2.1).getD r.1.toNat ([], (0, (0, (0, (0, (0, []))))))).2).2).2).2).1, ((((((([] ++ n.2.1).getD r.1.toNat ([], (0, (0, (0, (0, (0, []))))))).2).2).2).2).2).1, ([] ++ (((((((([] ++ n.2.1).getD r.1.toNat ([], (0, (0, (0, (0, (0, []))))))).2).2).2).2).2).2)), r2.2.1, r2.2.2, ([] ++ n.1), ([] ++ n.2.1), ([] ++ n.2.2.1), ([] ++ n.2.2.2.1))))
 else (
 bif decide (r2.1 = 8) then (
 bif decide (0 < (([] ++ n.2.2.1).length : Int)) then (
 (qas (([] ++ n.2.2.1).length : Int) r2.2.1 r2.2.2).bind fun r14 =>
 (qbM ([[113, 97], [113, 98], [], [122]] : List (List UInt8)) r14.2.1 r14.2.2).bind fun r15 =>
 (qab [(-1), 0, 1, (([] ++ n.1).length : Int)] r15.2.1 r15.2.2).bind fun r16 =>
 (qab ([0, (-1), 100000000, 100000001] : List Int) r16.2.1 r16.2.2).bind fun r17 =>
 gd (inB r14.1 ([] ++ n.2.2.1).length) <|
 some (n.2.2.2.2.1, n.2.2.2.2.2, ((([] ++ n.2.1).getD r.1.toNat ([], (0, (0, (0, (0, (0, []))))))).2).1, ((((([] ++ n.2.1).getD r.1.toNat ([], (0, (0, (0, (0, (0, []))))))).2).2).2).1, (((((([] ++ n.2.1).getD r.1.toNat ([], (0, (0, (0, (0, (0, []))))))).2).2).2).2).1, ((((((([] ++ n.2.1).getD r.1.toNat ([], (0, (0, (0, (0, (0, []))))))).2).2).2).2).2).1, ([] ++ (((((((([] ++ n.2.1).getD r.1.toNat ([], (0, (0, (0, (0, (0, []))))))).2).2).2).2).2).2)), r17.2.1, r17.2.2, ([] ++ n.1), ([] ++ n.2.1), ([] ++ n.2.2.1).set r14.1.toNat (r15.1, (r16.1, r17.1)), ([] ++ n.2.2.2.1)))
 else (
 some (n.2.2.2.2.1, n.2.2.2.2.2, ((([] ++ n.2.1).getD r.1.toNat ([], (0, (0, (0, (0, (0, []))))))).2).1, ((((([] ++ n.2.1).getD r.1.toNat ([], (0, (0, (0, (0, (0, []))))))).2).2).2).1, (((((([] ++ n.2.1).getD r.1.toNat ([], (0, (0, (0, (0, (0, []))))))).2).2).2).2).1, ((((((([] ++ n.2.1).getD r.1.toNat ([], (0, (0, (0, (0, (0, []))))))).2).2).2).2).2).1, ([] ++ (((((((([] ++ n.2.1).getD r.1.toNat ([], (0, (0, (0, (0, (0, []))))))).2).2).2).2).2).2)), r2.2.1, r2.2.2, ([] ++ n.1), ([] ++ n.2.1), ([] ++ n.2.2.1), ([] ++ n.2.2.2.1))))
 else (
 bif decide (r2.1 = 9) then (
 (qbM ([[115, 97], [115, 122], []] : List (List UInt8)) r2.2.1 r2.2.2).bind fun r18 =>
 (qab ([(-1), 0, 0, 1, 99] : List Int) r18.2.1 r18.2.2).bind fun r19 =>
 (qab ([0, (-1)] : List Int) r19.2.1 r19.2.2).bind fun r20 =>
 (qab ([0, 100001] : List Int) r20.2.1 r20.2.2).bind fun r21 =>
 (qab ([0, (-1)] : List Int) r21.2.1 r21.2.2).bind fun r22 =>
 gd (fits (([] ++ n.2.2.2.1).length + 1) 48) <|
 some (n.2.2.2.2.1, n.2.2.2.2.2, ((([] ++ n.2.1).getD r.1.toNat ([], (0, (0, (0, (0, (0, []))))))).2).1, ((((([] ++ n.2.1).getD r.1.toNat ([], (0, (0, (0, (0, (0, []))))))).2).2).2).1, (((((([] ++ n.2.1).getD r.1.toNat ([], (0, (0, (0, (0, (0, []))))))).2).2).2).2).1, ((((((([] ++ n.2.1).getD r.1.toNat ([], (0, (0, (0, (0, (0, []))))))).2).2).2).2).2).1, ([] ++ (((((((([] ++ n.2.1).getD r.1.toNat ([], (0, (0, (0, (0, (0, []))))))).2).2).2).2).2).2)), r22.2.1, r22.2.2, ([] ++ n.1), ([] ++ n.2.1), ([] ++ n.2.2.1), ([] ++ n.2.2.2.1) ++ [(r18.1, (r19.1, (r20.1, (r21.1, r22.1))))]))
 else (
 bif decide (r2.1 = 10) then (
 (qab ([0, (-100001), 100000001] : List Int) r2.2.1 r2.2.2).bind fun r23 =>
 (qab ([0, (-1), 101] : List Int) r23.2.1 r23.2.2).bind fun r24 =>
 some (r23.1, r24.1, ((([] ++ n.2.1).getD r.1.toNat ([], (0, (0, (0, (0, (0, []))))))).2).1, ((((([] ++ n.2.1).getD r.1.toNat ([], (0, (0, (0, (0, (0, []))))))).2).2).2).1, (((((([] ++ n.2.1).getD r.1.toNat ([], (0, (0, (0, (0, (0, []))))))).2).2).2).2).1, ((((((([] ++ n.2.1).getD r.1.toNat ([], (0, (0, (0, (0, (0, []))))))).2).2).2).2).2).1, ([] ++ (((((((([] ++ n.2.1).getD r.1.toNat ([], (0, (0, (0, (0, (0, []))))))).2).2).2).2).2).2)), r24.2.1, r24.2.2, ([] ++ n.1), ([] ++ n.2.1), ([] ++ n.2.2.1), ([] ++ n.2.2.2.1)))
 else (
 (iter (fun x2 => qfj x2.1 x2.2.1 x2.2.2.1 x2.2.2.2.1 x2.2.2.2.2.1 x2.2.2.2.2.2.1 x2.2.2.2.2.2.2) (r2.2.1, r2.2.2, ([] ++ n.1), ([] ++ n.2.1), ([] ++ n.2.2.1), ([] ++ n.2.2.2.1), ([] ++ (((((((([] ++ n.2.1).getD r.1.toNat ([], (0, (0, (0, (0, (0, []))))))).2).2).2).2).2).2)))).bind fun s5 =>
 some (n.2.2.2.2.1, n.2.2.2.2.2, ((([] ++ n.2.1).getD r.1.toNat ([], (0, (0, (0, (0, (0, []))))))).2).1, ((((([] ++ n.2.1).getD r.1.toNat ([], (0, (0, (0, (0, (0, []))))))).2).2).2).1, (((((([] ++ n.2.1).getD r.1.toNat ([], (0, (0, (0, (0, (0, []))))))).2).2).2).2).1, ((((((([] ++ n.2.1).getD r.1.toNat ([], (0, (0, (0, (0, (0, []))))))).2).2).2).2).2).1, s5.2.2.2.2.2.2, s5.1, s5.2.1, s5.2.2.1, s5.2.2.2.1, s5.2.2.2.2.1, s5.2.2.2.2.2.1))))))))))))) fun s6 =>
 gd (inB r.1 s6.2.2.2.2.2.2.2.2.2.2.1.length) <|
 some ((s6.2.2.2.2.2.2.2.2.2.1, (s6.2.2.2.2.2.2.2.2.2.2.1.set r.1.toNat ((([] ++ n.2.1).getD r.1.toNat ([], (0, (0, (0, (0, (0, []))))))).1, (s6.2.2.1, ((((([] ++ n.2.1).getD r.1.toNat ([], (0, (0, (0, (0, (0, []))))))).2).2).1, (s6.2.2.2.1, (s6.2.2.2.2.1, (s6.2.2.2.2.2.1, s6.2.2.2.2.2.2.1)))))), (s6.2.2.2.2.2.2.2.2.2.2.2.1, (s6.2.2.2.2.2.2.2.2.2.2.2.2, (s6.1, s6.2.1))))), s6.2.2.2.2.2.2.2.1, s6.2.2.2.2.2.2.2.2.1)
def qfk : Fun :=
 ⟨11, 2, 1,
 ⟨[(0, pt 0 0), (1, dd (.pair (.sl (.str)) (.pair (.sl tT0) (.pair (.sl tT2) (.pair (.sl tT1) (.pair I6 I6))))))], v7_, []⟩,
 ⟨r1_, v7_, []⟩,
 fun x => qdJ x.1 x.2.1 x.2.2⟩
theorem qib : FO qfk := fi [7, 12, 17, 22, 37] [qbL, qd7, qcU, qeX] 228 [] ((nn (nn (nn (nn (nn (nn (nn (nn (mm (nn (.mk [.join [⟨.n, ⟨[(3, pt 64 0), (4, pt 80 0), (5, kk), (6, pt 112 0)], [(64, 34, [.own 1049, .own 256, .own 336, .own 1097, .data I6, .data I6]), (80, 34, (kp 6)), (112, 52, [.keep, .data I6, .keep, .data I6, .data I6, .data I6, .data (.sl (.pair I6 (.pair I6 I6)))]), (0, 57, [.data (.sl I6), .data I6])], [(1049, .arr 9 (.str)), (256, .arr 52 tT0), (336, .arr 47 tT2), (1097, .arr 55 tT1)]⟩⟩]] none (nn (nn (nn (nn (nn (nn (nn (nn (nn (nn (nn (nn (nn (mm (.mk [.fz [6]] none .nil .nil) (nn (nn (nn (nn (nn (nn (nn (nn (mm (.mk [] (some (⟨[(0, pt 0 0), (3, pt 64 0), (4, pt 80 0), (5, kk), (6, pt 112 0)], [(0, 57, [.data (.sl I6), .data I6]), (64, 34, [.own 1049, .own 256, .own 336, .own 416, .keep, .keep]), (80, 34, (kp 6)), (112, 52, [.keep, .keep, .keep, .keep, .keep, .keep, .own 656])], a33_⟩, [⟨.x 1, ⟨[(3, pt 64 0), (4, pt 80 0), (5, kk), (6, pt 112 0)], [(64, 34, [.own 1049, .own 256, .own 336, .own 416, .keep, .keep]), (80, 34, (kp 6)), (112, 52, [.keep, .keep, .keep, .keep, .keep, .keep, .own 656]), (0, 57, [.data (.sl I6), .data I6])], a33_⟩⟩])) .nil .nil) .nil))))))))))))))))))))))) .nil)) .nil)))))))))) func11 ⟨⟨qcl, qfT, qd6, qgh, trivial⟩, trivial⟩
def qe7 (text : List UInt8) (vfrom : Int) (i : Int) (out : List (List UInt8)) : Option ((Int × Int × List (List UInt8)) ⊕ (Int × List (List UInt8))) :=
 bif decide (i < (text.length : Int)) then (
 gd (inB i text.length) <|
 Option.bind (α := Int × List (List UInt8)) (
 bif decide ((Int.ofNat (text.getD i.toNat 0).toNat) = 10) then (
 gd (inR vfrom i text.length) <|
 gd (fits (out.length + 1) 16) <|
 some (wi64 (i + 1), out ++ [(text.take i.toNat).drop vfrom.toNat]))
 else (
 some (vfrom, out))) fun s =>
 some (.inl (s.1, wi64 (i + 1), s.2)))
 else (
 some (.inr (vfrom, out)))
def qeH (text : List UInt8) : Option (List (List UInt8)) :=
 (iter (fun x => qe7 text x.1 x.2.1 x.2.2) (0, 0, [])).bind fun s2 =>
 bif decide (s2.1 < (text.length : Int)) then (
 gd (cutG (some (.i64, s2.1)) none text.length) <|
 gd (fits (s2.2.length + 1) 16) <|
 some (s2.2 ++ [text.drop s2.1.toNat]))
 else (
 some s2.2)
def qe8 : Fun :=
 ⟨31, 1, 1,
 ⟨[(0, ss)], [], []⟩,
 ⟨[(0, ow 0)], [], [(0, .arr 9 (.str))]⟩,
 fun x => qeH x⟩
theorem qgW : FO qe8 := fi [] [] 36 [] ((nn (nn (nn (mm (nn (mm (.mk [] (some (⟨[(0, kk), (3, ow 75), (4, ii), (5, ii)], [], a47_⟩, [⟨.x 0, ⟨[(0, kk), (3, ow 75), (4, ii)], [], a47_⟩⟩])) (nn (mm (mm (nn (.mk [.join [⟨.n, ⟨[(0, kk), (3, ow 75), (4, ii), (5, kk)], [], a47_⟩⟩]] none .nil .nil)) .nil) .nil)) .nil) .nil)) .nil))))) func31 ⟨trivial, trivial⟩
def qfC (text : List UInt8) : Option (List (List UInt8)) :=
 (qeH text).bind fun r =>
 some r
def qgX : Fun :=
 ⟨12, 1, 1,
 ⟨[(0, ss)], [], []⟩,
 ⟨[(0, ow 0)], [], [(0, .arr 9 (.str))]⟩,
 fun x => qfC x⟩
theorem qjT : FO qgX := fi [] [qe8] 5 [] .nil func12 ⟨⟨qgW, trivial⟩, trivial⟩
def qgl (s : List UInt8) (vfrom : Int) (i : Int) (out : List (List UInt8)) : Option ((Int × Int × List (List UInt8)) ⊕ (List (List UInt8))) :=
 bif decide (i ≤ (s.length : Int)) then (
 Option.bind (α := Bool × List (List UInt8)) (
 bif decide (i = (s.length : Int)) then (
 some (true, out))
 else (
 gd (inB i s.length) <|
 some (decide ((Int.ofNat (s.getD i.toNat 0).toNat) = 32), out))) fun s2 =>
 Option.bind (α := Int × List (List UInt8)) (
 bif s2.1 then (
 gd (inR vfrom i s.length) <|
 gd (fits (s2.2.length + 1) 16) <|
 some (wi64 (i + 1), s2.2 ++ [(s.take i.toNat).drop vfrom.toNat]))
 else (
 some (vfrom, s2.2))) fun s3 =>
 some (.inl (s3.1, wi64 (i + 1), s3.2)))
 else (
 some (.inr out))
def qhR (s : List UInt8) : Option (List (List UInt8)) :=
 (iter (fun x => qgl s x.1 x.2.1 x.2.2) (0, 0, [])).bind fun s4 =>
 some s4
def qim : Fun :=
 ⟨71, 1, 1,
 ⟨[(0, ss)], [], []⟩,
 ⟨[(0, ow 0)], [], [(0, .arr 9 (.str))]⟩,
 fun x => qhR x⟩
theorem qlV : FO qim := fi [] [] 32 [] ((nn (nn (nn (mm (nn (mm (.mk [] (some (⟨[(0, kk), (3, ow 75), (4, ii), (5, ii)], [], a47_⟩, [⟨.x 0, ⟨[(3, ow 75)], [], a47_⟩⟩])) (nn (mm (mm (mm (.mk [.join [⟨.n, ⟨[(0, kk), (3, ow 75), (4, kk), (5, kk), (21, bb)], [], a47_⟩⟩]] none .nil .nil) (.mk [.join [⟨.n, ⟨[(0, kk), (3, ow 75), (4, ii), (5, kk)], [], a47_⟩⟩]] none .nil .nil)) .nil) .nil)) .nil) .nil)) .nil))))) func71 ⟨trivial, trivial⟩
def qe9 (r : List (List UInt8)) (v : Int) (l : List (List UInt8)) (out : List (List (List UInt8))) : Option ((Int × List (List UInt8) × List (List (List UInt8))) ⊕ ((List (List (List UInt8))) ⊕ (List (List (List UInt8)) × Int))) :=
 bif decide (v < (r.length : Int)) then (
 Option.bind (α := (List (List UInt8) × List (List (List UInt8))) ⊕ (List (List (List UInt8)) × Int)) (
 Option.bind (α := Bool × List (List UInt8) × List (List (List UInt8))) (
 gd (inB v l.length) <|
 bif decide (l.getD v.toNat [] = []) then (
 some (true, l, out))
 else (
 gd (inB v l.length) <|
 gd (inB 0 (l.getD v.toNat []).length) <|
 some (decide ((Int.ofNat ((l.getD v.toNat []).getD 0 0).toNat) = 35), l, out))) fun s =>
 bif s.1 then (
 gd (fits (s.2.2.length + 1) 24) <|
 some (.inl (s.2.1, s.2.2 ++ [[]])))
 else (
 gd (inB v s.2.1.length) <|
 (qhR (s.2.1.getD v.toNat [])).bind fun r2 =>
 (qdR r2).bind fun r3 =>
 bif !r3 then (
 some (.inr ([], 3)))
 else (
 gd (fits (s.2.2.length + 1) 24) <|
 some (.inl (s.2.1, s.2.2 ++ [r2]))))) fun s2 =>
 s2.elim (fun s3 =>
 some (.inl (wi64 (v + 1), s3.1, s3.2)))
 (fun s4 =>
 some (.inr (.inr (s4.1, s4.2)))))
 else (
 some (.inr (.inl out)))
def qfD (text : List UInt8) : Option (List (List (List UInt8)) × Int) :=
 bif decide (16384 < (text.length : Int)) then (
 some ([], 4))
 else (
 (qeH text).bind fun r =>
 bif decide (400 < (r.length : Int)) then (
 some ([], 4))
 else (
 (iter (fun x => qe9 r x.1 x.2.1 x.2.2) (0, r, [])).bind fun s5 =>
 s5.elim (fun s6 =>
 some (s6, 0))
 (fun s7 =>
 some (s7.1, s7.2))))
def qgY : Fun :=
 ⟨34, 1, 2,
 ⟨[(0, ss)], [], []⟩,
 ⟨[(0, dd (.sl (.sl (.str)))), (1, ii)], [], []⟩,
 fun x => qfD x⟩
theorem qjU : FO qgY := fi [] [qe8, qim, qeG] 51 [] ((nn (nn (nn (nn (nn (mm (nn (mm (.mk [] (some (⟨[(4, ow 208), (5, ow 107), (17, kk), (18, ii)], [], a45_⟩, [⟨.x 0, ⟨[(5, ow 107)], [], a18_⟩⟩, ⟨.r, ⟨r57_, [], []⟩⟩])) (nn (nn (mm (.mk [.join [⟨.n, ⟨[(4, ow 208), (5, ow 107), (17, kk), (18, kk)], [], a45_⟩⟩, ⟨.r, ⟨r57_, [], []⟩⟩]] none (nn (mm (mm (.mk [.join [⟨.n, ⟨[(4, ow 208), (5, ow 107), (6, kk), (17, kk), (18, kk), (33, bb)], [], a45_⟩⟩]] none .nil .nil) .nil) (nn (nn (.mk [.fz [7]] none .nil .nil))))) .nil) .nil))) .nil) .nil)) .nil))))))) func34 ⟨⟨qgW, qlV, qgj, trivial⟩, trivial⟩
def qhi : Option (List (List UInt8) × List (List UInt8)) :=
 some (([[110, 101, 116, 119, 111, 114, 107], [110, 111, 100, 101], [115, 101, 103, 109, 101, 110, 116], [112, 111, 105, 110, 116], [112, 111, 114, 116], [115, 116, 97, 116, 105, 111, 110]] : List (List UInt8)), ([[110, 110], [45], [45, 111, 111, 110, 110, 110], [110, 110, 110], [45, 111, 110], [45, 111, 110, 110, 110]] : List (List UInt8)))
def qgZ : Fun :=
 ⟨35, 0, 2,
 ⟨[], [], []⟩,
 ⟨[(0, dd (.sl (.str))), (1, dd (.sl (.str)))], [], []⟩,
 fun x => qhi⟩
theorem qjV : FO qgZ := fi [] [] 4 [] .nil func35 ⟨trivial, trivial⟩
def qcp (l : List (List UInt8)) (name : List UInt8) (v : Int) : Option (Int ⊕ (Unit ⊕ Int)) :=
 bif decide (v < (l.length : Int)) then (
 gd (inB v l.length) <|
 bif decide (l.getD v.toNat [] = name) then (
 some (.inr (.inr v)))
 else (
 some (.inl (wi64 (v + 1)))))
 else (
 some (.inr (.inl ())))
def qek (l : List (List UInt8)) (name : List UInt8) : Option (Int) :=
 (iter (fun x => qcp l name x) 0).bind fun s =>
 s.elim (fun s2 =>
 some (-1))
 (fun s3 =>
 some s3)
def qei : Fun :=
 ⟨36, 2, 1,
 ⟨[(0, dd (.sl (.str))), (1, ss)], [], []⟩,
 ⟨[(0, ii)], [], []⟩,
 fun x => qek x.1 x.2⟩
theorem qfE : FO qei := fi [] [] 19 [] ((nn (mm (nn (mm (.mk [] (some (⟨r28_, [], []⟩, [⟨.x 0, ⟨[], [], []⟩⟩, ⟨.r, ⟨[(4, ii)], [], []⟩⟩])) .nil .nil) .nil)) .nil))) func36 ⟨trivial, trivial⟩
def qce (s3 : List UInt8) (i : Int) : Option (Int ⊕ (Unit ⊕ (Int × Int))) :=
 bif decide (i < (s3.length : Int)) then (
 Option.bind (α := Bool) (
 gd (inB i s3.length) <|
 bif decide ((Int.ofNat (s3.getD i.toNat 0).toNat) < 48) then (
 some true)
 else (
 gd (inB i s3.length) <|
 some (decide (57 < (Int.ofNat (s3.getD i.toNat 0).toNat))))) fun s5 =>
 bif s5 then (
 some (.inr (.inr (0, 3))))
 else (
 some (.inl (wi64 (i + 1)))))
 else (
 some (.inr (.inl ())))
def qeI (s3 : List UInt8) (n : Int) (i2 : Int) : Option ((Int × Int) ⊕ (Int ⊕ (Int × Int))) :=
 bif decide (i2 < (s3.length : Int)) then (
 gd (inB i2 s3.length) <|
 bif decide (9007199254740992 < wi64 ((wi64 (n * 10)) + (wi64 (wu8 ((Int.ofNat (s3.getD i2.toNat 0).toNat) - 48))))) then (
 some (.inr (.inr (0, 1))))
 else (
 some (.inl (wi64 ((wi64 (n * 10)) + (wi64 (wu8 ((Int.ofNat (s3.getD i2.toNat 0).toNat) - 48)))), wi64 (i2 + 1)))))
 else (
 some (.inr (.inl n)))
def qeY (s : List UInt8) : Option (Int × Int) :=
 Option.bind (α := Bool) (
 bif decide (0 < (s.length : Int)) then (
 gd (inB 0 s.length) <|
 some (decide ((Int.ofNat (s.getD 0 0).toNat) = 45)))
 else (
 some false)) fun s2 =>
 Option.bind (α := List UInt8) (
 bif s2 then (
 gd (cutG (some (.i64, 1)) none s.length) <|
 some (s.drop 1))
 else (
 some s)) fun s3 =>
 Option.bind (α := Bool) (
 bif decide (s3 = []) then (
 some true)
 else (
 gd (inB 0 s3.length) <|
 bif decide ((Int.ofNat (s3.getD 0 0).toNat) = 48) then (
 bif decide (1 < (s3.length : Int)) then (
 some true)
 else (
 some s2))
 else (
 some false))) fun s4 =>
 bif s4 then (
 some (0, 3))
 else (
 (iter (fun x => qce s3 x) 0).bind fun s6 =>
 s6.elim (fun s7 =>
 (iter (fun x2 => qeI s3 x2.1 x2.2) (0, 0)).bind fun s9 =>
 s9.elim (fun s10 =>
 Option.bind (α := Int) (
 bif s2 then (
 some (wi64 (0 - s10)))
 else (
 some s10)) fun s12 =>
 some (s12, 0))
 (fun s11 =>
 some (s11.1, s11.2)))
 (fun s8 =>
 some (s8.1, s8.2)))
def qgm : Fun :=
 ⟨37, 1, 2,
 ⟨[(0, ss)], [], []⟩,
 ⟨[(0, ii), (1, ii)], [], []⟩,
 fun x => qeY x⟩
theorem qjA : FO qgm := fi [] [] 72 [] ((nn (mm (.mk [.join [⟨.n, ⟨[(0, kk), (4, bb)], [], []⟩⟩]] none .nil .nil) (nn (mm (nn (.mk [.join [⟨.n, ⟨[(4, kk), (5, ss)], [], []⟩⟩]] none .nil .nil)) (mm (mm (.mk [.join [⟨.n, ⟨[(4, kk), (5, kk), (35, bb)], [], []⟩⟩]] none .nil .nil) .nil) (mm (nn (mm (.mk [] (some (⟨[(4, kk), (5, kk), (6, ii)], [], []⟩, [⟨.x 0, ⟨[(4, kk), (5, kk)], [], []⟩⟩, ⟨.r, ⟨[(2, ii), (3, ii)], [], []⟩⟩])) (nn (mm (mm (mm (.mk [.join [⟨.n, ⟨[(4, kk), (5, kk), (6, kk), (51, bb)], [], []⟩⟩]] none .nil .nil) .nil) .nil) .nil)) .nil) .nil)) (nn (mm (nn (mm (.mk [] (some (⟨[(4, kk), (5, kk), (7, ii), (8, ii)], [], []⟩, [⟨.x 2, ⟨[(4, kk), (7, ii)], [], []⟩⟩, ⟨.r, ⟨[(2, ii), (3, ii)], [], []⟩⟩])) .nil .nil) .nil)) (mm (nn (.mk [.join [⟨.n, ⟨[(7, ii)], [], []⟩⟩]] none .nil .nil)) .nil)))))))))) func37 ⟨trivial, trivial⟩
def qoE (n : yB0) (name : List UInt8) : Option (Int) :=
 (qek n.1 name).bind fun r =>
 some r
def qkZ : Fun :=
 ⟨38, 2, 1,
 ⟨r35_, [], []⟩,
 ⟨[(0, ii)], [], []⟩,
 fun x => qoE x.1 x.2⟩
theorem qq8 : FO qkZ := fi [] [qei] 9 [] .nil func38 ⟨⟨qfE, trivial⟩, trivial⟩
def qdS (n : List (List UInt8)) (name : List UInt8) : Option (Int) :=
 (qek n name).bind fun r =>
 some r
def qgn : Fun :=
 ⟨38, 2, 1,
 ⟨r52_, [], []⟩,
 ⟨[(0, ii)], [], []⟩,
 fun x => qdS x.1 x.2⟩
theorem qjB : FO qgn := fi [] [qei] 9 [] .nil func38 ⟨⟨qfE, trivial⟩, trivial⟩
def qbu (r : List (List (List UInt8)) × Int) (r2 : List (List UInt8) × List (List UInt8)) (v : Int) (r3 : Int) (x : Int) (v8 : List (List UInt8)) (v9 : List yT0) (v10 : yB2) (v11 : List yB1) (v12 : Int) (v13 : Int) (out7 : Int) (out8 : Int) (num : List Int) (out9 : List (List UInt8)) (out10 : List yT0) (out11 : yB2) (out12 : List yB1) : Option ((Int × List (List UInt8) × (List yT0) × yB2 × (List yB1) × Int × Int × Int × Int × List Int × List (List UInt8) × (List yT0) × yB2 × List yB1) ⊕ ((List (List UInt8) × (List yT0) × yB2 × (List yB1) × Int × Int × Int × Int × List Int × List (List UInt8) × (List yT0) × yB2 × List yB1) ⊕ yB3)) :=
 bif decide (x < ((r.1.getD v.toNat []).length : Int)) then (
 gd (inB r3 r2.2.length) <|
 gd (inB (wi64 (x - 1)) (r2.2.getD r3.toNat []).length) <|
 Option.bind (α := (List (List UInt8) × (List yT0) × yB2 × (List yB1) × Int × Int × Int × Int × List Int × List (List UInt8) × (List yT0) × yB2 × List yB1) ⊕ yB3) (
 bif decide ((Int.ofNat ((r2.2.getD r3.toNat []).getD (wi64 (x - 1)).toNat 0).toNat) = 110) then (
 gd (inB x (r.1.getD v.toNat []).length) <|
 (qeY ((r.1.getD v.toNat []).getD x.toNat [])).bind fun r4 =>
 bif !decide (r4.2 = 0) then (
 some (.inr (wi64 (v + 1), 3, [], [], [], [], 0, 0)))
 else (
 gd (fits (num.length + 1) 8) <|
 some (.inl (v8, v9, v10, v11, v12, v13, out7, out8, num ++ [r4.1], out9, out10, out11, out12))))
 else (
 some (.inl (v8, v9, v10, v11, v12, v13, out7, out8, num, out9, out10, out11, out12)))) fun s3 =>
 s3.elim (fun s4 =>
 some (.inl (wi64 (x + 1), s4.1, s4.2.1, s4.2.2.1, s4.2.2.2.1, s4.2.2.2.2.1, s4.2.2.2.2.2.1, s4.2.2.2.2.2.2.1, s4.2.2.2.2.2.2.2.1, s4.2.2.2.2.2.2.2.2.1, s4.2.2.2.2.2.2.2.2.2.1, s4.2.2.2.2.2.2.2.2.2.2.1, s4.2.2.2.2.2.2.2.2.2.2.2.1, s4.2.2.2.2.2.2.2.2.2.2.2.2)))
 (fun s5 =>
 some (.inr (.inr (s5.1, s5.2.1, s5.2.2.1, s5.2.2.2.1, s5.2.2.2.2.1, s5.2.2.2.2.2.1, s5.2.2.2.2.2.2.1, s5.2.2.2.2.2.2.2)))))
 else (
 some (.inr (.inl (v8, v9, v10, v11, v12, v13, out7, out8, num, out9, out10, out11, out12))))
def qbv (r : List (List (List UInt8)) × Int) (r2 : List (List UInt8) × List (List UInt8)) (v : Int) (r3 : Int) (x3 : Int) (v14 : List (List UInt8)) (v15 : List yT0) (v16 : yB2) (v17 : List yB1) (v18 : Int) (v19 : Int) (out13 : Int) (out14 : Int) (num2 : List Int) (vat : List Int) (out15 : List (List UInt8)) (out16 : List yT0) (out17 : yB2) (out18 : List yB1) : Option ((Int × List (List UInt8) × (List yT0) × yB2 × (List yB1) × Int × Int × Int × Int × List Int × List Int × List (List UInt8) × (List yT0) × yB2 × List yB1) ⊕ ((List (List UInt8) × (List yT0) × yB2 × (List yB1) × Int × Int × Int × Int × List Int × List Int × List (List UInt8) × (List yT0) × yB2 × List yB1) ⊕ yB3)) :=
 bif decide (x3 < ((r.1.getD v.toNat []).length : Int)) then (
 gd (inB r3 r2.2.length) <|
 gd (inB (wi64 (x3 - 1)) (r2.2.getD r3.toNat []).length) <|
 Option.bind (α := (List (List UInt8) × (List yT0) × yB2 × (List yB1) × Int × Int × Int × Int × List Int × List Int × List (List UInt8) × (List yT0) × yB2 × List yB1) ⊕ yB3) (
 bif decide ((Int.ofNat ((r2.2.getD r3.toNat []).getD (wi64 (x3 - 1)).toNat 0).toNat) = 111) then (
 gd (inB x3 (r.1.getD v.toNat []).length) <|
 (qdS out15 ((r.1.getD v.toNat []).getD x3.toNat [])).bind fun r5 =>
 bif decide (r5 < 0) then (
 some (.inr (wi64 (v + 1), 8, [], [], [], [], 0, 0)))
 else (
 gd (inB x3 (r.1.getD v.toNat []).length) <|
 (qdS out15 ((r.1.getD v.toNat []).getD x3.toNat [])).bind fun r6 =>
 gd (fits (vat.length + 1) 8) <|
 some (.inl (v14, v15, v16, v17, v18, v19, out13, out14, num2, vat ++ [r6], out15, out16, out17, out18))))
 else (
 some (.inl (v14, v15, v16, v17, v18, v19, out13, out14, num2, vat, out15, out16, out17, out18)))) fun s10 =>
 s10.elim (fun s11 =>
 some (.inl (wi64 (x3 + 1), s11.1, s11.2.1, s11.2.2.1, s11.2.2.2.1, s11.2.2.2.2.1, s11.2.2.2.2.2.1, s11.2.2.2.2.2.2.1, s11.2.2.2.2.2.2.2.1, s11.2.2.2.2.2.2.2.2.1, s11.2.2.2.2.2.2.2.2.2.1, s11.2.2.2.2.2.2.2.2.2.2.1, s11.2.2.2.2.2.2.2.2.2.2.2.1, s11.2.2.2.2.2.2.2.2.2.2.2.2.1, s11.2.2.2.2.2.2.2.2.2.2.2.2.2)))
 (fun s12 =>
 some (.inr (.inr (s12.1, s12.2.1, s12.2.2.1, s12.2.2.2.1, s12.2.2.2.2.1, s12.2.2.2.2.2.1, s12.2.2.2.2.2.2.1, s12.2.2.2.2.2.2.2)))))
 else (
 some (.inr (.inl (v14, v15, v16, v17, v18, v19, out13, out14, num2, vat, out15, out16, out17, out18))))
def qbZ (r : List (List (List UInt8)) × Int) (r2 : List (List UInt8) × List (List UInt8)) (stage : Int) (last : List UInt8) (v : Int) (v2 : List (List UInt8)) (v3 : List yT0) (v4 : yB2) (v5 : List yB1) (v6 : Int) (v7 : Int) (out : Int) (out2 : Int) (out3 : List (List UInt8)) (out4 : List yT0) (out5 : yB2) (out6 : List yB1) : Option ((Int × List UInt8 × Int × List (List UInt8) × (List yT0) × yB2 × (List yB1) × Int × Int × Int × Int × List (List UInt8) × (List yT0) × yB2 × List yB1) ⊕ ((Int × List (List UInt8) × (List yT0) × yB2 × (List yB1) × Int × Int × Int × Int × List (List UInt8) × (List yT0) × yB2 × List yB1) ⊕ yB3)) :=
 bif decide (v < (r.1.length : Int)) then (
 Option.bind (α := (Int × List UInt8 × List (List UInt8) × (List yT0) × yB2 × (List yB1) × Int × Int × Int × Int × List (List UInt8) × (List yT0) × yB2 × List yB1) ⊕ yB3) (
 gd (inB v r.1.length) <|
 bif decide (((r.1.getD v.toNat []).length : Int) = 0) then (
 some (.inl (stage, last, v2, v3, v4, v5, v6, v7, out, out2, out3, out4, out5, out6)))
 else (
 gd (inB 0 (r.1.getD v.toNat []).length) <|
 (qek r2.1 ((r.1.getD v.toNat []).getD 0 [])).bind fun r3 =>
 Option.bind (α := Bool × Int × Int × List (List UInt8) × (List yT0) × yB2 × List yB1) (
 bif decide (r3 < 0) then (
 some (true, out, out2, out3, out4, out5, out6))
 else (
 gd (inB r3 r2.2.length) <|
 some ((!decide (((r.1.getD v.toNat []).length : Int) = wi64 (1 + ((r2.2.getD r3.toNat []).length : Int)))), out, out2, out3, out4, out5, out6))) fun s2 =>
 bif s2.1 then (
 some (.inr (wi64 (v + 1), 3, [], [], [], [], 0, 0)))
 else (
 (iter (fun x2 => qbu r r2 v r3 x2.1 x2.2.1 x2.2.2.1 x2.2.2.2.1 x2.2.2.2.2.1 x2.2.2.2.2.2.1 x2.2.2.2.2.2.2.1 x2.2.2.2.2.2.2.2.1 x2.2.2.2.2.2.2.2.2.1 x2.2.2.2.2.2.2.2.2.2.1 x2.2.2.2.2.2.2.2.2.2.2.1 x2.2.2.2.2.2.2.2.2.2.2.2.1 x2.2.2.2.2.2.2.2.2.2.2.2.2.1 x2.2.2.2.2.2.2.2.2.2.2.2.2.2) (1, v2, v3, v4, v5, v6, v7, s2.2.1, s2.2.2.1, [], s2.2.2.2.1, s2.2.2.2.2.1, s2.2.2.2.2.2.1, s2.2.2.2.2.2.2)).bind fun s6 =>
 s6.elim (fun s7 =>
 gd (inB r3 ([0, 1, 2, 2, 3, 4] : List Int).length) <|
 Option.bind (α := Bool × Int × Int × List Int × List (List UInt8) × (List yT0) × yB2 × List yB1) (
 bif !(decide (([0, 1, 2, 2, 3, 4] : List Int).getD r3.toNat 0 = 0) == decide (stage < 0)) then (
 some (true, s7.2.2.2.2.2.2.1, s7.2.2.2.2.2.2.2.1, s7.2.2.2.2.2.2.2.2.1, s7.2.2.2.2.2.2.2.2.2.1, s7.2.2.2.2.2.2.2.2.2.2.1, s7.2.2.2.2.2.2.2.2.2.2.2.1, s7.2.2.2.2.2.2.2.2.2.2.2.2))
 else (
 bif decide (([0, 1, 2, 2, 3, 4] : List Int).getD r3.toNat 0 < stage) then (
 some (true, s7.2.2.2.2.2.2.1, s7.2.2.2.2.2.2.2.1, s7.2.2.2.2.2.2.2.2.1, s7.2.2.2.2.2.2.2.2.2.1, s7.2.2.2.2.2.2.2.2.2.2.1, s7.2.2.2.2.2.2.2.2.2.2.2.1, s7.2.2.2.2.2.2.2.2.2.2.2.2))
 else (
 gd (inB 0 (r.1.getD v.toNat []).length) <|
 bif decide ((r.1.getD v.toNat []).getD 0 [] = [112, 111, 105, 110, 116]) then (
 bif !decide (last = [115, 101, 103, 109, 101, 110, 116]) then (
 some ((!decide (last = [112, 111, 105, 110, 116])), s7.2.2.2.2.2.2.1, s7.2.2.2.2.2.2.2.1, s7.2.2.2.2.2.2.2.2.1, s7.2.2.2.2.2.2.2.2.2.1, s7.2.2.2.2.2.2.2.2.2.2.1, s7.2.2.2.2.2.2.2.2.2.2.2.1, s7.2.2.2.2.2.2.2.2.2.2.2.2))
 else (
 some (false, s7.2.2.2.2.2.2.1, s7.2.2.2.2.2.2.2.1, s7.2.2.2.2.2.2.2.2.1, s7.2.2.2.2.2.2.2.2.2.1, s7.2.2.2.2.2.2.2.2.2.2.1, s7.2.2.2.2.2.2.2.2.2.2.2.1, s7.2.2.2.2.2.2.2.2.2.2.2.2)))
 else (
 some (false, s7.2.2.2.2.2.2.1, s7.2.2.2.2.2.2.2.1, s7.2.2.2.2.2.2.2.2.1, s7.2.2.2.2.2.2.2.2.2.1, s7.2.2.2.2.2.2.2.2.2.2.1, s7.2.2.2.2.2.2.2.2.2.2.2.1, s7.2.2.2.2.2.2.2.2.2.2.2.2))))) fun s9 =>
 bif s9.1 then (
 some (.inr (wi64 (v + 1), 6, [], [], [], [], 0, 0)))
 else (
 (iter (fun x4 => qbv r r2 v r3 x4.1 x4.2.1 x4.2.2.1 x4.2.2.2.1 x4.2.2.2.2.1 x4.2.2.2.2.2.1 x4.2.2.2.2.2.2.1 x4.2.2.2.2.2.2.2.1 x4.2.2.2.2.2.2.2.2.1 x4.2.2.2.2.2.2.2.2.2.1 x4.2.2.2.2.2.2.2.2.2.2.1 x4.2.2.2.2.2.2.2.2.2.2.2.1 x4.2.2.2.2.2.2.2.2.2.2.2.2.1 x4.2.2.2.2.2.2.2.2.2.2.2.2.2.1 x4.2.2.2.2.2.2.2.2.2.2.2.2.2.2) (1, s7.1, s7.2.1, s7.2.2.1, s7.2.2.2.1, s7.2.2.2.2.1, s7.2.2.2.2.2.1, s9.2.1, s9.2.2.1, s9.2.2.2.1, [], s9.2.2.2.2.1, s9.2.2.2.2.2.1, s9.2.2.2.2.2.2.1, s9.2.2.2.2.2.2.2)).bind fun s13 =>
 s13.elim (fun s14 =>
 gd (inB 0 (r.1.getD v.toNat []).length) <|
 Option.bind (α := yB7) (
 bif decide ((r.1.getD v.toNat []).getD 0 [] = [110, 101, 116, 119, 111, 114, 107]) then (
 gd (inB 0 s14.2.2.2.2.2.2.2.2.1.length) <|
 gd (inB 1 s14.2.2.2.2.2.2.2.2.1.length) <|
 some (s14.2.2.2.2.2.2.2.2.1.getD 0 0, s14.2.2.2.2.2.2.2.2.1.getD 1 0, s14.2.2.2.2.2.2.2.2.2.2.1, s14.2.2.2.2.2.2.2.2.2.2.2.1, s14.2.2.2.2.2.2.2.2.2.2.2.2.1, s14.2.2.2.2.2.2.2.2.2.2.2.2.2))
 else (
 Option.bind (α := yB7) (
 bif decide ((r.1.getD v.toNat []).getD 0 [] = [110, 111, 100, 101]) then (
 gd (inB 1 (r.1.getD v.toNat []).length) <|
 gd (fits (s14.2.2.2.2.2.2.2.2.2.2.1.length + 1) 16) <|
 some (s14.2.2.2.2.2.2.1, s14.2.2.2.2.2.2.2.1, s14.2.2.2.2.2.2.2.2.2.2.1 ++ [(r.1.getD v.toNat []).getD 1 []], s14.2.2.2.2.2.2.2.2.2.2.2.1, s14.2.2.2.2.2.2.2.2.2.2.2.2.1, s14.2.2.2.2.2.2.2.2.2.2.2.2.2))
 else (
 Option.bind (α := yB7) (
 bif decide ((r.1.getD v.toNat []).getD 0 [] = [115, 101, 103, 109, 101, 110, 116]) then (
 gd (inB 1 (r.1.getD v.toNat []).length) <|
 gd (inB 0 s14.2.2.2.2.2.2.2.2.2.1.length) <|
 gd (inB 1 s14.2.2.2.2.2.2.2.2.2.1.length) <|
 gd (inB 0 s14.2.2.2.2.2.2.2.2.1.length) <|
 gd (inB 1 s14.2.2.2.2.2.2.2.2.1.length) <|
 gd (inB 2 s14.2.2.2.2.2.2.2.2.1.length) <|
 gd (fits (s14.2.2.2.2.2.2.2.2.2.2.2.1.length + 1) 80) <|
 some (s14.2.2.2.2.2.2.1, s14.2.2.2.2.2.2.2.1, s14.2.2.2.2.2.2.2.2.2.2.1, s14.2.2.2.2.2.2.2.2.2.2.2.1 ++ [((r.1.getD v.toNat []).getD 1 [], (s14.2.2.2.2.2.2.2.2.2.1.getD 0 0, (s14.2.2.2.2.2.2.2.2.2.1.getD 1 0, (s14.2.2.2.2.2.2.2.2.1.getD 0 0, (s14.2.2.2.2.2.2.2.2.1.getD 1 0, (s14.2.2.2.2.2.2.2.2.1.getD 2 0, []))))))], s14.2.2.2.2.2.2.2.2.2.2.2.2.1, s14.2.2.2.2.2.2.2.2.2.2.2.2.2))
 else (
 Option.bind (α := yB7) (
 bif decide ((r.1.getD v.toNat []).getD 0 [] = [112, 111, 105, 110, 116]) then (
 gd (inB (wi64 ((s14.2.2.2.2.2.2.2.2.2.2.2.1.length : Int) - 1)) s14.2.2.2.2.2.2.2.2.2.2.2.1.length) <|
 gd (inB 0 s14.2.2.2.2.2.2.2.2.1.length) <|
 gd (inB 1 s14.2.2.2.2.2.2.2.2.1.length) <|
 gd (inB 2 s14.2.2.2.2.2.2.2.2.1.length) <|
 gd (fits ((((((((s14.2.2.2.2.2.2.2.2.2.2.2.1.getD ((wi64 ((s14.2.2.2.2.2.2.2.2.2.2.2.1.length : Int) - 1)).toNat) ([], (0, (0, (0, (0, (0, []))))))).2).2).2).2).2).2).length + 1) 24) <|
 gd (inB (wi64 ((s14.2.2.2.2.2.2.2.2.2.2.2.1.length : Int) - 1)) s14.2.2.2.2.2.2.2.2.2.2.2.1.length) <|
 gd (Nat.beq ((wi64 ((s14.2.2.2.2.2.2.2.2.2.2.2.1.length : Int) - 1)).toNat) ((wi64 ((s14.2.2.2.2.2.2.2.2.2.2.2.1.length : Int) - 1)).toNat)) <|
 some (s14.2.2.2.2.2.2.1, s14.2.2.2.2.2.2.2.1, s14.2.2.2.2.2.2.2.2.2.2.1, s14.2.2.2.2.2.2.2.2.2.2.2.1.set ((wi64 ((s14.2.2.2.2.2.2.2.2.2.2.2.1.length : Int) - 1)).toNat) ((s14.2.2.2.2.2.2.2.2.2.2.2.1.getD ((wi64 ((s14.2.2.2.2.2.2.2.2.2.2.2.1.length : Int) - 1)).toNat) ([], (0, (0, (0, (0, (0, []))))))).1, (((s14.2.2.2.2.2.2.2.2.2.2.2.1.getD ((wi64 ((s14.2.2.2.2.2.2.2.2.2.2.2.1.length : Int) - 1)).toNat) ([], (0, (0, (0, (0, (0, []))))))).2).1, ((((s14.2.2.2.2.2.2.2.2.2.2.2.1.getD ((wi64 ((s14.2.2.2.2.2.2.2.2.2.2.2.1.length : Int) - 1)).toNat) ([], (0, (0, (0, (0, (0, []))))))).2).2).1, (((((s14.2.2.2.2.2.2.2.2.2.2.2.1.getD ((wi64 ((s14.2.2.2.2.2.2.2.2.2.2.2.1.length : Int) - 1)).toNat) ([], (0, (0, (0, (0, (0, []))))))).2).2).2).1, ((((((s14.2.2.2.2.2.2.2.2.2.2.2.1.getD ((wi64 ((s14.2.2.2.2.2.2.2.2.2.2.2.1.length : Int) - 1)).toNat) ([], (0, (0, (0, (0, (0, []))))))).2).2).2).2).1, (((((((s14.2.2.2.2.2.2.2.2.2.2.2.1.getD ((wi64 ((s14.2.2.2.2.2.2.2.2.2.2.2.1.length : Int) - 1)).toNat) ([], (0, (0, (0, (0, (0, []))))))).2).2).2).2).2).1, (((((((s14.2.2.2.2.2.2.2.2.2.2.2.1.getD ((wi64 ((s14.2.2.2.2.2.2.2.2.2.2.2.1.length : Int) - 1)).toNat) ([], (0, (0, (0, (0, (0, []))))))).2).2).2).2).2).2) ++ [(s14.2.2.2.2.2.2.2.2.1.getD 0 0, (s14.2.2.2.2.2.2.2.2.1.getD 1 0, s14.2.2.2.2.2.2.2.2.1.getD 2 0))])))))), s14.2.2.2.2.2.2.2.2.2.2.2.2.1, s14.2.2.2.2.2.2.2.2.2.2.2.2.2))
 else (
 Option.bind (α := yB7) (
 bif decide ((r.1.getD v.toNat []).getD 0 [] = [112, 111, 114, 116]) then (
 gd (inB 1 (r.1.getD v.toNat []).length) <|
 gd (inB 0 s14.2.2.2.2.2.2.2.2.2.1.length) <|
 gd (inB 0 s14.2.2.2.2.2.2.2.2.1.length) <|
 gd (fits (s14.2.2.2.2.2.2.2.2.2.2.2.2.1.length + 1) 32) <|
 some (s14.2.2.2.2.2.2.1, s14.2.2.2.2.2.2.2.1, s14.2.2.2.2.2.2.2.2.2.2.1, s14.2.2.2.2.2.2.2.2.2.2.2.1, s14.2.2.2.2.2.2.2.2.2.2.2.2.1 ++ [((r.1.getD v.toNat []).getD 1 [], (s14.2.2.2.2.2.2.2.2.2.1.getD 0 0, s14.2.2.2.2.2.2.2.2.1.getD 0 0))], s14.2.2.2.2.2.2.2.2.2.2.2.2.2))
 else (
 gd (inB 1 (r.1.getD v.toNat []).length) <|
 gd (inB 0 s14.2.2.2.2.2.2.2.2.2.1.length) <|
 gd (inB 0 s14.2.2.2.2.2.2.2.2.1.length) <|
 gd (inB 1 s14.2.2.2.2.2.2.2.2.1.length) <|
 gd (inB 2 s14.2.2.2.2.2.2.2.2.1.length) <|
 gd (fits (s14.2.2.2.2.2.2.2.2.2.2.2.2.2.length + 1) 48) <|
 some (s14.2.2.2.2.2.2.1, s14.2.2.2.2.2.2.2.1, s14.2.2.2.2.2.2.2.2.2.2.1, s14.2.2.2.2.2.2.2.2.2.2.2.1, s14.2.2.2.2.2.2.2.2.2.2.2.2.1, s14.2.2.2.2.2.2.2.2.2.2.2.2.2 ++ [((r.1.getD v.toNat []).getD 1 [], (s14.2.2.2.2.2.2.2.2.2.1.getD 0 0, (s14.2.2.2.2.2.2.2.2.1.getD 0 0, (s14.2.2.2.2.2.2.2.2.1.getD 1 0, s14.2.2.2.2.2.2.2.2.1.getD 2 0))))]))) fun s16 =>
 some (s16.1, s16.2.1, s16.2.2.1, s16.2.2.2.1, s16.2.2.2.2.1, s16.2.2.2.2.2))) fun s17 =>
 some (s17.1, s17.2.1, s17.2.2.1, s17.2.2.2.1, s17.2.2.2.2.1, s17.2.2.2.2.2))) fun s18 =>
 some (s18.1, s18.2.1, s18.2.2.1, s18.2.2.2.1, s18.2.2.2.2.1, s18.2.2.2.2.2))) fun s19 =>
 some (s19.1, s19.2.1, s19.2.2.1, s19.2.2.2.1, s19.2.2.2.2.1, s19.2.2.2.2.2))) fun s20 =>
 gd (inB 0 (r.1.getD v.toNat []).length) <|
 some (.inl (([0, 1, 2, 2, 3, 4] : List Int).getD r3.toNat 0, (r.1.getD v.toNat []).getD 0 [], s14.1, s14.2.1, s14.2.2.1, s14.2.2.2.1, s14.2.2.2.2.1, s14.2.2.2.2.2.1, s20.1, s20.2.1, s20.2.2.1, s20.2.2.2.1, s20.2.2.2.2.1, s20.2.2.2.2.2)))
 (fun s15 =>
 some (.inr (s15.1, s15.2.1, s15.2.2.1, s15.2.2.2.1, s15.2.2.2.2.1, s15.2.2.2.2.2.1, s15.2.2.2.2.2.2.1, s15.2.2.2.2.2.2.2)))))
 (fun s8 =>
 some (.inr (s8.1, s8.2.1, s8.2.2.1, s8.2.2.2.1, s8.2.2.2.2.1, s8.2.2.2.2.2.1, s8.2.2.2.2.2.2.1, s8.2.2.2.2.2.2.2)))))) fun s21 =>
 s21.elim (fun s22 =>
 some (.inl (s22.1, s22.2.1, wi64 (v + 1), s22.2.2.1, s22.2.2.2.1, s22.2.2.2.2.1, s22.2.2.2.2.2.1, s22.2.2.2.2.2.2.1, s22.2.2.2.2.2.2.2.1, s22.2.2.2.2.2.2.2.2.1, s22.2.2.2.2.2.2.2.2.2.1, s22.2.2.2.2.2.2.2.2.2.2.1, s22.2.2.2.2.2.2.2.2.2.2.2.1, s22.2.2.2.2.2.2.2.2.2.2.2.2.1, s22.2.2.2.2.2.2.2.2.2.2.2.2.2)))
 (fun s23 =>
 some (.inr (.inr (s23.1, s23.2.1, s23.2.2.1, s23.2.2.2.1, s23.2.2.2.2.1, s23.2.2.2.2.2.1, s23.2.2.2.2.2.2.1, s23.2.2.2.2.2.2.2)))))
 else (
 some (.inr (.inl (stage, v2, v3, v4, v5, v6, v7, out, out2, out3, out4, out5, out6))))
def qeJ (text : List UInt8) : Option (yB0 × Int × Int) :=
 (qfD text).bind fun r =>
 bif !decide (r.2 = 0) then (
 some (([], ([], ([], ([], (0, 0))))), 0, r.2))
 else (
 Option.bind (α := yB7) (
 some (0, 0, [], [], [], [])) fun s =>
 (qhi).bind fun r2 =>
 (iter (fun x5 => qbZ r r2 x5.1 x5.2.1 x5.2.2.1 x5.2.2.2.1 x5.2.2.2.2.1 x5.2.2.2.2.2.1 x5.2.2.2.2.2.2.1 x5.2.2.2.2.2.2.2.1 x5.2.2.2.2.2.2.2.2.1 x5.2.2.2.2.2.2.2.2.2.1 x5.2.2.2.2.2.2.2.2.2.2.1 x5.2.2.2.2.2.2.2.2.2.2.2.1 x5.2.2.2.2.2.2.2.2.2.2.2.2.1 x5.2.2.2.2.2.2.2.2.2.2.2.2.2.1 x5.2.2.2.2.2.2.2.2.2.2.2.2.2.2) ((-1), [], 0, [], [], [], [], 0, 0, s.1, s.2.1, s.2.2.1, s.2.2.2.1, s.2.2.2.2.1, s.2.2.2.2.2)).bind fun s24 =>
 s24.elim (fun s25 =>
 bif decide (s25.1 < 0) then (
 some (([], ([], ([], ([], (0, 0))))), 0, 3))
 else (
 (qcc (s25.2.2.2.2.2.2.2.2.2.1, (s25.2.2.2.2.2.2.2.2.2.2.1, (s25.2.2.2.2.2.2.2.2.2.2.2.1, (s25.2.2.2.2.2.2.2.2.2.2.2.2, (s25.2.2.2.2.2.2.2.1, s25.2.2.2.2.2.2.2.2.1)))))).bind fun r7 =>
 bif !decide (r7 = 0) then (
 some (([], ([], ([], ([], (0, 0))))), 0, r7))
 else (
 some ((s25.2.2.2.2.2.2.2.2.2.1, (s25.2.2.2.2.2.2.2.2.2.2.1, (s25.2.2.2.2.2.2.2.2.2.2.2.1, (s25.2.2.2.2.2.2.2.2.2.2.2.2, (s25.2.2.2.2.2.2.2.1, s25.2.2.2.2.2.2.2.2.1))))), 0, 0))))
 (fun s26 =>
 some ((s26.2.2.1, (s26.2.2.2.1, (s26.2.2.2.2.1, (s26.2.2.2.2.2.1, (s26.2.2.2.2.2.2.1, s26.2.2.2.2.2.2.2))))), s26.1, s26.2.1)))
def qg0 : Fun :=
 ⟨16, 1, 3,
 ⟨[(0, ss)], [], []⟩,
 ⟨r34_, [], []⟩,
 fun x => qeJ x⟩
theorem qjW : FO qg0 := fi [6000230, 68687590904794726, 7000288] [qgY, qgZ, qei, qgm, qgn, qe6] 294 [] ((nn (nn (nn (mm (.mk [.join [⟨.n, ⟨[(2, pt 48 0), (5, kk), (7, pt 139 0)], v5_, a2_⟩⟩]] none .nil .nil) (nn (nn (mm (nn (mm (.mk [] (some (⟨[(2, pt 48 0), (7, pt 139 0), (8, kk), (9, kk), (10, ii), (11, ss), (37, kk), (38, kk), (39, ii)], v0_, a2_⟩, [⟨.x 0, ⟨[(2, pt 48 0), (7, pt 139 0), (10, ii)], v0_, a2_⟩⟩, ⟨.r, ⟨r32_, v4_, []⟩⟩])) (nn (nn (mm (.mk [.join [⟨.n, ⟨[(2, pt 48 0), (7, pt 139 0), (8, kk), (9, kk), (10, ii), (11, ss), (37, kk), (38, kk), (39, kk)], v0_, a2_⟩⟩, ⟨.r, ⟨r32_, v4_, []⟩⟩]] none (nn (nn (nn (mm (mm (.mk [.join [⟨.n, ⟨[(2, pt 48 0), (7, pt 139 0), (8, kk), (9, kk), (10, kk), (11, kk), (12, kk), (13, kk), (14, kk), (37, kk), (38, kk), (39, kk), (64, bb)], v5_, a2_⟩⟩]] none .nil .nil) .nil) (nn (mm (nn (mm (.mk [] (some (⟨[(2, pt 48 0), (7, pt 139 0), (8, kk), (9, kk), (10, kk), (11, kk), (12, kk), (13, kk), (14, kk), (15, ow 267), (16, ii), (37, kk), (38, kk), (39, kk)], v0_, a17_⟩, [⟨.x 2, ⟨[(2, pt 48 0), (7, pt 139 0), (8, kk), (9, kk), (10, kk), (11, kk), (12, kk), (13, kk), (14, kk), (15, ow 267), (37, kk), (38, kk), (39, kk)], v0_, a17_⟩⟩, ⟨.r, ⟨r32_, v4_, []⟩⟩])) (nn (mm (mm (nn (.mk [.join [⟨.n, ⟨[(2, pt 48 0), (7, pt 139 0), (8, kk), (9, kk), (10, kk), (11, kk), (12, kk), (13, kk), (14, kk), (15, ow 267), (16, kk), (37, kk), (38, kk), (39, kk)], v0_, a17_⟩⟩, ⟨.r, ⟨r32_, v4_, []⟩⟩]] none .nil .nil)) .nil) .nil)) .nil) .nil)) (nn (mm (mm (.mk [.join [⟨.n, ⟨[(2, pt 48 0), (7, pt 139 0), (8, kk), (9, kk), (12, kk), (13, kk), (14, kk), (15, ow 267), (19, kk), (37, kk), (38, kk), (39, kk), (126, bb)], v5_, a17_⟩⟩]] none .nil .nil) .nil) (nn (mm (nn (mm (.mk [] (some (⟨[(2, pt 48 0), (7, pt 139 0), (8, kk), (9, kk), (12, kk), (13, kk), (14, kk), (15, ow 267), (19, kk), (20, ow 347), (21, ii), (37, kk), (38, kk), (39, kk)], v0_, a19_⟩, [⟨.x 4, ⟨[(2, pt 48 0), (7, pt 139 0), (8, kk), (9, kk), (13, kk), (15, ow 267), (19, kk), (20, ow 347), (37, kk), (38, kk), (39, kk)], v0_, a19_⟩⟩, ⟨.r, ⟨r32_, v4_, []⟩⟩])) (nn (mm (mm (nn (.mk [.join [⟨.n, ⟨[(2, pt 48 0), (7, pt 139 0), (8, kk), (9, kk), (12, kk), (13, kk), (14, kk), (15, ow 267), (19, kk), (20, ow 347), (21, kk), (37, kk), (38, kk), (39, kk)], v0_, a19_⟩⟩, ⟨.r, ⟨r32_, v4_, []⟩⟩]] none .nil .nil)) .nil) .nil)) .nil) .nil)) (mm (nn (mm (nn (.mk [.join [⟨.n, ⟨r15_, v5_, a2_⟩⟩]] none .nil (nn (.mk [.join [⟨.n, ⟨r15_, v5_, a2_⟩⟩]] none .nil (nn (.mk [.join [⟨.n, ⟨r15_, v5_, a2_⟩⟩]] none .nil (nn (.mk [.join [⟨.n, ⟨r15_, v5_, a2_⟩⟩]] none .nil (nn (.mk [.join [⟨.n, ⟨r15_, v5_, a2_⟩⟩]] none .nil .nil)))))))))) .nil)) .nil))))))))))) .nil) .nil))) .nil) .nil)) .nil)))))))) func16 ⟨⟨qjU, qjV, qfE, qjA, qjB, qgV, trivial⟩, trivial⟩
def qbN (a : yB0) (b : yB0) (v : Int) : Option (Int ⊕ (Unit ⊕ Bool)) :=
 bif decide (v < (a.1.length : Int)) then (
 gd (inB v a.1.length) <|
 gd (inB v b.1.length) <|
 bif !decide (a.1.getD v.toNat [] = b.1.getD v.toNat []) then (
 some (.inr (.inr false)))
 else (
 some (.inl (wi64 (v + 1)))))
 else (
 some (.inr (.inl ())))
def qbO (a : yB0) (b : yB0) (v2 : Int) (v3 : Int) : Option (Int ⊕ (Unit ⊕ Bool)) :=
 bif decide (v3 < ((((((((a.2.1.getD v2.toNat ([], (0, (0, (0, (0, (0, []))))))).2).2).2).2).2).2).length : Int)) then (
 gd (inB v3 (((((((a.2.1.getD v2.toNat ([], (0, (0, (0, (0, (0, []))))))).2).2).2).2).2).2).length) <|
 gd (inB v3 (((((((b.2.1.getD v2.toNat ([], (0, (0, (0, (0, (0, []))))))).2).2).2).2).2).2).length) <|
 bif !(decide (((((((((a.2.1.getD v2.toNat ([], (0, (0, (0, (0, (0, []))))))).2).2).2).2).2).2).getD v3.toNat (0, (0, 0))).1 = ((((((((b.2.1.getD v2.toNat ([], (0, (0, (0, (0, (0, []))))))).2).2).2).2).2).2).getD v3.toNat (0, (0, 0))).1) && (decide ((((((((((a.2.1.getD v2.toNat ([], (0, (0, (0, (0, (0, []))))))).2).2).2).2).2).2).getD v3.toNat (0, (0, 0))).2).1 = (((((((((b.2.1.getD v2.toNat ([], (0, (0, (0, (0, (0, []))))))).2).2).2).2).2).2).getD v3.toNat (0, (0, 0))).2).1) && decide ((((((((((a.2.1.getD v2.toNat ([], (0, (0, (0, (0, (0, []))))))).2).2).2).2).2).2).getD v3.toNat (0, (0, 0))).2).2 = (((((((((b.2.1.getD v2.toNat ([], (0, (0, (0, (0, (0, []))))))).2).2).2).2).2).2).getD v3.toNat (0, (0, 0))).2).2))) then (
 some (.inr (.inr false)))
 else (
 some (.inl (wi64 (v3 + 1)))))
 else (
 some (.inr (.inl ())))
def qbP (a : yB0) (b : yB0) (v2 : Int) : Option (Int ⊕ (Unit ⊕ Bool)) :=
 bif decide (v2 < (a.2.1.length : Int)) then (
 gd (inB v2 a.2.1.length) <|
 gd (inB v2 b.2.1.length) <|
 Option.bind (α := Bool) (
 bif !decide ((a.2.1.getD v2.toNat ([], (0, (0, (0, (0, (0, []))))))).1 = (b.2.1.getD v2.toNat ([], (0, (0, (0, (0, (0, []))))))).1) then (
 some true)
 else (
 bif !decide (((a.2.1.getD v2.toNat ([], (0, (0, (0, (0, (0, []))))))).2).1 = ((b.2.1.getD v2.toNat ([], (0, (0, (0, (0, (0, []))))))).2).1) then (
 some true)
 else (
 bif !decide ((((a.2.1.getD v2.toNat ([], (0, (0, (0, (0, (0, []))))))).2).2).1 = (((b.2.1.getD v2.toNat ([], (0, (0, (0, (0, (0, []))))))).2).2).1) then (
 some true)
 else (
 bif !decide (((((a.2.1.getD v2.toNat ([], (0, (0, (0, (0, (0, []))))))).2).2).2).1 = ((((b.2.1.getD v2.toNat ([], (0, (0, (0, (0, (0, []))))))).2).2).2).1) then (
 some true)
 else (
 bif !decide ((((((a.2.1.getD v2.toNat ([], (0, (0, (0, (0, (0, []))))))).2).2).2).2).1 = (((((b.2.1.getD v2.toNat ([], (0, (0, (0, (0, (0, []))))))).2).2).2).2).1) then (
 some true)
 else (
 bif !decide (((((((a.2.1.getD v2.toNat ([], (0, (0, (0, (0, (0, []))))))).2).2).2).2).2).1 = ((((((b.2.1.getD v2.toNat ([], (0, (0, (0, (0, (0, []))))))).2).2).2).2).2).1) then (
 some true)
 else (
 some (!decide (((((((((a.2.1.getD v2.toNat ([], (0, (0, (0, (0, (0, []))))))).2).2).2).2).2).2).length : Int) = ((((((((b.2.1.getD v2.toNat ([], (0, (0, (0, (0, (0, []))))))).2).2).2).2).2).2).length : Int)))))))))) fun s5 =>
 bif s5 then (
 some (.inr (.inr false)))
 else (
 (iter (fun x2 => qbO a b v2 x2) 0).bind fun s6 =>
 s6.elim (fun s7 =>
 some (.inl (wi64 (v2 + 1))))
 (fun s8 =>
 some (.inr (.inr s8)))))
 else (
 some (.inr (.inl ())))
def qbQ (a : yB0) (b : yB0) (v4 : Int) : Option (Int ⊕ (Unit ⊕ Bool)) :=
 bif decide (v4 < (a.2.2.1.length : Int)) then (
 gd (inB v4 a.2.2.1.length) <|
 gd (inB v4 b.2.2.1.length) <|
 bif !(decide ((a.2.2.1.getD v4.toNat ([], (0, 0))).1 = (b.2.2.1.getD v4.toNat ([], (0, 0))).1) && (decide (((a.2.2.1.getD v4.toNat ([], (0, 0))).2).1 = ((b.2.2.1.getD v4.toNat ([], (0, 0))).2).1) && decide (((a.2.2.1.getD v4.toNat ([], (0, 0))).2).2 = ((b.2.2.1.getD v4.toNat ([], (0, 0))).2).2))) then (
 some (.inr (.inr false)))
 else (
 some (.inl (wi64 (v4 + 1)))))
 else (
 some (.inr (.inl ())))
def qbR (a : yB0) (b : yB0) (v5 : Int) : Option (Int ⊕ (Unit ⊕ Bool)) :=
 bif decide (v5 < (a.2.2.2.1.length : Int)) then (
 gd (inB v5 a.2.2.2.1.length) <|
 gd (inB v5 b.2.2.2.1.length) <|
 bif !(decide ((a.2.2.2.1.getD v5.toNat ([], (0, (0, (0, 0))))).1 = (b.2.2.2.1.getD v5.toNat ([], (0, (0, (0, 0))))).1) && (decide (((a.2.2.2.1.getD v5.toNat ([], (0, (0, (0, 0))))).2).1 = ((b.2.2.2.1.getD v5.toNat ([], (0, (0, (0, 0))))).2).1) && (decide ((((a.2.2.2.1.getD v5.toNat ([], (0, (0, (0, 0))))).2).2).1 = (((b.2.2.2.1.getD v5.toNat ([], (0, (0, (0, 0))))).2).2).1) && (decide (((((a.2.2.2.1.getD v5.toNat ([], (0, (0, (0, 0))))).2).2).2).1 = ((((b.2.2.2.1.getD v5.toNat ([], (0, (0, (0, 0))))).2).2).2).1) && decide (((((a.2.2.2.1.getD v5.toNat ([], (0, (0, (0, 0))))).2).2).2).2 = ((((b.2.2.2.1.getD v5.toNat ([], (0, (0, (0, 0))))).2).2).2).2))))) then (
 some (.inr (.inr false)))
 else (
 some (.inl (wi64 (v5 + 1)))))
 else (
 some (.inr (.inl ())))
def qel (a : yB0) (b : yB0) : Option (Bool) :=
 Option.bind (α := Bool) (
 bif !decide ((a.1.length : Int) = (b.1.length : Int)) then (
 some true)
 else (
 bif !decide ((a.2.1.length : Int) = (b.2.1.length : Int)) then (
 some true)
 else (
 bif !decide ((a.2.2.1.length : Int) = (b.2.2.1.length : Int)) then (
 some true)
 else (
 bif !decide ((a.2.2.2.1.length : Int) = (b.2.2.2.1.length : Int)) then (
 some true)
 else (
 bif !decide (a.2.2.2.2.1 = b.2.2.2.2.1) then (
 some true)
 else (
 some (!decide (a.2.2.2.2.2 = b.2.2.2.2.2)))))))) fun s =>
 bif s then (
 some false)
 else (
 (iter (fun x => qbN a b x) 0).bind fun s2 =>
 s2.elim (fun s3 =>
 (iter (fun x3 => qbP a b x3) 0).bind fun s9 =>
 s9.elim (fun s10 =>
 (iter (fun x4 => qbQ a b x4) 0).bind fun s12 =>
 s12.elim (fun s13 =>
 (iter (fun x5 => qbR a b x5) 0).bind fun s15 =>
 s15.elim (fun s16 =>
 some true)
 (fun s17 =>
 some s17))
 (fun s14 =>
 some s14))
 (fun s11 =>
 some s11))
 (fun s4 =>
 some s4))
def qhS : Fun :=
 ⟨17, 2, 1,
 ⟨[(0, dd (.pair (.sl (.str)) (.pair (.sl tT0) (.pair (.sl tT2) (.pair (.sl tT1) (.pair I6 I6)))))), (1, dd (.pair (.sl (.str)) (.pair (.sl tT0) (.pair (.sl tT2) (.pair (.sl tT1) (.pair I6 I6))))))], [], []⟩,
 ⟨[(0, bb)], [], []⟩,
 fun x => qel x.1 x.2⟩
theorem qk0 : FO qhS := fi [] [] 198 [] ((nn (mm (mm (.mk [.join [⟨.n, ⟨[(2, pt 48 0), (3, pt 64 0), (59, bb)], v22_, []⟩⟩]] none .nil .nil) .nil) (mm (nn (mm (.mk [] (some (⟨[(2, pt 48 0), (3, pt 64 0), (62, kk), (63, ii)], v22_, []⟩, [⟨.x 0, ⟨r43_, v22_, []⟩⟩, ⟨.r, ⟨[(4, bb)], [], []⟩⟩])) .nil .nil) .nil)) (mm (nn (mm (.mk [] (some (⟨[(2, pt 48 0), (3, pt 64 0), (80, kk), (81, ii)], v22_, []⟩, [⟨.x 2, ⟨r43_, v22_, []⟩⟩, ⟨.r, ⟨[(4, bb)], [], []⟩⟩])) (nn (nn (mm (mm (nn (nn (mm (mm (.mk [.join [⟨.n, ⟨[(2, pt 48 0), (3, pt 64 0), (7, pt 128 0), (8, pt 144 0), (80, kk), (81, kk), (142, bb)], v46_, []⟩⟩]] none .nil .nil) .nil) (nn (mm (.mk [] (some (⟨[(2, pt 48 0), (3, pt 64 0), (7, pt 128 0), (8, pt 144 0), (80, kk), (81, kk), (145, kk), (146, ii)], v46_, []⟩, [⟨.x 4, ⟨[(2, pt 48 0), (3, pt 64 0), (80, kk), (81, kk)], v22_, []⟩⟩, ⟨.r, ⟨[(4, bb)], [], []⟩⟩])) .nil .nil) .nil))))) .nil) .nil))) .nil) .nil)) (mm (nn (mm (.mk [] (some (⟨[(2, pt 48 0), (3, pt 64 0), (164, kk), (165, ii)], v22_, []⟩, [⟨.x 6, ⟨r43_, v22_, []⟩⟩, ⟨.r, ⟨[(4, bb)], [], []⟩⟩])) .nil .nil) .nil)) (mm (nn (mm (.mk [] (some (⟨[(2, pt 48 0), (3, pt 64 0), (182, kk), (183, ii)], v22_, []⟩, [⟨.x 8, ⟨[], [], []⟩⟩, ⟨.r, ⟨[(4, bb)], [], []⟩⟩])) .nil .nil) .nil)) .nil))))))) func17 ⟨trivial, trivial⟩
def qa6 (i : Int) (k : Int) (r8 : List (List UInt8)) (swapped : List UInt8) (less : List UInt8) (more : List UInt8) (v : Int) (d : List Int) (d2 : Int) (lines : List (List UInt8)) : Option ((List UInt8 × List UInt8 × List UInt8 × Int × List Int × Int × List (List UInt8)) ⊕ (List UInt8 × List UInt8 × List UInt8)) :=
 bif decide (v < (r8.length : Int)) then (
 Option.bind (α := Int × List (List UInt8)) (
 bif decide (v = Int.tmod (wi64 i) (r8.length : Int)) then (
 some (Int.tmod (wi64 k) (r8.length : Int), lines))
 else (
 Option.bind (α := Int × List (List UInt8)) (
 bif decide (v = Int.tmod (wi64 k) (r8.length : Int)) then (
 some (Int.tmod (wi64 i) (r8.length : Int), lines))
 else (
 some (v, lines))) fun s2 =>
 some (s2.1, s2.2))) fun s3 =>
 gd (inB s3.1 s3.2.length) <|
 gd (Nat.ble ((s3.2.getD s3.1.toNat []).length + [10].length) 9223372036854775807) <|
 gd (Nat.ble (swapped.length + ((s3.2.getD s3.1.toNat []) ++ [10]).length) 9223372036854775807) <|
 Option.bind (α := List UInt8 × List (List UInt8)) (
 bif !decide (v = Int.tmod (wi64 i) (r8.length : Int)) then (
 gd (inB v s3.2.length) <|
 gd (Nat.ble ((s3.2.getD v.toNat []).length + [10].length) 9223372036854775807) <|
 gd (Nat.ble (less.length + ((s3.2.getD v.toNat []) ++ [10]).length) 9223372036854775807) <|
 some (less ++ ((s3.2.getD v.toNat []) ++ [10]), s3.2))
 else (
 some (less, s3.2))) fun s4 =>
 gd (inB v s4.2.length) <|
 gd (Nat.ble ((s4.2.getD v.toNat []).length + [10].length) 9223372036854775807) <|
 gd (Nat.ble (more.length + ((s4.2.getD v.toNat []) ++ [10]).length) 9223372036854775807) <|
 Option.bind (α := List UInt8 × List Int × Int × List (List UInt8)) (
 bif decide (v = Int.tmod (wi64 i) (r8.length : Int)) then (
 (qbM ([[110, 111, 100, 101, 32, 120], [112, 111, 105, 110, 116, 32, 53, 32, 48, 32, 48], [112, 111, 114, 116, 32, 122, 32, 110, 97, 32, 53], [110, 101, 116, 119, 111, 114, 107, 32, 48, 32, 48], [115, 116, 97, 116, 105, 111, 110, 32, 119, 32, 110, 98, 32, 49, 32, 49, 32, 49], [115, 101, 103, 109, 101, 110, 116, 32, 121, 32, 110, 97, 32, 110, 98, 32, 53, 32, 49, 32, 49], [112, 105, 112, 101], [110, 111, 100, 101], [112, 111, 114, 116, 32, 122, 32, 110, 122, 32, 53], [112, 111, 105, 110, 116, 32, 120, 32, 48, 32, 48], [35, 32, 112, 111, 105, 110, 116], []] : List (List UInt8)) d d2).bind fun r9 =>
 gd (Nat.ble (r9.1.length + [10].length) 9223372036854775807) <|
 gd (Nat.ble ((more ++ ((s4.2.getD v.toNat []) ++ [10])).length + (r9.1 ++ [10]).length) 9223372036854775807) <|
 some ((more ++ ((s4.2.getD v.toNat []) ++ [10])) ++ (r9.1 ++ [10]), r9.2.1, r9.2.2, s4.2))
 else (
 some (more ++ ((s4.2.getD v.toNat []) ++ [10]), d, d2, s4.2))) fun s5 =>
 some (.inl (swapped ++ ((s3.2.getD s3.1.toNat []) ++ [10]), s4.1, s5.1, wi64 (v + 1), s5.2.1, s5.2.2.1, s5.2.2.2)))
 else (
 some (.inr (swapped, less, more)))
def qaA (s : List UInt8) (r4 : List UInt8 × Int) (r7 : List UInt8 × Int) (s6 : List UInt8 × List UInt8 × List UInt8) (r10 : List UInt8) (v2 : Int) : Option (Int ⊕ (Unit ⊕ Bool)) :=
 bif decide (v2 < ([s, r4.1, r7.1, r4.1 ++ s, s6.1, s6.2.1, s6.2.2, r10].length : Int)) then (
 gd (inB v2 [s, r4.1, r7.1, r4.1 ++ s, s6.1, s6.2.1, s6.2.2, r10].length) <|
 (qbK ([s, r4.1, r7.1, r4.1 ++ s, s6.1, s6.2.1, s6.2.2, r10].getD v2.toNat [])).bind fun r11 =>
 (qeJ ([s, r4.1, r7.1, r4.1 ++ s, s6.1, s6.2.1, s6.2.2, r10].getD v2.toNat [])).bind fun r12 =>
 Option.bind (α := Bool) (
 (qel (r11.1.1, (r11.1.2.1, (r11.1.2.2.1, (r11.1.2.2.2.1, (r11.1.2.2.2.2.1, r11.1.2.2.2.2.2))))) (r12.1.1, (r12.1.2.1, (r12.1.2.2.1, (r12.1.2.2.2.1, (r12.1.2.2.2.2.1, r12.1.2.2.2.2.2)))))).bind fun r13 =>
 bif !r13 then (
 some true)
 else (
 bif !decide (r11.2.1 = r12.2.1) then (
 some true)
 else (
 some (!decide (r11.2.2 = r12.2.2))))) fun s7 =>
 bif s7 then (
 some (.inr (.inr false)))
 else (
 some (.inl (wi64 (v2 + 1)))))
 else (
 some (.inr (.inl ())))
def qdo (s : List UInt8) (l : List Int) (i : Int) (k : Int) : Option (Bool) :=
 bif decide (1000 < (s.length : Int)) then (
 (qfy).bind fun r =>
 some r)
 else (
 (qiA l).bind fun r2 =>
 (qbX r2.1 r2.2).bind fun r3 =>
 (qbs r3.1).bind fun r4 =>
 (qbX r3.2.1 r3.2.2).bind fun r5 =>
 (qdJ r5.1 r5.2.1 r5.2.2).bind fun r6 =>
 (qbs r6.1).bind fun r7 =>
 (qfC r4.1).bind fun r8 =>
 gd (!decide ((r8.length : Int) = 0)) <|
 gd (!decide ((r8.length : Int) = 0)) <|
 (iter (fun x => qa6 i k r8 x.1 x.2.1 x.2.2.1 x.2.2.2.1 x.2.2.2.2.1 x.2.2.2.2.2.1 x.2.2.2.2.2.2) ([], [], [], 0, r6.2.1, r6.2.2, r8)).bind fun s6 =>
 gd (Nat.ble (r4.1.length + s.length) 9223372036854775807) <|
 (qgB).bind fun r10 =>
 (iter (fun x2 => qaA s r4 r7 s6 r10 x2) 0).bind fun s8 =>
 s8.elim (fun s9 =>
 (qfy).bind fun r14 =>
 some r14)
 (fun s10 =>
 some s10))
def qdT : Fun :=
 ⟨3, 4, 1,
 ⟨[(0, ss), (1, dd (.sl I6)), (2, dd (.int .u8)), (3, dd (.int .u8))], [], []⟩,
 ⟨[(0, bb)], [], []⟩,
 fun x => qdo x.1 x.2.1 x.2.2.1 x.2.2.2⟩
theorem qgo : FO qdT := fi [] [qgS, qju, qeF, qgk, qfk, qgX, qd7, qfs, qd5, qg0, qhS] 154 [] ((nn (nn (nn (nn (nn (nn (nn (nn (mm (nn (mm (.mk [] (some (⟨[(0, kk), (9, pt 576 0), (10, kk), (12, kk), (14, ow 832), (15, kk), (16, kk), (17, ss), (18, ss), (19, ss), (63, kk), (64, ii)], [(576, 57, [.data (.sl I6), .data I6])], a59_⟩, [⟨.x 0, ⟨[(0, kk), (10, kk), (12, kk), (17, ss), (18, ss), (19, ss)], [], []⟩⟩])) (nn (nn (mm (mm (nn (nn (mm (nn (.mk [.join [⟨.n, ⟨r25_, [(576, 57, [.keep, .keep])], a59_⟩⟩]] none .nil (nn (.mk [.join [⟨.n, ⟨r25_, [(576, 57, [.keep, .keep])], a59_⟩⟩]] none .nil .nil)))) (nn (mm (nn (.mk [.join [⟨.n, ⟨[(0, kk), (9, pt 576 0), (10, kk), (12, kk), (14, ow 832), (15, kk), (16, kk), (17, kk), (18, ss), (19, kk), (20, kk), (63, kk), (64, kk)], [(576, 57, [.keep, .keep])], a59_⟩⟩]] none .nil .nil)) (nn (nn (.mk [.join [⟨.n, ⟨[(0, kk), (9, pt 576 0), (10, kk), (12, kk), (14, ow 832), (15, kk), (16, kk), (17, kk), (18, kk), (19, ss), (63, kk), (64, kk)], [(576, 57, [.data (.sl I6), .data I6])], a59_⟩⟩]] none .nil .nil)))))))) .nil) .nil))) .nil) .nil)) (mm (nn (mm (.mk [] (some (⟨[(120, kk), (121, kk), (122, ii)], [], []⟩, [⟨.x 2, ⟨[], [], []⟩⟩, ⟨.r, ⟨[(8, bb)], [], []⟩⟩])) (nn (nn (mm (mm (nn (nn (nn (mm (.mk [.join [⟨.n, ⟨[(120, kk), (121, kk), (122, kk), (151, bb)], [], []⟩⟩]] none .nil .nil) .nil)))) .nil) .nil))) .nil) .nil)) .nil))))))))))) func3 ⟨⟨qjN, qm6, qhf, qjz, qib, qjT, qfT, qhG, qfS, qjW, qk0, trivial⟩, trivial⟩
end
end Go.Proofs.YtpgigbdefbeagaaGreatDoor
