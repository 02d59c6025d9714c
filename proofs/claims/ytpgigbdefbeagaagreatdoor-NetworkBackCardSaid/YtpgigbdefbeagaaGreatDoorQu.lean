/- Functions, evaluated. No condition. -/
import Derived.Test.YtpgigbdefbeagaaGreatDoorProg
import Derived.Test.YtpgigbdefbeagaaGreatDoorSqDI
import Derived.Test.YtpgigbdefbeagaaGreatDoorLx
import Derived.Test.YtpgigbdefbeagaaGreatDoorLc
namespace Go.Proofs.YtpgigbdefbeagaaGreatDoor
open Go Go.Sq
open Go.Proofs.Tryz
noncomputable section
abbrev I6 : Ty := .int .i64
abbrev dd (τ : Ty) : Sh := .one (.data τ)
abbrev pt (b o : Nat) : Sh := .one (.ptr b o)
abbrev ow (b : Nat) : Sh := .one (.own b)
abbrev FO (e : Fun) : Prop := FunOk Tryz.prog e
abbrev yT0 : Type := List UInt8 × Int × Int × Int × Int × Int × List (Int × Int × Int)
abbrev tT0 : Ty := .pair (.str) (.pair I6 (.pair I6 (.pair I6 (.pair I6 (.pair I6 (.sl (.pair I6 (.pair I6 I6))))))))
abbrev tT1 : Ty := .pair (.str) (.pair I6 (.pair I6 (.pair I6 I6)))
abbrev tT2 : Ty := .pair I6 I6
abbrev yB0 : Type := List (List UInt8) × List yT0 × List (List UInt8 × Int × Int) × List (List UInt8 × Int × Int × Int × Int) × Int × Int
abbrev yB1 : Type := List UInt8 × Int × Int × Int × Int
abbrev yB2 : Type := List (List UInt8 × Int × Int)
abbrev yB3 : Type := Int × Int × Int × Int × List UInt8 × List (List UInt8) × (List yT0) × yB2 × List yB1
abbrev yB4 : Type := List UInt8 × Int × Int × Int × Int × Int × List (Int × Int × Int)
abbrev fd (n : String) (t o : Nat) (p : String) (b : Nat) : Field := { name := n, type := t, offset := o, embedded := false, tag := "", pkgPath := p, byteOffset := b }
def ti3 : TI := ⟨3, .int .i64, 1, 8, .int .i64 0, .int .i64, false⟩
theorem tk3 : ti3.ok prog := ⟨underlying3, by kernel_rfl, fun h => by cases h⟩
def ti4 : TI := ⟨4, .bool, 1, 1, .bool false, .bool, false⟩
theorem tk4 : ti4.ok prog := ⟨underlying4, by kernel_rfl, fun h => by cases h⟩
def ti5 : TI := ⟨5, .int .u8, 1, 1, .int .u8 0, .int .u8, false⟩
theorem tk5 : ti5.ok prog := ⟨underlying5, by kernel_rfl, fun h => by cases h⟩
def ti9 : TI := ⟨9, .string, 1, 16, .string ⟨#[]⟩, .str, false⟩
theorem tk9 : ti9.ok prog := ⟨underlying9, by kernel_rfl, fun h => by cases h⟩
def ti22 : TI := ⟨22, .slice 3, 1, 24, .slice none 0 0, .sl I6, false⟩
theorem tk22 : ti22.ok prog := ⟨underlying22, by kernel_rfl, fun h => by cases h⟩
def ti29 : TI := ⟨29, .slice 9, 1, 24, .slice none 0 0, .sl (.str), false⟩
theorem tk29 : ti29.ok prog := ⟨underlying29, by kernel_rfl, fun h => by cases h⟩
def ti30 : TI := ⟨30, .slice 52, 1, 24, .slice none 0 0, .sl tT0, false⟩
theorem tk30 : ti30.ok prog := ⟨underlying30, by kernel_rfl, fun h => by cases h⟩
def ti31 : TI := ⟨31, .slice 47, 1, 24, .slice none 0 0, .sl (.pair (.str) tT2), false⟩
theorem tk31 : ti31.ok prog := ⟨underlying31, by kernel_rfl, fun h => by cases h⟩
def ti32 : TI := ⟨32, .slice 55, 1, 24, .slice none 0 0, .sl tT1, false⟩
theorem tk32 : ti32.ok prog := ⟨underlying32, by kernel_rfl, fun h => by cases h⟩
def ti34 : TI := ⟨34, .struct #[fd "Nodes" 29 0 "" 0, fd "Segments" 30 1 "" 24, fd "Ports" 31 2 "" 48, fd "Stations" 32 3 "" 72, fd "Vapour" 3 4 "" 96, fd "Settle" 3 5 "" 104], 6, 112, .agg #[.slice none 0 0, .slice none 0 0, .slice none 0 0, .slice none 0 0, .int .i64 0, .int .i64 0], .pair (.sl (.str)) (.pair (.sl tT0) (.pair (.sl (.pair (.str) tT2)) (.pair (.sl tT1) tT2))), true⟩
theorem tk34 : ti34.ok prog := ⟨underlying34, by kernel_rfl, fun _ => ⟨eqGuardType34, stoodInHeld34⟩⟩
def ti47 : TI := ⟨47, .struct #[fd "Name" 9 0 "" 0, fd "Node" 3 1 "" 16, fd "Pressure" 3 2 "" 24], 3, 32, .agg #[.string ⟨#[]⟩, .int .i64 0, .int .i64 0], .pair (.str) tT2, true⟩
theorem tk47 : ti47.ok prog := ⟨underlying47, by kernel_rfl, fun _ => ⟨eqGuardType47, stoodInHeld47⟩⟩
def ti50 : TI := ⟨50, .slice 61, 1, 24, .slice none 0 0, .sl (.pair I6 tT2), false⟩
theorem tk50 : ti50.ok prog := ⟨underlying50, by kernel_rfl, fun h => by cases h⟩
def ti52 : TI := ⟨52, .struct #[fd "Name" 9 0 "" 0, fd "From" 3 1 "" 16, fd "To" 3 2 "" 24, fd "Capacity" 3 3 "" 32, fd "Resist" 3 4 "" 40, fd "Wave" 3 5 "" 48, fd "Points" 50 6 "" 56], 7, 80, .agg #[.string ⟨#[]⟩, .int .i64 0, .int .i64 0, .int .i64 0, .int .i64 0, .int .i64 0, .slice none 0 0], .pair (.str) (.pair I6 (.pair I6 (.pair I6 (.pair I6 (.pair I6 (.sl (.pair I6 tT2))))))), true⟩
theorem tk52 : ti52.ok prog := ⟨underlying52, by kernel_rfl, fun _ => ⟨eqGuardType52, stoodInHeld52⟩⟩
def ti55 : TI := ⟨55, .struct #[fd "Name" 9 0 "" 0, fd "Node" 3 1 "" 16, fd "Head" 3 2 "" 24, fd "Fall" 3 3 "" 32, fd "Suction" 3 4 "" 40], 5, 48, .agg #[.string ⟨#[]⟩, .int .i64 0, .int .i64 0, .int .i64 0, .int .i64 0], .pair (.str) (.pair I6 (.pair I6 tT2)), true⟩
theorem tk55 : ti55.ok prog := ⟨underlying55, by kernel_rfl, fun _ => ⟨eqGuardType55, stoodInHeld55⟩⟩
def ti57 : TI := ⟨57, .struct #[fd "L" 22 0 "" 0, fd "At" 3 1 "" 24], 2, 32, .agg #[.slice none 0 0, .int .i64 0], .pair (.sl I6) I6, true⟩
theorem tk57 : ti57.ok prog := ⟨underlying57, by kernel_rfl, fun _ => ⟨eqGuardType57, stoodInHeld57⟩⟩
def ti59 : TI := ⟨59, .slice 29, 1, 24, .slice none 0 0, .sl (.sl (.str)), false⟩
theorem tk59 : ti59.ok prog := ⟨underlying59, by kernel_rfl, fun h => by cases h⟩
def ti61 : TI := ⟨61, .struct #[fd "At" 3 0 "" 0, fd "Height" 3 1 "" 8, fd "Limit" 3 2 "" 16], 3, 24, .agg #[.int .i64 0, .int .i64 0, .int .i64 0], .pair I6 tT2, true⟩
theorem tk61 : ti61.ok prog := ⟨underlying61, by kernel_rfl, fun _ => ⟨eqGuardType61, stoodInHeld61⟩⟩
def ti72 : TI := ⟨72, .struct #[fd "n" 34 0 "batchline/network" 0, fd "rank" 3 6 "batchline/network" 112, fd "last" 9 7 "batchline/network" 120], 8, 136, .agg #[.slice none 0 0, .slice none 0 0, .slice none 0 0, .slice none 0 0, .int .i64 0, .int .i64 0, .int .i64 0, .string ⟨#[]⟩], .pair (.pair (.sl (.str)) (.pair (.sl tT0) (.pair (.sl (.pair (.str) tT2)) (.pair (.sl tT1) tT2)))) (.pair I6 (.str)), true⟩
theorem tk72 : ti72.ok prog := ⟨underlying72, by kernel_rfl, fun _ => ⟨eqGuardType72, stoodInHeld72⟩⟩
def ti80 : TI := ⟨80, .array 4 29, 4, 96, .agg #[.slice none 0 0, .slice none 0 0, .slice none 0 0, .slice none 0 0], .pair (.sl (.str)) (.pair (.sl (.str)) (.pair (.sl (.str)) (.sl (.str)))), false⟩
theorem tk80 : ti80.ok prog := ⟨underlying80, by kernel_rfl, fun h => by cases h⟩
def ti92 : TI := ⟨92, .slice 5, 1, 24, .slice none 0 0, .sl (.int .u8), false⟩
theorem tk92 : ti92.ok prog := ⟨underlying92, by kernel_rfl, fun h => by cases h⟩
def ti99 : TI := ⟨99, .func #[29, 22] #[26] false, 1, 8, .nilFunc, .unit, false⟩
theorem tk99 : ti99.ok prog := ⟨underlying99, by kernel_rfl, fun h => by cases h⟩
def ti101 : TI := ⟨101, .struct #[fd "rank" 3 0 "batchline/network" 0, fd "words" 3 1 "batchline/network" 8, fd "names" 3 2 "batchline/network" 16, fd "take" 99 3 "batchline/network" 24], 4, 32, .agg #[.int .i64 0, .int .i64 0, .int .i64 0, .nilFunc], .unit, true⟩
theorem tk101 : ti101.ok prog := ⟨underlying101, by kernel_rfl, fun _ => ⟨eqGuardType101, stoodInHeld101⟩⟩
def ti103 : TI := ⟨103, .map 9 101, 1, 8, .map none, .unit, false⟩
theorem tk103 : ti103.ok prog := ⟨underlying103, by kernel_rfl, fun h => by cases h⟩
def ti115 : TI := ⟨115, .pointer 117, 1, 8, .pointer none, .unit, false⟩
theorem tk115 : ti115.ok prog := ⟨underlying115, by kernel_rfl, fun h => by cases h⟩
def ti117 : TI := ⟨117, .struct #[fd "addr" 115 0 "strings" 0, fd "buf" 92 1 "strings" 8], 2, 32, .agg #[.pointer none, .slice none 0 0], .unit, true⟩
theorem tk117 : ti117.ok prog := ⟨underlying117, by kernel_rfl, fun _ => ⟨eqGuardType117, stoodInHeld117⟩⟩
def ti119 : TI := ⟨119, .interface #[("Error", 39)], 1, 16, .nilIface, .err, false⟩
theorem tk119 : ti119.ok prog := ⟨underlying119, by kernel_rfl, fun h => by cases h⟩
def ti129 : TI := ⟨129, .pointer 5, 1, 8, .pointer none, .unit, false⟩
theorem tk129 : ti129.ok prog := ⟨underlying129, by kernel_rfl, fun h => by cases h⟩
def types : List TI := [ti3, ti4, ti5, ti9, ti22, ti29, ti30, ti31, ti32, ti34, ti47, ti50, ti52, ti55, ti57, ti59, ti61, ti72, ti80, ti92, ti99, ti101, ti103, ti115, ti117, ti119, ti129]
theorem qd6 : Tys prog types := ⟨tk3, tk4, tk5, tk9, tk22, tk29, tk30, tk31, tk32, tk34, tk47, tk50, tk52, tk55, tk57, tk59, tk61, tk72, tk80, tk92, tk99, tk101, tk103, tk115, tk117, tk119, tk129, trivial⟩
def xt94 : Ext := qqZ 94
theorem xk94 : ExtOk prog xt94 := qpg func94 (by kernel_rfl) (by kernel_rfl) (by kernel_rfl) (by kernel_rfl)
def xt138 : Ext := qqY 138
theorem xk138 : ExtOk prog xt138 := qpf func138 (by kernel_rfl) (by kernel_rfl) (by kernel_rfl) (by kernel_rfl)
abbrev str_0 : List UInt8 := [110, 101, 116, 119, 111, 114, 107, 32, 53, 48, 48, 48, 48, 32, 49, 48, 10, 110, 111, 100, 101, 32, 97, 10, 110, 111, 100, 101, 32, 98, 10, 115, 101, 103, 109, 101, 110, 116, 32, 115, 32, 97, 32, 98, 32, 49, 48, 48, 32, 49, 32, 53, 48, 10, 112, 111, 105, 110, 116, 32, 48, 32, 48, 32, 57, 48, 48, 48, 48, 48, 10, 112, 111, 105, 110, 116, 32, 49, 48, 48, 32, 50, 48, 32, 57, 48, 48, 48, 48, 48, 10, 112, 111, 114, 116, 32, 105, 110, 32, 97, 32, 51, 48, 48, 48, 48, 48, 10, 112, 111, 114, 116, 32, 111, 117, 116, 32, 98, 32, 48, 10, 115, 116, 97, 116, 105, 111, 110, 32, 112, 32, 97, 32, 53, 48, 48, 48, 48, 48, 32, 50, 48, 48, 32, 49, 48, 48, 48, 48, 48]
theorem mx : prog.follows .mixedOrders = true := by kernel_rfl
abbrev kk : Sh := .one .keep
abbrev ii : Sh := .one (.data (.int .i64))
abbrev bb : Sh := .one (.data .bool)
abbrev ss : Sh := .one (.data .str)
abbrev nn (r : Plan) : Plan := .mk [] none .nil r
abbrev mm (l r : Plan) : Plan := .mk [] none l r
abbrev kp (n : Nat) : List Sh1 := List.replicate n .keep
theorem fi {e : Fun} {fn : Func} {c : Code} (ow : List Nat) (fs : List Fun) (N : Nat) (xs : List Ext) (p : Plan) (hf : Tryz.prog.funcs[e.f]? = some fn) (hfs : CxOk Tryz.prog ⟨types, ow, fs, N, xs⟩) (hb : fn.body = some c := by exact rfl) (hname : (fn.name == "runtime.NumGoroutine") = false := by kernel_rfl) (hN : fn.ntmps = N := by exact rfl) (hnp : Nat.ble e.np N = true := by exact rfl) (hnr : fn.results.toList.length = e.nr := by exact rfl) (hregs : e.ji.regs.all (fun q => Nat.blt q.1 e.np) = true := by exact rfl) (h : ∀ x, e.tw x = evFun ⟨types, ow, fs, N, xs⟩ e.ji e.jo fn.results.toList c p x := by intro x; kernel_rfl) : FunOk Tryz.prog e :=
 FunOk.intro (C := ⟨types, ow, fs, N, xs⟩) hf hb hname hN hnp hnr hregs qd6 hfs mx h
abbrev a0_ : List (Nat × ObSh) := [(1, .arr 9 (.str)), (2, .nest 52 tT0 6 61), (3, .arr 47 (.pair (.str) tT2)), (4, .arr 55 tT1)]
abbrev r1_ : List (Nat × Sh) := [(0, dd (.pair (.sl (.str)) (.pair (.sl tT0) (.pair (.sl (.pair (.str) tT2)) (.pair (.sl tT1) tT2)))))]
abbrev a2_ : List (Nat × ObSh) := [(5, .arr 9 (.str)), (6, .nest 52 tT0 6 61), (7, .arr 47 (.pair (.str) tT2)), (8, .arr 55 tT1)]
abbrev v3_ : List (Nat × TypeId × List Sh1) := [(48, 34, [.data (.sl (.str)), .data (.sl tT0), .data (.sl (.pair (.str) tT2)), .data (.sl tT1), .data I6, .data I6]), (368, 72, [.own 5913, .own 5929, .own 5945, .own 5961, .data I6, .data I6, .data I6, .data (.str)])]
abbrev v4_ : List (Nat × TypeId × List Sh1) := [(0, 57, [.data (.sl I6), .data I6]), (48, 34, (kp 6)), (64, 34, [.own 1049, .own 1065, .own 1081, .own 1097, .keep, .keep])]
abbrev v5_ : List (Nat × TypeId × List Sh1) := [(0, 72, [.own 1, .own 2, .own 3, .own 4, .data I6, .data I6, .data I6, .data (.str)])]
abbrev v6_ : List (Nat × TypeId × List Sh1) := [(0, 72, [.own 5, .own 6, .own 7, .own 8, .data I6, .data I6, .data I6, .data (.str)])]
abbrev a7_ : List (Nat × ObSh) := [(1049, .arr 9 (.str)), (1065, .arr 52 tT0), (1081, .arr 47 (.pair (.str) tT2)), (1097, .arr 55 tT1)]
abbrev v8_ : List (Nat × TypeId × List Sh1) := [(0, 72, [.own 1, .own 2, .own 3, .own 4, .keep, .keep, .keep, .keep]), (96, 101, [.keep, .keep, .keep, .bfl [100, 101, 102, 103, 104, 105] 0])]
abbrev v9_ : List (Nat × TypeId × List Sh1) := [(0, 57, [.data (.sl I6), .data I6])]
abbrev v10_ : List (Nat × TypeId × List Sh1) := [(0, 57, [.data (.sl I6), .data I6]), (48, 34, (kp 6)), (64, 34, [.own 1049, .own 1065, .keep, .keep, .keep, .keep])]
abbrev v11_ : List (Nat × TypeId × List Sh1) := [(32, 34, (kp 6))]
abbrev a12_ : List (Nat × ObSh) := [(107, .arr 29 (.sl (.str)))]
abbrev v13_ : List (Nat × TypeId × List Sh1) := [(0, 57, [.data (.sl I6), .data I6]), (144, 52, (kp 7)), (160, 52, [.keep, .keep, .keep, .keep, .keep, .keep, .own 2681])]
abbrev a14_ : List (Nat × ObSh) := [(139, .arr 3 I6), (1, .arr 9 (.str)), (2, .nest 52 tT0 6 61), (3, .arr 47 (.pair (.str) tT2)), (4, .arr 55 tT1)]
abbrev r15_ : List (Nat × Sh) := [(0, dd (.pair (.sl (.str)) (.pair (.sl tT0) (.pair (.sl (.pair (.str) tT2)) (.pair (.sl tT1) tT2))))), (1, ss)]
abbrev v16_ : List (Nat × TypeId × List Sh1) := [(48, 34, (kp 6)), (64, 34, (kp 6))]
abbrev a17_ : List (Nat × ObSh) := [(5913, .arr 9 (.str)), (5929, .nest 52 tT0 6 61), (5945, .arr 47 (.pair (.str) tT2)), (5961, .arr 55 tT1)]
abbrev r18_ : List (Nat × Sh) := [(0, pt 0 0), (1, dd (.sl (.str))), (2, dd (.sl I6))]
abbrev r19_ : List (Nat × Sh) := [(0, dd (.sl tT0)), (1, .one (.fn [.pair (.str) (.pair I6 (.pair I6 (.pair I6 (.pair I6 (.pair I6 (.sl (.pair I6 tT2)))))))] (.bool)))]
abbrev r20_ : List (Nat × Sh) := [(0, kk), (1, kk), (7, kk), (8, ii)]
abbrev v21_ : List (Nat × TypeId × List Sh1) := [(48, 34, [.data (.sl (.str)), .data (.sl tT0), .data (.sl (.pair (.str) tT2)), .data (.sl tT1), .data I6, .data I6])]
abbrev v22_ : List (Nat × TypeId × List Sh1) := [(0, 57, [.keep, .keep]), (48, 34, (kp 6)), (64, 34, [.own 1049, .keep, .keep, .keep, .keep, .keep])]
abbrev r23_ : List (Nat × Sh) := [(0, ss), (1, ss)]
abbrev a24_ : List (Nat × ObSh) := [(1049, .arr 9 (.str)), (1065, .arr 52 tT0)]
abbrev r25_ : List (Nat × Sh) := [(0, dd (.sl tT1)), (1, .one (.fn [.pair (.str) (.pair I6 (.pair I6 tT2))] (.bool)))]
abbrev v26_ : List (Nat × TypeId × List Sh1) := [(32, 34, (kp 6)), (48, 80, (kp 4)), (64, 80, [.keep, .own 1065, .own 1081, .keep])]
abbrev v27_ : List (Nat × TypeId × List Sh1) := [(32, 34, (kp 6)), (48, 80, (kp 4)), (64, 80, [.keep, .own 1065, .keep, .keep])]
abbrev r28_ : List (Nat × Sh) := [(0, dd (.sl (.pair (.str) tT2))), (1, .one (.fn [.pair (.str) tT2] (.bool)))]
abbrev r29_ : List (Nat × Sh) := [(0, kk), (4, ii), (15, kk), (16, kk), (17, kk), (33, kk), (34, kk), (35, ii)]
abbrev r30_ : List (Nat × Sh) := [(0, kk), (4, ii), (15, kk), (16, kk), (17, kk), (33, kk), (34, kk), (35, kk)]
abbrev v31_ : List (Nat × TypeId × List Sh1) := [(160, 117, [.nptr 160 0, .own 2601])]
abbrev v32_ : List (Nat × TypeId × List Sh1) := [(48, 34, (kp 6)), (64, 34, (kp 6)), (128, 52, (kp 7)), (144, 52, (kp 7))]
abbrev r33_ : List (Nat × Sh) := [(2, pt 48 0), (3, pt 64 0)]
abbrev v34_ : List (Nat × TypeId × List Sh1) := [(48, 80, (kp 4)), (64, 80, [.keep, .own 1065, .own 1081, .own 1097])]
abbrev a35_ : List (Nat × ObSh) := [(1065, .arr 9 (.str)), (1081, .arr 9 (.str)), (1097, .arr 9 (.str))]
abbrev r36_ : List (Nat × Sh) := [(0, kk), (4, kk), (6, kk), (15, kk), (16, kk), (17, kk), (28, bb)]
abbrev v37_ : List (Nat × TypeId × List Sh1) := [(0, 117, [.nptr 0 0, .own 1])]
abbrev r38_ : List (Nat × Sh) := [(0, pt 0 0), (2, pt 48 0), (3, pt 64 0), (5, kk), (9, kk)]
abbrev r39_ : List (Nat × Sh) := [(0, dd (.sl I6)), (1, .one (.fn [.int .i64] (.bool)))]
abbrev r40_ : List (Nat × Sh) := [(0, dd (.sl (.str)))]
abbrev r41_ : List (Nat × Sh) := [(0, dd (.sl (.str))), (1, .one (.fn [.str] (.bool)))]
abbrev r42_ : List (Nat × Sh) := [(4, kk), (9, pt 160 0), (47, kk), (48, kk), (49, ii)]
abbrev r43_ : List (Nat × Sh) := [(4, kk), (9, pt 160 0), (47, kk), (48, kk), (49, kk)]
abbrev a44_ : List (Nat × ObSh) := [(2601, .arr 5 (.int .u8))]
abbrev v45_ : List (Nat × TypeId × List Sh1) := [(64, 34, (kp 6))]
abbrev a46_ : List (Nat × ObSh) := [(75, .arr 3 I6)]
abbrev a47_ : List (Nat × ObSh) := [(2681, .arr 61 (.pair I6 tT2))]
abbrev a48_ : List (Nat × ObSh) := [(1, .arr 5 (.int .u8))]
abbrev v49_ : List (Nat × TypeId × List Sh1) := [(0, 117, [.nptr 0 0, .nil])]
def qh4 (l : List Int) : Option (List Int × Int) :=
 gd (cutG none (some (.i64, min (l.length : Int) 2000)) l.length) <|
 some (l.take (min (l.length : Int) 2000).toNat, 0)
def qiW : Fun :=
 ⟨8, 1, 1,
 ⟨[(0, dd (.sl I6))], [], []⟩,
 ⟨[(0, pt 0 0)], v9_, []⟩,
 fun x => qh4 x⟩
theorem qme : FO qiW := fi [] [] 10 [] .nil func8 ⟨trivial, trivial⟩
def qeL (s : List Int) (s2 : Int) : Option (Int × List Int × Int) :=
 bif decide ((s.length : Int) ≤ s2) then (
 some (0, s, s2))
 else (
 gd (inB (wi64 ((wi64 (s2 + 1)) - 1)) s.length) <|
 some (s.getD (wi64 ((wi64 (s2 + 1)) - 1)).toNat 0, s, wi64 (s2 + 1)))
def qfX : Fun :=
 ⟨63, 1, 1,
 ⟨[(0, pt 0 0)], v9_, []⟩,
 ⟨[(0, ii)], v9_, []⟩,
 fun x => qeL x.1 x.2⟩
theorem qiX : FO qfX := fi [] [] 31 [] .nil func63 ⟨trivial, trivial⟩
def qh5 (x : Int) (n : Int) : Option (Int) :=
 bif decide (n < 1) then (
 some 0)
 else (
 gd (!decide (n = 0)) <|
 bif decide (Int.tmod x n < 0) then (
 some (wi64 ((Int.tmod x n) + n)))
 else (
 some (Int.tmod x n)))
def qiY : Fun :=
 ⟨62, 2, 1,
 ⟨[(0, ii), (1, ii)], [], []⟩,
 ⟨[(0, ii)], [], []⟩,
 fun x => qh5 x.1 x.2⟩
theorem qmf : FO qiY := fi [] [] 16 [] .nil func62 ⟨trivial, trivial⟩
def qbj (n : Int) (s : List Int) (s2 : Int) : Option (Int × List Int × Int) :=
 (qeL s s2).bind fun r =>
 (qh5 r.1 n).bind fun r2 =>
 some (r2, r.2.1, r.2.2)
def qc0 : Fun :=
 ⟨30, 2, 1,
 ⟨[(0, pt 0 0), (1, ii)], v9_, []⟩,
 ⟨[(0, ii)], v9_, []⟩,
 fun x => qbj x.1 x.2.1 x.2.2⟩
theorem qd7 : FO qc0 := fi [] [qfX, qiY] 9 [] .nil func30 ⟨⟨qiX, qmf, trivial⟩, trivial⟩
def qav (l : List Int) (s : List Int) (s2 : Int) : Option (Int × List Int × Int) :=
 (qbj (l.length : Int) s s2).bind fun r =>
 gd (inB r.1 l.length) <|
 some (l.getD r.1.toNat 0, r.2.1, r.2.2)
def qdN : Fun :=
 ⟨26, 2, 1,
 ⟨[(0, pt 0 0), (1, dd (.sl I6))], v9_, []⟩,
 ⟨[(0, ii)], v9_, []⟩,
 fun x => qav x.1 x.2.1 x.2.2⟩
theorem qfx : FO qdN := fi [] [qc0] 12 [] .nil func26 ⟨⟨qd7, trivial⟩, trivial⟩
def qaM (lo : Int) (hi : Int) (s : List Int) (s2 : Int) : Option (Int × List Int × Int) :=
 (qbj (wi64 ((wi64 (hi - lo)) + 1)) s s2).bind fun r =>
 some (wi64 (lo + r.1), r.2.1, r.2.2)
def qdq : Fun :=
 ⟨27, 3, 1,
 ⟨[(0, pt 0 0), (1, ii), (2, ii)], v9_, []⟩,
 ⟨[(0, ii)], v9_, []⟩,
 fun x => qaM x.1 x.2.1 x.2.2.1 x.2.2.2⟩
theorem qe4 : FO qdq := fi [] [qc0] 15 [] .nil func27 ⟨⟨qd7, trivial⟩, trivial⟩
def qei (first : List UInt8) (n : Int) : Option (List UInt8) :=
 gd (Nat.ble (first.length + (qbh [wu8 (wi64 (97 + (Int.tmod n 26)))]).length) 9223372036854775807) <|
 some (first ++ (qbh [wu8 (wi64 (97 + (Int.tmod n 26)))]))
def qfY : Fun :=
 ⟨28, 2, 1,
 ⟨[(0, ss), (1, ii)], [], []⟩,
 ⟨[(0, ss)], [], []⟩,
 fun x => qei x.1 x.2⟩
theorem qhQ : FO qfY := fi [] [] 13 [] .nil func28 ⟨trivial, trivial⟩
def qej (r3 : Int × List Int × Int) (r6 : Int × List Int × Int) (vat : Int) (s4 : List Int) (s5 : Int) (x : List (Int × Int × Int)) : Option ((Int × List Int × Int × List (Int × Int × Int)) ⊕ (List Int × Int × List (Int × Int × Int))) :=
 Option.bind (α := Bool × List Int × Int × List (Int × Int × Int)) (
 bif decide ((x.length : Int) < 7) then (
 (qbj 3 s4 s5).bind fun r8 =>
 some (decide (0 < r8.1), r8.2.1, r8.2.2, x))
 else (
 some (false, s4, s5, x))) fun s6 =>
 bif s6.1 then (
 (qaM 1 40 s6.2.1 s6.2.2.1).bind fun r9 =>
 bif decide (r3.1 ≤ wi64 (vat + r9.1)) then (
 some (.inr (r9.2.1, r9.2.2, s6.2.2.2)))
 else (
 (qaM (-5) 60 r9.2.1 r9.2.2).bind fun r10 =>
 (qav ([1, 1, 10] : List Int) r10.2.1 r10.2.2).bind fun r11 =>
 (qbj 3 r11.2.1 r11.2.2).bind fun r12 =>
 gd (fits (s6.2.2.2.length + 1) 24) <|
 some (.inl (wi64 (vat + r9.1), r12.2.1, r12.2.2, s6.2.2.2 ++ [(wi64 (vat + r9.1), (wi64 (r10.1 * r11.1), wi64 (r6.1 - (wi64 (r12.1 * 1000)))))]))))
 else (
 some (.inr (s6.2.1, s6.2.2.1, s6.2.2.2)))
def qbY (k : Int) (vfrom : Int) (to : Int) (s : List Int) (s2 : Int) : Option (yT0 × List Int × Int) :=
 (qbj 4 s s2).bind fun r =>
 Option.bind (α := Int × Int) (
 bif decide (r.1 = 0) then (
 some (to, vfrom))
 else (
 some (vfrom, to))) fun s3 =>
 (qei [103] k).bind fun r2 =>
 (qav ([1, 2, 7, 20, 60, 200, 1000] : List Int) r.2.1 r.2.2).bind fun r3 =>
 (qav ([0, 1, 5, 1000] : List Int) r3.2.1 r3.2.2).bind fun r4 =>
 (qav ([0, 50, 1000, 100000] : List Int) r4.2.1 r4.2.2).bind fun r5 =>
 (qav ([1000000, 6000000, 100000000] : List Int) r5.2.1 r5.2.2).bind fun r6 =>
 (qaM (-5) 30 r6.2.1 r6.2.2).bind fun r7 =>
 (iter (fun x2 => qej r3 r6 x2.1 x2.2.1 x2.2.2.1 x2.2.2.2) (0, r7.2.1, r7.2.2, [(0, (r7.1, r6.1))])).bind fun s7 =>
 (qaM (-5) 30 s7.1 s7.2.1).bind fun r13 =>
 gd (fits (s7.2.2.length + 1) 24) <|
 some ((r2, (s3.1, (s3.2, (r3.1, (r4.1, (r5.1, s7.2.2 ++ [(r3.1, (r13.1, r6.1))])))))), r13.2.1, r13.2.2)
def qek : Fun :=
 ⟨29, 4, 1,
 ⟨[(0, pt 0 0), (1, ii), (2, ii), (3, ii)], v9_, []⟩,
 ⟨[(0, dd tT0)], v9_, []⟩,
 fun x => qbY x.1 x.2.1 x.2.2.1 x.2.2.2.1 x.2.2.2.2⟩
theorem qgN : FO qek := fi [] [qc0, qfY, qdN, qdq] 90 [] ((nn (mm (nn (.mk [.join [⟨.n, ⟨[(0, pt 0 0), (1, kk), (2, ii), (3, ii), (8, pt 144 0)], [(0, 57, [.keep, .keep]), (144, 52, (kp 7))], []⟩⟩]] none .nil .nil)) (nn (nn (nn (mm (nn (mm (.mk [] (some (⟨[(0, pt 0 0), (8, pt 144 0), (9, pt 160 0), (10, kk), (11, ii)], v13_, a47_⟩, [⟨.x 0, ⟨[(0, pt 0 0), (8, pt 144 0), (9, pt 160 0), (10, kk)], v13_, a47_⟩⟩])) (mm (mm (.mk [.join [⟨.n, ⟨[(0, pt 0 0), (8, pt 144 0), (9, pt 160 0), (10, kk), (11, kk), (51, bb)], v13_, a47_⟩⟩]] none .nil .nil) .nil) .nil) .nil) .nil)) .nil))))))) func29 ⟨⟨qd7, qhQ, qfx, qe4, trivial⟩, trivial⟩
def qel (i : Int) (n : List (List UInt8)) : Option ((Int × List (List UInt8)) ⊕ (List (List UInt8))) :=
 bif decide (0 < i) then (
 (qei [110] (n.length : Int)).bind fun r4 =>
 gd (fits (n.length + 1) 16) <|
 some (.inl (wi64 (i - 1), n ++ [r4])))
 else (
 some (.inr n))
def qem (s3 : List (List UInt8)) (i2 : Int) (s4 : List Int) (s5 : Int) (n2 : List (List UInt8)) (n3 : List yT0) : Option ((Int × List Int × Int × List (List UInt8) × List yT0) ⊕ (List Int × Int × List (List UInt8) × List yT0)) :=
 bif decide (i2 < wi64 ((s3.length : Int) - 1)) then (
 (qbY (n3.length : Int) i2 (wi64 (i2 + 1)) s4 s5).bind fun r5 =>
 gd (fits (n3.length + 1) 80) <|
 some (.inl (wi64 (i2 + 1), r5.2.1, r5.2.2, n2, n3 ++ [(r5.1.1, (r5.1.2.1, (r5.1.2.2.1, (r5.1.2.2.2.1, (r5.1.2.2.2.2.1, (r5.1.2.2.2.2.2.1, r5.1.2.2.2.2.2.2))))))])))
 else (
 some (.inr (s4, s5, n2, n3)))
def qen (s3 : List (List UInt8)) (i3 : Int) (s7 : List Int) (s8 : Int) (n4 : List (List UInt8)) (n5 : List yT0) : Option ((Int × List Int × Int × List (List UInt8) × List yT0) ⊕ (List Int × Int × List (List UInt8) × List yT0)) :=
 bif decide (0 < i3) then (
 (qbj (wi64 ((s3.length : Int) - 1)) s7 s8).bind fun r7 =>
 (qaM (wi64 (r7.1 + 1)) (wi64 ((s3.length : Int) - 1)) r7.2.1 r7.2.2).bind fun r8 =>
 (qbY (n5.length : Int) r7.1 r8.1 r8.2.1 r8.2.2).bind fun r9 =>
 gd (fits (n5.length + 1) 80) <|
 some (.inl (wi64 (i3 - 1), r9.2.1, r9.2.2, n4, n5 ++ [(r9.1.1, (r9.1.2.1, (r9.1.2.2.1, (r9.1.2.2.2.1, (r9.1.2.2.2.2.1, (r9.1.2.2.2.2.2.1, r9.1.2.2.2.2.2.2))))))])))
 else (
 some (.inr (s7, s8, n4, n5)))
def qeo (s3 : List (List UInt8)) (i4 : Int) (s10 : List Int) (s11 : Int) (n6 : List (List UInt8)) (n7 : List yT0) (n8 : yB2) (n9 : List yB1) : Option ((Int × List Int × Int × List (List UInt8) × (List yT0) × yB2 × List yB1) ⊕ (List Int × Int × List (List UInt8) × (List yT0) × yB2 × List yB1)) :=
 bif decide (i4 ≤ wi64 ((s3.length : Int) - 1)) then (
 Option.bind (α := Bool × List Int × Int × List (List UInt8) × (List yT0) × yB2 × List yB1) (
 bif decide (i4 = 0) then (
 some (true, s10, s11, n6, n7, n8, n9))
 else (
 bif decide (i4 = wi64 ((s3.length : Int) - 1)) then (
 some (true, s10, s11, n6, n7, n8, n9))
 else (
 (qbj 2 s10 s11).bind fun r10 =>
 some (decide (r10.1 = 0), r10.2.1, r10.2.2, n6, n7, n8, n9)))) fun s12 =>
 Option.bind (α := List Int × Int × List (List UInt8) × (List yT0) × yB2 × List yB1) (
 bif s12.1 then (
 (qei [113] (s12.2.2.2.2.2.1.length : Int)).bind fun r11 =>
 (qav ([300000, 1000000, 0, 5000000] : List Int) s12.2.1 s12.2.2.1).bind fun r12 =>
 gd (fits (s12.2.2.2.2.2.1.length + 1) 32) <|
 some (r12.2.1, r12.2.2, s12.2.2.2.1, s12.2.2.2.2.1, s12.2.2.2.2.2.1 ++ [(r11, (i4, r12.1))], s12.2.2.2.2.2.2))
 else (
 some (s12.2.1, s12.2.2.1, s12.2.2.2.1, s12.2.2.2.2.1, s12.2.2.2.2.2.1, s12.2.2.2.2.2.2))) fun s13 =>
 Option.bind (α := Bool × List Int × Int × List (List UInt8) × (List yT0) × yB2 × List yB1) (
 bif decide (i4 < wi64 ((s3.length : Int) - 1)) then (
 (qbj 3 s13.1 s13.2.1).bind fun r13 =>
 some (decide (r13.1 = 0), r13.2.1, r13.2.2, s13.2.2.1, s13.2.2.2.1, s13.2.2.2.2.1, s13.2.2.2.2.2))
 else (
 some (false, s13.1, s13.2.1, s13.2.2.1, s13.2.2.2.1, s13.2.2.2.2.1, s13.2.2.2.2.2))) fun s14 =>
 Option.bind (α := List Int × Int × List (List UInt8) × (List yT0) × yB2 × List yB1) (
 bif s14.1 then (
 (qei [115] (s14.2.2.2.2.2.2.length : Int)).bind fun r14 =>
 (qav ([500000, 2000000, 0] : List Int) s14.2.1 s14.2.2.1).bind fun r15 =>
 (qav ([0, 200, 100000] : List Int) r15.2.1 r15.2.2).bind fun r16 =>
 (qav ([0, 100000, 400000] : List Int) r16.2.1 r16.2.2).bind fun r17 =>
 gd (fits (s14.2.2.2.2.2.2.length + 1) 48) <|
 some (r17.2.1, r17.2.2, s14.2.2.2.1, s14.2.2.2.2.1, s14.2.2.2.2.2.1, s14.2.2.2.2.2.2 ++ [(r14, (i4, (r15.1, (r16.1, r17.1))))]))
 else (
 some (s14.2.1, s14.2.2.1, s14.2.2.2.1, s14.2.2.2.2.1, s14.2.2.2.2.2.1, s14.2.2.2.2.2.2))) fun s15 =>
 some (.inl (wi64 (i4 + 1), s15.1, s15.2.1, s15.2.2.1, s15.2.2.2.1, s15.2.2.2.2.1, s15.2.2.2.2.2)))
 else (
 some (.inr (s10, s11, n6, n7, n8, n9)))
def qcA (s : List Int) (s2 : Int) : Option (yB0 × List Int × Int) :=
 (qav ([(-100000), 0, 50000] : List Int) s s2).bind fun r =>
 (qav ([0, 1, 5, 100] : List Int) r.2.1 r.2.2).bind fun r2 =>
 (qaM 2 6 r2.2.1 r2.2.2).bind fun r3 =>
 (iter (fun x => qel x.1 x.2) (r3.1, [])).bind fun s3 =>
 (iter (fun x2 => qem s3 x2.1 x2.2.1 x2.2.2.1 x2.2.2.2.1 x2.2.2.2.2) (0, r3.2.1, r3.2.2, s3, [])).bind fun s6 =>
 (qbj 4 s6.1 s6.2.1).bind fun r6 =>
 (iter (fun x3 => qen s3 x3.1 x3.2.1 x3.2.2.1 x3.2.2.2.1 x3.2.2.2.2) (r6.1, r6.2.1, r6.2.2, s6.2.2.1, s6.2.2.2)).bind fun s9 =>
 (iter (fun x4 => qeo s3 x4.1 x4.2.1 x4.2.2.1 x4.2.2.2.1 x4.2.2.2.2.1 x4.2.2.2.2.2.1 x4.2.2.2.2.2.2) (0, s9.1, s9.2.1, s9.2.2.1, s9.2.2.2, [], [])).bind fun s16 =>
 some ((s16.2.2.1, (s16.2.2.2.1, (s16.2.2.2.2.1, (s16.2.2.2.2.2, (r.1, r2.1))))), s16.1, s16.2.1)
def qep : Fun :=
 ⟨10, 1, 1,
 ⟨[(0, pt 0 0)], v9_, []⟩,
 ⟨r1_, v9_, []⟩,
 fun x => qcA x.1 x.2⟩
theorem qgO : FO qep := fi [] [qdN, qdq, qfY, qek, qc0] 139 [] ((nn (nn (mm (nn (mm (.mk [] (some (⟨[(0, pt 0 0), (2, pt 48 0), (3, pt 64 0), (4, ii)], v22_, [(1049, .arr 9 (.str))]⟩, [⟨.x 0, ⟨[(0, pt 0 0), (2, pt 48 0), (3, pt 64 0)], v22_, [(1049, .arr 9 (.str))]⟩⟩])) .nil .nil) .nil)) (nn (mm (nn (mm (.mk [] (some (⟨[(0, pt 0 0), (2, pt 48 0), (3, pt 64 0), (5, kk), (6, ii)], v10_, a24_⟩, [⟨.x 2, ⟨[(0, pt 0 0), (2, pt 48 0), (3, pt 64 0), (5, kk)], v10_, a24_⟩⟩])) .nil .nil) .nil)) (mm (nn (mm (.mk [] (some (⟨[(0, pt 0 0), (2, pt 48 0), (3, pt 64 0), (5, kk), (7, ii)], v10_, a24_⟩, [⟨.x 4, ⟨[(0, pt 0 0), (2, pt 48 0), (3, pt 64 0), (5, kk)], v10_, a24_⟩⟩])) .nil .nil) .nil)) (mm (nn (mm (.mk [] (some (⟨[(0, pt 0 0), (2, pt 48 0), (3, pt 64 0), (5, kk), (9, ii)], v4_, a7_⟩, [⟨.x 6, ⟨r33_, [(48, 34, (kp 6)), (64, 34, [.own 1049, .own 1065, .own 1081, .own 1097, .keep, .keep]), (0, 57, [.data (.sl I6), .data I6])], a7_⟩⟩])) (nn (mm (mm (mm (mm (.mk [.join [⟨.n, ⟨[(0, pt 0 0), (2, pt 48 0), (3, pt 64 0), (5, kk), (9, kk), (95, bb)], v4_, a7_⟩⟩]] none .nil .nil) (.mk [.join [⟨.n, ⟨r38_, v4_, a7_⟩⟩]] none .nil .nil)) (mm (.mk [.join [⟨.n, ⟨[(0, pt 0 0), (2, pt 48 0), (3, pt 64 0), (5, kk), (9, kk), (117, bb)], v4_, a7_⟩⟩]] none .nil .nil) (.mk [.join [⟨.n, ⟨r38_, v4_, a7_⟩⟩]] none .nil .nil))) .nil) .nil)) .nil) .nil)) .nil)))))))) func10 ⟨⟨qfx, qe4, qhQ, qgN, qd7, trivial⟩, trivial⟩
def qab (s : List yT0) (f : yT0 × Unit → Option Bool) (v : Int) : Option (Int ⊕ (Unit ⊕ Int)) :=
 bif decide (v < (s.length : Int)) then (
 gd (inB v s.length) <|
 (f (s.getD v.toNat ([], (0, (0, (0, (0, (0, [])))))), ())).bind fun r =>
 bif r then (
 some (.inr (.inr v)))
 else (
 some (.inl (wi64 (v + 1)))))
 else (
 some (.inr (.inl ())))
def qai (s : List yT0) (f : yT0 × Unit → Option Bool) : Option (Int) :=
 (iter (fun x => qab s f x) 0).bind fun s2 =>
 s2.elim (fun s3 =>
 some (-1))
 (fun s4 =>
 some s4)
def qaw : Fun :=
 ⟨52, 2, 1,
 ⟨r19_, [], []⟩,
 ⟨[(0, ii)], [], []⟩,
 fun x => qai x.1 x.2⟩
theorem qaP : FO qaw := fi [] [] 19 [] ((nn (mm (nn (mm (.mk [] (some (⟨r20_, [], []⟩, [⟨.x 0, ⟨[], [], []⟩⟩, ⟨.r, ⟨[(4, ii)], [], []⟩⟩])) .nil .nil) .nil)) .nil))) func52 ⟨trivial, trivial⟩
def qag (s : List yT0) (f : yT0 × Unit → Option Bool) : Option (Bool) :=
 (qai s f).bind fun r =>
 some (decide (0 ≤ r))
def qas : Fun :=
 ⟨72, 2, 1,
 ⟨r19_, [], []⟩,
 ⟨[(0, bb)], [], []⟩,
 fun x => qag x.1 x.2⟩
theorem qaJ : FO qas := fi [] [qaw] 9 [] .nil func72 ⟨⟨qaP, trivial⟩, trivial⟩
def qdO (s : yB4) : Option (Bool) :=
 bif decide ((s.2.2.2.2.2.2.length : Int) < 2) then (
 some true)
 else (
 some (decide (8 < (s.2.2.2.2.2.2.length : Int))))
def qeq : Fun :=
 ⟨73, 1, 1,
 ⟨[(0, dd tT0)], [], []⟩,
 ⟨[(0, bb)], [], []⟩,
 fun x => qdO x⟩
theorem qgP : FO qeq := fi [] [] 13 [] .nil func73 ⟨trivial, trivial⟩
def qcr (n : yB0) : Option (Bool) :=
 Option.bind (α := Bool) (
 bif decide ((n.1.length : Int) < 1) then (
 some true)
 else (
 bif decide (24 < (n.1.length : Int)) then (
 some true)
 else (
 bif decide (32 < (n.2.1.length : Int)) then (
 some true)
 else (
 bif decide (24 < (n.2.2.1.length : Int)) then (
 some true)
 else (
 some (decide (12 < (n.2.2.2.1.length : Int)))))))) fun s =>
 bif s then (
 some false)
 else (
 (qag n.2.1 (fun h => (qdO h.1).bind fun y => some y)).bind fun r =>
 some (!r))
def qe5 : Fun :=
 ⟨39, 1, 1,
 ⟨r1_, [], []⟩,
 ⟨[(0, bb)], [], []⟩,
 fun x => qcr x⟩
theorem qhE : FO qe5 := fi [] [qas, qeq] 35 [] ((nn (mm (mm (.mk [.join [⟨.n, ⟨[(1, pt 32 0), (30, bb)], v11_, []⟩⟩]] none .nil .nil) .nil) .nil))) func39 ⟨⟨qaJ, qgP, trivial⟩, trivial⟩
def qcB (n : yB0) (v : Int) (out : List (List UInt8)) : Option ((Int × List (List UInt8)) ⊕ (List (List UInt8))) :=
 bif decide (v < (n.2.1.length : Int)) then (
 gd (inB v n.2.1.length) <|
 gd (fits (out.length + 1) 16) <|
 some (.inl (wi64 (v + 1), out ++ [(n.2.1.getD v.toNat ([], (0, (0, (0, (0, (0, []))))))).1])))
 else (
 some (.inr out))
def qcC (n : yB0) (v2 : Int) (out2 : List (List UInt8)) (out3 : List (List UInt8)) : Option ((Int × List (List UInt8) × List (List UInt8)) ⊕ (List (List UInt8) × List (List UInt8))) :=
 bif decide (v2 < (n.2.2.1.length : Int)) then (
 gd (inB v2 n.2.2.1.length) <|
 gd (fits (out3.length + 1) 16) <|
 some (.inl (wi64 (v2 + 1), out2, out3 ++ [(n.2.2.1.getD v2.toNat ([], (0, 0))).1])))
 else (
 some (.inr (out2, out3)))
def qcD (n : yB0) (v3 : Int) (out4 : List (List UInt8)) (out5 : List (List UInt8)) (out6 : List (List UInt8)) : Option ((Int × List (List UInt8) × List (List UInt8) × List (List UInt8)) ⊕ (List (List UInt8) × List (List UInt8) × List (List UInt8))) :=
 bif decide (v3 < (n.2.2.2.1.length : Int)) then (
 gd (inB v3 n.2.2.2.1.length) <|
 gd (fits (out6.length + 1) 16) <|
 some (.inl (wi64 (v3 + 1), out4, out5, out6 ++ [(n.2.2.2.1.getD v3.toNat ([], (0, (0, (0, 0))))).1])))
 else (
 some (.inr (out4, out5, out6)))
def qbO (n : yB0) : Option (List (List UInt8) × List (List UInt8) × List (List UInt8) × List (List UInt8)) :=
 (iter (fun x => qcB n x.1 x.2) (0, [])).bind fun s =>
 (iter (fun x2 => qcC n x2.1 x2.2.1 x2.2.2) (0, s, [])).bind fun s2 =>
 (iter (fun x3 => qcD n x3.1 x3.2.1 x3.2.2.1 x3.2.2.2) (0, s2.1, s2.2, [])).bind fun s3 =>
 some (n.1, (s3.1, (s3.2.1, s3.2.2)))
def qdP : Fun :=
 ⟨40, 1, 1,
 ⟨r1_, [], []⟩,
 ⟨[(0, dd (.pair (.sl (.str)) (.pair (.sl (.str)) (.pair (.sl (.str)) (.sl (.str))))))], [], []⟩,
 fun x => qbO x⟩
theorem qfy : FO qdP := fi [] [] 59 [] ((nn (nn (nn (mm (nn (mm (.mk [] (some (⟨[(1, pt 32 0), (2, pt 48 0), (3, pt 64 0), (14, kk), (15, kk), (16, ii)], v27_, [(1065, .arr 9 (.str))]⟩, [⟨.x 0, ⟨[(1, pt 32 0), (2, pt 48 0), (3, pt 64 0)], v27_, [(1065, .arr 9 (.str))]⟩⟩])) .nil .nil) .nil)) (mm (nn (mm (.mk [] (some (⟨[(1, pt 32 0), (2, pt 48 0), (3, pt 64 0), (29, kk), (30, kk), (31, ii)], v26_, [(1065, .arr 9 (.str)), (1081, .arr 9 (.str))]⟩, [⟨.x 2, ⟨[(1, pt 32 0), (2, pt 48 0), (3, pt 64 0)], v26_, [(1065, .arr 9 (.str)), (1081, .arr 9 (.str))]⟩⟩])) .nil .nil) .nil)) (mm (nn (mm (.mk [] (some (⟨[(2, pt 48 0), (3, pt 64 0), (44, kk), (45, kk), (46, ii)], v34_, a35_⟩, [⟨.x 4, ⟨r33_, v34_, a35_⟩⟩])) .nil .nil) .nil)) .nil))))))) func40 ⟨trivial, trivial⟩
def qaj (s : List (List UInt8)) (f : List UInt8 × Unit → Option Bool) (v : Int) : Option (Int ⊕ (Unit ⊕ Int)) :=
 bif decide (v < (s.length : Int)) then (
 gd (inB v s.length) <|
 (f (s.getD v.toNat [], ())).bind fun r =>
 bif r then (
 some (.inr (.inr v)))
 else (
 some (.inl (wi64 (v + 1)))))
 else (
 some (.inr (.inl ())))
def qaF (s : List (List UInt8)) (f : List UInt8 × Unit → Option Bool) : Option (Int) :=
 (iter (fun x => qaj s f x) 0).bind fun s2 =>
 s2.elim (fun s3 =>
 some (-1))
 (fun s4 =>
 some s4)
def qby : Fun :=
 ⟨74, 2, 1,
 ⟨r41_, [], []⟩,
 ⟨[(0, ii)], [], []⟩,
 fun x => qaF x.1 x.2⟩
theorem qc1 : FO qby := fi [] [] 19 [] ((nn (mm (nn (mm (.mk [] (some (⟨r20_, [], []⟩, [⟨.x 0, ⟨[], [], []⟩⟩, ⟨.r, ⟨[(4, ii)], [], []⟩⟩])) .nil .nil) .nil)) .nil))) func74 ⟨trivial, trivial⟩
def qak (s : List (List UInt8)) (f : List UInt8 × Unit → Option Bool) : Option (Bool) :=
 (qaF s f).bind fun r =>
 some (decide (0 ≤ r))
def qbi : Fun :=
 ⟨41, 2, 1,
 ⟨r41_, [], []⟩,
 ⟨[(0, bb)], [], []⟩,
 fun x => qak x.1 x.2⟩
theorem qcs : FO qbi := fi [] [qby] 9 [] .nil func41 ⟨⟨qc1, trivial⟩, trivial⟩
def qer (c : Int) : Option (Int) :=
 Option.bind (α := Unit ⊕ Unit ⊕ Int) (
 Option.bind (α := Bool) (
 bif decide (97 ≤ c) then (
 some (decide (c ≤ 122)))
 else (
 some false)) fun s =>
 bif s then (
 some (.inr (.inr 1)))
 else (
 Option.bind (α := Bool) (
 bif decide (48 ≤ c) then (
 some (decide (c ≤ 57)))
 else (
 some false)) fun s2 =>
 bif s2 then (
 some (.inl ()))
 else (
 bif decide (c = 45) then (
 some (.inl ()))
 else (
 some (.inr (.inl ())))))) fun s3 =>
 s3.elim (fun s4 =>
 some 2)
 (fun s5 =>
 s5.elim (fun s6 =>
 some 0)
 (fun s7 =>
 some s7))
def qgx : Fun :=
 ⟨75, 1, 1,
 ⟨[(0, dd (.int .u8))], [], []⟩,
 ⟨[(0, ii)], [], []⟩,
 fun x => qer x⟩
theorem qja : FO qgx := fi [] [] 20 [] ((nn (mm (mm (mm (.mk [.join [⟨.n, ⟨[], [], []⟩⟩, ⟨.x 0, ⟨[], [], []⟩⟩, ⟨.r, ⟨[(2, ii)], [], []⟩⟩]] none (mm (mm (mm (mm (mm (mm (.mk [.join [⟨.n, ⟨[(0, kk), (3, bb)], [], []⟩⟩]] none .nil .nil) .nil) (mm (mm (.mk [.join [⟨.n, ⟨[(0, kk), (10, bb)], [], []⟩⟩]] none .nil .nil) .nil) .nil)) .nil) .nil) .nil) .nil) .nil) .nil) .nil) .nil))) func75 ⟨trivial, trivial⟩
def qc2 (s : List UInt8) (v : Int) : Option (Int ⊕ (Unit ⊕ Bool)) :=
 bif decide (v < (s.length : Int)) then (
 gd (inB v s.length) <|
 (qer (Int.ofNat (s.getD v.toNat 0).toNat)).bind fun r2 =>
 bif decide (r2 = 0) then (
 some (.inr (.inr false)))
 else (
 some (.inl (wi64 (v + 1)))))
 else (
 some (.inr (.inl ())))
def qec (s : List UInt8) : Option (Bool) :=
 Option.bind (α := Bool) (
 bif decide ((s.length : Int) < 1) then (
 some true)
 else (
 bif decide (12 < (s.length : Int)) then (
 some true)
 else (
 gd (inB 0 s.length) <|
 (qer (Int.ofNat (s.getD 0 0).toNat)).bind fun r =>
 some (!decide (r = 1))))) fun s2 =>
 bif s2 then (
 some false)
 else (
 (iter (fun x => qc2 s x) 0).bind fun s3 =>
 s3.elim (fun s4 =>
 some true)
 (fun s5 =>
 some s5))
def qhh : Fun :=
 ⟨43, 1, 1,
 ⟨[(0, ss)], [], []⟩,
 ⟨[(0, bb)], [], []⟩,
 fun x => qec x⟩
theorem qkb : FO qhh := fi [] [qgx] 29 [] ((nn (mm (mm (.mk [.join [⟨.n, ⟨[(0, kk), (17, bb)], [], []⟩⟩]] none .nil .nil) .nil) (mm (nn (mm (.mk [] (some (⟨[(0, kk), (19, kk), (20, ii)], [], []⟩, [⟨.x 0, ⟨[], [], []⟩⟩, ⟨.r, ⟨[(2, bb)], [], []⟩⟩])) .nil .nil) .nil)) .nil)))) func43 ⟨⟨qja, trivial⟩, trivial⟩
def qbJ (s : List UInt8) : Option (Bool) :=
 (qec s).bind fun r =>
 some (!r)
def qeM : Fun :=
 ⟨42, 1, 1,
 ⟨[(0, ss)], [], []⟩,
 ⟨[(0, bb)], [], []⟩,
 fun x => qbJ x⟩
theorem qhi : FO qeM := fi [] [qhh] 6 [] .nil func42 ⟨⟨qkb, trivial⟩, trivial⟩
def qar (s : List (List UInt8)) (v : List UInt8) (v2 : Int) : Option (Int ⊕ (Unit ⊕ Int)) :=
 bif decide (v2 < (s.length : Int)) then (
 gd (inB v2 s.length) <|
 bif decide (v = s.getD v2.toNat []) then (
 some (.inr (.inr v2)))
 else (
 some (.inl (wi64 (v2 + 1)))))
 else (
 some (.inr (.inl ())))
def qal (s : List (List UInt8)) (v : List UInt8) : Option (Int) :=
 (iter (fun x => qar s v x) 0).bind fun s2 =>
 s2.elim (fun s3 =>
 some (-1))
 (fun s4 =>
 some s4)
def qaI : Fun :=
 ⟨51, 2, 1,
 ⟨[(0, dd (.sl (.str))), (1, ss)], [], []⟩,
 ⟨[(0, ii)], [], []⟩,
 fun x => qal x.1 x.2⟩
theorem qbd : FO qaI := fi [] [] 19 [] ((nn (mm (nn (mm (.mk [] (some (⟨r20_, [], []⟩, [⟨.x 0, ⟨[], [], []⟩⟩, ⟨.r, ⟨[(4, ii)], [], []⟩⟩])) .nil .nil) .nil)) .nil))) func51 ⟨trivial, trivial⟩
def qfZ (x : yB1) (v : yB1) : Option (Bool) :=
 some (decide (x.2.1 = v.2.1))
def qeN : Fun :=
 ⟨77, 2, 1,
 ⟨[(0, dd tT1), (1, .one (.sel tT1))], [], []⟩,
 ⟨[(0, bb)], [], []⟩,
 fun x => qfZ x.1 x.2⟩
theorem qhj : FO qeN := fi [] [] 9 [] .nil func77 ⟨trivial, trivial⟩
def qac (s : List yB1) (f : yB1 × Unit → Option Bool) (v : Int) : Option (Int ⊕ (Unit ⊕ Int)) :=
 bif decide (v < (s.length : Int)) then (
 gd (inB v s.length) <|
 (f (s.getD v.toNat ([], (0, (0, (0, 0)))), ())).bind fun r =>
 bif r then (
 some (.inr (.inr v)))
 else (
 some (.inl (wi64 (v + 1)))))
 else (
 some (.inr (.inl ())))
def qae (s : List yB1) (f : yB1 × Unit → Option Bool) : Option (Int) :=
 (iter (fun x => qac s f x) 0).bind fun s2 =>
 s2.elim (fun s3 =>
 some (-1))
 (fun s4 =>
 some s4)
def qax : Fun :=
 ⟨76, 2, 1,
 ⟨r25_, [], []⟩,
 ⟨[(0, ii)], [], []⟩,
 fun x => qae x.1 x.2⟩
theorem qaQ : FO qax := fi [] [] 19 [] ((nn (mm (nn (mm (.mk [] (some (⟨r20_, [], []⟩, [⟨.x 0, ⟨[], [], []⟩⟩, ⟨.r, ⟨[(4, ii)], [], []⟩⟩])) .nil .nil) .nil)) .nil))) func76 ⟨trivial, trivial⟩
def qcE (r : List (List UInt8) × List (List UInt8) × List (List UInt8) × List (List UInt8)) (v : Int) (v2 : Int) : Option (Int ⊕ (Unit ⊕ Bool)) :=
 bif decide (v2 < (([r.1, r.2.1, r.2.2.1, r.2.2.2].getD v.toNat []).length : Int)) then (
 gd (inB v2 ([r.1, r.2.1, r.2.2.1, r.2.2.2].getD v.toNat []).length) <|
 (qal ([r.1, r.2.1, r.2.2.1, r.2.2.2].getD v.toNat []) (([r.1, r.2.1, r.2.2.1, r.2.2.2].getD v.toNat []).getD v2.toNat [])).bind fun r2 =>
 bif decide (r2 < v2) then (
 some (.inr (.inr true)))
 else (
 some (.inl (wi64 (v2 + 1)))))
 else (
 some (.inr (.inl ())))
def qcF (r : List (List UInt8) × List (List UInt8) × List (List UInt8) × List (List UInt8)) (v : Int) : Option (Int ⊕ (Unit ⊕ Bool)) :=
 bif decide (v < 4) then (
 gd (inB v 4) <|
 (iter (fun x => qcE r v x) 0).bind fun s =>
 s.elim (fun s2 =>
 some (.inl (wi64 (v + 1))))
 (fun s3 =>
 some (.inr (.inr s3))))
 else (
 some (.inr (.inl ())))
def qcG (n : yB0) (v3 : Int) : Option (Int ⊕ (Unit ⊕ Bool)) :=
 bif decide (v3 < (n.2.2.2.1.length : Int)) then (
 gd (inB v3 n.2.2.2.1.length) <|
 (qae n.2.2.2.1 (fun h => (qfZ h.1 ((n.2.2.2.1.getD v3.toNat ([], (0, (0, (0, 0))))).1, (((n.2.2.2.1.getD v3.toNat ([], (0, (0, (0, 0))))).2).1, ((((n.2.2.2.1.getD v3.toNat ([], (0, (0, (0, 0))))).2).2).1, (((((n.2.2.2.1.getD v3.toNat ([], (0, (0, (0, 0))))).2).2).2).1, ((((n.2.2.2.1.getD v3.toNat ([], (0, (0, (0, 0))))).2).2).2).2))))).bind fun y => some y)).bind fun r3 =>
 bif decide (r3 < v3) then (
 some (.inr (.inr true)))
 else (
 some (.inl (wi64 (v3 + 1)))))
 else (
 some (.inr (.inl ())))
def qc3 (n : yB0) : Option (Bool) :=
 (qbO (n.1, (n.2.1, (n.2.2.1, (n.2.2.2.1, (n.2.2.2.2.1, n.2.2.2.2.2)))))).bind fun r =>
 (iter (fun x2 => qcF r x2) 0).bind fun s4 =>
 s4.elim (fun s5 =>
 (iter (fun x3 => qcG n x3) 0).bind fun s7 =>
 s7.elim (fun s8 =>
 some false)
 (fun s9 =>
 some s9))
 (fun s6 =>
 some s6)
def qfz : Fun :=
 ⟨44, 1, 1,
 ⟨r1_, [], []⟩,
 ⟨[(0, bb)], [], []⟩,
 fun x => qc3 x⟩
theorem qhS : FO qfz := fi [] [qdP, qaI, qax, qeN] 43 [] ((nn (mm (nn (mm (.mk [] (some (⟨[(1, pt 32 0), (10, kk), (11, ii)], v11_, []⟩, [⟨.x 0, ⟨[(1, pt 32 0)], v11_, []⟩⟩, ⟨.r, ⟨[(2, bb)], [], []⟩⟩])) (nn (nn (mm (mm (nn (nn (mm (.mk [] (some (⟨[(1, pt 32 0), (4, kk), (10, kk), (11, kk), (14, kk), (15, kk), (16, ii)], v11_, []⟩, [⟨.x 2, ⟨[(1, pt 32 0), (10, kk), (11, kk)], v11_, []⟩⟩, ⟨.r, ⟨[(2, bb)], [], []⟩⟩])) .nil .nil) .nil))) .nil) .nil))) .nil) .nil)) (mm (nn (mm (.mk [] (some (⟨[(1, pt 32 0), (29, kk), (30, kk), (31, ii)], v11_, []⟩, [⟨.x 4, ⟨[], [], []⟩⟩, ⟨.r, ⟨[(2, bb)], [], []⟩⟩])) (nn (nn (mm (mm (nn (mm (.mk [.fv [(8, .pair (.str) (.pair I6 (.pair I6 tT2)))]] none .nil .nil) .nil)) .nil) .nil))) .nil) .nil)) .nil)))) func44 ⟨⟨qfy, qbd, qaQ, qhj, trivial⟩, trivial⟩
def qc4 (k : Int) (v : yB0) : Option (Bool) :=
 bif decide (k < 0) then (
 some true)
 else (
 some (decide ((v.1.length : Int) ≤ k)))
def qeO : Fun :=
 ⟨79, 2, 1,
 ⟨[(0, ii), (1, .one (.sel (.pair (.sl (.str)) (.pair (.sl tT0) (.pair (.sl (.pair (.str) tT2)) (.pair (.sl tT1) tT2))))))], [], []⟩,
 ⟨[(0, bb)], [], []⟩,
 fun x => qc4 x.1 x.2⟩
theorem qhk : FO qeO := fi [] [] 13 [] .nil func79 ⟨trivial, trivial⟩
def qau (s : List Int) (f : Int × Unit → Option Bool) (v : Int) : Option (Int ⊕ (Unit ⊕ Int)) :=
 bif decide (v < (s.length : Int)) then (
 gd (inB v s.length) <|
 (f (s.getD v.toNat 0, ())).bind fun r =>
 bif r then (
 some (.inr (.inr v)))
 else (
 some (.inl (wi64 (v + 1)))))
 else (
 some (.inr (.inl ())))
def qba (s : List Int) (f : Int × Unit → Option Bool) : Option (Int) :=
 (iter (fun x => qau s f x) 0).bind fun s2 =>
 s2.elim (fun s3 =>
 some (-1))
 (fun s4 =>
 some s4)
def qca : Fun :=
 ⟨108, 2, 1,
 ⟨r39_, [], []⟩,
 ⟨[(0, ii)], [], []⟩,
 fun x => qba x.1 x.2⟩
theorem qes : FO qca := fi [] [] 19 [] ((nn (mm (nn (mm (.mk [] (some (⟨r20_, [], []⟩, [⟨.x 0, ⟨[], [], []⟩⟩, ⟨.r, ⟨[(4, ii)], [], []⟩⟩])) .nil .nil) .nil)) .nil))) func108 ⟨trivial, trivial⟩
def qaR (s : List Int) (f : Int × Unit → Option Bool) : Option (Bool) :=
 (qba s f).bind fun r =>
 some (decide (0 ≤ r))
def qbL : Fun :=
 ⟨78, 2, 1,
 ⟨r39_, [], []⟩,
 ⟨[(0, bb)], [], []⟩,
 fun x => qaR x.1 x.2⟩
theorem qdE : FO qbL := fi [] [qca] 9 [] .nil func78 ⟨⟨qes, trivial⟩, trivial⟩
def qcH (n : yB0) (v : Int) (all : List Int) : Option ((Int × List Int) ⊕ (List Int)) :=
 bif decide (v < (n.2.1.length : Int)) then (
 gd (inB v n.2.1.length) <|
 gd (fits (all.length + 2) 8) <|
 some (.inl (wi64 (v + 1), all ++ [((n.2.1.getD v.toNat ([], (0, (0, (0, (0, (0, []))))))).2).1, (((n.2.1.getD v.toNat ([], (0, (0, (0, (0, (0, []))))))).2).2).1])))
 else (
 some (.inr all))
def qcI (n : yB0) (v2 : Int) (all2 : List Int) : Option ((Int × List Int) ⊕ (List Int)) :=
 bif decide (v2 < (n.2.2.1.length : Int)) then (
 gd (inB v2 n.2.2.1.length) <|
 gd (fits (all2.length + 1) 8) <|
 some (.inl (wi64 (v2 + 1), all2 ++ [((n.2.2.1.getD v2.toNat ([], (0, 0))).2).1])))
 else (
 some (.inr all2))
def qcJ (n : yB0) (v3 : Int) (all3 : List Int) : Option ((Int × List Int) ⊕ (List Int)) :=
 bif decide (v3 < (n.2.2.2.1.length : Int)) then (
 gd (inB v3 n.2.2.2.1.length) <|
 gd (fits (all3.length + 1) 8) <|
 some (.inl (wi64 (v3 + 1), all3 ++ [((n.2.2.2.1.getD v3.toNat ([], (0, (0, (0, 0))))).2).1])))
 else (
 some (.inr all3))
def qc5 (n : yB0) : Option (Bool) :=
 (iter (fun x => qcH n x.1 x.2) (0, [])).bind fun s =>
 (iter (fun x2 => qcI n x2.1 x2.2) (0, s)).bind fun s2 =>
 (iter (fun x3 => qcJ n x3.1 x3.2) (0, s2)).bind fun s3 =>
 (qaR s3 (fun h => (qc4 h.1 (n.1, (n.2.1, (n.2.2.1, (n.2.2.2.1, (n.2.2.2.2.1, n.2.2.2.2.2)))))).bind fun y => some y)).bind fun r =>
 some (!r)
def qfA : Fun :=
 ⟨45, 1, 1,
 ⟨r1_, [], []⟩,
 ⟨[(0, bb)], [], []⟩,
 fun x => qc5 x⟩
theorem qhT : FO qfA := fi [] [qbL, qeO] 55 [] ((nn (nn (mm (nn (mm (.mk [] (some (⟨[(1, pt 32 0), (3, ow 75), (11, kk), (12, kk), (13, ii)], v11_, a46_⟩, [⟨.x 0, ⟨[(1, pt 32 0), (3, ow 75)], v11_, a46_⟩⟩])) .nil .nil) .nil)) (mm (nn (mm (.mk [] (some (⟨[(1, pt 32 0), (3, ow 75), (26, kk), (27, kk), (28, ii)], v11_, a46_⟩, [⟨.x 2, ⟨[(1, pt 32 0), (3, ow 75)], v11_, a46_⟩⟩])) .nil .nil) .nil)) (mm (nn (mm (.mk [] (some (⟨[(1, pt 32 0), (3, ow 75), (39, kk), (40, kk), (41, ii)], v11_, a46_⟩, [⟨.x 4, ⟨[(1, pt 32 0), (3, ow 75)], v11_, a46_⟩⟩])) .nil .nil) .nil)) (mm (.mk [.fv [(1, .pair (.sl (.str)) (.pair (.sl tT0) (.pair (.sl (.pair (.str) tT2)) (.pair (.sl tT1) tT2))))]] none .nil .nil) .nil))))))) func45 ⟨⟨qdE, qhk, trivial⟩, trivial⟩
def qbb (n : Int) (least : Int) (most : Int) : Option (Bool) :=
 bif decide (least ≤ n) then (
 some (decide (n ≤ most)))
 else (
 some false)
def qc6 : Fun :=
 ⟨84, 3, 1,
 ⟨[(0, ii), (1, ii), (2, ii)], [], []⟩,
 ⟨[(0, bb)], [], []⟩,
 fun x => qbb x.1 x.2.1 x.2.2⟩
theorem qd8 : FO qc6 := fi [] [] 15 [] .nil func84 ⟨trivial, trivial⟩
def qc7 (s : yB4) (v : Int) : Option (Int ⊕ (Unit ⊕ Bool)) :=
 bif decide (v < (s.2.2.2.2.2.2.length : Int)) then (
 gd (inB v s.2.2.2.2.2.2.length) <|
 Option.bind (α := Bool) (
 (qbb (((s.2.2.2.2.2.2.getD v.toNat (0, (0, 0))).2).1) (-500) 5000).bind fun r4 =>
 bif !r4 then (
 some true)
 else (
 (qbb (((s.2.2.2.2.2.2.getD v.toNat (0, (0, 0))).2).2) 0 100000000).bind fun r5 =>
 bif !r5 then (
 some true)
 else (
 bif decide (0 < v) then (
 gd (inB (wi64 (v - 1)) s.2.2.2.2.2.2.length) <|
 some (decide ((s.2.2.2.2.2.2.getD v.toNat (0, (0, 0))).1 ≤ (s.2.2.2.2.2.2.getD (wi64 (v - 1)).toNat (0, (0, 0))).1)))
 else (
 some false)))) fun s3 =>
 bif s3 then (
 some (.inr (.inr false)))
 else (
 some (.inl (wi64 (v + 1)))))
 else (
 some (.inr (.inl ())))
def qdF (s : yB4) : Option (Bool) :=
 Option.bind (α := Bool) (
 bif decide (s.2.1 = s.2.2.1) then (
 some true)
 else (
 (qbb s.2.2.2.1 1 1000000).bind fun r =>
 bif !r then (
 some true)
 else (
 (qbb s.2.2.2.2.1 0 1000).bind fun r2 =>
 bif !r2 then (
 some true)
 else (
 (qbb s.2.2.2.2.2.1 0 100000).bind fun r3 =>
 some (!r3))))) fun s2 =>
 bif s2 then (
 some false)
 else (
 (iter (fun x => qc7 s x) 0).bind fun s4 =>
 s4.elim (fun s5 =>
 gd (inB 0 s.2.2.2.2.2.2.length) <|
 bif decide ((s.2.2.2.2.2.2.getD 0 (0, (0, 0))).1 = 0) then (
 gd (inB (wi64 ((s.2.2.2.2.2.2.length : Int) - 1)) s.2.2.2.2.2.2.length) <|
 some (decide ((s.2.2.2.2.2.2.getD (wi64 ((s.2.2.2.2.2.2.length : Int) - 1)).toNat (0, (0, 0))).1 = s.2.2.2.1)))
 else (
 some false))
 (fun s6 =>
 some s6))
def qf0 : Fun :=
 ⟨81, 1, 1,
 ⟨[(0, dd tT0)], [], []⟩,
 ⟨[(0, bb)], [], []⟩,
 fun x => qdF x⟩
theorem qiZ : FO qf0 := fi [] [qc6] 83 [] ((nn (mm (mm (.mk [.join [⟨.n, ⟨[(1, pt 32 0), (27, bb)], [(32, 52, (kp 7))], []⟩⟩]] none .nil .nil) .nil) (mm (nn (mm (.mk [] (some (⟨[(1, pt 32 0), (29, kk), (30, kk), (31, ii)], [(32, 52, (kp 7))], []⟩, [⟨.x 0, ⟨[(1, pt 32 0)], [(32, 52, (kp 7))], []⟩⟩, ⟨.r, ⟨[(2, bb)], [], []⟩⟩])) (nn (nn (mm (mm (nn (mm (.mk [.join [⟨.n, ⟨[(1, pt 32 0), (29, kk), (30, kk), (31, kk), (61, bb)], [(32, 52, (kp 7))], []⟩⟩]] none .nil .nil) .nil)) .nil) .nil))) .nil) .nil)) .nil)))) func81 ⟨⟨qd8, trivial⟩, trivial⟩
def qcK (s : yB4) : Option (Bool) :=
 (qdF (s.1, (s.2.1, (s.2.2.1, (s.2.2.2.1, (s.2.2.2.2.1, (s.2.2.2.2.2.1, s.2.2.2.2.2.2))))))).bind fun r =>
 some (!r)
def qet : Fun :=
 ⟨80, 1, 1,
 ⟨[(0, dd tT0)], [], []⟩,
 ⟨[(0, bb)], [], []⟩,
 fun x => qcK x⟩
theorem qgQ : FO qet := fi [] [qf0] 6 [] .nil func80 ⟨⟨qiZ, trivial⟩, trivial⟩
def qah (s : yB2) (f : (List UInt8 × Int × Int) × Unit → Option Bool) (v : Int) : Option (Int ⊕ (Unit ⊕ Int)) :=
 bif decide (v < (s.length : Int)) then (
 gd (inB v s.length) <|
 (f (s.getD v.toNat ([], (0, 0)), ())).bind fun r =>
 bif r then (
 some (.inr (.inr v)))
 else (
 some (.inl (wi64 (v + 1)))))
 else (
 some (.inr (.inl ())))
def qaq (s : yB2) (f : (List UInt8 × Int × Int) × Unit → Option Bool) : Option (Int) :=
 (iter (fun x => qah s f x) 0).bind fun s2 =>
 s2.elim (fun s3 =>
 some (-1))
 (fun s4 =>
 some s4)
def qaB : Fun :=
 ⟨49, 2, 1,
 ⟨r28_, [], []⟩,
 ⟨[(0, ii)], [], []⟩,
 fun x => qaq x.1 x.2⟩
theorem qbf : FO qaB := fi [] [] 19 [] ((nn (mm (nn (mm (.mk [] (some (⟨r20_, [], []⟩, [⟨.x 0, ⟨[], [], []⟩⟩, ⟨.r, ⟨[(4, ii)], [], []⟩⟩])) .nil .nil) .nil)) .nil))) func49 ⟨trivial, trivial⟩
def qat (s : yB2) (f : (List UInt8 × Int × Int) × Unit → Option Bool) : Option (Bool) :=
 (qaq s f).bind fun r =>
 some (decide (0 ≤ r))
def qa1 : Fun :=
 ⟨82, 2, 1,
 ⟨r28_, [], []⟩,
 ⟨[(0, bb)], [], []⟩,
 fun x => qat x.1 x.2⟩
theorem qb8 : FO qa1 := fi [] [qaB] 9 [] .nil func82 ⟨⟨qbf, trivial⟩, trivial⟩
def qcL (p : List UInt8 × Int × Int) : Option (Bool) :=
 (qbb p.2.2 0 100000000).bind fun r =>
 some (!r)
def qeu : Fun :=
 ⟨83, 1, 1,
 ⟨[(0, dd (.pair (.str) tT2))], [], []⟩,
 ⟨[(0, bb)], [], []⟩,
 fun x => qcL x⟩
theorem qgR : FO qeu := fi [] [qc6] 7 [] .nil func83 ⟨⟨qd8, trivial⟩, trivial⟩
def qan (s : List yB1) (f : yB1 × Unit → Option Bool) : Option (Bool) :=
 (qae s f).bind fun r =>
 some (decide (0 ≤ r))
def qaK : Fun :=
 ⟨85, 2, 1,
 ⟨r25_, [], []⟩,
 ⟨[(0, bb)], [], []⟩,
 fun x => qan x.1 x.2⟩
theorem qbF : FO qaK := fi [] [qax] 9 [] .nil func85 ⟨⟨qaQ, trivial⟩, trivial⟩
def qcM (s : yB1) : Option (Bool) :=
 (qbb s.2.2.1 0 100000000).bind fun r =>
 bif !r then (
 some true)
 else (
 (qbb s.2.2.2.1 0 100000).bind fun r2 =>
 bif !r2 then (
 some true)
 else (
 (qbb s.2.2.2.2 0 100000000).bind fun r3 =>
 some (!r3)))
def qev : Fun :=
 ⟨86, 1, 1,
 ⟨[(0, dd tT1)], [], []⟩,
 ⟨[(0, bb)], [], []⟩,
 fun x => qcM x⟩
theorem qgS : FO qev := fi [] [qc6] 19 [] .nil func86 ⟨⟨qd8, trivial⟩, trivial⟩
def qct (n : yB0) : Option (Bool) :=
 (qag n.2.1 (fun h => (qcK h.1).bind fun y => some y)).bind fun r =>
 bif r then (
 some false)
 else (
 (qat n.2.2.1 (fun h2 => (qcL h2.1).bind fun y => some y)).bind fun r2 =>
 bif r2 then (
 some false)
 else (
 (qan n.2.2.2.1 (fun h3 => (qcM h3.1).bind fun y => some y)).bind fun r3 =>
 bif r3 then (
 some false)
 else (
 (qbb n.2.2.2.2.1 (-100000) 100000000).bind fun r4 =>
 bif r4 then (
 (qbb n.2.2.2.2.2 0 100).bind fun r5 =>
 some r5)
 else (
 some false))))
def qe6 : Fun :=
 ⟨46, 1, 1,
 ⟨r1_, [], []⟩,
 ⟨[(0, bb)], [], []⟩,
 fun x => qct x⟩
theorem qhF : FO qe6 := fi [] [qas, qet, qa1, qeu, qaK, qev, qc6] 20 [] .nil func46 ⟨⟨qaJ, qgQ, qb8, qgR, qbF, qgS, qd8, trivial⟩, trivial⟩
def qcN (r2 : List (List UInt8) × List (List UInt8) × List (List UInt8) × List (List UInt8)) (v : Int) : Option (Int ⊕ (Unit ⊕ Int)) :=
 bif decide (v < 4) then (
 gd (inB v 4) <|
 (qak ([r2.1, r2.2.1, r2.2.2.1, r2.2.2.2].getD v.toNat []) (fun h => (qbJ h.1).bind fun y => some y)).bind fun r3 =>
 bif r3 then (
 some (.inr (.inr 3)))
 else (
 some (.inl (wi64 (v + 1)))))
 else (
 some (.inr (.inl ())))
def qa3 (n : yB0) : Option (Int) :=
 (qcr (n.1, (n.2.1, (n.2.2.1, (n.2.2.2.1, (n.2.2.2.2.1, n.2.2.2.2.2)))))).bind fun r =>
 bif !r then (
 some 4)
 else (
 (qbO (n.1, (n.2.1, (n.2.2.1, (n.2.2.2.1, (n.2.2.2.2.1, n.2.2.2.2.2)))))).bind fun r2 =>
 (iter (fun x => qcN r2 x) 0).bind fun s =>
 s.elim (fun s2 =>
 (qc3 (n.1, (n.2.1, (n.2.2.1, (n.2.2.2.1, (n.2.2.2.2.1, n.2.2.2.2.2)))))).bind fun r4 =>
 bif r4 then (
 some 7)
 else (
 (qc5 (n.1, (n.2.1, (n.2.2.1, (n.2.2.2.1, (n.2.2.2.2.1, n.2.2.2.2.2)))))).bind fun r5 =>
 bif !r5 then (
 some 8)
 else (
 (qct (n.1, (n.2.1, (n.2.2.1, (n.2.2.2.1, (n.2.2.2.2.1, n.2.2.2.2.2)))))).bind fun r6 =>
 bif !r6 then (
 some 9)
 else (
 some 0))))
 (fun s3 =>
 some s3))
def qcO : Fun :=
 ⟨18, 1, 1,
 ⟨r1_, [], []⟩,
 ⟨[(0, ii)], [], []⟩,
 fun x => qa3 x⟩
theorem qdQ : FO qcO := fi [] [qe5, qdP, qbi, qeM, qfz, qfA, qe6] 27 [] ((nn (nn (mm (nn (mm (.mk [] (some (⟨[(1, pt 32 0), (9, kk), (10, ii)], v11_, []⟩, [⟨.x 0, ⟨[(1, pt 32 0)], v11_, []⟩⟩, ⟨.r, ⟨[(2, ii)], [], []⟩⟩])) .nil .nil) .nil)) .nil)))) func18 ⟨⟨qhE, qfy, qcs, qhi, qhS, qhT, qhF, trivial⟩, trivial⟩
def qd9 (s : List (List UInt8)) : Option (List (List UInt8)) :=
 bif Nat.beq s.length 0 then (bothO (
 some []) (
 gd (fits (0 + s.length) 16) <|
 some ([] ++ s)))
 else (
 gd (fits (0 + s.length) 16) <|
 some ([] ++ s))
def qao : Fun :=
 ⟨87, 1, 1,
 ⟨r40_, [], []⟩,
 ⟨[(0, ow 0)], [], [(0, .arr 9 (.str))]⟩,
 fun x => qd9 x⟩
theorem qdr : FO qao := fi [5] [] 8 [] .nil func87 ⟨trivial, trivial⟩
def qbv (s : List (List UInt8)) : Option (List (List UInt8)) := gd (fits (0 + s.length) 16) (some ([] ++ s))
def qbZ : Fun := { f := qao.f, np := qao.np, nr := qao.nr, ji := qao.ji, jo := qao.jo, tw := fun x => qbv x }
theorem qdR : FO qbZ := qdr.le fun x => qqe x _
def qf1 : Fun := qpi 88
theorem qi0 : FO qf1 := qrm ⟨_, func88, (by kernel_rfl), rfl⟩ (by kernel_rfl) strconv_Itoa (by unfold globs; exact .tail _ (.tail _ (.head _))) (by kernel_rfl) (by kernel_rfl)
def qb3 (numbers : List Int) (v : Int) (out : List (List UInt8)) : Option ((Int × List (List UInt8)) ⊕ (List (List UInt8))) :=
 bif decide (v < (numbers.length : Int)) then (
 gd (inB v numbers.length) <|
 (itoaT (numbers.getD v.toNat 0)).bind fun r2 =>
 gd (fits (out.length + 1) 16) <|
 some (.inl (wi64 (v + 1), out ++ [r2])))
 else (
 some (.inr out))
def qcb (names : List (List UInt8)) (numbers : List Int) : Option (List (List UInt8)) :=
 (qbv names).bind fun r =>
 (iter (fun x => qb3 numbers x.1 x.2) (0, r)).bind fun s =>
 some s
def qgy : Fun :=
 ⟨47, 2, 1,
 ⟨[(0, dd (.sl (.str))), (1, dd (.sl I6))], [], []⟩,
 ⟨r40_, [], []⟩,
 fun x => qcb x.1 x.2⟩
theorem qjb : FO qgy := fi [] [qbZ, qf1] 23 [] ((nn (nn (mm (nn (mm (.mk [] (some (⟨[(5, ow 107), (10, kk), (11, kk), (12, ii)], [], [(107, .arr 9 (.str))]⟩, [⟨.x 0, ⟨[(5, ow 107)], [], [(107, .arr 9 (.str))]⟩⟩])) .nil .nil) .nil)) .nil)))) func47 ⟨⟨qdR, qi0, trivial⟩, trivial⟩
def qc8 (s : List UInt8) (v : Int) : Option (Int ⊕ (Unit ⊕ Bool)) :=
 bif decide (v < (s.length : Int)) then (
 Option.bind (α := Bool) (
 gd (inB v s.length) <|
 bif decide ((Int.ofNat (s.getD v.toNat 0).toNat) < 33) then (
 some true)
 else (
 gd (inB v s.length) <|
 some (decide (126 < (Int.ofNat (s.getD v.toNat 0).toNat))))) fun s2 =>
 bif s2 then (
 some (.inr (.inr false)))
 else (
 some (.inl (wi64 (v + 1)))))
 else (
 some (.inr (.inl ())))
def qgl (s : List UInt8) : Option (Bool) :=
 (iter (fun x => qc8 s x) 0).bind fun s3 =>
 s3.elim (fun s4 =>
 some (!decide (s = [])))
 (fun s5 =>
 some s5)
def qhl : Fun :=
 ⟨99, 1, 1,
 ⟨[(0, ss)], [], []⟩,
 ⟨[(0, bb)], [], []⟩,
 fun x => qgl x⟩
theorem qkc : FO qhl := fi [] [] 22 [] ((nn (mm (nn (mm (.mk [] (some (⟨[(0, kk), (5, kk), (6, ii)], [], []⟩, [⟨.x 0, ⟨[(0, kk)], [], []⟩⟩, ⟨.r, ⟨[(2, bb)], [], []⟩⟩])) (nn (nn (mm (mm (nn (mm (.mk [.join [⟨.n, ⟨[(0, kk), (5, kk), (6, kk), (18, bb)], [], []⟩⟩]] none .nil .nil) .nil)) .nil) .nil))) .nil) .nil)) .nil))) func99 ⟨trivial, trivial⟩
def qcu (l : List (List UInt8)) (v : Int) : Option (Int ⊕ (Unit ⊕ Bool)) :=
 bif decide (v < (l.length : Int)) then (
 gd (inB v l.length) <|
 (qgl (l.getD v.toNat [])).bind fun r =>
 bif !r then (
 some (.inr (.inr false)))
 else (
 some (.inl (wi64 (v + 1)))))
 else (
 some (.inr (.inl ())))
def qds (l : List (List UInt8)) : Option (Bool) :=
 Option.bind (α := Bool) (
 bif decide ((l.length : Int) < 1) then (
 some true)
 else (
 some (decide (16 < (l.length : Int))))) fun s =>
 bif s then (
 some false)
 else (
 (iter (fun x => qcu l x) 0).bind fun s2 =>
 s2.elim (fun s3 =>
 gd (inB 0 l.length) <|
 gd (inB 0 (l.getD 0 []).length) <|
 some (!decide ((Int.ofNat ((l.getD 0 []).getD 0 0).toNat) = 35)))
 (fun s4 =>
 some s4))
def qdz : Fun :=
 ⟨68, 1, 1,
 ⟨r40_, [], []⟩,
 ⟨[(0, bb)], [], []⟩,
 fun x => qds x⟩
theorem qeT : FO qdz := fi [] [qhl] 28 [] ((nn (mm (mm (.mk [.join [⟨.n, ⟨[(0, kk), (12, bb)], [], []⟩⟩]] none .nil .nil) .nil) (mm (nn (mm (.mk [] (some (⟨[(0, kk), (13, kk), (14, kk), (15, ii)], [], []⟩, [⟨.x 0, ⟨[(0, kk)], [], []⟩⟩, ⟨.r, ⟨[(2, bb)], [], []⟩⟩])) .nil .nil) .nil)) .nil)))) func68 ⟨⟨qkc, trivial⟩, trivial⟩
def qew : Fun := qpj 90
theorem qf2 : FO qew := qrn ⟨_, func90, (by kernel_rfl), rfl⟩ strings_Join_none strings_Join
def ccT (l : List Int) : Option (List Int) := some l
def qb6 : Fun := funCC 110 117 5
theorem qea : FO qb6 := cc_ok ⟨_, func110, (by kernel_rfl), rfl⟩ cc_fresh cc_used
def qbq (s : List UInt8) (b : List Int) : Option (Int × Bool × List Int) :=
 (ccT b).bind fun r =>
 gd (Nat.blt 0 (r.length + s.length) && fits (r.length + s.length) 1) <|
 some ((s.length : Int), false, r ++ qbN s)
def qbM : Fun :=
 ⟨89, 2, 2,
 ⟨[(0, pt 0 0), (1, ss)], v37_, a48_⟩,
 ⟨[(0, ii), (1, dd (.err))], [(0, 117, [.ptr 0 0, .own 2])], [(2, .arr 5 (.int .u8))]⟩,
 fun x => qbq x.1 x.2⟩
theorem qdG : FO qbM := fi [] [qb6] 19 [] .nil func89 ⟨⟨qea, trivial⟩, trivial⟩
def qcS (b : List Int) : Option (Int × List Int) :=
 some ((b.length : Int), b)
def qdk : Fun :=
 ⟨91, 1, 1,
 ⟨[(0, pt 0 0)], v37_, a48_⟩,
 ⟨[(0, ii)], v37_, a48_⟩,
 fun x => qcS x⟩
theorem qfH : FO qdk := fi [] [] 8 [] .nil func91 ⟨trivial, trivial⟩
def qb5 (b : List Int) : Option (List UInt8) :=
 gd (Nat.blt 0 b.length) <|
 gd (Nat.blt 0 b.length && (decide ((b.length : Int) = (b.length : Int)) && decide (qbN (qbh b) = b))) <|
 some (qbh b)
def qcv : Fun :=
 ⟨92, 1, 1,
 ⟨[(0, pt 0 0)], v37_, a48_⟩,
 ⟨[(0, ss)], [], []⟩,
 fun x => qb5 x⟩
theorem qeU : FO qcv := fi [] [] 14 [] .nil func92 ⟨trivial, trivial⟩
def qcm : Option (List UInt8) :=
 gd (decide (0 = 0)) <|
 some []
def qb0 : Fun :=
 ⟨92, 1, 1,
 ⟨[(0, pt 0 0)], v49_, []⟩,
 ⟨[(0, ss)], [], []⟩,
 fun x => qcm⟩
theorem qdS : FO qb0 := fi [] [] 14 [] .nil func92 ⟨trivial, trivial⟩
def qc9 : Option (Int) :=
 some 0
def qcn : Fun :=
 ⟨91, 1, 1,
 ⟨[(0, pt 0 0)], v49_, []⟩,
 ⟨[(0, ii)], v49_, []⟩,
 fun x => qc9⟩
theorem qeE : FO qcn := fi [] [] 8 [] .nil func91 ⟨trivial, trivial⟩
def qjc (l : List (List (List UInt8))) (v : Int) (n2 : Int) (v2 : Int) : Option ((Int × Int) ⊕ Int) :=
 bif decide (v2 < ((l.getD v.toNat []).length : Int)) then (
 gd (inB v2 (l.getD v.toNat []).length) <|
 Option.bind (α := Int) (
 bif decide (32768 < wi64 (n2 + (((l.getD v.toNat []).getD v2.toNat []).length : Int))) then (
 some 32768)
 else (
 some (wi64 (n2 + (((l.getD v.toNat []).getD v2.toNat []).length : Int))))) fun s2 =>
 some (.inl (s2, wi64 (v2 + 1))))
 else (
 some (.inr n2))
def qgz (l : List (List (List UInt8))) (n : Int) (v : Int) : Option ((Int × Int) ⊕ (Int ⊕ (List UInt8 × Int))) :=
 bif decide (v < (l.length : Int)) then (
 gd (inB v l.length) <|
 Option.bind (α := Bool) (
 bif decide (0 < ((l.getD v.toNat []).length : Int)) then (
 (qds (l.getD v.toNat [])).bind fun r =>
 some (!r))
 else (
 some false)) fun s =>
 bif s then (
 some (.inr (.inr ([], 3))))
 else (
 (iter (fun x => qjc l v x.1 x.2) (wi64 (n + ((l.getD v.toNat []).length : Int)), 0)).bind fun s3 =>
 some (.inl (s3, wi64 (v + 1)))))
 else (
 some (.inr (.inl n)))
def qgA (l : List (List (List UInt8))) (s5 : Int) (v3 : Int) : Option (Int ⊕ Unit) :=
 bif decide (v3 < (l.length : Int)) then (
 gd (inB v3 l.length) <|
 Option.bind (α := Unit) (
 bif decide (s5 < 32768) then (
 (joinT (l.getD v3.toNat []) [32]).bind fun r2 =>
 gd (Nat.ble (r2.length + [10].length) 9223372036854775807) <|
 none)
 else (
 some ())) fun s7 =>
 some (.inl (wi64 (v3 + 1))))
 else (
 some (.inr ()))
def qfm (l : List (List (List UInt8))) : Option (List UInt8 × Int) :=
 bif decide (400 < (l.length : Int)) then (
 some ([], 4))
 else (
 (iter (fun x2 => qgz l x2.1 x2.2) (0, 0)).bind fun s4 =>
 s4.elim (fun s5 =>
 (iter (fun x3 => qgA l s5 x3) 0).bind fun s8 =>
 Option.bind (α := Bool) (
 bif decide (s5 = 32768) then (
 some true)
 else (
 (qc9).bind fun r3 =>
 some (decide (16384 < r3)))) fun s9 =>
 bif s9 then (
 some ([], 4))
 else (
 (qcm).bind fun r4 =>
 some (r4, 0)))
 (fun s6 =>
 some (s6.1, s6.2)))
def qbD : Fun :=
 ⟨48, 1, 2,
 ⟨[(0, dd (.sl (.sl (.str))))], [], []⟩,
 ⟨[(0, ss), (1, ii)], [], []⟩,
 fun x => qfm x⟩
theorem qjd : FO qbD := fi [] [qdz, qew, qcn, qb0] 67 [] ((nn (nn (nn (mm (nn (mm (.mk [] (some (⟨[(0, kk), (4, ii), (15, kk), (16, kk), (17, ii)], [], []⟩, [⟨.x 0, ⟨[(0, kk), (4, ii)], [], []⟩⟩, ⟨.r, ⟨[(2, ss), (3, ii)], [], []⟩⟩])) (nn (nn (mm (mm (nn (mm (mm (.mk [.join [⟨.n, ⟨r36_, [], []⟩⟩]] none .nil .nil) .nil) (nn (nn (mm (.mk [] (some (⟨r29_, [], []⟩, [⟨.x 2, ⟨[(0, kk), (4, ii), (15, kk), (16, kk), (17, kk)], [], []⟩⟩])) (nn (nn (mm (mm (nn (nn (nn (.mk [.join [⟨.n, ⟨r30_, [], []⟩⟩]] none .nil .nil)))) .nil) .nil))) .nil) .nil))))) .nil) .nil))) .nil) .nil)) (nn (mm (nn (mm (.mk [] (some (⟨r42_, [(160, 117, [.keep, .nil])], []⟩, [⟨.x 4, ⟨[(4, kk), (9, pt 160 0)], [(160, 117, [.keep, .nil])], []⟩⟩])) (nn (nn (mm (mm (nn (nn (.mk [.join [⟨.n, ⟨r43_, [(160, 117, [.keep, .nil])], []⟩⟩]] none .nil .nil))) .nil) .nil))) .nil) .nil)) (mm (mm (.mk [.join [⟨.n, ⟨[(9, pt 160 0), (65, bb)], [(160, 117, [.nptr 160 0, .nil])], []⟩⟩]] none .nil .nil) .nil) .nil)))))))) func48 ⟨⟨qeT, qf2, qeE, qdS, trivial⟩, trivial⟩
def qb4 (l : List (List (List UInt8))) (v : Int) (n2 : Int) (v2 : Int) : Option ((Int × Int) ⊕ Int) :=
 bif decide (v2 < ((l.getD v.toNat []).length : Int)) then (
 gd (inB v2 (l.getD v.toNat []).length) <|
 Option.bind (α := Int) (
 bif decide (32768 < wi64 (n2 + (((l.getD v.toNat []).getD v2.toNat []).length : Int))) then (
 some 32768)
 else (
 some (wi64 (n2 + (((l.getD v.toNat []).getD v2.toNat []).length : Int))))) fun s2 =>
 some (.inl (s2, wi64 (v2 + 1))))
 else (
 some (.inr n2))
def qa4 (l : List (List (List UInt8))) (n : Int) (v : Int) : Option ((Int × Int) ⊕ (Int ⊕ (List UInt8 × Int))) :=
 bif decide (v < (l.length : Int)) then (
 gd (inB v l.length) <|
 Option.bind (α := Bool) (
 bif decide (0 < ((l.getD v.toNat []).length : Int)) then (
 (qds (l.getD v.toNat [])).bind fun r =>
 some (!r))
 else (
 some false)) fun s =>
 bif s then (
 some (.inr (.inr ([], 3))))
 else (
 (iter (fun x => qb4 l v x.1 x.2) (wi64 (n + ((l.getD v.toNat []).length : Int)), 0)).bind fun s3 =>
 some (.inl (s3, wi64 (v + 1)))))
 else (
 some (.inr (.inl n)))
def qay (l : List (List (List UInt8))) (s5 : Int) (v3 : Int) (b : List Int) : Option ((Int × List Int) ⊕ (List Int)) :=
 bif decide (v3 < (l.length : Int)) then (
 gd (inB v3 l.length) <|
 Option.bind (α := List Int) (
 bif decide (s5 < 32768) then (
 (joinT (l.getD v3.toNat []) [32]).bind fun r2 =>
 gd (Nat.ble (r2.length + [10].length) 9223372036854775807) <|
 (qbq (r2 ++ [10]) b).bind fun r3 =>
 some r3.2.2)
 else (
 some b)) fun s7 =>
 some (.inl (wi64 (v3 + 1), s7)))
 else (
 some (.inr b))
def qfn (l : List (List (List UInt8))) : Option (List UInt8 × Int) :=
 bif decide (400 < (l.length : Int)) then (
 some ([], 4))
 else (
 (iter (fun x2 => qa4 l x2.1 x2.2) (0, 0)).bind fun s4 =>
 s4.elim (fun s5 =>
 (iter (fun x3 => qay l s5 x3.1 x3.2) (0, [])).bind fun s8 =>
 Option.bind (α := Bool × List Int) (
 bif decide (s5 = 32768) then (
 some (true, s8))
 else (
 (qcS s8).bind fun r4 =>
 some (decide (16384 < r4.1), r4.2))) fun s9 =>
 bif s9.1 then (
 some ([], 4))
 else (
 (qb5 s9.2).bind fun r5 =>
 some (r5, 0)))
 (fun s6 =>
 some (s6.1, s6.2)))
def qje : Fun :=
 ⟨48, 1, 2,
 ⟨[(0, dd (.sl (.sl (.str))))], [], []⟩,
 ⟨[(0, ss), (1, ii)], [], []⟩,
 fun x => qfn x⟩
theorem qjf : FO qje := fi [] [qdz, qew, qbM, qdk, qcv] 67 [] ((nn (nn (nn (mm (nn (mm (.mk [] (some (⟨[(0, kk), (4, ii), (15, kk), (16, kk), (17, ii)], [], []⟩, [⟨.x 0, ⟨[(0, kk), (4, ii)], [], []⟩⟩, ⟨.r, ⟨[(2, ss), (3, ii)], [], []⟩⟩])) (nn (nn (mm (mm (nn (mm (mm (.mk [.join [⟨.n, ⟨r36_, [], []⟩⟩]] none .nil .nil) .nil) (nn (nn (mm (.mk [] (some (⟨r29_, [], []⟩, [⟨.x 2, ⟨[(0, kk), (4, ii), (15, kk), (16, kk), (17, kk)], [], []⟩⟩])) (nn (nn (mm (mm (nn (nn (nn (.mk [.join [⟨.n, ⟨r30_, [], []⟩⟩]] none .nil .nil)))) .nil) .nil))) .nil) .nil))))) .nil) .nil))) .nil) .nil)) (nn (mm (nn (mm (.mk [] (some (⟨r42_, v31_, a44_⟩, [⟨.x 4, ⟨[(4, kk), (9, pt 160 0)], v31_, a44_⟩⟩])) (nn (nn (mm (mm (nn (nn (.mk [.join [⟨.n, ⟨r43_, v31_, a44_⟩⟩]] none .nil .nil))) .nil) .nil))) .nil) .nil)) (mm (mm (.mk [.join [⟨.n, ⟨[(9, pt 160 0), (65, bb)], v31_, a44_⟩⟩]] none .nil .nil) .nil) .nil)))))))) func48 ⟨⟨qeT, qf2, qdG, qfH, qeU, trivial⟩, trivial⟩
def qe7 (l : List (List (List UInt8))) : Option (List UInt8 × Int) := bif qo2 l then qfm l else qfn l
def qhm : Fun := { f := qbD.f, np := qbD.np, nr := qbD.nr, ji := qbD.ji, jo := qbD.jo, tw := fun x => qe7 x }
theorem qkd : FO qhm := FunOk.bif (e0 := qbD) qjd (c := fun x => qo2 x) (tw := fun x => qfn x) qjf
def qbk (n : yB0) (v : Int) (out : List (List (List UInt8))) : Option ((Int × List (List (List UInt8))) ⊕ (List (List (List UInt8)))) :=
 bif decide (v < (n.1.length : Int)) then (
 gd (inB v n.1.length) <|
 gd (fits (out.length + 1) 24) <|
 some (.inl (wi64 (v + 1), out ++ [[[110, 111, 100, 101], n.1.getD v.toNat []]])))
 else (
 some (.inr out))
def qbl (n : yB0) (v2 : Int) (v3 : Int) (out3 : List (List (List UInt8))) : Option ((Int × List (List (List UInt8))) ⊕ (List (List (List UInt8)))) :=
 bif decide (v3 < ((((((((n.2.1.getD v2.toNat ([], (0, (0, (0, (0, (0, []))))))).2).2).2).2).2).2).length : Int)) then (
 gd (inB v3 (((((((n.2.1.getD v2.toNat ([], (0, (0, (0, (0, (0, []))))))).2).2).2).2).2).2).length) <|
 (qcb ([[112, 111, 105, 110, 116]] : List (List UInt8)) [((((((((n.2.1.getD v2.toNat ([], (0, (0, (0, (0, (0, []))))))).2).2).2).2).2).2).getD v3.toNat (0, (0, 0))).1, (((((((((n.2.1.getD v2.toNat ([], (0, (0, (0, (0, (0, []))))))).2).2).2).2).2).2).getD v3.toNat (0, (0, 0))).2).1, (((((((((n.2.1.getD v2.toNat ([], (0, (0, (0, (0, (0, []))))))).2).2).2).2).2).2).getD v3.toNat (0, (0, 0))).2).2]).bind fun r4 =>
 gd (fits (out3.length + 1) 24) <|
 some (.inl (wi64 (v3 + 1), out3 ++ [r4])))
 else (
 some (.inr out3))
def qbm (n : yB0) (v2 : Int) (out2 : List (List (List UInt8))) : Option ((Int × List (List (List UInt8))) ⊕ (List (List (List UInt8)))) :=
 bif decide (v2 < (n.2.1.length : Int)) then (
 gd (inB v2 n.2.1.length) <|
 gd (inB (((n.2.1.getD v2.toNat ([], (0, (0, (0, (0, (0, []))))))).2).1) n.1.length) <|
 gd (inB ((((n.2.1.getD v2.toNat ([], (0, (0, (0, (0, (0, []))))))).2).2).1) n.1.length) <|
 (qcb [[115, 101, 103, 109, 101, 110, 116], (n.2.1.getD v2.toNat ([], (0, (0, (0, (0, (0, []))))))).1, n.1.getD (((n.2.1.getD v2.toNat ([], (0, (0, (0, (0, (0, []))))))).2).1).toNat [], n.1.getD ((((n.2.1.getD v2.toNat ([], (0, (0, (0, (0, (0, []))))))).2).2).1).toNat []] [((((n.2.1.getD v2.toNat ([], (0, (0, (0, (0, (0, []))))))).2).2).2).1, (((((n.2.1.getD v2.toNat ([], (0, (0, (0, (0, (0, []))))))).2).2).2).2).1, ((((((n.2.1.getD v2.toNat ([], (0, (0, (0, (0, (0, []))))))).2).2).2).2).2).1]).bind fun r3 =>
 gd (fits (out2.length + 1) 24) <|
 (iter (fun x2 => qbl n v2 x2.1 x2.2) (0, out2 ++ [r3])).bind fun s2 =>
 some (.inl (wi64 (v2 + 1), s2)))
 else (
 some (.inr out2))
def qbn (n : yB0) (v4 : Int) (out4 : List (List (List UInt8))) : Option ((Int × List (List (List UInt8))) ⊕ (List (List (List UInt8)))) :=
 bif decide (v4 < (n.2.2.1.length : Int)) then (
 gd (inB v4 n.2.2.1.length) <|
 gd (inB (((n.2.2.1.getD v4.toNat ([], (0, 0))).2).1) n.1.length) <|
 (qcb [[112, 111, 114, 116], (n.2.2.1.getD v4.toNat ([], (0, 0))).1, n.1.getD (((n.2.2.1.getD v4.toNat ([], (0, 0))).2).1).toNat []] [((n.2.2.1.getD v4.toNat ([], (0, 0))).2).2]).bind fun r5 =>
 gd (fits (out4.length + 1) 24) <|
 some (.inl (wi64 (v4 + 1), out4 ++ [r5])))
 else (
 some (.inr out4))
def qbo (n : yB0) (v5 : Int) (out5 : List (List (List UInt8))) : Option ((Int × List (List (List UInt8))) ⊕ (List (List (List UInt8)))) :=
 bif decide (v5 < (n.2.2.2.1.length : Int)) then (
 gd (inB v5 n.2.2.2.1.length) <|
 gd (inB (((n.2.2.2.1.getD v5.toNat ([], (0, (0, (0, 0))))).2).1) n.1.length) <|
 (qcb [[115, 116, 97, 116, 105, 111, 110], (n.2.2.2.1.getD v5.toNat ([], (0, (0, (0, 0))))).1, n.1.getD (((n.2.2.2.1.getD v5.toNat ([], (0, (0, (0, 0))))).2).1).toNat []] [(((n.2.2.2.1.getD v5.toNat ([], (0, (0, (0, 0))))).2).2).1, ((((n.2.2.2.1.getD v5.toNat ([], (0, (0, (0, 0))))).2).2).2).1, ((((n.2.2.2.1.getD v5.toNat ([], (0, (0, (0, 0))))).2).2).2).2]).bind fun r6 =>
 gd (fits (out5.length + 1) 24) <|
 some (.inl (wi64 (v5 + 1), out5 ++ [r6])))
 else (
 some (.inr out5))
def qcw (n : yB0) : Option (List UInt8 × Int) :=
 (qa3 (n.1, (n.2.1, (n.2.2.1, (n.2.2.2.1, (n.2.2.2.2.1, n.2.2.2.2.2)))))).bind fun r =>
 bif !decide (r = 0) then (
 some ([], r))
 else (
 (qcb ([[110, 101, 116, 119, 111, 114, 107]] : List (List UInt8)) [n.2.2.2.2.1, n.2.2.2.2.2]).bind fun r2 =>
 (iter (fun x => qbk n x.1 x.2) (0, [r2])).bind fun s =>
 (iter (fun x3 => qbm n x3.1 x3.2) (0, s)).bind fun s3 =>
 (iter (fun x4 => qbn n x4.1 x4.2) (0, s3)).bind fun s4 =>
 (iter (fun x5 => qbo n x5.1 x5.2) (0, s4)).bind fun s5 =>
 (qe7 s5).bind fun r7 =>
 some (r7.1, r7.2))
def qe8 : Fun :=
 ⟨19, 1, 2,
 ⟨r1_, [], []⟩,
 ⟨[(0, ss), (1, ii)], [], []⟩,
 fun x => qcw x⟩
theorem qhG : FO qe8 := fi [28] [qcO, qgy, qhm] 152 [] ((nn (nn (nn (mm (nn (mm (.mk [] (some (⟨[(1, pt 32 0), (5, ow 107), (30, kk), (31, kk), (32, ii)], v11_, a12_⟩, [⟨.x 0, ⟨[(1, pt 32 0), (5, ow 107)], v11_, a12_⟩⟩])) .nil .nil) .nil)) (mm (nn (mm (.mk [] (some (⟨[(1, pt 32 0), (5, ow 107), (43, kk), (44, kk), (45, ii)], v11_, a12_⟩, [⟨.x 2, ⟨[(1, pt 32 0), (5, ow 107)], v11_, a12_⟩⟩])) (nn (nn (mm (mm (nn (nn (nn (mm (.mk [] (some (⟨[(1, pt 32 0), (5, ow 107), (43, kk), (44, kk), (45, kk), (76, kk), (77, kk), (78, ii)], v11_, a12_⟩, [⟨.x 4, ⟨[(1, pt 32 0), (5, ow 107), (43, kk), (44, kk), (45, kk)], v11_, a12_⟩⟩])) .nil .nil) .nil)))) .nil) .nil))) .nil) .nil)) (mm (nn (mm (.mk [] (some (⟨[(1, pt 32 0), (5, ow 107), (97, kk), (98, kk), (99, ii)], v11_, a12_⟩, [⟨.x 6, ⟨[(1, pt 32 0), (5, ow 107)], v11_, a12_⟩⟩])) .nil .nil) .nil)) (mm (nn (mm (.mk [] (some (⟨[(1, pt 32 0), (5, ow 107), (121, kk), (122, kk), (123, ii)], v11_, a12_⟩, [⟨.x 8, ⟨[(5, ow 107)], [], a12_⟩⟩])) .nil .nil) .nil)) .nil)))))))) func19 ⟨⟨qdQ, qjb, qkd, trivial⟩, trivial⟩
def qa5 (s : List UInt8) (c : Int) : Option (Int) :=
 (idxB s c).bind fun r =>
 some r
def qbz : Fun :=
 ⟨121, 2, 1,
 ⟨[(0, ss), (1, dd (.int .u8))], [], []⟩,
 ⟨[(0, ii)], [], []⟩,
 fun x => qa5 x.1 x.2⟩
theorem qda : FO qbz := fi [] [] 8 [xt138] .nil func121 ⟨trivial, ⟨xk138, trivial⟩⟩
def qaA (s : List UInt8) (substr : List UInt8) : Option (Int) :=
 Option.bind (α := Bool) (
 bif decide ((substr.length : Int) = 0) then (
 some true)
 else (
 some (decide (substr = s)))) fun s2 =>
 bif s2 then (
 some 0)
 else (
 bif decide ((substr.length : Int) = 1) then (
 gd (inB 0 substr.length) <|
 (qa5 s (Int.ofNat (substr.getD 0 0).toNat)).bind fun r =>
 some r)
 else (
 bif decide ((s.length : Int) ≤ (substr.length : Int)) then (
 some (-1))
 else (
 none)))
def qbe : Fun :=
 ⟨112, 2, 1,
 ⟨r23_, [], []⟩,
 ⟨[(0, ii)], [], []⟩,
 fun x => qaA x.1 x.2⟩
theorem qb1 : FO qbe := fi [] [qbz] 143 [] ((nn (nn (mm (mm (mm (.mk [.join [⟨.n, ⟨[(0, kk), (1, kk), (5, kk), (16, bb)], [], []⟩⟩]] none .nil .nil) .nil) .nil) .nil)))) func112 ⟨⟨qda, trivial⟩, trivial⟩
def qdb (s : List UInt8) (substr : List UInt8) : Option (Int) :=
 (qaA s substr).bind fun r =>
 some r
def qdT : Fun :=
 ⟨95, 2, 1,
 ⟨r23_, [], []⟩,
 ⟨[(0, ii)], [], []⟩,
 fun x => qdb x.1 x.2⟩
theorem qfB : FO qdT := fi [] [qbe] 8 [] .nil func95 ⟨⟨qb1, trivial⟩, trivial⟩
def qhU (substr : List UInt8) (s2 : List UInt8) (n : Int) : Option ((List UInt8 × Int) ⊕ Int) :=
 (qdb s2 substr).bind fun r2 =>
 bif decide (r2 = (-1)) then (
 some (.inr n))
 else (
 gd (cutG (some (.i64, wi64 (r2 + (substr.length : Int)))) none s2.length) <|
 some (.inl (s2.drop (wi64 (r2 + (substr.length : Int))).toNat, wi64 (n + 1))))
def qdc (s : List UInt8) (substr : List UInt8) : Option (Int) :=
 bif decide ((substr.length : Int) = 0) then (
 none)
 else (
 bif decide ((substr.length : Int) = 1) then (
 gd (inB 0 substr.length) <|
 (cntB s (Int.ofNat (substr.getD 0 0).toNat)).bind fun r =>
 some r)
 else (
 (iter (fun x => qhU substr x.1 x.2) (s, 0)).bind fun s3 =>
 some s3))
def qdU : Fun :=
 ⟨64, 2, 1,
 ⟨r23_, [], []⟩,
 ⟨[(0, ii)], [], []⟩,
 fun x => qdc x.1 x.2⟩
theorem qfC : FO qdU := fi [] [qdT] 34 [xt94] ((nn (nn (nn (nn (mm (.mk [] (some (⟨[(0, ss), (1, kk), (5, ii)], [], []⟩, [⟨.r, ⟨[(4, ii)], [], []⟩⟩])) .nil .nil) .nil)))))) func64 ⟨⟨qfB, trivial⟩, ⟨xk94, trivial⟩⟩
def qa6 (s : List UInt8) (suffix : List UInt8) : Option (Bool) :=
 bif decide ((suffix.length : Int) ≤ (s.length : Int)) then (
 gd (cutG (some (.i64, wi64 ((s.length : Int) - (suffix.length : Int)))) none s.length) <|
 some (decide (s.drop (wi64 ((s.length : Int) - (suffix.length : Int))).toNat = suffix)))
 else (
 some false)
def qbA : Fun :=
 ⟨96, 2, 1,
 ⟨r23_, [], []⟩,
 ⟨[(0, bb)], [], []⟩,
 fun x => qa6 x.1 x.2⟩
theorem qdd : FO qbA := fi [] [] 21 [] .nil func96 ⟨trivial, trivial⟩
def qaY (s : List UInt8) (suffix : List UInt8) : Option (Bool) :=
 (qa6 s suffix).bind fun r =>
 some r
def qdZ : Fun :=
 ⟨65, 2, 1,
 ⟨r23_, [], []⟩,
 ⟨[(0, bb)], [], []⟩,
 fun x => qaY x.1 x.2⟩
theorem qgq : FO qdZ := fi [] [qbA] 8 [] .nil func65 ⟨⟨qdd, trivial⟩, trivial⟩
def qbc (s : List UInt8) (sep : List UInt8) : Option (List UInt8 × List UInt8 × Bool) :=
 (qaA s sep).bind fun r =>
 bif decide (0 ≤ r) then (
 gd (cutG none (some (.i64, r)) s.length) <|
 gd (cutG (some (.i64, wi64 (r + (sep.length : Int)))) none s.length) <|
 some (s.take r.toNat, s.drop (wi64 (r + (sep.length : Int))).toNat, true))
 else (
 some (s, [], false))
def qcc : Fun :=
 ⟨97, 2, 3,
 ⟨r23_, [], []⟩,
 ⟨[(0, ss), (1, ss), (2, bb)], [], []⟩,
 fun x => qbc x.1 x.2⟩
theorem qex : FO qcc := fi [] [qbe] 23 [] .nil func97 ⟨⟨qb1, trivial⟩, trivial⟩
def qcT (s : List UInt8) (sep : List UInt8) : Option (List UInt8 × List UInt8 × Bool) :=
 (qbc s sep).bind fun r =>
 some (r.1, r.2.1, r.2.2)
def qgB : Fun :=
 ⟨66, 2, 3,
 ⟨r23_, [], []⟩,
 ⟨[(0, ss), (1, ss), (2, bb)], [], []⟩,
 fun x => qcT x.1 x.2⟩
theorem qjg : FO qgB := fi [] [qcc] 13 [] .nil func66 ⟨⟨qex, trivial⟩, trivial⟩
def qcU (s : List UInt8) (sep : List UInt8) (sepSave : Int) (s2 : Int) (s3 : List UInt8) (i : Int) (a : List (List UInt8)) : Option ((List UInt8 × Int × List (List UInt8)) ⊕ (List UInt8 × Int × List (List UInt8))) :=
 bif decide (i < wi64 ((min s2 (wi64 ((s.length : Int) + 1))) - 1)) then (
 (qdb s3 sep).bind fun r2 =>
 bif decide (r2 < 0) then (
 some (.inr (s3, i, a)))
 else (
 gd (cutG none (some (.i64, wi64 (r2 + sepSave))) s3.length) <|
 gd (inB i a.length) <|
 gd (cutG (some (.i64, wi64 (r2 + (sep.length : Int)))) none s3.length) <|
 some (.inl (s3.drop (wi64 (r2 + (sep.length : Int))).toNat, wi64 (i + 1), a.set i.toNat (s3.take (wi64 (r2 + sepSave)).toNat)))))
 else (
 some (.inr (s3, i, a)))
def qdV (s : List UInt8) (sep : List UInt8) (sepSave : Int) (n : Int) : Option (List (List UInt8)) :=
 bif decide (n = 0) then (
 some [])
 else (
 bif decide (sep = []) then (
 none)
 else (
 Option.bind (α := Int) (
 bif decide (n < 0) then (
 (qdc s sep).bind fun r =>
 some (wi64 (r + 1)))
 else (
 some n)) fun s2 =>
 gd (makeG 16 (min s2 (wi64 ((s.length : Int) + 1)))) <|
 (iter (fun x => qcU s sep sepSave s2 x.1 x.2.1 x.2.2) (s, 0, List.replicate (min s2 (wi64 ((s.length : Int) + 1))).toNat ([] : List UInt8))).bind fun s4 =>
 gd (inB s4.2.1 s4.2.2.length) <|
 gd (cutG none (some (.i64, wi64 (s4.2.1 + 1))) (s4.2.2.set s4.2.1.toNat s4.1).length) <|
 some ((s4.2.2.set s4.2.1.toNat s4.1).take (wi64 (s4.2.1 + 1)).toNat)))
def qey : Fun :=
 ⟨98, 4, 1,
 ⟨[(0, ss), (1, ss), (2, ii), (3, ii)], [], []⟩,
 ⟨r40_, [], []⟩,
 fun x => qdV x.1 x.2.1 x.2.2.1 x.2.2.2⟩
theorem qgT : FO qey := fi [] [qdU, qdT] 66 [] ((nn (nn (nn (mm (nn (.mk [.join [⟨.n, ⟨[(0, kk), (1, kk), (2, kk), (3, ii)], [], []⟩⟩]] none .nil .nil)) (nn (nn (nn (nn (mm (mm (.mk [] (some (⟨[(0, ss), (1, kk), (2, kk), (3, kk), (9, ow 512), (10, ii)], [], [(512, .arr 9 (.str))]⟩, [⟨.x 0, ⟨[(0, ss), (9, ow 512), (10, ii)], [], [(512, .arr 9 (.str))]⟩⟩])) .nil .nil) .nil) (nn (mm (.mk [.fz [9]] none .nil .nil) .nil)))))))))))) func98 ⟨⟨qfC, qfB, trivial⟩, trivial⟩
def qeb (s : List UInt8) (sep : List UInt8) : Option (List (List UInt8)) :=
 (qdV s sep 0 (-1)).bind fun r =>
 some r
def qfD : Fun :=
 ⟨67, 2, 1,
 ⟨r23_, [], []⟩,
 ⟨r40_, [], []⟩,
 fun x => qeb x.1 x.2⟩
theorem qhV : FO qfD := fi [] [qey] 8 [] .nil func67 ⟨⟨qgT, trivial⟩, trivial⟩
def qeV (text2 : List UInt8) (out : List (List (List UInt8))) : Option ((List UInt8 × List (List (List UInt8))) ⊕ ((List (List (List UInt8))) ⊕ (List (List (List UInt8)) × Int))) :=
 bif !decide (text2 = []) then (
 (qcT text2 [10]).bind fun r3 =>
 Option.bind (α := Bool × List (List (List UInt8))) (
 bif decide (r3.1 = []) then (
 some (true, out))
 else (
 gd (inB 0 r3.1.length) <|
 some (decide ((Int.ofNat (r3.1.getD 0 0).toNat) = 35), out))) fun s4 =>
 bif s4.1 then (
 gd (fits (s4.2.length + 1) 24) <|
 some (.inl (r3.2.1, s4.2 ++ [[]])))
 else (
 (qeb r3.1 [32]).bind fun r4 =>
 (qds r4).bind fun r5 =>
 bif !r5 then (
 some (.inr (.inr ([], 3))))
 else (
 gd (fits (s4.2.length + 1) 24) <|
 some (.inl (r3.2.1, s4.2 ++ [r4])))))
 else (
 some (.inr (.inl out)))
def qfo (text : List UInt8) : Option (List (List (List UInt8)) × Int) :=
 (qdc text [10]).bind fun r =>
 Option.bind (α := Bool) (
 bif !decide (text = []) then (
 (qaY text [10]).bind fun r2 =>
 some (!r2))
 else (
 some false)) fun s =>
 Option.bind (α := Int) (
 bif s then (
 some (wi64 (r + 1)))
 else (
 some r)) fun s2 =>
 Option.bind (α := Bool) (
 bif decide (16384 < (text.length : Int)) then (
 some true)
 else (
 some (decide (400 < s2)))) fun s3 =>
 bif s3 then (
 some ([], 4))
 else (
 gd ((decide (0 ≤ 0) && decide (0 ≤ s2)) && makeG 24 s2) <|
 (iter (fun x => qeV x.1 x.2) (text, List.replicate 0 ([] : List (List UInt8)))).bind fun s5 =>
 s5.elim (fun s6 =>
 some (s6, 0))
 (fun s7 =>
 some (s7.1, s7.2)))
def qgC : Fun :=
 ⟨32, 1, 2,
 ⟨[(0, ss)], [], []⟩,
 ⟨[(0, dd (.sl (.sl (.str)))), (1, ii)], [], []⟩,
 fun x => qfo x⟩
theorem qjh : FO qgC := fi [] [qdU, qdZ, qgB, qfD, qdz] 59 [] ((nn (nn (mm (mm (.mk [.join [⟨.n, ⟨[(0, kk), (4, kk), (18, bb)], [], []⟩⟩]] none .nil .nil) (.mk [.join [⟨.n, ⟨[(0, kk), (4, ii)], [], []⟩⟩]] none .nil .nil)) (mm (mm (.mk [.join [⟨.n, ⟨[(0, kk), (4, kk), (27, bb)], [], []⟩⟩]] none .nil .nil) .nil) (nn (mm (mm (.mk [] (some (⟨[(0, ss), (5, ow 107)], [], a12_⟩, [⟨.x 0, ⟨[(5, ow 107)], [], a12_⟩⟩, ⟨.r, ⟨[(2, dd (.sl (.sl (.str)))), (3, ii)], [], []⟩⟩])) (nn (mm (nn (nn (mm (mm (.mk [.join [⟨.n, ⟨[(0, kk), (5, ow 107), (6, kk), (45, bb)], [], a12_⟩⟩]] none .nil .nil) .nil) .nil))) .nil)) .nil) .nil) .nil))))))) func32 ⟨⟨qfC, qgq, qjg, qhV, qeT, trivial⟩, trivial⟩
def qaT (v : List (List UInt8)) (n : List Int) (r : Int) (r2 : Int) (r3 : Int) (r4 : List UInt8) (r5 : List (List UInt8)) (r6 : List yT0) (r7 : yB2) (r8 : List yB1) : Option yB3 :=
 gd (inB 0 n.length) <|
 gd (inB 1 n.length) <|
 some (0, n.getD 0 0, n.getD 1 0, r3, r4, r5, r6, r7, r8)
def qcx : Fun :=
 ⟨100, 3, 1,
 ⟨r18_, v5_, a0_⟩,
 ⟨[(0, ii)], v6_, a2_⟩,
 fun x => qaT x.1 x.2.1 x.2.2.1 x.2.2.2.1 x.2.2.2.2.1 x.2.2.2.2.2.1 x.2.2.2.2.2.2.1 x.2.2.2.2.2.2.2.1 x.2.2.2.2.2.2.2.2.1 x.2.2.2.2.2.2.2.2.2⟩
theorem qeW : FO qcx := fi [] [] 21 [] .nil func100 ⟨trivial, trivial⟩
def qbr (w : List (List UInt8)) (v : List Int) (r : Int) (r2 : Int) (r3 : Int) (r4 : List UInt8) (r5 : List (List UInt8)) (r6 : List yT0) (r7 : yB2) (r8 : List yB1) : Option yB3 :=
 gd (inB 0 w.length) <|
 gd (fits (r5.length + 1) 16) <|
 some (0, r, r2, r3, r4, r5 ++ [w.getD 0 []], r6, r7, r8)
def qdl : Fun :=
 ⟨101, 3, 1,
 ⟨r18_, v5_, a0_⟩,
 ⟨[(0, ii)], v6_, a2_⟩,
 fun x => qbr x.1 x.2.1 x.2.2.1 x.2.2.2.1 x.2.2.2.2.1 x.2.2.2.2.2.1 x.2.2.2.2.2.2.1 x.2.2.2.2.2.2.2.1 x.2.2.2.2.2.2.2.2.1 x.2.2.2.2.2.2.2.2.2⟩
theorem qfI : FO qdl := fi [] [] 21 [] .nil func101 ⟨trivial, trivial⟩
def qcX (n : yB0) (name : List UInt8) : Option (Int) :=
 (qal n.1 name).bind fun r =>
 some r
def qez : Fun :=
 ⟨21, 2, 1,
 ⟨r15_, [], []⟩,
 ⟨[(0, ii)], [], []⟩,
 fun x => qcX x.1 x.2⟩
theorem qf3 : FO qez := fi [] [qaI] 9 [] .nil func21 ⟨⟨qbd, trivial⟩, trivial⟩
def qaz (s : List Int) (v : Int) (v2 : Int) : Option (Int ⊕ (Unit ⊕ Int)) :=
 bif decide (v2 < (s.length : Int)) then (
 gd (inB v2 s.length) <|
 bif decide (v = s.getD v2.toNat 0) then (
 some (.inr (.inr v2)))
 else (
 some (.inl (wi64 (v2 + 1)))))
 else (
 some (.inr (.inl ())))
def qbG (s : List Int) (v : Int) : Option (Int) :=
 (iter (fun x => qaz s v x) 0).bind fun s2 =>
 s2.elim (fun s3 =>
 some (-1))
 (fun s4 =>
 some s4)
def qde : Fun :=
 ⟨141, 2, 1,
 ⟨[(0, dd (.sl I6)), (1, ii)], [], []⟩,
 ⟨[(0, ii)], [], []⟩,
 fun x => qbG x.1 x.2⟩
theorem qfp : FO qde := fi [] [] 19 [] ((nn (mm (nn (mm (.mk [] (some (⟨r20_, [], []⟩, [⟨.x 0, ⟨[], [], []⟩⟩, ⟨.r, ⟨[(4, ii)], [], []⟩⟩])) .nil .nil) .nil)) .nil))) func141 ⟨trivial, trivial⟩
def qbP (s : List Int) (v : Int) : Option (Bool) :=
 (qbG s v).bind fun r =>
 some (decide (0 ≤ r))
def qco : Fun :=
 ⟨126, 2, 1,
 ⟨[(0, dd (.sl I6)), (1, ii)], [], []⟩,
 ⟨[(0, bb)], [], []⟩,
 fun x => qbP x.1 x.2⟩
theorem qeF : FO qco := fi [] [qde] 9 [] .nil func126 ⟨⟨qfp, trivial⟩, trivial⟩
def qck (nodes : List Int) : Option (Int) :=
 (qbP nodes (-1)).bind fun r =>
 bif r then (
 some 8)
 else (
 some 0)
def qcP : Fun :=
 ⟨114, 1, 1,
 ⟨[(0, dd (.sl I6))], [], []⟩,
 ⟨[(0, ii)], [], []⟩,
 fun x => qck x⟩
theorem qdW : FO qcP := fi [] [qco] 5 [] .nil func114 ⟨⟨qeF, trivial⟩, trivial⟩
def qbE (n : List (List UInt8)) (name : List UInt8) : Option (Int) :=
 (qal n name).bind fun r =>
 some r
def qcl : Fun :=
 ⟨21, 2, 1,
 ⟨[(0, .agg [.data (.sl (.str)), .any, .any, .any, .any, .any]), (1, ss)], [], []⟩,
 ⟨[(0, ii)], [], []⟩,
 fun x => qbE x.1 x.2⟩
theorem qdt : FO qcl := fi [] [qaI] 9 [] .nil func21 ⟨⟨qbd, trivial⟩, trivial⟩
def qaU (w : List (List UInt8)) (n : List Int) (r : Int) (r2 : Int) (r3 : Int) (r4 : List UInt8) (r5 : List (List UInt8)) (r6 : List yT0) (r7 : yB2) (r8 : List yB1) : Option yB3 :=
 gd (inB 0 w.length) <|
 gd (inB 1 w.length) <|
 (qbE r5 (w.getD 1 [])).bind fun r9 =>
 gd (inB 2 w.length) <|
 (qbE r5 (w.getD 2 [])).bind fun r10 =>
 gd (inB 0 n.length) <|
 gd (inB 1 n.length) <|
 gd (inB 2 n.length) <|
 gd (fits (r6.length + 1) 80) <|
 (qck [r9, r10]).bind fun r11 =>
 some (r11, r, r2, r3, r4, r5, r6 ++ [(w.getD 0 [], (r9, (r10, (n.getD 0 0, (n.getD 1 0, (n.getD 2 0, []))))))], r7, r8)
def qcy : Fun :=
 ⟨102, 3, 1,
 ⟨r18_, v5_, a0_⟩,
 ⟨[(0, ii)], v6_, a2_⟩,
 fun x => qaU x.1 x.2.1 x.2.2.1 x.2.2.2.1 x.2.2.2.2.1 x.2.2.2.2.2.1 x.2.2.2.2.2.2.1 x.2.2.2.2.2.2.2.1 x.2.2.2.2.2.2.2.2.1 x.2.2.2.2.2.2.2.2.2⟩
theorem qeX : FO qcy := fi [6000044, 68687590904794540] [qcl, qcP] 55 [] .nil func102 ⟨⟨qdt, qdW, trivial⟩, trivial⟩
def qbg (v : List (List UInt8)) (n : List Int) (r : Int) (r2 : Int) (r3 : Int) (r4 : List UInt8) (r5 : List (List UInt8)) (r6 : List yT0) (r7 : yB2) (r8 : List yB1) : Option yB3 :=
 gd (inB (wi64 ((r6.length : Int) - 1)) r6.length) <|
 gd (inB 0 n.length) <|
 gd (inB 1 n.length) <|
 gd (inB 2 n.length) <|
 gd (fits ((((((((r6.getD ((wi64 ((r6.length : Int) - 1)).toNat) ([], (0, (0, (0, (0, (0, []))))))).2).2).2).2).2).2).length + 1) 24) <|
 gd (Nat.beq ((wi64 ((r6.length : Int) - 1)).toNat) ((wi64 ((r6.length : Int) - 1)).toNat)) <|
 some (0, r, r2, r3, r4, r5, r6.set ((wi64 ((r6.length : Int) - 1)).toNat) ((r6.getD ((wi64 ((r6.length : Int) - 1)).toNat) ([], (0, (0, (0, (0, (0, []))))))).1, (((r6.getD ((wi64 ((r6.length : Int) - 1)).toNat) ([], (0, (0, (0, (0, (0, []))))))).2).1, ((((r6.getD ((wi64 ((r6.length : Int) - 1)).toNat) ([], (0, (0, (0, (0, (0, []))))))).2).2).1, (((((r6.getD ((wi64 ((r6.length : Int) - 1)).toNat) ([], (0, (0, (0, (0, (0, []))))))).2).2).2).1, ((((((r6.getD ((wi64 ((r6.length : Int) - 1)).toNat) ([], (0, (0, (0, (0, (0, []))))))).2).2).2).2).1, (((((((r6.getD ((wi64 ((r6.length : Int) - 1)).toNat) ([], (0, (0, (0, (0, (0, []))))))).2).2).2).2).2).1, (((((((r6.getD ((wi64 ((r6.length : Int) - 1)).toNat) ([], (0, (0, (0, (0, (0, []))))))).2).2).2).2).2).2) ++ [(n.getD 0 0, (n.getD 1 0, n.getD 2 0))])))))), r7, r8)
def qdf : Fun :=
 ⟨103, 3, 1,
 ⟨r18_, v5_, a0_⟩,
 ⟨[(0, ii)], v6_, a2_⟩,
 fun x => qbg x.1 x.2.1 x.2.2.1 x.2.2.2.1 x.2.2.2.2.1 x.2.2.2.2.2.1 x.2.2.2.2.2.2.1 x.2.2.2.2.2.2.2.1 x.2.2.2.2.2.2.2.2.1 x.2.2.2.2.2.2.2.2.2⟩
theorem qfq : FO qdf := fi [] [] 40 [] .nil func103 ⟨trivial, trivial⟩
def qbs (w : List (List UInt8)) (n : List Int) (r : Int) (r2 : Int) (r3 : Int) (r4 : List UInt8) (r5 : List (List UInt8)) (r6 : List yT0) (r7 : yB2) (r8 : List yB1) : Option yB3 :=
 gd (inB 0 w.length) <|
 gd (inB 1 w.length) <|
 (qbE r5 (w.getD 1 [])).bind fun r9 =>
 gd (inB 0 n.length) <|
 gd (fits (r7.length + 1) 32) <|
 (qck [r9]).bind fun r10 =>
 some (r10, r, r2, r3, r4, r5, r6, r7 ++ [(w.getD 0 [], (r9, n.getD 0 0))], r8)
def qdm : Fun :=
 ⟨104, 3, 1,
 ⟨r18_, v5_, a0_⟩,
 ⟨[(0, ii)], v6_, a2_⟩,
 fun x => qbs x.1 x.2.1 x.2.2.1 x.2.2.2.1 x.2.2.2.2.1 x.2.2.2.2.2.1 x.2.2.2.2.2.2.1 x.2.2.2.2.2.2.2.1 x.2.2.2.2.2.2.2.2.1 x.2.2.2.2.2.2.2.2.2⟩
theorem qfJ : FO qdm := fi [] [qcl, qcP] 39 [] .nil func104 ⟨⟨qdt, qdW, trivial⟩, trivial⟩
def qaV (w : List (List UInt8)) (n : List Int) (r : Int) (r2 : Int) (r3 : Int) (r4 : List UInt8) (r5 : List (List UInt8)) (r6 : List yT0) (r7 : yB2) (r8 : List yB1) : Option yB3 :=
 gd (inB 0 w.length) <|
 gd (inB 1 w.length) <|
 (qbE r5 (w.getD 1 [])).bind fun r9 =>
 gd (inB 0 n.length) <|
 gd (inB 1 n.length) <|
 gd (inB 2 n.length) <|
 gd (fits (r8.length + 1) 48) <|
 (qck [r9]).bind fun r10 =>
 some (r10, r, r2, r3, r4, r5, r6, r7, r8 ++ [(w.getD 0 [], (r9, (n.getD 0 0, (n.getD 1 0, n.getD 2 0))))])
def qcz : Fun :=
 ⟨105, 3, 1,
 ⟨r18_, v5_, a0_⟩,
 ⟨[(0, ii)], v6_, a2_⟩,
 fun x => qaV x.1 x.2.1 x.2.2.1 x.2.2.2.1 x.2.2.2.2.1 x.2.2.2.2.2.1 x.2.2.2.2.2.2.1 x.2.2.2.2.2.2.2.1 x.2.2.2.2.2.2.2.2.1 x.2.2.2.2.2.2.2.2.2⟩
theorem qeY : FO qcz := fi [] [qcl, qcP] 45 [] .nil func105 ⟨⟨qdt, qdW, trivial⟩, trivial⟩
def qad : List (List UInt8 × List Int × Nat) := [([110, 101, 116, 119, 111, 114, 107], [1, 2, 0], 100), ([110, 111, 100, 101], [2, 1, 1], 101), ([115, 101, 103, 109, 101, 110, 116], [3, 6, 3], 102), ([112, 111, 105, 110, 116], [3, 3, 0], 103), ([112, 111, 114, 116], [4, 3, 2], 104), ([115, 116, 97, 116, 105, 111, 110], [5, 5, 2], 105)]
def qd0 (a0 : Int) (a1 : Int) (a2 : Int) (a3 : List UInt8) (a4 : List (List UInt8)) (a5 : List yT0) (a6 : yB2) (a7 : List yB1) : Option (Int × Int × Int × List UInt8 × List (List UInt8) × (List yT0) × yB2 × List yB1) := some (a0, a1, a2, a3, a4, a5, a6, a7)
noncomputable  def formCode : Code := f69.body.getD .skip
noncomputable  def formOps : Array Oper := qq0 (seqL (seqR formCode))
set_option maxRecDepth 100000 in
theorem qqh : qmd prog formOps 23 103 101 qad := ⟨by kernel_rfl, by decide, qrp (by kernel_rfl), ⟨(formOps.getD 0 oDum).type, (formOps.getD 0 oDum).pos, (formOps.getD 0 oDum).after, by kernel_rfl⟩, (by intro j q h; match j, h with | 0, h => have e : q = ([110, 101, 116, 119, 111, 114, 107], [1, 2, 0], 100) := (Option.some.inj h).symm; subst e; exact ⟨(formOps.getD 1 oDum).type, (formOps.getD 1 oDum).pos, (formOps.getD 1 oDum).after, by kernel_rfl⟩ | 1, h => have e : q = ([110, 111, 100, 101], [2, 1, 1], 101) := (Option.some.inj h).symm; subst e; exact ⟨(formOps.getD 5 oDum).type, (formOps.getD 5 oDum).pos, (formOps.getD 5 oDum).after, by kernel_rfl⟩ | 2, h => have e : q = ([115, 101, 103, 109, 101, 110, 116], [3, 6, 3], 102) := (Option.some.inj h).symm; subst e; exact ⟨(formOps.getD 9 oDum).type, (formOps.getD 9 oDum).pos, (formOps.getD 9 oDum).after, by kernel_rfl⟩ | 3, h => have e : q = ([112, 111, 105, 110, 116], [3, 3, 0], 103) := (Option.some.inj h).symm; subst e; exact ⟨(formOps.getD 13 oDum).type, (formOps.getD 13 oDum).pos, (formOps.getD 13 oDum).after, by kernel_rfl⟩ | 4, h => have e : q = ([112, 111, 114, 116], [4, 3, 2], 104) := (Option.some.inj h).symm; subst e; exact ⟨(formOps.getD 17 oDum).type, (formOps.getD 17 oDum).pos, (formOps.getD 17 oDum).after, by kernel_rfl⟩ | 5, h => have e : q = ([115, 116, 97, 116, 105, 111, 110], [5, 5, 2], 105) := (Option.some.inj h).symm; subst e; exact ⟨(formOps.getD 21 oDum).type, (formOps.getD 21 oDum).pos, (formOps.getD 21 oDum).after, by kernel_rfl⟩ | j + 6, h => cases h), (by intro j q h; match j, h with | 0, h => have e : q = ([110, 101, 116, 119, 111, 114, 107], [1, 2, 0], 100) := (Option.some.inj h).symm; subst e; exact ⟨(formOps.getD 2 oDum).type, (formOps.getD 2 oDum).pos, (formOps.getD 2 oDum).after, by kernel_rfl, qbK (by kernel_rfl)⟩ | 1, h => have e : q = ([110, 111, 100, 101], [2, 1, 1], 101) := (Option.some.inj h).symm; subst e; exact ⟨(formOps.getD 6 oDum).type, (formOps.getD 6 oDum).pos, (formOps.getD 6 oDum).after, by kernel_rfl, qbK (by kernel_rfl)⟩ | 2, h => have e : q = ([115, 101, 103, 109, 101, 110, 116], [3, 6, 3], 102) := (Option.some.inj h).symm; subst e; exact ⟨(formOps.getD 10 oDum).type, (formOps.getD 10 oDum).pos, (formOps.getD 10 oDum).after, by kernel_rfl, qbK (by kernel_rfl)⟩ | 3, h => have e : q = ([112, 111, 105, 110, 116], [3, 3, 0], 103) := (Option.some.inj h).symm; subst e; exact ⟨(formOps.getD 14 oDum).type, (formOps.getD 14 oDum).pos, (formOps.getD 14 oDum).after, by kernel_rfl, qbK (by kernel_rfl)⟩ | 4, h => have e : q = ([112, 111, 114, 116], [4, 3, 2], 104) := (Option.some.inj h).symm; subst e; exact ⟨(formOps.getD 18 oDum).type, (formOps.getD 18 oDum).pos, (formOps.getD 18 oDum).after, by kernel_rfl, qbK (by kernel_rfl)⟩ | 5, h => have e : q = ([115, 116, 97, 116, 105, 111, 110], [5, 5, 2], 105) := (Option.some.inj h).symm; subst e; exact ⟨(formOps.getD 22 oDum).type, (formOps.getD 22 oDum).pos, (formOps.getD 22 oDum).after, by kernel_rfl, qbK (by kernel_rfl)⟩ | j + 6, h => cases h), (by intro j q h; match j, h with | 0, h => have e : q = ([110, 101, 116, 119, 111, 114, 107], [1, 2, 0], 100) := (Option.some.inj h).symm; subst e; exact ⟨(formOps.getD 3 oDum).type, (formOps.getD 3 oDum).pos, (formOps.getD 3 oDum).after, _, (by kernel_rfl : formOps[3]? = some ⟨some 6, .build 101 #[(0, .const (.int .i64 1)), (1, .const (.int .i64 2)), (2, .const (.int .i64 0)), (3, .tmp 5)], (formOps.getD 3 oDum).type, (formOps.getD 3 oDum).pos, (formOps.getD 3 oDum).after, none⟩), qbK (by kernel_rfl), fun a w g hh => qhD (i := ti101) qd6 tk101 rfl rfl rfl a w g hh⟩ | 1, h => have e : q = ([110, 111, 100, 101], [2, 1, 1], 101) := (Option.some.inj h).symm; subst e; exact ⟨(formOps.getD 7 oDum).type, (formOps.getD 7 oDum).pos, (formOps.getD 7 oDum).after, _, (by kernel_rfl : formOps[7]? = some ⟨some 9, .build 101 #[(0, .const (.int .i64 2)), (1, .const (.int .i64 1)), (2, .const (.int .i64 1)), (3, .tmp 8)], (formOps.getD 7 oDum).type, (formOps.getD 7 oDum).pos, (formOps.getD 7 oDum).after, none⟩), qbK (by kernel_rfl), fun a w g hh => qhD (i := ti101) qd6 tk101 rfl rfl rfl a w g hh⟩ | 2, h => have e : q = ([115, 101, 103, 109, 101, 110, 116], [3, 6, 3], 102) := (Option.some.inj h).symm; subst e; exact ⟨(formOps.getD 11 oDum).type, (formOps.getD 11 oDum).pos, (formOps.getD 11 oDum).after, _, (by kernel_rfl : formOps[11]? = some ⟨some 12, .build 101 #[(0, .const (.int .i64 3)), (1, .const (.int .i64 6)), (2, .const (.int .i64 3)), (3, .tmp 11)], (formOps.getD 11 oDum).type, (formOps.getD 11 oDum).pos, (formOps.getD 11 oDum).after, none⟩), qbK (by kernel_rfl), fun a w g hh => qhD (i := ti101) qd6 tk101 rfl rfl rfl a w g hh⟩ | 3, h => have e : q = ([112, 111, 105, 110, 116], [3, 3, 0], 103) := (Option.some.inj h).symm; subst e; exact ⟨(formOps.getD 15 oDum).type, (formOps.getD 15 oDum).pos, (formOps.getD 15 oDum).after, _, (by kernel_rfl : formOps[15]? = some ⟨some 15, .build 101 #[(0, .const (.int .i64 3)), (1, .const (.int .i64 3)), (2, .const (.int .i64 0)), (3, .tmp 14)], (formOps.getD 15 oDum).type, (formOps.getD 15 oDum).pos, (formOps.getD 15 oDum).after, none⟩), qbK (by kernel_rfl), fun a w g hh => qhD (i := ti101) qd6 tk101 rfl rfl rfl a w g hh⟩ | 4, h => have e : q = ([112, 111, 114, 116], [4, 3, 2], 104) := (Option.some.inj h).symm; subst e; exact ⟨(formOps.getD 19 oDum).type, (formOps.getD 19 oDum).pos, (formOps.getD 19 oDum).after, _, (by kernel_rfl : formOps[19]? = some ⟨some 18, .build 101 #[(0, .const (.int .i64 4)), (1, .const (.int .i64 3)), (2, .const (.int .i64 2)), (3, .tmp 17)], (formOps.getD 19 oDum).type, (formOps.getD 19 oDum).pos, (formOps.getD 19 oDum).after, none⟩), qbK (by kernel_rfl), fun a w g hh => qhD (i := ti101) qd6 tk101 rfl rfl rfl a w g hh⟩ | 5, h => have e : q = ([115, 116, 97, 116, 105, 111, 110], [5, 5, 2], 105) := (Option.some.inj h).symm; subst e; exact ⟨(formOps.getD 23 oDum).type, (formOps.getD 23 oDum).pos, (formOps.getD 23 oDum).after, _, (by kernel_rfl : formOps[23]? = some ⟨some 21, .build 101 #[(0, .const (.int .i64 5)), (1, .const (.int .i64 5)), (2, .const (.int .i64 2)), (3, .tmp 20)], (formOps.getD 23 oDum).type, (formOps.getD 23 oDum).pos, (formOps.getD 23 oDum).after, none⟩), qbK (by kernel_rfl), fun a w g hh => qhD (i := ti101) qd6 tk101 rfl rfl rfl a w g hh⟩ | j + 6, h => cases h), (by intro j q h; match j, h with | 0, h => have e : q = ([110, 101, 116, 119, 111, 114, 107], [1, 2, 0], 100) := (Option.some.inj h).symm; subst e; exact ⟨(formOps.getD 4 oDum).type, (formOps.getD 4 oDum).pos, (formOps.getD 4 oDum).after, by kernel_rfl, qbK (by kernel_rfl), qbK (by kernel_rfl)⟩ | 1, h => have e : q = ([110, 111, 100, 101], [2, 1, 1], 101) := (Option.some.inj h).symm; subst e; exact ⟨(formOps.getD 8 oDum).type, (formOps.getD 8 oDum).pos, (formOps.getD 8 oDum).after, by kernel_rfl, qbK (by kernel_rfl), qbK (by kernel_rfl)⟩ | 2, h => have e : q = ([115, 101, 103, 109, 101, 110, 116], [3, 6, 3], 102) := (Option.some.inj h).symm; subst e; exact ⟨(formOps.getD 12 oDum).type, (formOps.getD 12 oDum).pos, (formOps.getD 12 oDum).after, by kernel_rfl, qbK (by kernel_rfl), qbK (by kernel_rfl)⟩ | 3, h => have e : q = ([112, 111, 105, 110, 116], [3, 3, 0], 103) := (Option.some.inj h).symm; subst e; exact ⟨(formOps.getD 16 oDum).type, (formOps.getD 16 oDum).pos, (formOps.getD 16 oDum).after, by kernel_rfl, qbK (by kernel_rfl), qbK (by kernel_rfl)⟩ | 4, h => have e : q = ([112, 111, 114, 116], [4, 3, 2], 104) := (Option.some.inj h).symm; subst e; exact ⟨(formOps.getD 20 oDum).type, (formOps.getD 20 oDum).pos, (formOps.getD 20 oDum).after, by kernel_rfl, qbK (by kernel_rfl), qbK (by kernel_rfl)⟩ | 5, h => have e : q = ([115, 116, 97, 116, 105, 111, 110], [5, 5, 2], 105) := (Option.some.inj h).symm; subst e; exact ⟨(formOps.getD 24 oDum).type, (formOps.getD 24 oDum).pos, (formOps.getD 24 oDum).after, by kernel_rfl, qbK (by kernel_rfl), qbK (by kernel_rfl)⟩ | j + 6, h => cases h), ⟨(formOps.getD 25 oDum).type, (formOps.getD 25 oDum).pos, (formOps.getD 25 oDum).after, by kernel_rfl, qbK (by kernel_rfl)⟩, ⟨(formOps.getD 26 oDum).type, (formOps.getD 26 oDum).pos, (formOps.getD 26 oDum).after, by kernel_rfl, qbK (by kernel_rfl)⟩⟩
def qdg : Fun := qdM 69 [(0, 72, [.own 1, .own 2, .own 3, .own 4, .data I6, .data I6, .data I6, .data (.str)])] [(1, .arr 9 (.str)), (2, .nest 52 tT0 6 61), (3, .arr 47 (.pair (.str) tT2)), (4, .arr 55 tT1)] qad
set_option maxRecDepth 100000 in
theorem qfr : FO qdg := qro ⟨_, func69, (by kernel_rfl), rfl⟩ (qnN func69 (by kernel_rfl : f69.body = some (.seq (.region 0 #[((qq0 (seqL formCode)).getD 0 oDum)] false) (.seq (.region 1 formOps false) .ret))) (by kernel_rfl) (by kernel_rfl) ⟨by kernel_rfl, by kernel_rfl, by kernel_rfl⟩ qqh (by kernel_rfl) qd6 tk9 (by kernel_rfl) rfl underlying103)
def qa7 (s : List UInt8) (vprefix : List UInt8) : Option (Bool) :=
 bif decide ((vprefix.length : Int) ≤ (s.length : Int)) then (
 gd (cutG none (some (.i64, (vprefix.length : Int))) s.length) <|
 some (decide (s.take (vprefix.length : Int).toNat = vprefix)))
 else (
 some false)
def qbB : Fun :=
 ⟨127, 2, 1,
 ⟨r23_, [], []⟩,
 ⟨[(0, bb)], [], []⟩,
 fun x => qa7 x.1 x.2⟩
theorem qdh : FO qbB := fi [] [] 18 [] .nil func127 ⟨trivial, trivial⟩
def qaZ (s : List UInt8) (vprefix : List UInt8) : Option (List UInt8) :=
 (qa7 s vprefix).bind fun r =>
 bif r then (
 gd (cutG (some (.i64, (vprefix.length : Int))) none s.length) <|
 some (s.drop (vprefix.length : Int).toNat))
 else (
 some s)
def qbu : Fun :=
 ⟨115, 2, 1,
 ⟨r23_, [], []⟩,
 ⟨[(0, ss)], [], []⟩,
 fun x => qaZ x.1 x.2⟩
theorem qcZ : FO qbu := fi [] [qbB] 13 [] .nil func115 ⟨⟨qdh, trivial⟩, trivial⟩
def qb7 (s : List UInt8) (vprefix : List UInt8) : Option (List UInt8) :=
 (qaZ s vprefix).bind fun r =>
 some r
def qdH : Fun :=
 ⟨106, 2, 1,
 ⟨r23_, [], []⟩,
 ⟨[(0, ss)], [], []⟩,
 fun x => qb7 x.1 x.2⟩
theorem qf4 : FO qdH := fi [] [qbu] 8 [] .nil func106 ⟨⟨qcZ, trivial⟩, trivial⟩
def qf5 : Fun := qph 107
theorem qi1 : FO qf5 := qrl ⟨_, func107, (by kernel_rfl), rfl⟩ strconv_Atoi_ok strconv_Atoi_syn strconv_Atoi_range (by unfold globs; exact .head _) (by unfold globs; exact .tail _ (.head _))
def qcd (r : List UInt8) (v : Int) : Option (Int ⊕ (Unit ⊕ (Int × Int))) :=
 bif decide (v < (r.length : Int)) then (
 Option.bind (α := Bool) (
 gd (inB v r.length) <|
 bif decide ((Int.ofNat (r.getD v.toNat 0).toNat) < 48) then (
 some true)
 else (
 gd (inB v r.length) <|
 some (decide (57 < (Int.ofNat (r.getD v.toNat 0).toNat))))) fun s3 =>
 bif s3 then (
 some (.inr (.inr (0, 3))))
 else (
 some (.inl (wi64 (v + 1)))))
 else (
 some (.inr (.inl ())))
def qeP (s : List UInt8) : Option (Int × Int) :=
 (qb7 s [45]).bind fun r =>
 Option.bind (α := Bool) (
 bif decide (r = []) then (
 some true)
 else (
 gd (inB 0 r.length) <|
 bif decide ((Int.ofNat (r.getD 0 0).toNat) = 48) then (
 some (!decide (s = [48])))
 else (
 some false))) fun s2 =>
 bif s2 then (
 some (0, 3))
 else (
 (iter (fun x => qcd r x) 0).bind fun s4 =>
 s4.elim (fun s5 =>
 (atoiT s).bind fun r2 =>
 Option.bind (α := Bool) (
 bif r2.2 then (
 some true)
 else (
 bif decide (r2.1 < (-9007199254740992)) then (
 some true)
 else (
 some (decide (9007199254740992 < r2.1))))) fun s7 =>
 bif s7 then (
 some (0, 1))
 else (
 some (r2.1, 0)))
 (fun s6 =>
 some (s6.1, s6.2)))
def qf6 : Fun :=
 ⟨70, 1, 2,
 ⟨[(0, ss)], [], []⟩,
 ⟨[(0, ii), (1, ii)], [], []⟩,
 fun x => qeP x⟩
theorem qi2 : FO qf6 := fi [] [qdH, qf5] 53 [] ((nn (nn (mm (mm (.mk [.join [⟨.n, ⟨[(0, kk), (4, kk), (20, bb)], [], []⟩⟩]] none .nil .nil) .nil) (mm (nn (mm (.mk [] (some (⟨[(0, kk), (4, kk), (22, kk), (23, ii)], [], []⟩, [⟨.x 0, ⟨[(0, kk)], [], []⟩⟩, ⟨.r, ⟨[(2, ii), (3, ii)], [], []⟩⟩])) (nn (nn (mm (mm (nn (mm (.mk [.join [⟨.n, ⟨[(0, kk), (4, kk), (22, kk), (23, kk), (35, bb)], [], []⟩⟩]] none .nil .nil) .nil)) .nil) .nil))) .nil) .nil)) (nn (mm (mm (.mk [.join [⟨.n, ⟨[(6, kk), (51, bb)], [], []⟩⟩]] none .nil .nil) .nil) .nil))))))) func70 ⟨⟨qf4, qi1, trivial⟩, trivial⟩
def qap (w : List (List UInt8)) (v : Int) (f : Nat) (n : List Int) (r10 : List (List UInt8)) (r11 : List yT0) (r12 : yB2) (r13 : List yB1) : Option ((Int × Nat × List Int × List (List UInt8) × (List yT0) × yB2 × List yB1) ⊕ ((Nat × List Int × List (List UInt8) × (List yT0) × yB2 × List yB1) ⊕ (Int × List (List UInt8) × (List yT0) × yB2 × List yB1))) :=
 bif decide (v < ((w.drop (wi64 (1 + (dispN qad 2 (qaO qad (w.getD 0 []))))).toNat).length : Int)) then (
 gd (inB v (w.drop (wi64 (1 + (dispN qad 2 (qaO qad (w.getD 0 []))))).toNat).length) <|
 (qeP ((w.drop (wi64 (1 + (dispN qad 2 (qaO qad (w.getD 0 []))))).toNat).getD v.toNat [])).bind fun r14 =>
 bif !decide (r14.2 = 0) then (
 some (.inr (.inr (3, r10, r11, r12, r13))))
 else (
 gd (fits (n.length + 1) 8) <|
 some (.inl (wi64 (v + 1), f, n ++ [r14.1], r10, r11, r12, r13))))
 else (
 some (.inr (.inl (f, n, r10, r11, r12, r13))))
def qaL (w : List (List UInt8)) (r : Int) (r2 : Int) (r3 : Int) (r4 : List UInt8) (r5 : List (List UInt8)) (r6 : List yT0) (r7 : yB2) (r8 : List yB1) : Option yB3 :=
 (qd0 r r2 r3 r4 r5 r6 r7 r8).bind fun r9 =>
 gd (inB 0 w.length) <|
 Option.bind (α := Bool × Nat × List (List UInt8) × (List yT0) × yB2 × List yB1) (
 bif !(!Nat.beq (qaO qad (w.getD 0 [])) 0) then (
 some (true, qaO qad (w.getD 0 []), r9.2.2.2.2.1, r9.2.2.2.2.2.1, r9.2.2.2.2.2.2.1, r9.2.2.2.2.2.2.2))
 else (
 some ((!decide ((w.length : Int) = wi64 ((dispN qad 1 (qaO qad (w.getD 0 []))) + 1))), qaO qad (w.getD 0 []), r9.2.2.2.2.1, r9.2.2.2.2.2.1, r9.2.2.2.2.2.2.1, r9.2.2.2.2.2.2.2))) fun s =>
 bif s.1 then (
 some (3, r9.1, r9.2.1, r9.2.2.1, r9.2.2.2.1, s.2.2.1, s.2.2.2.1, s.2.2.2.2.1, s.2.2.2.2.2))
 else (
 gd (cutG (some (.i64, wi64 (1 + (dispN qad 2 (qaO qad (w.getD 0 [])))))) none w.length) <|
 (iter (fun x => qap w x.1 x.2.1 x.2.2.1 x.2.2.2.1 x.2.2.2.2.1 x.2.2.2.2.2.1 x.2.2.2.2.2.2) (0, s.2.1, [], s.2.2.1, s.2.2.2.1, s.2.2.2.2.1, s.2.2.2.2.2)).bind fun s2 =>
 s2.elim (fun s3 =>
 Option.bind (α := Bool × Nat × List Int × List (List UInt8) × (List yT0) × yB2 × List yB1) (
 bif !(decide (r9.2.2.1 = 0) == decide (dispN qad 0 (qaO qad (w.getD 0 [])) = 1)) then (
 some (true, s3.1, s3.2.1, s3.2.2.1, s3.2.2.2.1, s3.2.2.2.2.1, s3.2.2.2.2.2))
 else (
 bif decide (dispN qad 0 (qaO qad (w.getD 0 [])) < r9.2.2.1) then (
 some (true, s3.1, s3.2.1, s3.2.2.1, s3.2.2.2.1, s3.2.2.2.2.1, s3.2.2.2.2.2))
 else (
 gd (inB 0 w.length) <|
 bif decide (w.getD 0 [] = [112, 111, 105, 110, 116]) then (
 bif !decide (r9.2.2.2.1 = [115, 101, 103, 109, 101, 110, 116]) then (
 some ((!decide (r9.2.2.2.1 = [112, 111, 105, 110, 116])), s3.1, s3.2.1, s3.2.2.1, s3.2.2.2.1, s3.2.2.2.2.1, s3.2.2.2.2.2))
 else (
 some (false, s3.1, s3.2.1, s3.2.2.1, s3.2.2.2.1, s3.2.2.2.2.1, s3.2.2.2.2.2)))
 else (
 some (false, s3.1, s3.2.1, s3.2.2.1, s3.2.2.2.1, s3.2.2.2.2.1, s3.2.2.2.2.2))))) fun s5 =>
 bif s5.1 then (
 some (6, r9.1, r9.2.1, r9.2.2.1, r9.2.2.2.1, s5.2.2.2.1, s5.2.2.2.2.1, s5.2.2.2.2.2.1, s5.2.2.2.2.2.2))
 else (
 gd (inB 0 w.length) <|
 gd (inR 1 (wi64 (1 + (dispN qad 2 (qaO qad (w.getD 0 []))))) w.length) <|
 bif decide (s5.2.1 = 1) then (
 (qaT ((w.take (wi64 (1 + (dispN qad 2 (qaO qad (w.getD 0 []))))).toNat).drop 1) s5.2.2.1 r9.1 r9.2.1 (dispN qad 0 (qaO qad (w.getD 0 []))) (w.getD 0 []) s5.2.2.2.1 s5.2.2.2.2.1 s5.2.2.2.2.2.1 s5.2.2.2.2.2.2).bind fun r15 =>
 some (r15.1, r15.2.1, r15.2.2.1, r15.2.2.2.1, r15.2.2.2.2.1, r15.2.2.2.2.2.1, r15.2.2.2.2.2.2.1, r15.2.2.2.2.2.2.2.1, r15.2.2.2.2.2.2.2.2))
 else (
 bif decide (s5.2.1 = 2) then (
 (qbr ((w.take (wi64 (1 + (dispN qad 2 (qaO qad (w.getD 0 []))))).toNat).drop 1) s5.2.2.1 r9.1 r9.2.1 (dispN qad 0 (qaO qad (w.getD 0 []))) (w.getD 0 []) s5.2.2.2.1 s5.2.2.2.2.1 s5.2.2.2.2.2.1 s5.2.2.2.2.2.2).bind fun r16 =>
 some (r16.1, r16.2.1, r16.2.2.1, r16.2.2.2.1, r16.2.2.2.2.1, r16.2.2.2.2.2.1, r16.2.2.2.2.2.2.1, r16.2.2.2.2.2.2.2.1, r16.2.2.2.2.2.2.2.2))
 else (
 bif decide (s5.2.1 = 3) then (
 (qaU ((w.take (wi64 (1 + (dispN qad 2 (qaO qad (w.getD 0 []))))).toNat).drop 1) s5.2.2.1 r9.1 r9.2.1 (dispN qad 0 (qaO qad (w.getD 0 []))) (w.getD 0 []) s5.2.2.2.1 s5.2.2.2.2.1 s5.2.2.2.2.2.1 s5.2.2.2.2.2.2).bind fun r17 =>
 some (r17.1, r17.2.1, r17.2.2.1, r17.2.2.2.1, r17.2.2.2.2.1, r17.2.2.2.2.2.1, r17.2.2.2.2.2.2.1, r17.2.2.2.2.2.2.2.1, r17.2.2.2.2.2.2.2.2))
 else (
 bif decide (s5.2.1 = 4) then (
 (qbg ((w.take (wi64 (1 + (dispN qad 2 (qaO qad (w.getD 0 []))))).toNat).drop 1) s5.2.2.1 r9.1 r9.2.1 (dispN qad 0 (qaO qad (w.getD 0 []))) (w.getD 0 []) s5.2.2.2.1 s5.2.2.2.2.1 s5.2.2.2.2.2.1 s5.2.2.2.2.2.2).bind fun r18 =>
 some (r18.1, r18.2.1, r18.2.2.1, r18.2.2.2.1, r18.2.2.2.2.1, r18.2.2.2.2.2.1, r18.2.2.2.2.2.2.1, r18.2.2.2.2.2.2.2.1, r18.2.2.2.2.2.2.2.2))
 else (
 bif decide (s5.2.1 = 5) then (
 (qbs ((w.take (wi64 (1 + (dispN qad 2 (qaO qad (w.getD 0 []))))).toNat).drop 1) s5.2.2.1 r9.1 r9.2.1 (dispN qad 0 (qaO qad (w.getD 0 []))) (w.getD 0 []) s5.2.2.2.1 s5.2.2.2.2.1 s5.2.2.2.2.2.1 s5.2.2.2.2.2.2).bind fun r19 =>
 some (r19.1, r19.2.1, r19.2.2.1, r19.2.2.2.1, r19.2.2.2.2.1, r19.2.2.2.2.2.1, r19.2.2.2.2.2.2.1, r19.2.2.2.2.2.2.2.1, r19.2.2.2.2.2.2.2.2))
 else (
 bif decide (s5.2.1 = 6) then (
 (qaV ((w.take (wi64 (1 + (dispN qad 2 (qaO qad (w.getD 0 []))))).toNat).drop 1) s5.2.2.1 r9.1 r9.2.1 (dispN qad 0 (qaO qad (w.getD 0 []))) (w.getD 0 []) s5.2.2.2.1 s5.2.2.2.2.1 s5.2.2.2.2.2.1 s5.2.2.2.2.2.2).bind fun r20 =>
 some (r20.1, r20.2.1, r20.2.2.1, r20.2.2.2.1, r20.2.2.2.2.1, r20.2.2.2.2.2.1, r20.2.2.2.2.2.2.1, r20.2.2.2.2.2.2.2.1, r20.2.2.2.2.2.2.2.2))
 else (
 none))))))))
 (fun s4 =>
 some (s4.1, r9.1, r9.2.1, r9.2.2.1, r9.2.2.2.1, s4.2.1, s4.2.2.1, s4.2.2.2.1, s4.2.2.2.2)))
def qdn : Fun :=
 ⟨33, 2, 1,
 ⟨[(0, pt 0 0), (1, dd (.sl (.str)))], v5_, a0_⟩,
 ⟨[(0, ii)], v6_, a2_⟩,
 fun x => qaL x.1 x.2.1 x.2.2.1 x.2.2.2.1 x.2.2.2.2.1 x.2.2.2.2.2.1 x.2.2.2.2.2.2.1 x.2.2.2.2.2.2.2.1 x.2.2.2.2.2.2.2.2⟩
theorem qfK : FO qdn := fi [4000112] [qdg, qf6, qcx, qdl, qcy, qdf, qdm, qcz] 113 [] ((nn (nn (mm (mm (.mk [.join [⟨.n, ⟨[(0, pt 0 0), (1, kk), (5, pt 96 0), (31, bb)], v8_, a0_⟩⟩]] none .nil .nil) .nil) (nn (mm (nn (mm (.mk [] (some (⟨[(0, pt 0 0), (1, kk), (5, pt 96 0), (7, ow 139), (36, kk), (37, kk), (38, ii)], v8_, a14_⟩, [⟨.x 0, ⟨[(0, pt 0 0), (1, kk), (5, pt 96 0), (7, ow 139)], v8_, a14_⟩⟩, ⟨.r, ⟨[(4, ii)], [(0, 72, [.own 1, .own 2, .own 3, .own 4, .keep, .keep, .keep, .keep])], a0_⟩⟩])) .nil .nil) .nil)) (nn (mm (mm (.mk [.join [⟨.n, ⟨[(0, pt 0 0), (1, kk), (5, pt 96 0), (7, ow 139), (92, bb)], v8_, a14_⟩⟩]] none .nil .nil) .nil) (nn (mm (.mk [.fz [7]] none .nil .nil) .nil)))))))))) func33 ⟨⟨qfr, qi2, qeW, qfI, qeX, qfq, qfJ, qeY, trivial⟩, trivial⟩
def qb2 (r : List (List (List UInt8)) × Int) (v : Int) (v2 : List (List UInt8)) (v3 : List yT0) (v4 : yB2) (v5 : List yB1) (v6 : Int) (v7 : Int) (r2 : Int) (r3 : Int) (r4 : Int) (r5 : List UInt8) (r6 : List (List UInt8)) (r7 : List yT0) (r8 : yB2) (r9 : List yB1) : Option ((Int × List (List UInt8) × (List yT0) × yB2 × (List yB1) × Int × Int × Int × Int × Int × List UInt8 × List (List UInt8) × (List yT0) × yB2 × List yB1) ⊕ ((List (List UInt8) × (List yT0) × yB2 × (List yB1) × Int × Int × Int × Int × Int × List UInt8 × List (List UInt8) × (List yT0) × yB2 × List yB1) ⊕ (Int × Int × List (List UInt8) × (List yT0) × yB2 × (List yB1) × Int × Int))) :=
 bif decide (v < (r.1.length : Int)) then (
 Option.bind (α := (List (List UInt8) × (List yT0) × yB2 × (List yB1) × Int × Int × Int × Int × Int × List UInt8 × List (List UInt8) × (List yT0) × yB2 × List yB1) ⊕ (Int × Int × List (List UInt8) × (List yT0) × yB2 × (List yB1) × Int × Int)) (
 gd (inB v r.1.length) <|
 bif decide (((r.1.getD v.toNat []).length : Int) = 0) then (
 some (.inl (v2, v3, v4, v5, v6, v7, r2, r3, r4, r5, r6, r7, r8, r9)))
 else (
 (qaL (r.1.getD v.toNat []) r2 r3 r4 r5 r6 r7 r8 r9).bind fun r10 =>
 bif !decide (r10.1 = 0) then (
 some (.inr (wi64 (v + 1), r10.1, [], [], [], [], 0, 0)))
 else (
 some (.inl (v2, v3, v4, v5, v6, v7, r10.2.1, r10.2.2.1, r10.2.2.2.1, r10.2.2.2.2.1, r10.2.2.2.2.2.1, r10.2.2.2.2.2.2.1, r10.2.2.2.2.2.2.2.1, r10.2.2.2.2.2.2.2.2))))) fun s =>
 s.elim (fun s2 =>
 some (.inl (wi64 (v + 1), s2.1, s2.2.1, s2.2.2.1, s2.2.2.2.1, s2.2.2.2.2.1, s2.2.2.2.2.2.1, s2.2.2.2.2.2.2.1, s2.2.2.2.2.2.2.2.1, s2.2.2.2.2.2.2.2.2.1, s2.2.2.2.2.2.2.2.2.2.1, s2.2.2.2.2.2.2.2.2.2.2.1, s2.2.2.2.2.2.2.2.2.2.2.2.1, s2.2.2.2.2.2.2.2.2.2.2.2.2.1, s2.2.2.2.2.2.2.2.2.2.2.2.2.2)))
 (fun s3 =>
 some (.inr (.inr (s3.1, s3.2.1, s3.2.2.1, s3.2.2.2.1, s3.2.2.2.2.1, s3.2.2.2.2.2.1, s3.2.2.2.2.2.2.1, s3.2.2.2.2.2.2.2)))))
 else (
 some (.inr (.inl (v2, v3, v4, v5, v6, v7, r2, r3, r4, r5, r6, r7, r8, r9))))
def qbQ (text : List UInt8) : Option (yB0 × Int × Int) :=
 (qfo text).bind fun r =>
 bif !decide (r.2 = 0) then (
 some (([], ([], ([], ([], (0, 0))))), 0, r.2))
 else (
 (iter (fun x => qb2 r x.1 x.2.1 x.2.2.1 x.2.2.2.1 x.2.2.2.2.1 x.2.2.2.2.2.1 x.2.2.2.2.2.2.1 x.2.2.2.2.2.2.2.1 x.2.2.2.2.2.2.2.2.1 x.2.2.2.2.2.2.2.2.2.1 x.2.2.2.2.2.2.2.2.2.2.1 x.2.2.2.2.2.2.2.2.2.2.2.1 x.2.2.2.2.2.2.2.2.2.2.2.2.1 x.2.2.2.2.2.2.2.2.2.2.2.2.2.1 x.2.2.2.2.2.2.2.2.2.2.2.2.2.2) (0, [], [], [], [], 0, 0, 0, 0, 0, [], [], [], [], [])).bind fun s4 =>
 s4.elim (fun s5 =>
 bif decide (s5.2.2.2.2.2.2.2.2.1 = 0) then (
 some (([], ([], ([], ([], (0, 0))))), 0, 3))
 else (
 (qa3 (s5.2.2.2.2.2.2.2.2.2.2.1, (s5.2.2.2.2.2.2.2.2.2.2.2.1, (s5.2.2.2.2.2.2.2.2.2.2.2.2.1, (s5.2.2.2.2.2.2.2.2.2.2.2.2.2, (s5.2.2.2.2.2.2.1, s5.2.2.2.2.2.2.2.1)))))).bind fun r11 =>
 bif !decide (r11 = 0) then (
 some (([], ([], ([], ([], (0, 0))))), 0, r11))
 else (
 some ((s5.2.2.2.2.2.2.2.2.2.2.1, (s5.2.2.2.2.2.2.2.2.2.2.2.1, (s5.2.2.2.2.2.2.2.2.2.2.2.2.1, (s5.2.2.2.2.2.2.2.2.2.2.2.2.2, (s5.2.2.2.2.2.2.1, s5.2.2.2.2.2.2.2.1))))), 0, 0))))
 (fun s6 =>
 some ((s6.2.2.1, (s6.2.2.2.1, (s6.2.2.2.2.1, (s6.2.2.2.2.2.1, (s6.2.2.2.2.2.2.1, s6.2.2.2.2.2.2.2))))), s6.1, s6.2.1)))
def qdX : Fun :=
 ⟨15, 1, 3,
 ⟨[(0, ss)], [], []⟩,
 ⟨[(0, dd (.pair (.sl (.str)) (.pair (.sl tT0) (.pair (.sl (.pair (.str) tT2)) (.pair (.sl tT1) tT2))))), (1, ii), (2, ii)], [], []⟩,
 fun x => qbQ x⟩
theorem qfE : FO qdX := fi [7000053] [qgC, qdn, qcO] 62 [] ((nn (nn (nn (nn (mm (nn (mm (.mk [] (some (⟨[(2, pt 48 0), (7, pt 368 0), (23, kk), (24, kk), (25, ii)], v3_, a17_⟩, [⟨.x 0, ⟨[(2, pt 48 0), (7, pt 368 0)], v3_, a17_⟩⟩, ⟨.r, ⟨[(2, pt 48 0), (3, ii), (4, ii)], v21_, []⟩⟩])) (nn (nn (mm (.mk [.join [⟨.n, ⟨[(2, pt 48 0), (7, pt 368 0), (23, kk), (24, kk), (25, kk)], v3_, a17_⟩⟩, ⟨.r, ⟨[(2, pt 48 0), (3, ii), (4, ii)], v21_, []⟩⟩]] none .nil .nil) .nil))) .nil) .nil)) .nil)))))) func15 ⟨⟨qjh, qfK, qdQ, trivial⟩, trivial⟩
def qbR (a : yB0) (b : yB0) (v : Int) : Option (Int ⊕ (Unit ⊕ Bool)) :=
 bif decide (v < (a.1.length : Int)) then (
 gd (inB v a.1.length) <|
 gd (inB v b.1.length) <|
 bif !decide (a.1.getD v.toNat [] = b.1.getD v.toNat []) then (
 some (.inr (.inr false)))
 else (
 some (.inl (wi64 (v + 1)))))
 else (
 some (.inr (.inl ())))
def qbS (a : yB0) (b : yB0) (v2 : Int) (v3 : Int) : Option (Int ⊕ (Unit ⊕ Bool)) :=
 bif decide (v3 < ((((((((a.2.1.getD v2.toNat ([], (0, (0, (0, (0, (0, []))))))).2).2).2).2).2).2).length : Int)) then (
 gd (inB v3 (((((((a.2.1.getD v2.toNat ([], (0, (0, (0, (0, (0, []))))))).2).2).2).2).2).2).length) <|
 gd (inB v3 (((((((b.2.1.getD v2.toNat ([], (0, (0, (0, (0, (0, []))))))).2).2).2).2).2).2).length) <|
 bif !(decide (((((((((a.2.1.getD v2.toNat ([], (0, (0, (0, (0, (0, []))))))).2).2).2).2).2).2).getD v3.toNat (0, (0, 0))).1 = ((((((((b.2.1.getD v2.toNat ([], (0, (0, (0, (0, (0, []))))))).2).2).2).2).2).2).getD v3.toNat (0, (0, 0))).1) && (decide ((((((((((a.2.1.getD v2.toNat ([], (0, (0, (0, (0, (0, []))))))).2).2).2).2).2).2).getD v3.toNat (0, (0, 0))).2).1 = (((((((((b.2.1.getD v2.toNat ([], (0, (0, (0, (0, (0, []))))))).2).2).2).2).2).2).getD v3.toNat (0, (0, 0))).2).1) && decide ((((((((((a.2.1.getD v2.toNat ([], (0, (0, (0, (0, (0, []))))))).2).2).2).2).2).2).getD v3.toNat (0, (0, 0))).2).2 = (((((((((b.2.1.getD v2.toNat ([], (0, (0, (0, (0, (0, []))))))).2).2).2).2).2).2).getD v3.toNat (0, (0, 0))).2).2))) then (
 some (.inr (.inr false)))
 else (
 some (.inl (wi64 (v3 + 1)))))
 else (
 some (.inr (.inl ())))
def qbT (a : yB0) (b : yB0) (v2 : Int) : Option (Int ⊕ (Unit ⊕ Bool)) :=
 bif decide (v2 < (a.2.1.length : Int)) then (
 gd (inB v2 a.2.1.length) <|
 gd (inB v2 b.2.1.length) <|
 Option.bind (α := Bool) (
 bif !decide ((a.2.1.getD v2.toNat ([], (0, (0, (0, (0, (0, []))))))).1 = (b.2.1.getD v2.toNat ([], (0, (0, (0, (0, (0, []))))))).1) then (
 some true)
 else (
 bif !decide (((a.2.1.getD v2.toNat ([], (0, (0, (0, (0, (0, []))))))).2).1 = ((b.2.1.getD v2.toNat ([], (0, (0, (0, (0, (0, []))))))).2).1) then (
 some true)
 else (
 bif !decide ((((a.2.1.getD v2.toNat ([], (0, (0, (0, (0, (0, []))))))).2).2).1 = (((b.2.1.getD v2.toNat ([], (0, (0, (0, (0, (0, []))))))).2).2).1) then (
 some true)
 else (
 bif !decide (((((a.2.1.getD v2.toNat ([], (0, (0, (0, (0, (0, []))))))).2).2).2).1 = ((((b.2.1.getD v2.toNat ([], (0, (0, (0, (0, (0, []))))))).2).2).2).1) then (
 some true)
 else (
 bif !decide ((((((a.2.1.getD v2.toNat ([], (0, (0, (0, (0, (0, []))))))).2).2).2).2).1 = (((((b.2.1.getD v2.toNat ([], (0, (0, (0, (0, (0, []))))))).2).2).2).2).1) then (
 some true)
 else (
 bif !decide (((((((a.2.1.getD v2.toNat ([], (0, (0, (0, (0, (0, []))))))).2).2).2).2).2).1 = ((((((b.2.1.getD v2.toNat ([], (0, (0, (0, (0, (0, []))))))).2).2).2).2).2).1) then (
 some true)
 else (
 some (!decide (((((((((a.2.1.getD v2.toNat ([], (0, (0, (0, (0, (0, []))))))).2).2).2).2).2).2).length : Int) = ((((((((b.2.1.getD v2.toNat ([], (0, (0, (0, (0, (0, []))))))).2).2).2).2).2).2).length : Int)))))))))) fun s5 =>
 bif s5 then (
 some (.inr (.inr false)))
 else (
 (iter (fun x2 => qbS a b v2 x2) 0).bind fun s6 =>
 s6.elim (fun s7 =>
 some (.inl (wi64 (v2 + 1))))
 (fun s8 =>
 some (.inr (.inr s8)))))
 else (
 some (.inr (.inl ())))
def qbU (a : yB0) (b : yB0) (v4 : Int) : Option (Int ⊕ (Unit ⊕ Bool)) :=
 bif decide (v4 < (a.2.2.1.length : Int)) then (
 gd (inB v4 a.2.2.1.length) <|
 gd (inB v4 b.2.2.1.length) <|
 bif !(decide ((a.2.2.1.getD v4.toNat ([], (0, 0))).1 = (b.2.2.1.getD v4.toNat ([], (0, 0))).1) && (decide (((a.2.2.1.getD v4.toNat ([], (0, 0))).2).1 = ((b.2.2.1.getD v4.toNat ([], (0, 0))).2).1) && decide (((a.2.2.1.getD v4.toNat ([], (0, 0))).2).2 = ((b.2.2.1.getD v4.toNat ([], (0, 0))).2).2))) then (
 some (.inr (.inr false)))
 else (
 some (.inl (wi64 (v4 + 1)))))
 else (
 some (.inr (.inl ())))
def qbV (a : yB0) (b : yB0) (v5 : Int) : Option (Int ⊕ (Unit ⊕ Bool)) :=
 bif decide (v5 < (a.2.2.2.1.length : Int)) then (
 gd (inB v5 a.2.2.2.1.length) <|
 gd (inB v5 b.2.2.2.1.length) <|
 bif !(decide ((a.2.2.2.1.getD v5.toNat ([], (0, (0, (0, 0))))).1 = (b.2.2.2.1.getD v5.toNat ([], (0, (0, (0, 0))))).1) && (decide (((a.2.2.2.1.getD v5.toNat ([], (0, (0, (0, 0))))).2).1 = ((b.2.2.2.1.getD v5.toNat ([], (0, (0, (0, 0))))).2).1) && (decide ((((a.2.2.2.1.getD v5.toNat ([], (0, (0, (0, 0))))).2).2).1 = (((b.2.2.2.1.getD v5.toNat ([], (0, (0, (0, 0))))).2).2).1) && (decide (((((a.2.2.2.1.getD v5.toNat ([], (0, (0, (0, 0))))).2).2).2).1 = ((((b.2.2.2.1.getD v5.toNat ([], (0, (0, (0, 0))))).2).2).2).1) && decide (((((a.2.2.2.1.getD v5.toNat ([], (0, (0, (0, 0))))).2).2).2).2 = ((((b.2.2.2.1.getD v5.toNat ([], (0, (0, (0, 0))))).2).2).2).2))))) then (
 some (.inr (.inr false)))
 else (
 some (.inl (wi64 (v5 + 1)))))
 else (
 some (.inr (.inl ())))
def qed (a : yB0) (b : yB0) : Option (Bool) :=
 Option.bind (α := Bool) (
 bif !decide ((a.1.length : Int) = (b.1.length : Int)) then (
 some true)
 else (
 bif !decide ((a.2.1.length : Int) = (b.2.1.length : Int)) then (
 some true)
 else (
 bif !decide ((a.2.2.1.length : Int) = (b.2.2.1.length : Int)) then (
 some true)
 else (
 bif !decide ((a.2.2.2.1.length : Int) = (b.2.2.2.1.length : Int)) then (
 some true)
 else (
 bif !decide (a.2.2.2.2.1 = b.2.2.2.2.1) then (
 some true)
 else (
 some (!decide (a.2.2.2.2.2 = b.2.2.2.2.2)))))))) fun s =>
 bif s then (
 some false)
 else (
 (iter (fun x => qbR a b x) 0).bind fun s2 =>
 s2.elim (fun s3 =>
 (iter (fun x3 => qbT a b x3) 0).bind fun s9 =>
 s9.elim (fun s10 =>
 (iter (fun x4 => qbU a b x4) 0).bind fun s12 =>
 s12.elim (fun s13 =>
 (iter (fun x5 => qbV a b x5) 0).bind fun s15 =>
 s15.elim (fun s16 =>
 some true)
 (fun s17 =>
 some s17))
 (fun s14 =>
 some s14))
 (fun s11 =>
 some s11))
 (fun s4 =>
 some s4))
def qhn : Fun :=
 ⟨17, 2, 1,
 ⟨[(0, dd (.pair (.sl (.str)) (.pair (.sl tT0) (.pair (.sl (.pair (.str) tT2)) (.pair (.sl tT1) tT2))))), (1, dd (.pair (.sl (.str)) (.pair (.sl tT0) (.pair (.sl (.pair (.str) tT2)) (.pair (.sl tT1) tT2)))))], [], []⟩,
 ⟨[(0, bb)], [], []⟩,
 fun x => qed x.1 x.2⟩
theorem qke : FO qhn := fi [] [] 198 [] ((nn (mm (mm (.mk [.join [⟨.n, ⟨[(2, pt 48 0), (3, pt 64 0), (59, bb)], v16_, []⟩⟩]] none .nil .nil) .nil) (mm (nn (mm (.mk [] (some (⟨[(2, pt 48 0), (3, pt 64 0), (62, kk), (63, ii)], v16_, []⟩, [⟨.x 0, ⟨r33_, v16_, []⟩⟩, ⟨.r, ⟨[(4, bb)], [], []⟩⟩])) .nil .nil) .nil)) (mm (nn (mm (.mk [] (some (⟨[(2, pt 48 0), (3, pt 64 0), (80, kk), (81, ii)], v16_, []⟩, [⟨.x 2, ⟨r33_, v16_, []⟩⟩, ⟨.r, ⟨[(4, bb)], [], []⟩⟩])) (nn (nn (mm (mm (nn (nn (mm (mm (.mk [.join [⟨.n, ⟨[(2, pt 48 0), (3, pt 64 0), (7, pt 128 0), (8, pt 144 0), (80, kk), (81, kk), (142, bb)], v32_, []⟩⟩]] none .nil .nil) .nil) (nn (mm (.mk [] (some (⟨[(2, pt 48 0), (3, pt 64 0), (7, pt 128 0), (8, pt 144 0), (80, kk), (81, kk), (145, kk), (146, ii)], v32_, []⟩, [⟨.x 4, ⟨[(2, pt 48 0), (3, pt 64 0), (80, kk), (81, kk)], v16_, []⟩⟩, ⟨.r, ⟨[(4, bb)], [], []⟩⟩])) .nil .nil) .nil))))) .nil) .nil))) .nil) .nil)) (mm (nn (mm (.mk [] (some (⟨[(2, pt 48 0), (3, pt 64 0), (164, kk), (165, ii)], v16_, []⟩, [⟨.x 6, ⟨r33_, v16_, []⟩⟩, ⟨.r, ⟨[(4, bb)], [], []⟩⟩])) .nil .nil) .nil)) (mm (nn (mm (.mk [] (some (⟨[(2, pt 48 0), (3, pt 64 0), (182, kk), (183, ii)], v16_, []⟩, [⟨.x 8, ⟨[], [], []⟩⟩, ⟨.r, ⟨[(4, bb)], [], []⟩⟩])) .nil .nil) .nil)) .nil))))))) func17 ⟨trivial, trivial⟩
def qe9 (s : yB4) (v : List UInt8) : Option (Bool) :=
 some (decide (s.1 = v))
def qd1 : Fun :=
 ⟨53, 2, 1,
 ⟨[(0, dd tT0), (1, .one (.sel (.str)))], [], []⟩,
 ⟨[(0, bb)], [], []⟩,
 fun x => qe9 x.1 x.2⟩
theorem qgr : FO qd1 := fi [] [] 8 [] .nil func53 ⟨trivial, trivial⟩
def qce (n : yB0) (name : List UInt8) : Option (Int) :=
 (qai n.2.1 (fun h => (qe9 h.1 name).bind fun y => some y)).bind fun r =>
 some r
def qeQ : Fun :=
 ⟨22, 2, 1,
 ⟨r15_, [], []⟩,
 ⟨[(0, ii)], [], []⟩,
 fun x => qce x.1 x.2⟩
theorem qho : FO qeQ := fi [] [qaw, qd1] 9 [] ((nn (mm (.mk [.fv [(3, .str)]] none .nil .nil) .nil))) func22 ⟨⟨qaP, qgr, trivial⟩, trivial⟩
def qgD (p : List UInt8 × Int × Int) (v : List UInt8) : Option (Bool) :=
 some (decide (p.1 = v))
def qfa : Fun :=
 ⟨50, 2, 1,
 ⟨[(0, dd (.pair (.str) tT2)), (1, .one (.sel (.str)))], [], []⟩,
 ⟨[(0, bb)], [], []⟩,
 fun x => qgD x.1 x.2⟩
theorem qhH : FO qfa := fi [] [] 8 [] .nil func50 ⟨trivial, trivial⟩
def qdI (n : yB0) (name : List UInt8) : Option (Int) :=
 (qaq n.2.2.1 (fun h => (qgD h.1 name).bind fun y => some y)).bind fun r =>
 some r
def qf7 : Fun :=
 ⟨20, 2, 1,
 ⟨r15_, [], []⟩,
 ⟨[(0, ii)], [], []⟩,
 fun x => qdI x.1 x.2⟩
theorem qi3 : FO qf7 := fi [] [qaB, qfa] 9 [] ((nn (mm (.mk [.fv [(3, .str)]] none .nil .nil) .nil))) func20 ⟨⟨qbf, qhH, trivial⟩, trivial⟩
def qjx : Option (List UInt8) :=
 some str_0
def qhp : Fun :=
 ⟨14, 0, 1,
 ⟨[], [], []⟩,
 ⟨[(0, ss)], [], []⟩,
 fun x => qjx⟩
def qkf : Cx := ⟨types, [], [], 1, []⟩
set_option maxRecDepth 100000 in
theorem qkg : FO qhp :=
 FunOk.intro (C := qkf) (p := .nil)
  func14 rfl (by kernel_rfl) rfl rfl rfl rfl qd6 ⟨trivial, trivial⟩ mx (fun x => by kernel_rfl)
def qgU : Option (Bool) :=
 (qjx).bind fun r =>
 (qbQ r).bind fun r2 =>
 (qbQ [110, 111, 100, 101, 32, 97]).bind fun r3 =>
 bif decide (r2.2.2 = 0) then (
 bif decide (r2.2.1 = 0) then (
 bif decide ((r2.1.1.length : Int) = 2) then (
 bif decide ((r2.1.2.1.length : Int) = 1) then (
 gd (inB 0 r2.1.2.1.length) <|
 bif decide (((((r2.1.2.1.getD 0 ([], (0, (0, (0, (0, (0, []))))))).2).2).2).1 = 100) then (
 bif decide ((r2.1.2.2.2.1.length : Int) = 1) then (
 gd (inB 0 r2.1.2.2.2.1.length) <|
 bif decide (((((r2.1.2.2.2.1.getD 0 ([], (0, (0, (0, 0))))).2).2).2).1 = 200) then (
 (qcX (r2.1.1, (r2.1.2.1, (r2.1.2.2.1, (r2.1.2.2.2.1, (r2.1.2.2.2.2.1, r2.1.2.2.2.2.2))))) [98]).bind fun r4 =>
 bif decide (r4 = 1) then (
 bif decide (r3.2.1 = 1) then (
 some (decide (r3.2.2 = 6)))
 else (
 some false))
 else (
 some false))
 else (
 some false))
 else (
 some false))
 else (
 some false))
 else (
 some false))
 else (
 some false))
 else (
 some false))
 else (
 some false)
def qgE : Fun :=
 ⟨7, 0, 1,
 ⟨[], [], []⟩,
 ⟨[(0, bb)], [], []⟩,
 fun x => qgU⟩
theorem qji : FO qgE := fi [] [qhp, qdX, qez] 71 [] .nil func7 ⟨⟨qkg, qfE, qf3, trivial⟩, trivial⟩
def qaC (r2 : yB0 × List Int × Int) (v : Int) : Option (Int ⊕ (Unit ⊕ Bool)) :=
 bif decide (v < (r2.1.1.length : Int)) then (
 gd (inB v r2.1.1.length) <|
 (qcX (r2.1.1, (r2.1.2.1, (r2.1.2.2.1, (r2.1.2.2.2.1, (r2.1.2.2.2.2.1, r2.1.2.2.2.2.2))))) (r2.1.1.getD v.toNat [])).bind fun r7 =>
 bif !decide (r7 = v) then (
 some (.inr (.inr false)))
 else (
 some (.inl (wi64 (v + 1)))))
 else (
 some (.inr (.inl ())))
def qaD (r2 : yB0 × List Int × Int) (v2 : Int) : Option (Int ⊕ (Unit ⊕ Bool)) :=
 bif decide (v2 < (r2.1.2.1.length : Int)) then (
 gd (inB v2 r2.1.2.1.length) <|
 (qce (r2.1.1, (r2.1.2.1, (r2.1.2.2.1, (r2.1.2.2.2.1, (r2.1.2.2.2.2.1, r2.1.2.2.2.2.2))))) ((r2.1.2.1.getD v2.toNat ([], (0, (0, (0, (0, (0, []))))))).1)).bind fun r8 =>
 bif !decide (r8 = v2) then (
 some (.inr (.inr false)))
 else (
 some (.inl (wi64 (v2 + 1)))))
 else (
 some (.inr (.inl ())))
def qaE (r2 : yB0 × List Int × Int) (v3 : Int) : Option (Int ⊕ (Unit ⊕ Bool)) :=
 bif decide (v3 < (r2.1.2.2.1.length : Int)) then (
 gd (inB v3 r2.1.2.2.1.length) <|
 (qdI (r2.1.1, (r2.1.2.1, (r2.1.2.2.1, (r2.1.2.2.2.1, (r2.1.2.2.2.2.1, r2.1.2.2.2.2.2))))) ((r2.1.2.2.1.getD v3.toNat ([], (0, 0))).1)).bind fun r9 =>
 bif !decide (r9 = v3) then (
 some (.inr (.inr false)))
 else (
 some (.inl (wi64 (v3 + 1)))))
 else (
 some (.inr (.inl ())))
def qdu (l : List Int) : Option (Bool) :=
 (qh4 l).bind fun r =>
 (qcA r.1 r.2).bind fun r2 =>
 (qcw (r2.1.1, (r2.1.2.1, (r2.1.2.2.1, (r2.1.2.2.2.1, (r2.1.2.2.2.2.1, r2.1.2.2.2.2.2)))))).bind fun r3 =>
 gd (Nat.ble ([10, 35, 32, 97, 10].length + r3.1.length) 9223372036854775807) <|
 gd (Nat.ble (([10, 35, 32, 97, 10] ++ r3.1).length + [35, 32, 98, 10].length) 9223372036854775807) <|
 (qbQ (([10, 35, 32, 97, 10] ++ r3.1) ++ [35, 32, 98, 10])).bind fun r4 =>
 Option.bind (α := Bool) (
 (qa3 (r2.1.1, (r2.1.2.1, (r2.1.2.2.1, (r2.1.2.2.2.1, (r2.1.2.2.2.2.1, r2.1.2.2.2.2.2)))))).bind fun r5 =>
 bif !decide (r5 = 0) then (
 some true)
 else (
 bif !decide (r3.2 = 0) then (
 some true)
 else (
 bif !decide (r4.2.2 = 0) then (
 some true)
 else (
 bif !decide (r4.2.1 = 0) then (
 some true)
 else (
 (qed (r2.1.1, (r2.1.2.1, (r2.1.2.2.1, (r2.1.2.2.2.1, (r2.1.2.2.2.2.1, r2.1.2.2.2.2.2))))) (r4.1.1, (r4.1.2.1, (r4.1.2.2.1, (r4.1.2.2.2.1, (r4.1.2.2.2.2.1, r4.1.2.2.2.2.2)))))).bind fun r6 =>
 some (!r6)))))) fun s =>
 bif s then (
 some false)
 else (
 (iter (fun x => qaC r2 x) 0).bind fun s2 =>
 s2.elim (fun s3 =>
 (iter (fun x2 => qaD r2 x2) 0).bind fun s5 =>
 s5.elim (fun s6 =>
 (iter (fun x3 => qaE r2 x3) 0).bind fun s8 =>
 s8.elim (fun s9 =>
 (qgU).bind fun r10 =>
 some r10)
 (fun s10 =>
 some s10))
 (fun s7 =>
 some s7))
 (fun s4 =>
 some s4))
def qd2 : Fun :=
 ⟨6, 1, 1,
 ⟨[(0, dd (.sl I6))], [], []⟩,
 ⟨[(0, bb)], [], []⟩,
 fun x => qdu x⟩
theorem qgs : FO qd2 := fi [] [qiW, qep, qe8, qdX, qcO, qhn, qez, qeQ, qf7, qgE] 100 [] ((nn (nn (nn (nn (mm (mm (.mk [.join [⟨.n, ⟨[(3, pt 64 0), (48, bb)], v45_, []⟩⟩]] none .nil .nil) .nil) (mm (nn (mm (.mk [] (some (⟨[(3, pt 64 0), (51, kk), (52, ii)], v45_, []⟩, [⟨.x 0, ⟨[(3, pt 64 0)], v45_, []⟩⟩, ⟨.r, ⟨[(2, bb)], [], []⟩⟩])) .nil .nil) .nil)) (mm (nn (mm (.mk [] (some (⟨[(3, pt 64 0), (67, kk), (68, ii)], v45_, []⟩, [⟨.x 2, ⟨[(3, pt 64 0)], v45_, []⟩⟩, ⟨.r, ⟨[(2, bb)], [], []⟩⟩])) .nil .nil) .nil)) (mm (nn (mm (.mk [] (some (⟨[(3, pt 64 0), (84, kk), (85, ii)], v45_, []⟩, [⟨.x 4, ⟨[], [], []⟩⟩, ⟨.r, ⟨[(2, bb)], [], []⟩⟩])) .nil .nil) .nil)) .nil))))))))) func6 ⟨⟨qme, qgO, qhG, qfE, qdQ, qke, qf3, qho, qi3, qji, trivial⟩, trivial⟩
end
end Go.Proofs.YtpgigbdefbeagaaGreatDoor
