/- Functions, evaluated. No condition. -/
import Derived.Test.YtikmdoopfpnbbaaProg
import Derived.Test.YtikmdoopfpnbbaaSqY
namespace Go.Proofs.Ytikmdoopfpnbbaa
open Go Go.Sq
open Go.Proofs.Try
noncomputable section
abbrev I6 : Ty := .int .i64
abbrev dd (τ : Ty) : Sh := .one (.data τ)
abbrev pt (b o : Nat) : Sh := .one (.ptr b o)
abbrev ow (b : Nat) : Sh := .one (.own b)
abbrev FO (e : Fun) : Prop := FunOk Try.prog e
abbrev yT0 : Type := List UInt8 × Int × Int × Int × Int × Int × List (Int × Int × Int)
abbrev tT0 : Ty := .pair I6 I6
abbrev yB0 : Type := List (List UInt8) × List yT0 × List (List UInt8 × Int × Int) × List (List UInt8 × Int × Int × Int × Int) × Int × Int
abbrev yB1 : Type := List Int × List Int × List Bool
abbrev yB2 : Type := (List (List (Int × Int))) × (List (List (Int × Int))) × (List (List (Int × Int))) × (List (Int × Int)) × List Int × List Int × List Int × List Int
abbrev yB3 : Type := (List (List (Int × Int))) × (List (List (Int × Int))) × (List (List (Int × Int))) × (List (Int × Int)) × List Int × List Int × List Int
abbrev fd (n : String) (t o : Nat) (p : String) (b : Nat) : Field := { name := n, type := t, offset := o, embedded := false, tag := "", pkgPath := p, byteOffset := b }
def ti3 : TI := ⟨3, .int .i64, 1, 8, .int .i64 0, .int .i64, false⟩
theorem tk3 : ti3.ok prog := ⟨underlying3, by kernel_rfl, fun h => by cases h⟩
def ti4 : TI := ⟨4, .bool, 1, 1, .bool false, .bool, false⟩
theorem tk4 : ti4.ok prog := ⟨underlying4, by kernel_rfl, fun h => by cases h⟩
def ti5 : TI := ⟨5, .int .u8, 1, 1, .int .u8 0, .int .u8, false⟩
theorem tk5 : ti5.ok prog := ⟨underlying5, by kernel_rfl, fun h => by cases h⟩
def ti9 : TI := ⟨9, .string, 1, 16, .string ⟨#[]⟩, .str, false⟩
theorem tk9 : ti9.ok prog := ⟨underlying9, by kernel_rfl, fun h => by cases h⟩
def ti22 : TI := ⟨22, .slice 3, 1, 24, .slice none 0 0, .sl I6, false⟩
theorem tk22 : ti22.ok prog := ⟨underlying22, by kernel_rfl, fun h => by cases h⟩
def ti27 : TI := ⟨27, .slice 9, 1, 24, .slice none 0 0, .sl (.str), false⟩
theorem tk27 : ti27.ok prog := ⟨underlying27, by kernel_rfl, fun h => by cases h⟩
def ti28 : TI := ⟨28, .slice 59, 1, 24, .slice none 0 0, .sl (.pair (.str) (.pair I6 (.pair I6 (.pair I6 (.pair I6 (.pair I6 (.sl (.pair I6 tT0)))))))), false⟩
theorem tk28 : ti28.ok prog := ⟨underlying28, by kernel_rfl, fun h => by cases h⟩
def ti29 : TI := ⟨29, .slice 63, 1, 24, .slice none 0 0, .sl (.pair (.str) tT0), false⟩
theorem tk29 : ti29.ok prog := ⟨underlying29, by kernel_rfl, fun h => by cases h⟩
def ti30 : TI := ⟨30, .slice 65, 1, 24, .slice none 0 0, .sl (.pair (.str) (.pair I6 (.pair I6 tT0))), false⟩
theorem tk30 : ti30.ok prog := ⟨underlying30, by kernel_rfl, fun h => by cases h⟩
def ti32 : TI := ⟨32, .struct #[fd "Nodes" 27 0 "" 0, fd "Segments" 28 1 "" 24, fd "Ports" 29 2 "" 48, fd "Stations" 30 3 "" 72, fd "Vapour" 3 4 "" 96, fd "Settle" 3 5 "" 104], 6, 112, .agg #[.slice none 0 0, .slice none 0 0, .slice none 0 0, .slice none 0 0, .int .i64 0, .int .i64 0], .pair (.sl (.str)) (.pair (.sl (.pair (.str) (.pair I6 (.pair I6 (.pair I6 (.pair I6 (.pair I6 (.sl (.pair I6 tT0))))))))) (.pair (.sl (.pair (.str) tT0)) (.pair (.sl (.pair (.str) (.pair I6 (.pair I6 tT0)))) tT0))), true⟩
theorem tk32 : ti32.ok prog := ⟨underlying32, by kernel_rfl, fun _ => ⟨eqGuardType32, stoodInHeld32⟩⟩
def ti34 : TI := ⟨34, .slice 4, 1, 24, .slice none 0 0, .sl (.bool), false⟩
theorem tk34 : ti34.ok prog := ⟨underlying34, by kernel_rfl, fun h => by cases h⟩
def ti36 : TI := ⟨36, .struct #[fd "Rates" 22 0 "" 0, fd "Ports" 22 1 "" 24, fd "Pumps" 34 2 "" 48], 3, 72, .agg #[.slice none 0 0, .slice none 0 0, .slice none 0 0], .pair (.sl I6) (.pair (.sl I6) (.sl (.bool))), true⟩
theorem tk36 : ti36.ok prog := ⟨underlying36, by kernel_rfl, fun _ => ⟨eqGuardType36, stoodInHeld36⟩⟩
def ti39 : TI := ⟨39, .slice 44, 1, 24, .slice none 0 0, .sl (.sl tT0), false⟩
theorem tk39 : ti39.ok prog := ⟨underlying39, by kernel_rfl, fun h => by cases h⟩
def ti44 : TI := ⟨44, .slice 46, 1, 24, .slice none 0 0, .sl tT0, false⟩
theorem tk44 : ti44.ok prog := ⟨underlying44, by kernel_rfl, fun h => by cases h⟩
def ti46 : TI := ⟨46, .struct #[fd "Batch" 3 0 "" 0, fd "Volume" 3 1 "" 8], 2, 16, .agg #[.int .i64 0, .int .i64 0], .pair I6 I6, true⟩
theorem tk46 : ti46.ok prog := ⟨underlying46, by kernel_rfl, fun _ => ⟨eqGuardType46, stoodInHeld46⟩⟩
def ti53 : TI := ⟨53, .struct #[fd "L" 22 0 "" 0, fd "At" 3 1 "" 24], 2, 32, .agg #[.slice none 0 0, .int .i64 0], .pair (.sl I6) I6, true⟩
theorem tk53 : ti53.ok prog := ⟨underlying53, by kernel_rfl, fun _ => ⟨eqGuardType53, stoodInHeld53⟩⟩
def ti57 : TI := ⟨57, .slice 88, 1, 24, .slice none 0 0, .sl (.pair I6 tT0), false⟩
theorem tk57 : ti57.ok prog := ⟨underlying57, by kernel_rfl, fun h => by cases h⟩
def ti59 : TI := ⟨59, .struct #[fd "Name" 9 0 "" 0, fd "From" 3 1 "" 16, fd "To" 3 2 "" 24, fd "Capacity" 3 3 "" 32, fd "Resist" 3 4 "" 40, fd "Wave" 3 5 "" 48, fd "Points" 57 6 "" 56], 7, 80, .agg #[.string ⟨#[]⟩, .int .i64 0, .int .i64 0, .int .i64 0, .int .i64 0, .int .i64 0, .slice none 0 0], .pair (.str) (.pair I6 (.pair I6 (.pair I6 (.pair I6 (.pair I6 (.sl (.pair I6 tT0))))))), true⟩
theorem tk59 : ti59.ok prog := ⟨underlying59, by kernel_rfl, fun _ => ⟨eqGuardType59, stoodInHeld59⟩⟩
def ti63 : TI := ⟨63, .struct #[fd "Name" 9 0 "" 0, fd "Node" 3 1 "" 16, fd "Pressure" 3 2 "" 24], 3, 32, .agg #[.string ⟨#[]⟩, .int .i64 0, .int .i64 0], .pair (.str) tT0, true⟩
theorem tk63 : ti63.ok prog := ⟨underlying63, by kernel_rfl, fun _ => ⟨eqGuardType63, stoodInHeld63⟩⟩
def ti65 : TI := ⟨65, .struct #[fd "Name" 9 0 "" 0, fd "Node" 3 1 "" 16, fd "Head" 3 2 "" 24, fd "Fall" 3 3 "" 32, fd "Suction" 3 4 "" 40], 5, 48, .agg #[.string ⟨#[]⟩, .int .i64 0, .int .i64 0, .int .i64 0, .int .i64 0], .pair (.str) (.pair I6 (.pair I6 tT0)), true⟩
theorem tk65 : ti65.ok prog := ⟨underlying65, by kernel_rfl, fun _ => ⟨eqGuardType65, stoodInHeld65⟩⟩
def ti77 : TI := ⟨77, .map 3 3, 1, 8, .map none, .map I6 I6, false⟩
theorem tk77 : ti77.ok prog := ⟨underlying77, by kernel_rfl, fun h => by cases h⟩
def ti78 : TI := ⟨78, .struct #[fd "fills" 39 0 "batchline/audit" 0, fd "sign" 3 1 "batchline/audit" 24], 2, 32, .agg #[.slice none 0 0, .int .i64 0], .pair (.sl (.sl tT0)) I6, true⟩
theorem tk78 : ti78.ok prog := ⟨underlying78, by kernel_rfl, fun _ => ⟨eqGuardType78, stoodInHeld78⟩⟩
def ti79 : TI := ⟨79, .slice 78, 1, 24, .slice none 0 0, .sl (.pair (.sl (.sl tT0)) I6), false⟩
theorem tk79 : ti79.ok prog := ⟨underlying79, by kernel_rfl, fun h => by cases h⟩
def ti86 : TI := ⟨86, .slice 5, 1, 24, .slice none 0 0, .sl (.int .u8), false⟩
theorem tk86 : ti86.ok prog := ⟨underlying86, by kernel_rfl, fun h => by cases h⟩
def ti88 : TI := ⟨88, .struct #[fd "At" 3 0 "" 0, fd "Height" 3 1 "" 8, fd "Limit" 3 2 "" 16], 3, 24, .agg #[.int .i64 0, .int .i64 0, .int .i64 0], .pair I6 tT0, true⟩
theorem tk88 : ti88.ok prog := ⟨underlying88, by kernel_rfl, fun _ => ⟨eqGuardType88, stoodInHeld88⟩⟩
def ti100 : TI := ⟨100, .array 4 27, 4, 96, .agg #[.slice none 0 0, .slice none 0 0, .slice none 0 0, .slice none 0 0], .pair (.sl (.str)) (.pair (.sl (.str)) (.pair (.sl (.str)) (.sl (.str)))), false⟩
theorem tk100 : ti100.ok prog := ⟨underlying100, by kernel_rfl, fun h => by cases h⟩
def types : List TI := [ti3, ti4, ti5, ti9, ti22, ti27, ti28, ti29, ti30, ti32, ti34, ti36, ti39, ti44, ti46, ti53, ti57, ti59, ti63, ti65, ti77, ti78, ti79, ti86, ti88, ti100]
theorem qpw : Tys prog types := ⟨tk3, tk4, tk5, tk9, tk22, tk27, tk28, tk29, tk30, tk32, tk34, tk36, tk39, tk44, tk46, tk53, tk57, tk59, tk63, tk65, tk77, tk78, tk79, tk86, tk88, tk100, trivial⟩
theorem mx : prog.follows .mixedOrders = true := by kernel_rfl
abbrev kk : Sh := .one .keep
abbrev ii : Sh := .one (.data (.int .i64))
abbrev bb : Sh := .one (.data .bool)
abbrev ss : Sh := .one (.data .str)
abbrev nn (r : Plan) : Plan := .mk [] none .nil r
abbrev mm (l r : Plan) : Plan := .mk [] none l r
abbrev kp (n : Nat) : List Sh1 := List.replicate n .keep
theorem fi {e : Fun} {fn : Func} {c : Code} (ow : List Nat) (fs : List Fun) (N : Nat) (xs : List Ext) (p : Plan) (hf : Try.prog.funcs[e.f]? = some fn) (hfs : CxOk Try.prog ⟨types, ow, fs, N, xs⟩) (hb : fn.body = some c := by exact rfl) (hname : (fn.name == "runtime.NumGoroutine") = false := by kernel_rfl) (hN : fn.ntmps = N := by exact rfl) (hnp : Nat.ble e.np N = true := by exact rfl) (hnr : fn.results.toList.length = e.nr := by exact rfl) (hregs : e.ji.regs.all (fun q => Nat.blt q.1 e.np) = true := by exact rfl) (h : ∀ x, e.tw x = evFun ⟨types, ow, fs, N, xs⟩ e.ji e.jo fn.results.toList c p x := by intro x; kernel_rfl) : FunOk Try.prog e :=
 FunOk.intro (C := ⟨types, ow, fs, N, xs⟩) hf hb hname hN hnp hnr hregs qpw hfs mx h
abbrev a0_ : List (Nat × ObSh) := [(1049, .arr 9 (.str)), (1065, .arr 59 (.pair (.str) (.pair I6 (.pair I6 (.pair I6 (.pair I6 (.pair I6 (.sl (.pair I6 tT0))))))))), (1081, .arr 63 (.pair (.str) tT0)), (1097, .arr 65 (.pair (.str) (.pair I6 (.pair I6 tT0))))]
abbrev v1_ : List (Nat × TypeId × List Sh1) := [(0, 53, [.data (.sl I6), .data I6]), (64, 32, (kp 6)), (80, 36, [.keep, .keep, .keep]), (96, 36, [.own 416, .own 480, .own 1593])]
abbrev v2_ : List (Nat × TypeId × List Sh1) := [(0, 53, [.keep, .keep]), (64, 32, (kp 6)), (80, 36, [.keep, .keep, .keep]), (96, 36, [.own 416, .own 480, .own 1593])]
abbrev v3_ : List (Nat × TypeId × List Sh1) := [(80, 32, (kp 6)), (112, 36, [.keep, .keep, .keep])]
abbrev v4_ : List (Nat × TypeId × List Sh1) := [(0, 53, [.data (.sl I6), .data I6])]
abbrev v5_ : List (Nat × TypeId × List Sh1) := [(48, 32, (kp 6)), (64, 36, [.keep, .keep, .keep])]
abbrev a6_ : List (Nat × ObSh) := [(832, .arr 44 (.sl tT0)), (896, .arr 44 (.sl tT0)), (944, .arr 44 (.sl tT0)), (363, .arr 46 tT0), (379, .arr 3 I6), (395, .arr 3 I6), (1248, .arr 3 I6)]
abbrev a7_ : List (Nat × ObSh) := [(832, .arr 44 (.sl tT0)), (896, .arr 44 (.sl tT0)), (944, .arr 44 (.sl tT0)), (363, .arr 46 tT0), (379, .arr 3 I6), (395, .arr 3 I6), (411, .arr 3 I6), (1248, .arr 3 I6)]
abbrev r8_ : List (Nat × Sh) := [(0, dd (.pair (.sl (.str)) (.pair (.sl (.pair (.str) (.pair I6 (.pair I6 (.pair I6 (.pair I6 (.pair I6 (.sl (.pair I6 tT0))))))))) (.pair (.sl (.pair (.str) tT0)) (.pair (.sl (.pair (.str) (.pair I6 (.pair I6 tT0)))) tT0))))), (1, dd (.pair (.sl I6) (.pair (.sl I6) (.sl (.bool)))))]
abbrev r9_ : List (Nat × Sh) := [(0, dd (.pair (.sl (.str)) (.pair (.sl (.pair (.str) (.pair I6 (.pair I6 (.pair I6 (.pair I6 (.pair I6 (.sl (.pair I6 tT0))))))))) (.pair (.sl (.pair (.str) tT0)) (.pair (.sl (.pair (.str) (.pair I6 (.pair I6 tT0)))) tT0)))))]
abbrev r10_ : List (Nat × Sh) := [(0, dd (.pair (.sl (.str)) (.pair (.sl (.pair (.str) (.pair I6 (.pair I6 (.pair I6 (.pair I6 (.pair I6 (.sl (.pair I6 tT0))))))))) (.pair (.sl (.pair (.str) tT0)) (.pair (.sl (.pair (.str) (.pair I6 (.pair I6 tT0)))) tT0))))), (1, dd (.sl (.sl tT0))), (2, dd (.pair (.sl I6) (.pair (.sl I6) (.sl (.bool))))), (3, dd (.sl I6))]
abbrev v11_ : List (Nat × TypeId × List Sh1) := [(0, 53, [.data (.sl I6), .data I6]), (48, 32, (kp 6)), (64, 32, [.own 1049, .own 1065, .own 1081, .own 1097, .keep, .keep])]
abbrev a12_ : List (Nat × ObSh) := [(219, .arr 3 I6), (416, .arr 3 I6), (480, .arr 3 I6), (1593, .arr 4 (.bool))]
abbrev a13_ : List (Nat × ObSh) := [(1049, .arr 9 (.str)), (1065, .arr 59 (.pair (.str) (.pair I6 (.pair I6 (.pair I6 (.pair I6 (.pair I6 (.sl (.pair I6 tT0)))))))))]
abbrev r14_ : List (Nat × Sh) := [(0, pt 0 0), (1, dd (.pair (.sl (.str)) (.pair (.sl (.pair (.str) (.pair I6 (.pair I6 (.pair I6 (.pair I6 (.pair I6 (.sl (.pair I6 tT0))))))))) (.pair (.sl (.pair (.str) tT0)) (.pair (.sl (.pair (.str) (.pair I6 (.pair I6 tT0)))) tT0))))), (2, ii)]
abbrev a15_ : List (Nat × ObSh) := [(832, .arr 44 (.sl tT0)), (896, .arr 44 (.sl tT0)), (944, .arr 44 (.sl tT0)), (395, .arr 3 I6), (3344, .arr 44 (.sl tT0)), (1248, .arr 3 I6), (411, .arr 3 I6)]
abbrev v16_ : List (Nat × TypeId × List Sh1) := [(0, 53, [.data (.sl I6), .data I6]), (48, 32, (kp 6)), (64, 32, [.own 1049, .own 1065, .keep, .keep, .keep, .keep])]
abbrev r17_ : List (Nat × Sh) := [(3, kk), (4, pt 80 0), (6, pt 112 0), (12, ow 832), (13, ow 896), (14, ow 944), (15, kk), (20, kk), (21, ow 363), (22, ow 379), (23, ow 395), (24, ow 411), (80, ow 1248), (81, kk), (82, kk), (146, kk), (147, kk), (148, kk)]
abbrev a18_ : List (Nat × ObSh) := [(416, .arr 3 I6), (480, .arr 3 I6), (1593, .arr 4 (.bool))]
abbrev v19_ : List (Nat × TypeId × List Sh1) := [(32, 32, (kp 6))]
abbrev a20_ : List (Nat × ObSh) := [(832, .arr 44 (.sl tT0)), (896, .arr 44 (.sl tT0)), (944, .arr 44 (.sl tT0))]
abbrev a21_ : List (Nat × ObSh) := [(219, .arr 3 I6), (283, .arr 3 I6), (416, .arr 3 I6), (480, .arr 3 I6), (1593, .arr 4 (.bool))]
abbrev a22_ : List (Nat × ObSh) := [(107, .arr 3 I6), (288, .arr 4 (.bool))]
abbrev v23_ : List (Nat × TypeId × List Sh1) := [(0, 53, [.data (.sl I6), .data I6]), (144, 59, (kp 7)), (160, 59, [.keep, .keep, .keep, .keep, .keep, .keep, .own 2681])]
abbrev a24_ : List (Nat × ObSh) := [(832, .arr 44 (.sl tT0)), (896, .arr 44 (.sl tT0)), (944, .arr 44 (.sl tT0)), (395, .arr 3 I6), (411, .arr 3 I6), (3344, .arr 44 (.sl tT0)), (1248, .arr 3 I6)]
abbrev a25_ : List (Nat × ObSh) := [(832, .arr 44 (.sl tT0)), (896, .arr 44 (.sl tT0)), (944, .arr 44 (.sl tT0)), (1248, .arr 3 I6)]
abbrev r26_ : List (Nat × Sh) := [(2, pt 48 0), (3, pt 64 0), (5, ow 107), (6, ow 288), (7, kk), (8, kk), (9, bb), (20, kk), (21, kk), (30, kk), (31, kk), (32, kk)]
abbrev v27_ : List (Nat × TypeId × List Sh1) := [(64, 32, (kp 6)), (80, 36, [.keep, .keep, .keep])]
abbrev a28_ : List (Nat × ObSh) := [(75, .arr 46 tT0)]
abbrev v29_ : List (Nat × TypeId × List Sh1) := [(32, 36, [.keep, .keep, .keep]), (48, 36, [.keep, .keep, .keep]), (64, 36, [.own 1049, .keep, .own 160])]
abbrev r30_ : List (Nat × Sh) := [(0, dd (.sl tT0))]
abbrev a31_ : List (Nat × ObSh) := [(832, .arr 44 (.sl tT0)), (896, .arr 44 (.sl tT0))]
abbrev a32_ : List (Nat × ObSh) := [(256, .nest 44 (.sl tT0) 0 46), (304, .arr 3 I6), (448, .arr 3 I6)]
abbrev v33_ : List (Nat × TypeId × List Sh1) := [(0, 53, [.keep, .keep]), (48, 32, (kp 6)), (64, 32, [.own 1049, .keep, .keep, .keep, .keep, .keep])]
abbrev r34_ : List (Nat × Sh) := [(0, dd (.pair (.str) (.pair I6 (.pair I6 (.pair I6 (.pair I6 (.pair I6 (.sl (.pair I6 tT0)))))))))]
abbrev a35_ : List (Nat × ObSh) := [(704, .arr 44 (.sl tT0)), (705, .arr 44 (.sl tT0)), (235, .arr 46 tT0), (251, .arr 46 tT0)]
abbrev v36_ : List (Nat × TypeId × List Sh1) := [(32, 32, (kp 6)), (48, 100, (kp 4)), (64, 100, [.keep, .own 1065, .own 1081, .keep])]
abbrev v37_ : List (Nat × TypeId × List Sh1) := [(80, 32, (kp 6)), (112, 36, [.keep, .keep, .keep]), (432, 63, [.keep, .keep, .keep])]
abbrev r38_ : List (Nat × Sh) := [(0, dd (.pair (.sl I6) (.pair (.sl I6) (.sl (.bool)))))]
abbrev r39_ : List (Nat × Sh) := [(2, pt 48 0), (3, pt 64 0)]
abbrev v40_ : List (Nat × TypeId × List Sh1) := [(32, 32, (kp 6)), (48, 100, (kp 4)), (64, 100, [.keep, .own 1065, .keep, .keep])]
abbrev v41_ : List (Nat × TypeId × List Sh1) := [(32, 32, (kp 6)), (96, 100, (kp 4))]
abbrev r42_ : List (Nat × Sh) := [(0, pt 0 0), (3, pt 64 0), (4, pt 80 0), (5, pt 96 0), (7, kk), (8, kk)]
abbrev v43_ : List (Nat × TypeId × List Sh1) := [(48, 100, (kp 4)), (64, 100, [.keep, .own 1065, .own 1081, .own 1097])]
abbrev a44_ : List (Nat × ObSh) := [(139, .arr 46 tT0)]
abbrev a45_ : List (Nat × ObSh) := [(1065, .arr 9 (.str)), (1081, .arr 9 (.str)), (1097, .arr 9 (.str))]
abbrev r46_ : List (Nat × Sh) := [(1, pt 32 0), (2, pt 48 0), (3, pt 64 0)]
abbrev a47_ : List (Nat × ObSh) := [(1049, .arr 3 I6), (1065, .arr 3 I6), (160, .arr 4 (.bool))]
abbrev r48_ : List (Nat × Sh) := [(0, pt 0 0), (2, pt 48 0), (3, pt 64 0), (5, kk), (9, kk)]
abbrev a49_ : List (Nat × ObSh) := [(208, .map true 77 I6 I6)]
abbrev a50_ : List (Nat × ObSh) := [(0, .arr 46 tT0), (1, .arr 46 tT0)]
abbrev a51_ : List (Nat × ObSh) := [(2681, .arr 88 (.pair I6 tT0))]
abbrev a52_ : List (Nat × ObSh) := [(256, .nest 44 (.sl tT0) 0 46)]
def qf4 (l : List Int) : Option (Bool) :=
 some (decide ((l.length : Int) ≤ 400))
def qfJ : Fun :=
 ⟨4, 1, 1,
 ⟨[(0, dd (.sl I6))], [], []⟩,
 ⟨[(0, bb)], [], []⟩,
 fun x => qf4 x⟩
theorem qi1 : FO qfJ := fi [] [] 6 [] .nil func4 ⟨trivial, trivial⟩
def qfd (p : Int × Int) : Option (Bool) :=
 bif decide (0 ≤ p.1) then (
 bif decide (p.1 < 1000) then (
 bif decide (0 ≤ p.2) then (
 some (decide (p.2 ≤ 1000000)))
 else (
 some false))
 else (
 some false))
 else (
 some false)
def qeR : Fun :=
 ⟨44, 1, 1,
 ⟨[(0, dd tT0)], [], []⟩,
 ⟨[(0, bb)], [], []⟩,
 fun x => qfd x⟩
theorem qhV : FO qeR := fi [] [] 21 [] .nil func44 ⟨trivial, trivial⟩
def qbZ (f : List (Int × Int)) (sum : Int) (v : Int) : Option ((Int × Int) ⊕ Int) :=
 bif decide (v < (f.length : Int)) then (
 gd (inB v f.length) <|
 some (.inl (wi64 (sum + ((f.getD v.toNat (0, 0)).2)), wi64 (v + 1))))
 else (
 some (.inr sum))
def qbW (f : List (Int × Int)) : Option (Int) :=
 (iter (fun x => qbZ f x.1 x.2) (0, 0)).bind fun s =>
 some s
def qdk : Fun :=
 ⟨45, 1, 1,
 ⟨r30_, [], []⟩,
 ⟨[(0, ii)], [], []⟩,
 fun x => qbW x⟩
theorem qeS : FO qdk := fi [] [] 18 [] ((nn (nn (mm (nn (mm (.mk [] (some (⟨[(3, ii), (6, kk), (7, kk), (8, ii)], [], []⟩, [⟨.x 0, ⟨[(3, ii)], [], []⟩⟩])) .nil .nil) .nil)) .nil)))) func45 ⟨trivial, trivial⟩
def qbf (f : List (Int × Int)) (v : Int) : Option (Int ⊕ (Unit ⊕ Bool)) :=
 bif decide (v < (f.length : Int)) then (
 gd (inB v f.length) <|
 Option.bind (α := Bool) (
 (qfd ((f.getD v.toNat (0, 0)).1, (f.getD v.toNat (0, 0)).2)).bind fun r =>
 bif !r then (
 some true)
 else (
 bif decide ((f.getD v.toNat (0, 0)).2 = 0) then (
 some true)
 else (
 bif decide (0 < v) then (
 gd (inB (wi64 (v - 1)) f.length) <|
 some (decide ((f.getD (wi64 (v - 1)).toNat (0, 0)).1 = (f.getD v.toNat (0, 0)).1)))
 else (
 some false)))) fun s =>
 bif s then (
 some (.inr (.inr false)))
 else (
 some (.inl (wi64 (v + 1)))))
 else (
 some (.inr (.inl ())))
def qbv (f : List (Int × Int)) : Option (Bool) :=
 bif decide (200 < (f.length : Int)) then (
 some false)
 else (
 (iter (fun x => qbf f x) 0).bind fun s2 =>
 s2.elim (fun s3 =>
 (qbW f).bind fun r2 =>
 some (decide (r2 ≤ 1000000)))
 (fun s4 =>
 some s4))
def qb0 : Fun :=
 ⟨33, 1, 1,
 ⟨r30_, [], []⟩,
 ⟨[(0, bb)], [], []⟩,
 fun x => qbv x⟩
theorem qdl : FO qb0 := fi [] [qeR, qdk] 42 [] ((nn (nn (mm (nn (mm (.mk [] (some (⟨[(0, kk), (8, kk), (9, kk), (10, ii)], [], []⟩, [⟨.x 0, ⟨[(0, kk)], [], []⟩⟩, ⟨.r, ⟨[(2, bb)], [], []⟩⟩])) (nn (nn (mm (mm (nn (mm (.mk [.join [⟨.n, ⟨[(0, kk), (8, kk), (9, kk), (10, kk), (37, bb)], [], []⟩⟩]] none .nil .nil) .nil)) .nil) .nil))) .nil) .nil)) .nil)))) func33 ⟨⟨qhV, qeS, trivial⟩, trivial⟩
def qbn (fills : List (List (Int × Int))) (v : Int) (v2 : Int) (out2 : List (Int × Int)) : Option ((Int × List (Int × Int)) ⊕ (List (Int × Int))) :=
 bif decide (v2 < ((fills.getD v.toNat []).length : Int)) then (
 gd (inB v2 (fills.getD v.toNat []).length) <|
 some (.inl (wi64 (v2 + 1), mput keyI out2 (((fills.getD v.toNat []).getD v2.toNat (0, 0)).1) (wi64 (((mget keyI out2 (((fills.getD v.toNat []).getD v2.toNat (0, 0)).1)).getD 0) + (((fills.getD v.toNat []).getD v2.toNat (0, 0)).2))))))
 else (
 some (.inr out2))
def qcn (fills : List (List (Int × Int))) (v : Int) (out : List (Int × Int)) : Option ((Int × List (Int × Int)) ⊕ ((List (Int × Int)) ⊕ ((List (Int × Int)) × Int))) :=
 bif decide (v < (fills.length : Int)) then (
 gd (inB v fills.length) <|
 (qbv (fills.getD v.toNat [])).bind fun r =>
 bif !r then (
 some (.inr (.inr ([], 14))))
 else (
 (iter (fun x => qbn fills v x.1 x.2) (0, out)).bind fun s =>
 some (.inl (wi64 (v + 1), s))))
 else (
 some (.inr (.inl out)))
def qcA (fills : List (List (Int × Int))) : Option ((List (Int × Int)) × Int) :=
 bif decide (32 < (fills.length : Int)) then (
 some ([], 4))
 else (
 (iter (fun x2 => qcn fills x2.1 x2.2) (0, [])).bind fun s2 =>
 s2.elim (fun s3 =>
 some (s3, 0))
 (fun s4 =>
 some (s4.1, s4.2)))
def qd1 : Fun :=
 ⟨32, 1, 2,
 ⟨[(0, dd (.sl (.sl tT0)))], [], []⟩,
 ⟨[(0, dd (.map I6 I6)), (1, ii)], [], []⟩,
 fun x => qcA x⟩
theorem qgr : FO qd1 := fi [] [qb0] 38 [] ((nn (nn (nn (mm (nn (mm (.mk [] (some (⟨[(4, ow 208), (13, kk), (14, kk), (15, ii)], [], a49_⟩, [⟨.x 0, ⟨[(4, ow 208)], [], a49_⟩⟩, ⟨.r, ⟨[(2, dd (.map I6 I6)), (3, ii)], [], []⟩⟩])) (nn (nn (mm (mm (nn (nn (nn (mm (.mk [] (some (⟨[(4, ow 208), (13, kk), (14, kk), (15, kk), (22, kk), (23, kk), (24, ii)], [], a49_⟩, [⟨.x 2, ⟨[(4, ow 208), (13, kk), (14, kk), (15, kk)], [], a49_⟩⟩])) .nil .nil) .nil)))) .nil) .nil))) .nil) .nil)) .nil))))) func32 ⟨⟨qdl, trivial⟩, trivial⟩
def qcB (before : List (List (Int × Int))) (after : List (List (Int × Int))) (vin : List (Int × Int)) (out : List (Int × Int)) (v : Int) (sums2 : List (Int × Int)) (v2 : List (Int × Int)) : List (Option (((List (Int × Int)) × List (Int × Int)) ⊕ (List (Int × Int)))) :=
 bif qgm v2.tail then [
 some (.inr sums2)]
 else ((List.range v2.tail.length).map fun i =>
 bif decide ((mget keyI (mput keyI sums2 (((qbH (0, 0) v2.tail i).headD (0, 0)).1) (wi64 (((mget keyI sums2 (((qbH (0, 0) v2.tail i).headD (0, 0)).1)).getD 0) + (wi64 ((([(before, 1), (after, (-1)), ([vin], 1), ([out], (-1))].getD v.toNat ([], 0)).2) * (((qbH (0, 0) v2.tail i).headD (0, 0)).2)))))) (((qbH (0, 0) v2.tail i).headD (0, 0)).1)).getD 0 = 0) then (
 some (.inl (mdel keyI (mput keyI sums2 (((qbH (0, 0) v2.tail i).headD (0, 0)).1) (wi64 (((mget keyI sums2 (((qbH (0, 0) v2.tail i).headD (0, 0)).1)).getD 0) + (wi64 ((([(before, 1), (after, (-1)), ([vin], 1), ([out], (-1))].getD v.toNat ([], 0)).2) * (((qbH (0, 0) v2.tail i).headD (0, 0)).2)))))) (((qbH (0, 0) v2.tail i).headD (0, 0)).1), qbH (0, 0) v2.tail i)))
 else (
 some (.inl (mput keyI sums2 (((qbH (0, 0) v2.tail i).headD (0, 0)).1) (wi64 (((mget keyI sums2 (((qbH (0, 0) v2.tail i).headD (0, 0)).1)).getD 0) + (wi64 ((([(before, 1), (after, (-1)), ([vin], 1), ([out], (-1))].getD v.toNat ([], 0)).2) * (((qbH (0, 0) v2.tail i).headD (0, 0)).2))))), qbH (0, 0) v2.tail i))))
def qbJ (before : List (List (Int × Int))) (after : List (List (Int × Int))) (vin : List (Int × Int)) (out : List (Int × Int)) (v : Int) (sums : List (Int × Int)) : Option ((Int × List (Int × Int)) ⊕ ((List (Int × Int)) ⊕ (Bool × Int))) :=
 bif decide (v < ([(before, 1), (after, (-1)), ([vin], 1), ([out], (-1))].length : Int)) then (
 gd (inB v [(before, 1), (after, (-1)), ([vin], 1), ([out], (-1))].length) <|
 (qcA (([(before, 1), (after, (-1)), ([vin], 1), ([out], (-1))].getD v.toNat ([], 0)).1)).bind fun r =>
 bif !decide (r.2 = 0) then (
 some (.inr (.inr (false, r.2))))
 else (
 iterK (fun x => qcB before after vin out v x.1 x.2) (sums, ((0, 0) :: r.1)) fun s =>
 some (.inl (wi64 (v + 1), s))))
 else (
 some (.inr (.inl sums)))
def qcO (before : List (List (Int × Int))) (after : List (List (Int × Int))) (vin : List (Int × Int)) (out : List (Int × Int)) : Option (Bool × Int) :=
 (iter (fun x2 => qbJ before after vin out x2.1 x2.2) (0, [])).bind fun s2 =>
 s2.elim (fun s3 =>
 some (decide ((s3.length : Int) = 0), 0))
 (fun s4 =>
 some (s4.1, s4.2))
def qdL : Fun :=
 ⟨13, 4, 2,
 ⟨[(0, dd (.sl (.sl tT0))), (1, dd (.sl (.sl tT0))), (2, dd (.sl tT0)), (3, dd (.sl tT0))], [], []⟩,
 ⟨[(0, bb), (1, ii)], [], []⟩,
 fun x => qcO x.1 x.2.1 x.2.2.1 x.2.2.2⟩
theorem qfK : FO qdL := fi [] [qd1] 68 [] ((nn (nn (mm (nn (mm (.mk [] (some (⟨[(10, ow 288), (28, kk), (29, kk), (30, ii)], [], [(288, .map true 77 I6 I6)]⟩, [⟨.x 0, ⟨[(10, ow 288)], [], [(288, .map true 77 I6 I6)]⟩⟩, ⟨.r, ⟨[(8, bb), (9, ii)], [], []⟩⟩])) (nn (nn (mm (mm (nn (nn (nn (nn (mm (.mk [] (some (⟨[(10, ow 288), (12, pt 208 0), (28, kk), (29, kk), (30, kk), (44, ow 720)], [(208, 78, [.keep, .keep])], [(288, .map true 77 I6 I6), (720, .iter false I6 I6)]⟩, [⟨.x 2, ⟨[(10, ow 288), (28, kk), (29, kk), (30, kk)], [], [(288, .map true 77 I6 I6)]⟩⟩])) .nil .nil) .nil))))) .nil) .nil))) .nil) .nil)) .nil)))) func13 ⟨⟨qgr, trivial⟩, trivial⟩
def qbF (s : List (Int × Int)) : Option (List (Int × Int)) :=
 bif Nat.beq s.length 0 then (bothO (
 some []) (
 gd (fits (0 + s.length) 16) <|
 some ([] ++ s)))
 else (
 gd (fits (0 + s.length) 16) <|
 some ([] ++ s))
def qac : Fun :=
 ⟨47, 1, 1,
 ⟨r30_, [], []⟩,
 ⟨[(0, ow 0)], [], [(0, .arr 46 tT0)]⟩,
 fun x => qbF x⟩
theorem qbe : FO qac := fi [5] [] 8 [] .nil func47 ⟨trivial, trivial⟩
def qad (s : List (Int × Int)) : Option (List (Int × Int)) := gd (fits (0 + s.length) 16) (some ([] ++ s))
def qal : Fun := { f := qac.f, np := qac.np, nr := qac.nr, ji := qac.ji, jo := qac.jo, tw := fun x => qad x }
theorem qaz : FO qal := qbe.le fun x => qpu x _
def qa4 (f : List (Int × Int)) (v : Int) (out : List (Int × Int)) : Option ((Int × List (Int × Int)) ⊕ (List (Int × Int))) :=
 bif decide (v < (f.length : Int)) then (
 gd (inB v f.length) <|
 Option.bind (α := List (Int × Int)) (
 bif decide ((f.getD v.toNat (0, 0)).1 = (f.getD v.toNat (0, 0)).1) && decide ((f.getD v.toNat (0, 0)).2 = 0) then (
 some out)
 else (
 Option.bind (α := Bool × List (Int × Int)) (
 bif decide (0 < (out.length : Int)) then (
 gd (inB (wi64 ((out.length : Int) - 1)) out.length) <|
 some (decide ((out.getD ((wi64 ((out.length : Int) - 1)).toNat) (0, 0)).1 = (f.getD v.toNat (0, 0)).1), out))
 else (
 some (false, out))) fun s =>
 Option.bind (α := List (Int × Int)) (
 bif s.1 then (
 gd (inB (wi64 ((out.length : Int) - 1)) s.2.length) <|
 gd (inB (wi64 ((out.length : Int) - 1)) s.2.length) <|
 some (s.2.set ((wi64 ((out.length : Int) - 1)).toNat) ((s.2.getD ((wi64 ((out.length : Int) - 1)).toNat) (0, 0)).1, wi64 (((s.2.getD ((wi64 ((out.length : Int) - 1)).toNat) (0, 0)).2) + ((f.getD v.toNat (0, 0)).2)))))
 else (
 gd (fits (s.2.length + 1) 16) <|
 some (s.2 ++ [((f.getD v.toNat (0, 0)).1, (f.getD v.toNat (0, 0)).2)]))) fun s2 =>
 some s2)) fun s3 =>
 some (.inl (wi64 (v + 1), s3)))
 else (
 some (.inr out))
def qck (f : List (Int × Int)) : Option (List (Int × Int)) :=
 (iter (fun x => qa4 f x.1 x.2) (0, [])).bind fun s4 =>
 some s4
def qem : Fun :=
 ⟨51, 1, 1,
 ⟨r30_, [], []⟩,
 ⟨[(0, ow 0)], [], [(0, .arr 46 tT0)]⟩,
 fun x => qck x⟩
theorem qhx : FO qem := fi [] [] 52 [] ((nn (nn (mm (nn (mm (.mk [] (some (⟨[(3, ow 75), (7, kk), (8, kk), (9, ii)], [], a28_⟩, [⟨.x 0, ⟨[(3, ow 75)], [], a28_⟩⟩])) (nn (nn (mm (mm (nn (nn (mm (nn (.mk [.join [⟨.n, ⟨[(3, ow 75), (7, kk), (8, kk), (9, kk)], [], a28_⟩⟩]] none .nil (mm (.mk [.join [⟨.n, ⟨[(3, ow 75), (5, pt 96 0), (6, kk), (7, kk), (8, kk), (9, kk), (25, bb)], [(96, 46, [.keep, .keep])], a28_⟩⟩]] none .nil .nil) (.mk [.join [⟨.n, ⟨[(3, ow 75), (7, kk), (8, kk), (9, kk)], [], a28_⟩⟩]] none .nil .nil)))) .nil))) .nil) .nil))) .nil) .nil)) .nil)))) func51 ⟨trivial, trivial⟩
def qde (f : List (Int × Int)) (litres2 : Int) (v : Int) (head : List (Int × Int)) (tail : List (Int × Int)) : Option ((Int × Int × (List (Int × Int)) × List (Int × Int)) ⊕ ((List (Int × Int)) × List (Int × Int))) :=
 bif decide (v < (f.length : Int)) then (
 gd (inB v f.length) <|
 gd (inB v head.length) <|
 gd (inB v (head.set v.toNat ((head.getD v.toNat (0, 0)).1, min ((f.getD v.toNat (0, 0)).2) litres2)).length) <|
 gd (inB v (head.set v.toNat ((head.getD v.toNat (0, 0)).1, min ((f.getD v.toNat (0, 0)).2) litres2)).length) <|
 gd (inB v tail.length) <|
 some (.inl (wi64 (litres2 - (((head.set v.toNat ((head.getD v.toNat (0, 0)).1, min ((f.getD v.toNat (0, 0)).2) litres2)).getD v.toNat (0, 0)).2)), wi64 (v + 1), head.set v.toNat ((head.getD v.toNat (0, 0)).1, min ((f.getD v.toNat (0, 0)).2) litres2), tail.set v.toNat ((tail.getD v.toNat (0, 0)).1, wi64 (((f.getD v.toNat (0, 0)).2) - (((head.set v.toNat ((head.getD v.toNat (0, 0)).1, min ((f.getD v.toNat (0, 0)).2) litres2)).getD v.toNat (0, 0)).2))))))
 else (
 some (.inr (head, tail)))
def qen (f : List (Int × Int)) (litres : Int) : Option ((List (Int × Int)) × List (Int × Int)) :=
 (qad f).bind fun r =>
 (qad f).bind fun r2 =>
 (iter (fun x => qde f x.1 x.2.1 x.2.2.1 x.2.2.2) (litres, 0, r, r2)).bind fun s =>
 (qck s.1).bind fun r3 =>
 (qck s.2).bind fun r4 =>
 some (r3, r4)
def qgn : Fun :=
 ⟨46, 2, 2,
 ⟨[(0, dd (.sl tT0)), (1, ii)], [], []⟩,
 ⟨[(0, ow 0), (1, ow 1)], [], a50_⟩,
 fun x => qen x.1 x.2⟩
theorem qj9 : FO qgn := fi [] [qal, qem] 53 [] ((nn (nn (mm (nn (mm (.mk [] (some (⟨[(1, ii), (6, ow 192), (7, ow 224), (14, kk), (15, kk), (16, ii)], [], [(192, .arr 46 tT0), (224, .arr 46 tT0)]⟩, [⟨.x 0, ⟨[(6, ow 192), (7, ow 224)], [], [(192, .arr 46 tT0), (224, .arr 46 tT0)]⟩⟩])) .nil .nil) .nil)) .nil)))) func46 ⟨⟨qaz, qhx, trivial⟩, trivial⟩
def qik (f : List (Int × Int)) (vin : List (Int × Int)) (back : Bool) : Option (Int × (List (Int × Int)) × List (Int × Int)) :=
 Option.bind (α := Bool) (
 (qbv f).bind fun r =>
 bif !r then (
 some true)
 else (
 (qbv vin).bind fun r2 =>
 some (!r2))) fun s =>
 bif s then (
 some (9, [], []))
 else (
 Option.bind (α := (List (Int × Int)) × List (Int × Int)) (
 bif back then (
 (qad f).bind fun r3 =>
 gd (fits (r3.length + vin.length) 16) <|
 (qbW vin).bind fun r4 =>
 (qen (r3 ++ vin) r4).bind fun r5 =>
 some (r5.2, r5.1))
 else (
 (qad vin).bind fun r6 =>
 gd (fits (r6.length + f.length) 16) <|
 (qbW f).bind fun r7 =>
 (qen (r6 ++ f) r7).bind fun r8 =>
 some (r8.1, r8.2))) fun s2 =>
 Option.bind (α := Bool × (List (Int × Int)) × List (Int × Int)) (
 bif decide (200 < (s2.1.length : Int)) then (
 some (true, s2.1, s2.2))
 else (
 some (decide (200 < (s2.2.length : Int)), s2.1, s2.2))) fun s3 =>
 bif s3.1 then (
 some (4, [], []))
 else (
 some (0, s3.2.1, s3.2.2)))
def qfL : Fun :=
 ⟨34, 3, 3,
 ⟨[(0, dd (.sl tT0)), (1, dd (.sl tT0)), (2, bb)], [], []⟩,
 ⟨[(0, ow 0), (1, ow 1), (2, ii)], [], a50_⟩,
 fun x => qik x.1 x.2.1 x.2.2⟩
theorem qi2 : FO qfL := fi [] [qb0, qal, qdk, qgn] 50 [] ((nn (mm (mm (.mk [.join [⟨.n, ⟨[(0, kk), (1, kk), (2, kk), (18, bb)], [], []⟩⟩]] none .nil .nil) .nil) (nn (mm (nn (.mk [.join [⟨.n, ⟨[(9, ow 171), (10, ow 187)], [], [(171, .arr 46 tT0), (187, .arr 46 tT0)]⟩⟩]] none .nil .nil)) (mm (mm (.mk [.join [⟨.n, ⟨[(9, ow 171), (10, ow 187), (47, bb)], [], [(171, .arr 46 tT0), (187, .arr 46 tT0)]⟩⟩]] none .nil .nil) .nil) .nil)))))) func34 ⟨⟨qdl, qaz, qeS, qj9, trivial⟩, trivial⟩
def qbw (s1 : List (Int × Int)) (s2 : List (Int × Int)) (v : Int) : Option (Int ⊕ (Unit ⊕ Bool)) :=
 bif decide (v < (s1.length : Int)) then (
 gd (inB v s1.length) <|
 gd (inB v s2.length) <|
 bif !(decide ((s1.getD v.toNat (0, 0)).1 = (s2.getD v.toNat (0, 0)).1) && decide ((s1.getD v.toNat (0, 0)).2 = (s2.getD v.toNat (0, 0)).2)) then (
 some (.inr (.inr false)))
 else (
 some (.inl (wi64 (v + 1)))))
 else (
 some (.inr (.inl ())))
def qao (s1 : List (Int × Int)) (s2 : List (Int × Int)) : Option (Bool) :=
 bif !decide ((s1.length : Int) = (s2.length : Int)) then (
 some false)
 else (
 (iter (fun x => qbw s1 s2 x) 0).bind fun s =>
 s.elim (fun s3 =>
 some true)
 (fun s4 =>
 some s4))
def qaA : Fun :=
 ⟨35, 2, 1,
 ⟨[(0, dd (.sl tT0)), (1, dd (.sl tT0))], [], []⟩,
 ⟨[(0, bb)], [], []⟩,
 fun x => qao x.1 x.2⟩
theorem qbx : FO qaA := fi [] [] 26 [] ((nn (nn (mm (nn (mm (.mk [] (some (⟨[(0, kk), (1, kk), (12, kk), (13, ii)], [], []⟩, [⟨.x 0, ⟨[], [], []⟩⟩, ⟨.r, ⟨[(4, bb)], [], []⟩⟩])) .nil .nil) .nil)) .nil)))) func35 ⟨trivial, trivial⟩
def qhW (before : List (Int × Int)) (after : List (Int × Int)) (vin : List (Int × Int)) (out : List (Int × Int)) (v : Int) : Option (Int ⊕ (Unit ⊕ (Bool × Int))) :=
 bif decide (v < ([before, after, vin, out].length : Int)) then (
 gd (inB v [before, after, vin, out].length) <|
 (qbv ([before, after, vin, out].getD v.toNat [])).bind fun r =>
 bif !r then (
 some (.inr (.inr (false, 14))))
 else (
 some (.inl (wi64 (v + 1)))))
 else (
 some (.inr (.inl ())))
def qfe (before : List (Int × Int)) (after : List (Int × Int)) (vin : List (Int × Int)) (out : List (Int × Int)) (back : Bool) : Option (Bool × Int) :=
 (iter (fun x => qhW before after vin out x) 0).bind fun s =>
 s.elim (fun s2 =>
 (qik before vin back).bind fun r2 =>
 bif decide (r2.1 = 0) then (
 (qao r2.2.1 after).bind fun r3 =>
 bif r3 then (
 (qao r2.2.2 out).bind fun r4 =>
 some (r4, 0))
 else (
 some (false, 0)))
 else (
 some (false, 0)))
 (fun s3 =>
 some (s3.1, s3.2))
def qeT : Fun :=
 ⟨14, 5, 2,
 ⟨[(0, dd (.sl tT0)), (1, dd (.sl tT0)), (2, dd (.sl tT0)), (3, dd (.sl tT0)), (4, bb)], [], []⟩,
 ⟨[(0, bb), (1, ii)], [], []⟩,
 fun x => qfe x.1 x.2.1 x.2.2.1 x.2.2.2.1 x.2.2.2.2⟩
theorem qhX : FO qeT := fi [] [qb0, qfL, qaA] 51 [] ((nn (mm (nn (mm (.mk [] (some (⟨[(0, kk), (1, kk), (2, kk), (3, kk), (4, kk), (21, kk), (22, kk), (23, ii)], [], []⟩, [⟨.x 0, ⟨[(0, kk), (1, kk), (2, kk), (3, kk), (4, kk)], [], []⟩⟩, ⟨.r, ⟨[(10, bb), (11, ii)], [], []⟩⟩])) .nil .nil) .nil)) .nil))) func14 ⟨⟨qdl, qi2, qbx, trivial⟩, trivial⟩
def qby : Option (Bool) :=
 (qcO [[(1, 100)]] [[(2, 30), (1, 70)]] [(2, 30)] [(1, 30)]).bind fun r =>
 (qfe [(1, 100)] [(2, 30), (1, 70)] [(2, 30)] [(1, 30)] false).bind fun r2 =>
 (qfe [(1, 100)] [(2, 30), (1, 70)] [(2, 30)] [(1, 30)] true).bind fun r3 =>
 bif decide (r.2 = 0) then (
 bif decide (r2.2 = 0) then (
 bif decide (r3.2 = 0) then (
 bif r.1 then (
 bif r2.1 then (
 some (!r3.1))
 else (
 some false))
 else (
 some false))
 else (
 some false))
 else (
 some false))
 else (
 some false)
def qeU : Fun :=
 ⟨5, 0, 1,
 ⟨[], [], []⟩,
 ⟨[(0, bb)], [], []⟩,
 fun x => qby⟩
theorem qhY : FO qeU := fi [] [qdL, qeT] 66 [] .nil func5 ⟨⟨qfK, qhX, trivial⟩, trivial⟩
def qgB (l : List Int) : Option (List Int × Int) :=
 gd (cutG none (some (.i64, min (l.length : Int) 2000)) l.length) <|
 some (l.take (min (l.length : Int) 2000).toNat, 0)
def qhy : Fun :=
 ⟨6, 1, 1,
 ⟨[(0, dd (.sl I6))], [], []⟩,
 ⟨[(0, pt 0 0)], v4_, []⟩,
 fun x => qgB x⟩
theorem qlf : FO qhy := fi [] [] 10 [] .nil func6 ⟨trivial, trivial⟩
def qdf (s : List Int) (s2 : Int) : Option (Int × List Int × Int) :=
 bif decide ((s.length : Int) ≤ s2) then (
 some (0, s, s2))
 else (
 gd (inB (wi64 ((wi64 (s2 + 1)) - 1)) s.length) <|
 some (s.getD (wi64 ((wi64 (s2 + 1)) - 1)).toNat 0, s, wi64 (s2 + 1)))
def qeo : Fun :=
 ⟨37, 1, 1,
 ⟨[(0, pt 0 0)], v4_, []⟩,
 ⟨[(0, ii)], v4_, []⟩,
 fun x => qdf x.1 x.2⟩
theorem qhz : FO qeo := fi [] [] 31 [] .nil func37 ⟨trivial, trivial⟩
def qgC (x : Int) (n : Int) : Option (Int) :=
 bif decide (n < 1) then (
 some 0)
 else (
 gd (!decide (n = 0)) <|
 bif decide (Int.tmod x n < 0) then (
 some (wi64 ((Int.tmod x n) + n)))
 else (
 some (Int.tmod x n)))
def qhA : Fun :=
 ⟨36, 2, 1,
 ⟨[(0, ii), (1, ii)], [], []⟩,
 ⟨[(0, ii)], [], []⟩,
 fun x => qgC x.1 x.2⟩
theorem qlg : FO qhA := fi [] [] 16 [] .nil func36 ⟨trivial, trivial⟩
def qag (n : Int) (s : List Int) (s2 : Int) : Option (Int × List Int × Int) :=
 (qdf s s2).bind fun r =>
 (qgC r.1 n).bind fun r2 =>
 some (r2, r.2.1, r.2.2)
def qaD : Fun :=
 ⟨19, 2, 1,
 ⟨[(0, pt 0 0), (1, ii)], v4_, []⟩,
 ⟨[(0, ii)], v4_, []⟩,
 fun x => qag x.1 x.2.1 x.2.2⟩
theorem qaO : FO qaD := fi [] [qeo, qhA] 9 [] .nil func19 ⟨⟨qhz, qlg, trivial⟩, trivial⟩
def qaf (l : List Int) (s : List Int) (s2 : Int) : Option (Int × List Int × Int) :=
 (qag (l.length : Int) s s2).bind fun r =>
 gd (inB r.1 l.length) <|
 some (l.getD r.1.toNat 0, r.2.1, r.2.2)
def qbo : Fun :=
 ⟨15, 2, 1,
 ⟨[(0, pt 0 0), (1, dd (.sl I6))], v4_, []⟩,
 ⟨[(0, ii)], v4_, []⟩,
 fun x => qaf x.1 x.2.1 x.2.2⟩
theorem qco : FO qbo := fi [] [qaD] 12 [] .nil func15 ⟨⟨qaO, trivial⟩, trivial⟩
def qai (lo : Int) (hi : Int) (s : List Int) (s2 : Int) : Option (Int × List Int × Int) :=
 (qag (wi64 ((wi64 (hi - lo)) + 1)) s s2).bind fun r =>
 some (wi64 (lo + r.1), r.2.1, r.2.2)
def qaK : Fun :=
 ⟨16, 3, 1,
 ⟨[(0, pt 0 0), (1, ii), (2, ii)], v4_, []⟩,
 ⟨[(0, ii)], v4_, []⟩,
 fun x => qai x.1 x.2.1 x.2.2.1 x.2.2.2⟩
theorem qbc : FO qaK := fi [] [qaD] 15 [] .nil func16 ⟨⟨qaO, trivial⟩, trivial⟩
def qcT (first : List UInt8) (n : Int) : Option (List UInt8) :=
 gd (Nat.ble (first.length + (qaJ [wu8 (wi64 (97 + (Int.tmod n 26)))]).length) 9223372036854775807) <|
 some (first ++ (qaJ [wu8 (wi64 (97 + (Int.tmod n 26)))]))
def qep : Fun :=
 ⟨17, 2, 1,
 ⟨[(0, ss), (1, ii)], [], []⟩,
 ⟨[(0, ss)], [], []⟩,
 fun x => qcT x.1 x.2⟩
theorem qgo : FO qep := fi [] [] 13 [] .nil func17 ⟨trivial, trivial⟩
def qcU (r3 : Int × List Int × Int) (r6 : Int × List Int × Int) (vat : Int) (s4 : List Int) (s5 : Int) (x : List (Int × Int × Int)) : Option ((Int × List Int × Int × List (Int × Int × Int)) ⊕ (List Int × Int × List (Int × Int × Int))) :=
 Option.bind (α := Bool × List Int × Int × List (Int × Int × Int)) (
 bif decide ((x.length : Int) < 7) then (
 (qag 3 s4 s5).bind fun r8 =>
 some (decide (0 < r8.1), r8.2.1, r8.2.2, x))
 else (
 some (false, s4, s5, x))) fun s6 =>
 bif s6.1 then (
 (qai 1 40 s6.2.1 s6.2.2.1).bind fun r9 =>
 bif decide (r3.1 ≤ wi64 (vat + r9.1)) then (
 some (.inr (r9.2.1, r9.2.2, s6.2.2.2)))
 else (
 (qai (-5) 60 r9.2.1 r9.2.2).bind fun r10 =>
 (qaf ([1, 1, 10] : List Int) r10.2.1 r10.2.2).bind fun r11 =>
 (qag 3 r11.2.1 r11.2.2).bind fun r12 =>
 gd (fits (s6.2.2.2.length + 1) 24) <|
 some (.inl (wi64 (vat + r9.1), r12.2.1, r12.2.2, s6.2.2.2 ++ [(wi64 (vat + r9.1), (wi64 (r10.1 * r11.1), wi64 (r6.1 - (wi64 (r12.1 * 1000)))))]))))
 else (
 some (.inr (s6.2.1, s6.2.2.1, s6.2.2.2)))
def qaV (k : Int) (vfrom : Int) (to : Int) (s : List Int) (s2 : Int) : Option (yT0 × List Int × Int) :=
 (qag 4 s s2).bind fun r =>
 Option.bind (α := Int × Int) (
 bif decide (r.1 = 0) then (
 some (to, vfrom))
 else (
 some (vfrom, to))) fun s3 =>
 (qcT [103] k).bind fun r2 =>
 (qaf ([1, 2, 7, 20, 60, 200, 1000] : List Int) r.2.1 r.2.2).bind fun r3 =>
 (qaf ([0, 1, 5, 1000] : List Int) r3.2.1 r3.2.2).bind fun r4 =>
 (qaf ([0, 50, 1000, 100000] : List Int) r4.2.1 r4.2.2).bind fun r5 =>
 (qaf ([1000000, 6000000, 100000000] : List Int) r5.2.1 r5.2.2).bind fun r6 =>
 (qai (-5) 30 r6.2.1 r6.2.2).bind fun r7 =>
 (iter (fun x2 => qcU r3 r6 x2.1 x2.2.1 x2.2.2.1 x2.2.2.2) (0, r7.2.1, r7.2.2, [(0, (r7.1, r6.1))])).bind fun s7 =>
 (qai (-5) 30 s7.1 s7.2.1).bind fun r13 =>
 gd (fits (s7.2.2.length + 1) 24) <|
 some ((r2, (s3.1, (s3.2, (r3.1, (r4.1, (r5.1, s7.2.2 ++ [(r3.1, (r13.1, r6.1))])))))), r13.2.1, r13.2.2)
def qcV : Fun :=
 ⟨18, 4, 1,
 ⟨[(0, pt 0 0), (1, ii), (2, ii), (3, ii)], v4_, []⟩,
 ⟨r34_, v4_, []⟩,
 fun x => qaV x.1 x.2.1 x.2.2.1 x.2.2.2.1 x.2.2.2.2⟩
theorem qff : FO qcV := fi [] [qaD, qep, qbo, qaK] 90 [] ((nn (mm (nn (.mk [.join [⟨.n, ⟨[(0, pt 0 0), (1, kk), (2, ii), (3, ii), (8, pt 144 0)], [(0, 53, [.keep, .keep]), (144, 59, (kp 7))], []⟩⟩]] none .nil .nil)) (nn (nn (nn (mm (nn (mm (.mk [] (some (⟨[(0, pt 0 0), (8, pt 144 0), (9, pt 160 0), (10, kk), (11, ii)], v23_, a51_⟩, [⟨.x 0, ⟨[(0, pt 0 0), (8, pt 144 0), (9, pt 160 0), (10, kk)], v23_, a51_⟩⟩])) (mm (mm (.mk [.join [⟨.n, ⟨[(0, pt 0 0), (8, pt 144 0), (9, pt 160 0), (10, kk), (11, kk), (51, bb)], v23_, a51_⟩⟩]] none .nil .nil) .nil) .nil) .nil) .nil)) .nil))))))) func18 ⟨⟨qaO, qgo, qco, qbc, trivial⟩, trivial⟩
def qcW (i : Int) (n : List (List UInt8)) : Option ((Int × List (List UInt8)) ⊕ (List (List UInt8))) :=
 bif decide (0 < i) then (
 (qcT [110] (n.length : Int)).bind fun r4 =>
 gd (fits (n.length + 1) 16) <|
 some (.inl (wi64 (i - 1), n ++ [r4])))
 else (
 some (.inr n))
def qcX (s3 : List (List UInt8)) (i2 : Int) (s4 : List Int) (s5 : Int) (n2 : List (List UInt8)) (n3 : List yT0) : Option ((Int × List Int × Int × List (List UInt8) × List yT0) ⊕ (List Int × Int × List (List UInt8) × List yT0)) :=
 bif decide (i2 < wi64 ((s3.length : Int) - 1)) then (
 (qaV (n3.length : Int) i2 (wi64 (i2 + 1)) s4 s5).bind fun r5 =>
 gd (fits (n3.length + 1) 80) <|
 some (.inl (wi64 (i2 + 1), r5.2.1, r5.2.2, n2, n3 ++ [(r5.1.1, (r5.1.2.1, (r5.1.2.2.1, (r5.1.2.2.2.1, (r5.1.2.2.2.2.1, (r5.1.2.2.2.2.2.1, r5.1.2.2.2.2.2.2))))))])))
 else (
 some (.inr (s4, s5, n2, n3)))
def qcY (s3 : List (List UInt8)) (i3 : Int) (s7 : List Int) (s8 : Int) (n4 : List (List UInt8)) (n5 : List yT0) : Option ((Int × List Int × Int × List (List UInt8) × List yT0) ⊕ (List Int × Int × List (List UInt8) × List yT0)) :=
 bif decide (0 < i3) then (
 (qag (wi64 ((s3.length : Int) - 1)) s7 s8).bind fun r7 =>
 (qai (wi64 (r7.1 + 1)) (wi64 ((s3.length : Int) - 1)) r7.2.1 r7.2.2).bind fun r8 =>
 (qaV (n5.length : Int) r7.1 r8.1 r8.2.1 r8.2.2).bind fun r9 =>
 gd (fits (n5.length + 1) 80) <|
 some (.inl (wi64 (i3 - 1), r9.2.1, r9.2.2, n4, n5 ++ [(r9.1.1, (r9.1.2.1, (r9.1.2.2.1, (r9.1.2.2.2.1, (r9.1.2.2.2.2.1, (r9.1.2.2.2.2.2.1, r9.1.2.2.2.2.2.2))))))])))
 else (
 some (.inr (s7, s8, n4, n5)))
def qcZ (s3 : List (List UInt8)) (i4 : Int) (s10 : List Int) (s11 : Int) (n6 : List (List UInt8)) (n7 : List yT0) (n8 : List (List UInt8 × Int × Int)) (n9 : List (List UInt8 × Int × Int × Int × Int)) : Option ((Int × List Int × Int × List (List UInt8) × (List yT0) × (List (List UInt8 × Int × Int)) × List (List UInt8 × Int × Int × Int × Int)) ⊕ (List Int × Int × List (List UInt8) × (List yT0) × (List (List UInt8 × Int × Int)) × List (List UInt8 × Int × Int × Int × Int))) :=
 bif decide (i4 ≤ wi64 ((s3.length : Int) - 1)) then (
 Option.bind (α := Bool × List Int × Int × List (List UInt8) × (List yT0) × (List (List UInt8 × Int × Int)) × List (List UInt8 × Int × Int × Int × Int)) (
 bif decide (i4 = 0) then (
 some (true, s10, s11, n6, n7, n8, n9))
 else (
 bif decide (i4 = wi64 ((s3.length : Int) - 1)) then (
 some (true, s10, s11, n6, n7, n8, n9))
 else (
 (qag 2 s10 s11).bind fun r10 =>
 some (decide (r10.1 = 0), r10.2.1, r10.2.2, n6, n7, n8, n9)))) fun s12 =>
 Option.bind (α := List Int × Int × List (List UInt8) × (List yT0) × (List (List UInt8 × Int × Int)) × List (List UInt8 × Int × Int × Int × Int)) (
 bif s12.1 then (
 (qcT [113] (s12.2.2.2.2.2.1.length : Int)).bind fun r11 =>
 (qaf ([300000, 1000000, 0, 5000000] : List Int) s12.2.1 s12.2.2.1).bind fun r12 =>
 gd (fits (s12.2.2.2.2.2.1.length + 1) 32) <|
 some (r12.2.1, r12.2.2, s12.2.2.2.1, s12.2.2.2.2.1, s12.2.2.2.2.2.1 ++ [(r11, (i4, r12.1))], s12.2.2.2.2.2.2))
 else (
 some (s12.2.1, s12.2.2.1, s12.2.2.2.1, s12.2.2.2.2.1, s12.2.2.2.2.2.1, s12.2.2.2.2.2.2))) fun s13 =>
 Option.bind (α := Bool × List Int × Int × List (List UInt8) × (List yT0) × (List (List UInt8 × Int × Int)) × List (List UInt8 × Int × Int × Int × Int)) (
 bif decide (i4 < wi64 ((s3.length : Int) - 1)) then (
 (qag 3 s13.1 s13.2.1).bind fun r13 =>
 some (decide (r13.1 = 0), r13.2.1, r13.2.2, s13.2.2.1, s13.2.2.2.1, s13.2.2.2.2.1, s13.2.2.2.2.2))
 else (
 some (false, s13.1, s13.2.1, s13.2.2.1, s13.2.2.2.1, s13.2.2.2.2.1, s13.2.2.2.2.2))) fun s14 =>
 Option.bind (α := List Int × Int × List (List UInt8) × (List yT0) × (List (List UInt8 × Int × Int)) × List (List UInt8 × Int × Int × Int × Int)) (
 bif s14.1 then (
 (qcT [115] (s14.2.2.2.2.2.2.length : Int)).bind fun r14 =>
 (qaf ([500000, 2000000, 0] : List Int) s14.2.1 s14.2.2.1).bind fun r15 =>
 (qaf ([0, 200, 100000] : List Int) r15.2.1 r15.2.2).bind fun r16 =>
 (qaf ([0, 100000, 400000] : List Int) r16.2.1 r16.2.2).bind fun r17 =>
 gd (fits (s14.2.2.2.2.2.2.length + 1) 48) <|
 some (r17.2.1, r17.2.2, s14.2.2.2.1, s14.2.2.2.2.1, s14.2.2.2.2.2.1, s14.2.2.2.2.2.2 ++ [(r14, (i4, (r15.1, (r16.1, r17.1))))]))
 else (
 some (s14.2.1, s14.2.2.1, s14.2.2.2.1, s14.2.2.2.2.1, s14.2.2.2.2.2.1, s14.2.2.2.2.2.2))) fun s15 =>
 some (.inl (wi64 (i4 + 1), s15.1, s15.2.1, s15.2.2.1, s15.2.2.2.1, s15.2.2.2.2.1, s15.2.2.2.2.2)))
 else (
 some (.inr (s10, s11, n6, n7, n8, n9)))
def qbp (s : List Int) (s2 : Int) : Option (yB0 × List Int × Int) :=
 (qaf ([(-100000), 0, 50000] : List Int) s s2).bind fun r =>
 (qaf ([0, 1, 5, 100] : List Int) r.2.1 r.2.2).bind fun r2 =>
 (qai 2 6 r2.2.1 r2.2.2).bind fun r3 =>
 (iter (fun x => qcW x.1 x.2) (r3.1, [])).bind fun s3 =>
 (iter (fun x2 => qcX s3 x2.1 x2.2.1 x2.2.2.1 x2.2.2.2.1 x2.2.2.2.2) (0, r3.2.1, r3.2.2, s3, [])).bind fun s6 =>
 (qag 4 s6.1 s6.2.1).bind fun r6 =>
 (iter (fun x3 => qcY s3 x3.1 x3.2.1 x3.2.2.1 x3.2.2.2.1 x3.2.2.2.2) (r6.1, r6.2.1, r6.2.2, s6.2.2.1, s6.2.2.2)).bind fun s9 =>
 (iter (fun x4 => qcZ s3 x4.1 x4.2.1 x4.2.2.1 x4.2.2.2.1 x4.2.2.2.2.1 x4.2.2.2.2.2.1 x4.2.2.2.2.2.2) (0, s9.1, s9.2.1, s9.2.2.1, s9.2.2.2, [], [])).bind fun s16 =>
 some ((s16.2.2.1, (s16.2.2.2.1, (s16.2.2.2.2.1, (s16.2.2.2.2.2, (r.1, r2.1))))), s16.1, s16.2.1)
def qc0 : Fun :=
 ⟨7, 1, 1,
 ⟨[(0, pt 0 0)], v4_, []⟩,
 ⟨r9_, v4_, []⟩,
 fun x => qbp x.1 x.2⟩
theorem qfg : FO qc0 := fi [] [qbo, qaK, qep, qcV, qaD] 139 [] ((nn (nn (mm (nn (mm (.mk [] (some (⟨[(0, pt 0 0), (2, pt 48 0), (3, pt 64 0), (4, ii)], v33_, [(1049, .arr 9 (.str))]⟩, [⟨.x 0, ⟨[(0, pt 0 0), (2, pt 48 0), (3, pt 64 0)], v33_, [(1049, .arr 9 (.str))]⟩⟩])) .nil .nil) .nil)) (nn (mm (nn (mm (.mk [] (some (⟨[(0, pt 0 0), (2, pt 48 0), (3, pt 64 0), (5, kk), (6, ii)], v16_, a13_⟩, [⟨.x 2, ⟨[(0, pt 0 0), (2, pt 48 0), (3, pt 64 0), (5, kk)], v16_, a13_⟩⟩])) .nil .nil) .nil)) (mm (nn (mm (.mk [] (some (⟨[(0, pt 0 0), (2, pt 48 0), (3, pt 64 0), (5, kk), (7, ii)], v16_, a13_⟩, [⟨.x 4, ⟨[(0, pt 0 0), (2, pt 48 0), (3, pt 64 0), (5, kk)], v16_, a13_⟩⟩])) .nil .nil) .nil)) (mm (nn (mm (.mk [] (some (⟨[(0, pt 0 0), (2, pt 48 0), (3, pt 64 0), (5, kk), (9, ii)], v11_, a0_⟩, [⟨.x 6, ⟨r39_, [(48, 32, (kp 6)), (64, 32, [.own 1049, .own 1065, .own 1081, .own 1097, .keep, .keep]), (0, 53, [.data (.sl I6), .data I6])], a0_⟩⟩])) (nn (mm (mm (mm (mm (.mk [.join [⟨.n, ⟨[(0, pt 0 0), (2, pt 48 0), (3, pt 64 0), (5, kk), (9, kk), (95, bb)], v11_, a0_⟩⟩]] none .nil .nil) (.mk [.join [⟨.n, ⟨r48_, v11_, a0_⟩⟩]] none .nil .nil)) (mm (.mk [.join [⟨.n, ⟨[(0, pt 0 0), (2, pt 48 0), (3, pt 64 0), (5, kk), (9, kk), (117, bb)], v11_, a0_⟩⟩]] none .nil .nil) (.mk [.join [⟨.n, ⟨r48_, v11_, a0_⟩⟩]] none .nil .nil))) .nil) .nil)) .nil) .nil)) .nil)))))))) func7 ⟨⟨qco, qbc, qgo, qff, qaO, trivial⟩, trivial⟩
def qi3 (n : Int) : Option (Int) :=
 some (max n (wi64 (0 - n)))
def qhB : Fun :=
 ⟨20, 1, 1,
 ⟨[(0, ii)], [], []⟩,
 ⟨[(0, ii)], [], []⟩,
 fun x => qi3 x⟩
theorem qlh : FO qhB := fi [] [] 7 [] .nil func20 ⟨trivial, trivial⟩
def qeq (p : yB1) (v : Int) (out : List Int) (out2 : List Bool) : Option ((Int × List Int × List Bool) ⊕ (List Int × List Bool)) :=
 bif decide (v < (p.1.length : Int)) then (
 gd (inB v p.1.length) <|
 gd (fits (out.length + 1) 8) <|
 some (.inl (wi64 (v + 1), out ++ [wi64 (0 - (p.1.getD v.toNat 0))], out2)))
 else (
 some (.inr (out, out2)))
def qer (p : yB1) (v2 : Int) (out3 : List Int) (out4 : List Int) (out5 : List Bool) : Option ((Int × List Int × List Int × List Bool) ⊕ yB1) :=
 bif decide (v2 < (p.2.1.length : Int)) then (
 gd (inB v2 p.2.1.length) <|
 gd (fits (out4.length + 1) 8) <|
 some (.inl (wi64 (v2 + 1), out3, out4 ++ [wi64 (0 - (p.2.1.getD v2.toNat 0))], out5)))
 else (
 some (.inr (out3, out4, out5)))
def qdg (p : yB1) : Option yB1 :=
 gd (fits (0 + p.2.2.length) 1) <|
 (iter (fun x => qeq p x.1 x.2.1 x.2.2) (0, [], ([] ++ p.2.2))).bind fun s =>
 (iter (fun x2 => qer p x2.1 x2.2.1 x2.2.2.1 x2.2.2.2) (0, s.1, [], s.2)).bind fun s2 =>
 some (s2.1, (s2.2.1, s2.2.2))
def qes : Fun :=
 ⟨21, 1, 1,
 ⟨r38_, [], []⟩,
 ⟨r38_, [], []⟩,
 fun x => qdg x⟩
theorem qhC : FO qes := fi [6] [] 48 [] ((nn (nn (mm (nn (mm (.mk [] (some (⟨[(1, pt 32 0), (2, pt 48 0), (3, pt 64 0), (13, kk), (14, ii)], v29_, [(1049, .arr 3 I6), (160, .arr 4 (.bool))]⟩, [⟨.x 0, ⟨r46_, v29_, [(1049, .arr 3 I6), (160, .arr 4 (.bool))]⟩⟩])) .nil .nil) .nil)) (mm (nn (mm (.mk [] (some (⟨[(1, pt 32 0), (2, pt 48 0), (3, pt 64 0), (31, kk), (32, ii)], [(32, 36, [.keep, .keep, .keep]), (48, 36, [.keep, .keep, .keep]), (64, 36, [.own 1049, .own 1065, .own 160])], a47_⟩, [⟨.x 2, ⟨r39_, [(48, 36, [.keep, .keep, .keep]), (64, 36, [.own 1049, .own 1065, .own 160])], a47_⟩⟩])) .nil .nil) .nil)) .nil))))) func21 ⟨trivial, trivial⟩
def qd2 (n : yB0) (i : Int) (s3 : List Int) (s4 : Int) (p : List Int) (p2 : List Int) (p3 : List Bool) : Option ((Int × List Int × Int × List Int × List Int × List Bool) ⊕ (List Int × Int × List Int × List Int × List Bool)) :=
 bif decide (i < (n.2.2.2.1.length : Int)) then (
 (qag 2 s3 s4).bind fun r =>
 gd (fits (p3.length + 1) 1) <|
 some (.inl (wi64 (i + 1), r.2.1, r.2.2, p, p2, p3 ++ [decide (r.1 = 0)])))
 else (
 some (.inr (s3, s4, p, p2, p3)))
def qbq (n : yB0) (r4 : Int × List Int × Int) (r6 : Int × List Int × Int) (vat : Int) (vend2 : Int) (v : Int) (s11 : List Int) (s12 : Int) (way2 : List Int) (p10 : List Int) (p11 : List Int) (p12 : List Bool) : Option ((Int × Int × List Int × Int × List Int × List Int × List Int × List Bool) ⊕ (Int × List Int × Int × List Int × List Int × List Int × List Bool)) :=
 bif decide (v < (n.2.2.1.length : Int)) then (
 gd (inB v n.2.2.1.length) <|
 Option.bind (α := Bool × List Int × Int × List Int × List Int × List Int × List Bool) (
 bif decide (((n.2.2.1.getD v.toNat ([], (0, 0))).2).1 = vat) then (
 bif !decide (v = r4.1) then (
 gd (inB v p11.length) <|
 bif decide (p11.getD v.toNat 0 ≤ 0) then (
 gd (inB v p11.length) <|
 bif decide ((-1000) ≤ wi64 ((p11.getD v.toNat 0) - r6.1)) then (
 bif decide (0 < (way2.length : Int)) then (
 (qag 2 s11 s12).bind fun r7 =>
 some (decide (r7.1 = 0), r7.2.1, r7.2.2, way2, p10, p11, p12))
 else (
 some (false, s11, s12, way2, p10, p11, p12)))
 else (
 some (false, s11, s12, way2, p10, p11, p12)))
 else (
 some (false, s11, s12, way2, p10, p11, p12)))
 else (
 some (false, s11, s12, way2, p10, p11, p12)))
 else (
 some (false, s11, s12, way2, p10, p11, p12))) fun s13 =>
 Option.bind (α := Int × List Int × List Int × List Int × List Bool) (
 bif s13.1 then (
 some (v, s13.2.2.2.1, s13.2.2.2.2.1, s13.2.2.2.2.2.1, s13.2.2.2.2.2.2))
 else (
 some (vend2, s13.2.2.2.1, s13.2.2.2.2.1, s13.2.2.2.2.2.1, s13.2.2.2.2.2.2))) fun s14 =>
 some (.inl (s14.1, wi64 (v + 1), s13.2.1, s13.2.2.1, s14.2.1, s14.2.2.1, s14.2.2.2.1, s14.2.2.2.2)))
 else (
 some (.inr (vend2, s11, s12, way2, p10, p11, p12)))
def qbr (n : yB0) (r6 : Int × List Int × Int) (vat : Int) (v2 : Int) (way3 : List Int) (out : List Int) (p13 : List Int) (p14 : List Int) (p15 : List Bool) : Option ((Int × List Int × List Int × List Int × List Int × List Bool) ⊕ (List Int × List Int × List Int × List Int × List Bool)) :=
 bif decide (v2 < (n.2.1.length : Int)) then (
 gd (inB v2 n.2.1.length) <|
 Option.bind (α := Bool × List Int × List Int × List Int × List Int × List Bool) (
 bif decide (((n.2.1.getD v2.toNat ([], (0, (0, (0, (0, (0, []))))))).2).1 = vat) then (
 bif decide (vat < wi64 ((wi64 ((((n.2.1.getD v2.toNat ([], (0, (0, (0, (0, (0, []))))))).2).1) + ((((n.2.1.getD v2.toNat ([], (0, (0, (0, (0, (0, []))))))).2).2).1))) - vat)) then (
 gd (inB v2 p13.length) <|
 (qi3 (p13.getD v2.toNat 0)).bind fun r8 =>
 some (decide (wi64 (r8 + r6.1) ≤ min 1000 (((((n.2.1.getD v2.toNat ([], (0, (0, (0, (0, (0, []))))))).2).2).2).1)), way3, out, p13, p14, p15))
 else (
 some (false, way3, out, p13, p14, p15)))
 else (
 bif decide ((((n.2.1.getD v2.toNat ([], (0, (0, (0, (0, (0, []))))))).2).2).1 = vat) then (
 bif decide (vat < wi64 ((wi64 ((((n.2.1.getD v2.toNat ([], (0, (0, (0, (0, (0, []))))))).2).1) + ((((n.2.1.getD v2.toNat ([], (0, (0, (0, (0, (0, []))))))).2).2).1))) - vat)) then (
 gd (inB v2 p13.length) <|
 (qi3 (p13.getD v2.toNat 0)).bind fun r9 =>
 some (decide (wi64 (r9 + r6.1) ≤ min 1000 (((((n.2.1.getD v2.toNat ([], (0, (0, (0, (0, (0, []))))))).2).2).2).1)), way3, out, p13, p14, p15))
 else (
 some (false, way3, out, p13, p14, p15)))
 else (
 some (false, way3, out, p13, p14, p15)))) fun s16 =>
 Option.bind (α := List Int × List Int × List Int × List Int × List Bool) (
 bif s16.1 then (
 gd (fits (s16.2.2.1.length + 1) 8) <|
 some (s16.2.1, s16.2.2.1 ++ [v2], s16.2.2.2.1, s16.2.2.2.2.1, s16.2.2.2.2.2))
 else (
 some (s16.2.1, s16.2.2.1, s16.2.2.2.1, s16.2.2.2.2.1, s16.2.2.2.2.2))) fun s17 =>
 some (.inl (wi64 (v2 + 1), s17.1, s17.2.1, s17.2.2.1, s17.2.2.2.1, s17.2.2.2.2)))
 else (
 some (.inr (way3, out, p13, p14, p15)))
def qbs (n : yB0) (r4 : Int × List Int × Int) (r6 : Int × List Int × Int) (vat : Int) (vend : Int) (s9 : List Int) (s10 : Int) (way : List Int) (p7 : List Int) (p8 : List Int) (p9 : List Bool) : Option ((Int × Int × List Int × Int × List Int × List Int × List Int × List Bool) ⊕ (Int × List Int × Int × List Int × List Int × List Int × List Bool)) :=
 bif decide (vend < 0) then (
 (iter (fun x2 => qbq n r4 r6 vat x2.1 x2.2.1 x2.2.2.1 x2.2.2.2.1 x2.2.2.2.2.1 x2.2.2.2.2.2.1 x2.2.2.2.2.2.2.1 x2.2.2.2.2.2.2.2) (vend, 0, s9, s10, way, p7, p8, p9)).bind fun s15 =>
 bif decide (0 ≤ s15.1) then (
 some (.inr (s15.1, s15.2.1, s15.2.2.1, s15.2.2.2.1, s15.2.2.2.2.1, s15.2.2.2.2.2.1, s15.2.2.2.2.2.2)))
 else (
 (iter (fun x3 => qbr n r6 vat x3.1 x3.2.1 x3.2.2.1 x3.2.2.2.1 x3.2.2.2.2.1 x3.2.2.2.2.2) (0, s15.2.2.2.1, [], s15.2.2.2.2.1, s15.2.2.2.2.2.1, s15.2.2.2.2.2.2)).bind fun s18 =>
 bif decide ((s18.2.1.length : Int) = 0) then (
 some (.inr (s15.1, s15.2.1, s15.2.2.1, s18.1, s18.2.2.1, s18.2.2.2.1, s18.2.2.2.2)))
 else (
 (qag (s18.2.1.length : Int) s15.2.1 s15.2.2.1).bind fun r10 =>
 gd (inB r10.1 s18.2.1.length) <|
 gd (fits (s18.1.length + 1) 8) <|
 gd (inB (s18.2.1.getD r10.1.toNat 0) n.2.1.length) <|
 gd (inB (s18.2.1.getD r10.1.toNat 0) n.2.1.length) <|
 some (.inl (wi64 ((wi64 ((((n.2.1.getD (s18.2.1.getD r10.1.toNat 0).toNat ([], (0, (0, (0, (0, (0, []))))))).2).1) + ((((n.2.1.getD (s18.2.1.getD r10.1.toNat 0).toNat ([], (0, (0, (0, (0, (0, []))))))).2).2).1))) - vat), s15.1, r10.2.1, r10.2.2, s18.1 ++ [s18.2.1.getD r10.1.toNat 0], s18.2.2.1, s18.2.2.2.1, s18.2.2.2.2)))))
 else (
 some (.inr (vend, s9, s10, way, p7, p8, p9)))
def qbt (n : yB0) (r6 : Int × List Int × Int) (s19 : Int × List Int × Int × List Int × List Int × List Int × List Bool) (v3 : Int) (v4 : List Int) (p16 : List Int) (p17 : List Int) (p18 : List Bool) : Option ((Int × List Int × List Int × List Int × List Bool) ⊕ yB1) :=
 bif decide (v3 < (s19.2.2.2.1.length : Int)) then (
 gd (inB v3 v4.length) <|
 gd (inB (v4.getD v3.toNat 0) n.2.1.length) <|
 gd (inB (v4.getD v3.toNat 0) n.2.1.length) <|
 Option.bind (α := List Int × List Int × List Int × List Bool) (
 bif decide (((n.2.1.getD (v4.getD v3.toNat 0).toNat ([], (0, (0, (0, (0, (0, []))))))).2).1 < (((n.2.1.getD (v4.getD v3.toNat 0).toNat ([], (0, (0, (0, (0, (0, []))))))).2).2).1) then (
 gd (inB (v4.getD v3.toNat 0) p16.length) <|
 gd (inB (v4.getD v3.toNat 0) p16.length) <|
 some (v4, p16.set ((v4.getD v3.toNat 0).toNat) (wi64 ((p16.getD ((v4.getD v3.toNat 0).toNat) 0) + r6.1)), p17, p18))
 else (
 gd (inB (v4.getD v3.toNat 0) p16.length) <|
 gd (inB (v4.getD v3.toNat 0) p16.length) <|
 some (v4, p16.set ((v4.getD v3.toNat 0).toNat) (wi64 ((p16.getD ((v4.getD v3.toNat 0).toNat) 0) - r6.1)), p17, p18))) fun s20 =>
 some (.inl (wi64 (v3 + 1), s20.1, s20.2.1, s20.2.2.1, s20.2.2.2)))
 else (
 some (.inr (p16, p17, p18)))
def qcp (n : yB0) (streams : Int) (s6 : List Int) (s7 : Int) (p4 : List Int) (p5 : List Int) (p6 : List Bool) : Option ((Int × List Int × Int × List Int × List Int × List Bool) ⊕ (List Int × Int × List Int × List Int × List Bool)) :=
 bif decide (0 < streams) then (
 Option.bind (α := List Int × Int × List Int × List Int × List Bool) (
 (qag (n.2.2.1.length : Int) s6 s7).bind fun r4 =>
 gd (inB r4.1 n.2.2.1.length) <|
 (qaf ([1, 5, 30, 300] : List Int) r4.2.1 r4.2.2).bind fun r5 =>
 (qai 1 r5.1 r5.2.1 r5.2.2).bind fun r6 =>
 Option.bind (α := Bool × List Int × List Int × List Bool) (
 gd (inB r4.1 p5.length) <|
 bif decide (p5.getD r4.1.toNat 0 < 0) then (
 some (true, p4, p5, p6))
 else (
 gd (inB r4.1 p5.length) <|
 some (decide (1000 < wi64 ((p5.getD r4.1.toNat 0) + r6.1)), p4, p5, p6))) fun s8 =>
 bif s8.1 then (
 some (r6.2.1, r6.2.2, s8.2.1, s8.2.2.1, s8.2.2.2))
 else (
 (iter (fun x4 => qbs n r4 r6 x4.1 x4.2.1 x4.2.2.1 x4.2.2.2.1 x4.2.2.2.2.1 x4.2.2.2.2.2.1 x4.2.2.2.2.2.2.1 x4.2.2.2.2.2.2.2) (((n.2.2.1.getD r4.1.toNat ([], (0, 0))).2).1, (-1), r6.2.1, r6.2.2, [], s8.2.1, s8.2.2.1, s8.2.2.2)).bind fun s19 =>
 bif decide (s19.1 < 0) then (
 some (s19.2.1, s19.2.2.1, s19.2.2.2.2.1, s19.2.2.2.2.2.1, s19.2.2.2.2.2.2))
 else (
 gd (inB r4.1 s19.2.2.2.2.2.1.length) <|
 gd (inB s19.1 s19.2.2.2.2.2.1.length) <|
 gd (inB r4.1 s19.2.2.2.2.2.1.length) <|
 gd (inB s19.1 (s19.2.2.2.2.2.1.set r4.1.toNat (wi64 ((s19.2.2.2.2.2.1.getD r4.1.toNat 0) + r6.1))).length) <|
 (iter (fun x5 => qbt n r6 s19 x5.1 x5.2.1 x5.2.2.1 x5.2.2.2.1 x5.2.2.2.2) (0, s19.2.2.2.1, s19.2.2.2.2.1, (s19.2.2.2.2.2.1.set r4.1.toNat (wi64 ((s19.2.2.2.2.2.1.getD r4.1.toNat 0) + r6.1))).set s19.1.toNat (wi64 ((s19.2.2.2.2.2.1.getD s19.1.toNat 0) - r6.1)), s19.2.2.2.2.2.2)).bind fun s21 =>
 some (s19.2.1, s19.2.2.1, s21.1, s21.2.1, s21.2.2)))) fun s22 =>
 some (.inl (wi64 (streams - 1), s22.1, s22.2.1, s22.2.2.1, s22.2.2.2.1, s22.2.2.2.2)))
 else (
 some (.inr (s6, s7, p4, p5, p6)))
def qcC (n : yB0) (s : List Int) (s2 : Int) : Option (yB1 × List Int × Int) :=
 gd (makeG 8 (n.2.1.length : Int)) <|
 gd (makeG 8 (n.2.2.1.length : Int)) <|
 (iter (fun x => qd2 n x.1 x.2.1 x.2.2.1 x.2.2.2.1 x.2.2.2.2.1 x.2.2.2.2.2) (0, s, s2, List.replicate (n.2.1.length : Int).toNat (0 : Int), List.replicate (n.2.2.1.length : Int).toNat (0 : Int), [])).bind fun s5 =>
 (qag 3 s5.1 s5.2.1).bind fun r2 =>
 (qag 5 r2.2.1 r2.2.2).bind fun r3 =>
 (iter (fun x6 => qcp n x6.1 x6.2.1 x6.2.2.1 x6.2.2.2.1 x6.2.2.2.2.1 x6.2.2.2.2.2) (r3.1, r3.2.1, r3.2.2, s5.2.2.1, s5.2.2.2.1, s5.2.2.2.2)).bind fun s23 =>
 bif decide (r2.1 = 0) then (
 (qdg (s23.2.2.1, (s23.2.2.2.1, s23.2.2.2.2))).bind fun r11 =>
 some ((r11.1, (r11.2.1, r11.2.2)), s23.1, s23.2.1))
 else (
 some ((s23.2.2.1, (s23.2.2.2.1, s23.2.2.2.2)), s23.1, s23.2.1))
def qd3 : Fun :=
 ⟨8, 2, 1,
 ⟨[(0, pt 0 0), (1, dd (.pair (.sl (.str)) (.pair (.sl (.pair (.str) (.pair I6 (.pair I6 (.pair I6 (.pair I6 (.pair I6 (.sl (.pair I6 tT0))))))))) (.pair (.sl (.pair (.str) tT0)) (.pair (.sl (.pair (.str) (.pair I6 (.pair I6 tT0)))) tT0)))))], v4_, []⟩,
 ⟨r38_, v4_, []⟩,
 fun x => qcC x.1 x.2.1 x.2.2⟩
theorem qgs : FO qd3 := fi [] [qaD, qbo, qaK, qhB, qes] 279 [] ((nn (nn (mm (nn (mm (.mk [] (some (⟨[(0, pt 0 0), (3, pt 64 0), (4, pt 80 0), (5, pt 96 0), (6, ii)], v1_, a18_⟩, [⟨.x 0, ⟨[(0, pt 0 0), (3, pt 64 0), (4, pt 80 0), (5, pt 96 0)], v1_, a18_⟩⟩])) .nil .nil) .nil)) (nn (mm (nn (mm (.mk [] (some (⟨[(0, pt 0 0), (3, pt 64 0), (4, pt 80 0), (5, pt 96 0), (7, kk), (8, ii)], v1_, a18_⟩, [⟨.x 2, ⟨[(4, pt 80 0), (5, pt 96 0), (7, kk)], [(80, 36, [.keep, .keep, .keep]), (96, 36, [.own 416, .own 480, .own 1593]), (0, 53, [.data (.sl I6), .data I6])], a18_⟩⟩])) (nn (mm (.mk [.join [⟨.n, ⟨r42_, v1_, a18_⟩⟩]] none (nn (nn (mm (mm (.mk [.join [⟨.n, ⟨[(0, pt 0 0), (3, pt 64 0), (4, pt 80 0), (5, pt 96 0), (7, kk), (8, kk), (9, kk), (10, kk), (11, kk), (86, bb)], v2_, a18_⟩⟩]] none .nil .nil) .nil) (nn (nn (mm (mm (.mk [] (some (⟨[(0, pt 0 0), (3, pt 64 0), (4, pt 80 0), (5, pt 96 0), (7, kk), (8, kk), (9, kk), (10, ii), (11, kk), (12, ow 219), (13, ii)], v1_, a12_⟩, [⟨.x 4, ⟨[(0, pt 0 0), (3, pt 64 0), (4, pt 80 0), (5, pt 96 0), (7, kk), (8, kk), (9, kk), (11, kk), (12, ow 219), (13, ii)], v1_, a12_⟩⟩])) (nn (mm (mm (nn (mm (.mk [] (some (⟨[(0, pt 0 0), (3, pt 64 0), (4, pt 80 0), (5, pt 96 0), (7, kk), (8, kk), (9, kk), (10, kk), (11, kk), (12, ow 219), (13, ii), (90, kk), (91, kk), (92, ii)], v1_, a12_⟩, [⟨.x 6, ⟨[(0, pt 0 0), (3, pt 64 0), (4, pt 80 0), (5, pt 96 0), (7, kk), (8, kk), (9, kk), (10, kk), (11, kk), (12, ow 219), (13, ii)], v1_, a12_⟩⟩])) (nn (nn (mm (mm (nn (mm (.mk [.join [⟨.n, ⟨[(0, pt 0 0), (3, pt 64 0), (4, pt 80 0), (5, pt 96 0), (7, kk), (8, kk), (9, kk), (10, kk), (11, kk), (12, ow 219), (13, kk), (14, kk), (90, kk), (91, kk), (92, kk), (133, bb)], v1_, a12_⟩⟩]] none .nil .nil) (.mk [.join [⟨.n, ⟨[(0, pt 0 0), (3, pt 64 0), (4, pt 80 0), (5, pt 96 0), (7, kk), (8, kk), (9, kk), (10, kk), (11, kk), (12, ow 219), (13, ii), (90, kk), (91, kk), (92, kk)], v2_, a12_⟩⟩]] none .nil .nil))) .nil) .nil))) .nil) .nil)) (nn (nn (mm (nn (mm (.mk [] (some (⟨[(0, pt 0 0), (3, pt 64 0), (4, pt 80 0), (5, pt 96 0), (7, kk), (8, kk), (9, kk), (10, kk), (11, kk), (12, ow 219), (13, kk), (16, ow 283), (139, kk), (140, kk), (141, ii)], v2_, a21_⟩, [⟨.x 8, ⟨[(0, pt 0 0), (3, pt 64 0), (4, pt 80 0), (5, pt 96 0), (7, kk), (8, kk), (9, kk), (10, kk), (11, kk), (12, ow 219), (13, kk), (16, ow 283)], v2_, a21_⟩⟩])) (nn (nn (mm (mm (nn (mm (.mk [.join [⟨.n, ⟨[(0, pt 0 0), (3, pt 64 0), (4, pt 80 0), (5, pt 96 0), (7, kk), (8, kk), (9, kk), (10, kk), (11, kk), (12, ow 219), (13, kk), (16, ow 283), (17, kk), (139, kk), (140, kk), (141, kk), (180, bb)], v2_, a21_⟩⟩]] none .nil .nil) (.mk [.join [⟨.n, ⟨[(0, pt 0 0), (3, pt 64 0), (4, pt 80 0), (5, pt 96 0), (7, kk), (8, kk), (9, kk), (10, kk), (11, kk), (12, ow 219), (13, kk), (16, ow 283), (139, kk), (140, kk), (141, kk)], v2_, a21_⟩⟩]] none .nil .nil))) .nil) .nil))) .nil) .nil)) .nil)))) .nil)) .nil) .nil) (nn (nn (nn (mm (.mk [] (some (⟨[(0, pt 0 0), (3, pt 64 0), (4, pt 80 0), (5, pt 96 0), (7, kk), (8, kk), (11, kk), (239, ow 219), (240, kk), (241, ii)], v2_, a12_⟩, [⟨.x 10, ⟨r42_, v2_, a18_⟩⟩])) (nn (nn (mm (mm (nn (nn (.mk [.join [⟨.n, ⟨[(0, pt 0 0), (3, pt 64 0), (4, pt 80 0), (5, pt 96 0), (7, kk), (8, kk), (11, kk), (239, ow 219), (240, kk), (241, kk)], v2_, a12_⟩⟩]] none .nil .nil))) .nil) .nil))) .nil) .nil)))))))))) .nil) .nil)) .nil) .nil)) (mm (nn (mm (mm (.mk [.fz [5]] none .nil .nil) .nil) .nil)) .nil))))))) func8 ⟨⟨qaO, qco, qbc, qlh, qhC, trivial⟩, trivial⟩
def qdy (n : yB0) (batches : Int) (i : Int) (s3 : List Int) (s4 : Int) (out : List Int) : Option ((Int × List Int × Int × List Int) ⊕ (List Int × Int × List Int)) :=
 bif decide (i < (n.2.2.1.length : Int)) then (
 (qag batches s3 s4).bind fun r =>
 gd (fits (out.length + 1) 8) <|
 some (.inl (wi64 (i + 1), r.2.1, r.2.2, out ++ [r.1])))
 else (
 some (.inr (s3, s4, out)))
def qb1 (n : yB0) (batches : Int) (s : List Int) (s2 : Int) : Option (List Int × Int × List Int) :=
 (iter (fun x => qdy n batches x.1 x.2.1 x.2.2.1 x.2.2.2) (0, s, s2, [])).bind fun s5 =>
 some (s5.1, s5.2.1, s5.2.2)
def qdz : Fun :=
 ⟨9, 3, 1,
 ⟨r14_, v4_, []⟩,
 ⟨[(0, ow 1)], v4_, [(1, .arr 3 I6)]⟩,
 fun x => qb1 x.1 x.2.1 x.2.2.1 x.2.2.2⟩
theorem qf5 : FO qdz := fi [] [qaD] 23 [] ((nn (nn (mm (nn (mm (.mk [] (some (⟨[(0, pt 0 0), (2, kk), (4, pt 80 0), (7, ow 139), (8, ii)], [(0, 53, [.data (.sl I6), .data I6]), (80, 32, (kp 6))], [(139, .arr 3 I6)]⟩, [⟨.x 0, ⟨[(7, ow 139)], v4_, [(139, .arr 3 I6)]⟩⟩])) .nil .nil) .nil)) .nil)))) func9 ⟨⟨qaO, trivial⟩, trivial⟩
def qd4 (batches : Int) (volume2 : Int) (s3 : List Int) (s4 : Int) (out : List (Int × Int)) : Option ((Int × List Int × Int × List (Int × Int)) ⊕ (List Int × Int × List (Int × Int))) :=
 Option.bind (α := Bool × List (Int × Int)) (
 bif decide (0 < volume2) then (
 some (decide ((out.length : Int) < 12), out))
 else (
 some (false, out))) fun s5 =>
 bif s5.1 then (
 (qag batches s3 s4).bind fun r =>
 (qai 1 (max 1 (wi64 (Int.tdiv (wi64 (volume2 * 2)) 3))) r.2.1 r.2.2).bind fun r2 =>
 Option.bind (α := Int × List (Int × Int)) (
 bif decide ((s5.2.length : Int) = 11) then (
 some (volume2, s5.2))
 else (
 some (r2.1, s5.2))) fun s6 =>
 Option.bind (α := Bool × List (Int × Int)) (
 bif decide (0 < (s6.2.length : Int)) then (
 gd (inB (wi64 ((s6.2.length : Int) - 1)) s6.2.length) <|
 some (decide ((s6.2.getD ((wi64 ((s6.2.length : Int) - 1)).toNat) (0, 0)).1 = r.1), s6.2))
 else (
 some (false, s6.2))) fun s7 =>
 Option.bind (α := (Int × Int × List (Int × Int)) ⊕ (Int × List (Int × Int))) (
 bif s7.1 then (
 gd (!decide (batches = 0)) <|
 gd (inB (wi64 ((s7.2.length : Int) - 1)) s7.2.length) <|
 bif decide ((s7.2.getD ((wi64 ((s7.2.length : Int) - 1)).toNat) (0, 0)).1 = Int.tmod (wi64 (r.1 + 1)) batches) then (
 gd (inB (wi64 ((s7.2.length : Int) - 1)) s7.2.length) <|
 gd (inB (wi64 ((s7.2.length : Int) - 1)) s7.2.length) <|
 some (.inr (wi64 (volume2 - (min s6.1 volume2)), s7.2.set ((wi64 ((s7.2.length : Int) - 1)).toNat) ((s7.2.getD ((wi64 ((s7.2.length : Int) - 1)).toNat) (0, 0)).1, wi64 (((s7.2.getD ((wi64 ((s7.2.length : Int) - 1)).toNat) (0, 0)).2) + (min s6.1 volume2))))))
 else (
 some (.inl (volume2, Int.tmod (wi64 (r.1 + 1)) batches, s7.2))))
 else (
 some (.inl (volume2, r.1, s7.2)))) fun s8 =>
 s8.elim (fun s9 =>
 gd (fits (s9.2.2.length + 1) 16) <|
 some (.inl (wi64 (s9.1 - (min s6.1 volume2)), r2.2.1, r2.2.2, s9.2.2 ++ [(s9.2.1, min s6.1 volume2)])))
 (fun s10 =>
 some (.inl (s10.1, r2.2.1, r2.2.2, s10.2))))
 else (
 some (.inr (s3, s4, s5.2)))
def qcD (volume : Int) (batches : Int) (s : List Int) (s2 : Int) : Option ((List (Int × Int)) × List Int × Int) :=
 (iter (fun x => qd4 batches x.1 x.2.1 x.2.2.1 x.2.2.2) (volume, s, s2, [])).bind fun s11 =>
 some (s11.2.2, s11.1, s11.2.1)
def qd5 : Fun :=
 ⟨22, 3, 1,
 ⟨[(0, pt 0 0), (1, ii), (2, ii)], v4_, []⟩,
 ⟨r30_, v4_, []⟩,
 fun x => qcD x.1 x.2.1 x.2.2.1 x.2.2.2⟩
theorem qgt : FO qd5 := fi [] [qaD, qaK] 92 [] ((nn (nn (mm (mm (.mk [] (some (⟨[(0, pt 0 0), (1, ii), (2, kk), (7, ow 139)], v4_, a44_⟩, [⟨.x 0, ⟨[(7, ow 139)], v4_, a44_⟩⟩])) (mm (mm (.mk [.join [⟨.n, ⟨[(0, pt 0 0), (1, kk), (2, kk), (7, ow 139), (15, bb)], [(0, 53, [.keep, .keep])], a44_⟩⟩]] none .nil .nil) .nil) (mm (nn (mm (nn (.mk [.join [⟨.n, ⟨[(0, pt 0 0), (1, kk), (2, kk), (7, ow 139), (8, pt 144 0)], [(0, 53, [.keep, .keep]), (144, 46, [.keep, .data I6])], a44_⟩⟩]] none .nil .nil)) (nn (mm (mm (.mk [.join [⟨.n, ⟨[(0, pt 0 0), (1, kk), (2, kk), (7, ow 139), (8, pt 144 0), (50, bb)], [(0, 53, [.keep, .keep]), (144, 46, [.keep, .keep])], a44_⟩⟩]] none .nil .nil) (.mk [.join [⟨.n, ⟨[(0, pt 0 0), (1, ii), (2, kk), (7, ow 139), (8, pt 144 0)], [(0, 53, [.keep, .keep]), (144, 46, [.data I6, .keep])], a44_⟩⟩, ⟨.x 1, ⟨[(0, pt 0 0), (1, ii), (2, kk), (7, ow 139)], [(0, 53, [.keep, .keep])], a44_⟩⟩]] none .nil .nil)) .nil)))) .nil)) .nil) .nil) .nil)))) func22 ⟨⟨qaO, qbc, trivial⟩, trivial⟩
def qdA (n : yB0) (batches : Int) (v : Int) (s3 : List Int) (s4 : Int) (out : List (List (Int × Int))) : Option ((Int × List Int × Int × List (List (Int × Int))) ⊕ (List Int × Int × List (List (Int × Int)))) :=
 bif decide (v < (n.2.1.length : Int)) then (
 gd (inB v n.2.1.length) <|
 (qcD (((((n.2.1.getD v.toNat ([], (0, (0, (0, (0, (0, []))))))).2).2).2).1) batches s3 s4).bind fun r =>
 gd (fits (out.length + 1) 24) <|
 some (.inl (wi64 (v + 1), r.2.1, r.2.2, out ++ [r.1])))
 else (
 some (.inr (s3, s4, out)))
def qb2 (n : yB0) (batches : Int) (s : List Int) (s2 : Int) : Option (List Int × Int × List (List (Int × Int))) :=
 (iter (fun x => qdA n batches x.1 x.2.1 x.2.2.1 x.2.2.2) (0, s, s2, [])).bind fun s5 =>
 some (s5.1, s5.2.1, s5.2.2)
def qdB : Fun :=
 ⟨10, 3, 1,
 ⟨r14_, v4_, []⟩,
 ⟨[(0, ow 1)], v4_, [(1, .arr 44 (.sl tT0))]⟩,
 fun x => qb2 x.1 x.2.1 x.2.2.1 x.2.2.2⟩
theorem qf6 : FO qdB := fi [] [qd5] 27 [] ((nn (nn (mm (nn (mm (.mk [] (some (⟨[(0, pt 0 0), (2, kk), (7, ow 139), (11, kk), (12, kk), (13, ii)], v4_, [(139, .arr 44 (.sl tT0))]⟩, [⟨.x 0, ⟨[(7, ow 139)], v4_, [(139, .arr 44 (.sl tT0))]⟩⟩])) .nil .nil) .nil)) .nil)))) func10 ⟨⟨qgt, trivial⟩, trivial⟩
def qap (n : Int) (low : Int) (high : Int) : Option (Bool) :=
 bif decide (low ≤ n) then (
 some (decide (n ≤ high)))
 else (
 some false)
def qfh : Fun :=
 ⟨52, 3, 1,
 ⟨[(0, ii), (1, ii), (2, ii)], [], []⟩,
 ⟨[(0, bb)], [], []⟩,
 fun x => qap x.1 x.2.1 x.2.2⟩
theorem qhD : FO qfh := fi [] [] 15 [] .nil func52 ⟨trivial, trivial⟩
def qb3 (n : yB0) (v : Int) (out : List (List UInt8)) : Option ((Int × List (List UInt8)) ⊕ (List (List UInt8))) :=
 bif decide (v < (n.2.1.length : Int)) then (
 gd (inB v n.2.1.length) <|
 gd (fits (out.length + 1) 16) <|
 some (.inl (wi64 (v + 1), out ++ [(n.2.1.getD v.toNat ([], (0, (0, (0, (0, (0, []))))))).1])))
 else (
 some (.inr out))
def qb4 (n : yB0) (v2 : Int) (out2 : List (List UInt8)) (out3 : List (List UInt8)) : Option ((Int × List (List UInt8) × List (List UInt8)) ⊕ (List (List UInt8) × List (List UInt8))) :=
 bif decide (v2 < (n.2.2.1.length : Int)) then (
 gd (inB v2 n.2.2.1.length) <|
 gd (fits (out3.length + 1) 16) <|
 some (.inl (wi64 (v2 + 1), out2, out3 ++ [(n.2.2.1.getD v2.toNat ([], (0, 0))).1])))
 else (
 some (.inr (out2, out3)))
def qb5 (n : yB0) (v3 : Int) (out4 : List (List UInt8)) (out5 : List (List UInt8)) (out6 : List (List UInt8)) : Option ((Int × List (List UInt8) × List (List UInt8) × List (List UInt8)) ⊕ (List (List UInt8) × List (List UInt8) × List (List UInt8))) :=
 bif decide (v3 < (n.2.2.2.1.length : Int)) then (
 gd (inB v3 n.2.2.2.1.length) <|
 gd (fits (out6.length + 1) 16) <|
 some (.inl (wi64 (v3 + 1), out4, out5, out6 ++ [(n.2.2.2.1.getD v3.toNat ([], (0, (0, (0, 0))))).1])))
 else (
 some (.inr (out4, out5, out6)))
def qc1 (n : yB0) : Option (List (List UInt8) × List (List UInt8) × List (List UInt8) × List (List UInt8)) :=
 (iter (fun x => qb3 n x.1 x.2) (0, [])).bind fun s =>
 (iter (fun x2 => qb4 n x2.1 x2.2.1 x2.2.2) (0, s, [])).bind fun s2 =>
 (iter (fun x3 => qb5 n x3.1 x3.2.1 x3.2.2.1 x3.2.2.2) (0, s2.1, s2.2, [])).bind fun s3 =>
 some (n.1, (s3.1, (s3.2.1, s3.2.2)))
def qeV : Fun :=
 ⟨53, 1, 1,
 ⟨r9_, [], []⟩,
 ⟨[(0, dd (.pair (.sl (.str)) (.pair (.sl (.str)) (.pair (.sl (.str)) (.sl (.str))))))], [], []⟩,
 fun x => qc1 x⟩
theorem qhZ : FO qeV := fi [] [] 59 [] ((nn (nn (nn (mm (nn (mm (.mk [] (some (⟨[(1, pt 32 0), (2, pt 48 0), (3, pt 64 0), (14, kk), (15, kk), (16, ii)], v40_, [(1065, .arr 9 (.str))]⟩, [⟨.x 0, ⟨r46_, v40_, [(1065, .arr 9 (.str))]⟩⟩])) .nil .nil) .nil)) (mm (nn (mm (.mk [] (some (⟨[(1, pt 32 0), (2, pt 48 0), (3, pt 64 0), (29, kk), (30, kk), (31, ii)], v36_, [(1065, .arr 9 (.str)), (1081, .arr 9 (.str))]⟩, [⟨.x 2, ⟨r46_, v36_, [(1065, .arr 9 (.str)), (1081, .arr 9 (.str))]⟩⟩])) .nil .nil) .nil)) (mm (nn (mm (.mk [] (some (⟨[(2, pt 48 0), (3, pt 64 0), (44, kk), (45, kk), (46, ii)], v43_, a45_⟩, [⟨.x 4, ⟨r39_, v43_, a45_⟩⟩])) .nil .nil) .nil)) .nil))))))) func53 ⟨trivial, trivial⟩
def qbK (s : List UInt8) (i : Int) : Option (Int ⊕ (Unit ⊕ Bool)) :=
 bif decide (i < (s.length : Int)) then (
 Option.bind (α := Bool) (
 gd (inB i s.length) <|
 bif decide ((Int.ofNat (s.getD i.toNat 0).toNat) < 97) then (
 gd (inB i s.length) <|
 bif decide ((Int.ofNat (s.getD i.toNat 0).toNat) < 48) then (
 gd (inB i s.length) <|
 some (!decide ((Int.ofNat (s.getD i.toNat 0).toNat) = 45)))
 else (
 gd (inB i s.length) <|
 bif decide (57 < (Int.ofNat (s.getD i.toNat 0).toNat)) then (
 gd (inB i s.length) <|
 some (!decide ((Int.ofNat (s.getD i.toNat 0).toNat) = 45)))
 else (
 some false)))
 else (
 gd (inB i s.length) <|
 bif decide (122 < (Int.ofNat (s.getD i.toNat 0).toNat)) then (
 gd (inB i s.length) <|
 bif decide ((Int.ofNat (s.getD i.toNat 0).toNat) < 48) then (
 gd (inB i s.length) <|
 some (!decide ((Int.ofNat (s.getD i.toNat 0).toNat) = 45)))
 else (
 gd (inB i s.length) <|
 bif decide (57 < (Int.ofNat (s.getD i.toNat 0).toNat)) then (
 gd (inB i s.length) <|
 some (!decide ((Int.ofNat (s.getD i.toNat 0).toNat) = 45)))
 else (
 some false)))
 else (
 some false))) fun s3 =>
 bif s3 then (
 some (.inr (.inr false)))
 else (
 some (.inl (wi64 (i + 1)))))
 else (
 some (.inr (.inl ())))
def qbD (s : List UInt8) : Option (Bool) :=
 Option.bind (α := Bool) (
 bif decide ((s.length : Int) < 1) then (
 some true)
 else (
 bif decide (12 < (s.length : Int)) then (
 some true)
 else (
 gd (inB 0 s.length) <|
 bif decide ((Int.ofNat (s.getD 0 0).toNat) < 97) then (
 some true)
 else (
 gd (inB 0 s.length) <|
 some (decide (122 < (Int.ofNat (s.getD 0 0).toNat))))))) fun s2 =>
 bif s2 then (
 some false)
 else (
 (iter (fun x => qbK s x) 0).bind fun s4 =>
 s4.elim (fun s5 =>
 some true)
 (fun s6 =>
 some s6))
def qfM : Fun :=
 ⟨54, 1, 1,
 ⟨[(0, ss)], [], []⟩,
 ⟨[(0, bb)], [], []⟩,
 fun x => qbD x⟩
theorem qi4 : FO qfM := fi [] [] 56 [] ((nn (mm (mm (.mk [.join [⟨.n, ⟨[(0, kk), (21, bb)], [], []⟩⟩]] none .nil .nil) .nil) (mm (nn (mm (.mk [] (some (⟨[(0, kk), (3, ii)], [], []⟩, [⟨.x 0, ⟨[], [], []⟩⟩, ⟨.r, ⟨[(2, bb)], [], []⟩⟩])) (nn (mm (mm (mm (.mk [.join [⟨.n, ⟨[(0, kk), (3, kk), (55, bb)], [], []⟩⟩]] none .nil .nil) .nil) .nil) .nil)) .nil) .nil)) .nil)))) func54 ⟨trivial, trivial⟩
def qb6 (l : List (List UInt8)) (v : Int) (k : Int) : Option (Int ⊕ (Unit ⊕ Bool)) :=
 bif decide (k < v) then (
 gd (inB v l.length) <|
 gd (inB k l.length) <|
 bif decide (l.getD v.toNat [] = l.getD k.toNat []) then (
 some (.inr (.inr true)))
 else (
 some (.inl (wi64 (k + 1)))))
 else (
 some (.inr (.inl ())))
def qdm (l : List (List UInt8)) (v : Int) : Option (Int ⊕ (Unit ⊕ Bool)) :=
 bif decide (v < (l.length : Int)) then (
 (iter (fun x => qb6 l v x) 0).bind fun s =>
 s.elim (fun s2 =>
 some (.inl (wi64 (v + 1))))
 (fun s3 =>
 some (.inr (.inr s3))))
 else (
 some (.inr (.inl ())))
def qdM (l : List (List UInt8)) : Option (Bool) :=
 (iter (fun x2 => qdm l x2) 0).bind fun s4 =>
 s4.elim (fun s5 =>
 some false)
 (fun s6 =>
 some s6)
def qeW : Fun :=
 ⟨55, 1, 1,
 ⟨[(0, dd (.sl (.str)))], [], []⟩,
 ⟨[(0, bb)], [], []⟩,
 fun x => qdM x⟩
theorem qh0 : FO qeW := fi [] [] 25 [] ((nn (mm (nn (mm (.mk [] (some (⟨[(0, kk), (6, kk), (7, ii)], [], []⟩, [⟨.x 0, ⟨[], [], []⟩⟩, ⟨.r, ⟨[(2, bb)], [], []⟩⟩])) (nn (nn (mm (mm (nn (nn (mm (.mk [] (some (⟨[(0, kk), (3, kk), (4, ii), (6, kk), (7, kk)], [], []⟩, [⟨.x 2, ⟨[(0, kk), (6, kk), (7, kk)], [], []⟩⟩, ⟨.r, ⟨[(2, bb)], [], []⟩⟩])) .nil .nil) .nil))) .nil) .nil))) .nil) .nil)) .nil))) func55 ⟨trivial, trivial⟩
def qbL (s : List UInt8 × Int × Int × Int × Int × Int × List (Int × Int × Int)) (v : Int) : Option (Int ⊕ (Unit ⊕ Bool)) :=
 bif decide (v < (s.2.2.2.2.2.2.length : Int)) then (
 gd (inB v s.2.2.2.2.2.2.length) <|
 Option.bind (α := Bool) (
 bif decide (0 < v) then (
 gd (inB (wi64 (v - 1)) s.2.2.2.2.2.2.length) <|
 bif decide ((s.2.2.2.2.2.2.getD v.toNat (0, (0, 0))).1 ≤ (s.2.2.2.2.2.2.getD (wi64 (v - 1)).toNat (0, (0, 0))).1) then (
 some true)
 else (
 (qap (((s.2.2.2.2.2.2.getD v.toNat (0, (0, 0))).2).1) (-500) 5000).bind fun r4 =>
 bif !r4 then (
 some true)
 else (
 (qap (((s.2.2.2.2.2.2.getD v.toNat (0, (0, 0))).2).2) 0 100000000).bind fun r5 =>
 some (!r5))))
 else (
 (qap (((s.2.2.2.2.2.2.getD v.toNat (0, (0, 0))).2).1) (-500) 5000).bind fun r6 =>
 bif !r6 then (
 some true)
 else (
 (qap (((s.2.2.2.2.2.2.getD v.toNat (0, (0, 0))).2).2) 0 100000000).bind fun r7 =>
 some (!r7)))) fun s3 =>
 bif s3 then (
 some (.inr (.inr false)))
 else (
 some (.inl (wi64 (v + 1)))))
 else (
 some (.inr (.inl ())))
def qbE (s : List UInt8 × Int × Int × Int × Int × Int × List (Int × Int × Int)) : Option (Bool) :=
 Option.bind (α := Bool) (
 bif decide (s.2.1 = s.2.2.1) then (
 some true)
 else (
 (qap s.2.2.2.1 1 1000000).bind fun r =>
 bif !r then (
 some true)
 else (
 (qap s.2.2.2.2.1 0 1000).bind fun r2 =>
 bif !r2 then (
 some true)
 else (
 (qap s.2.2.2.2.2.1 0 100000).bind fun r3 =>
 bif !r3 then (
 some true)
 else (
 gd (inB 0 s.2.2.2.2.2.2.length) <|
 bif !decide ((s.2.2.2.2.2.2.getD 0 (0, (0, 0))).1 = 0) then (
 some true)
 else (
 gd (inB (wi64 ((s.2.2.2.2.2.2.length : Int) - 1)) s.2.2.2.2.2.2.length) <|
 some (!decide ((s.2.2.2.2.2.2.getD (wi64 ((s.2.2.2.2.2.2.length : Int) - 1)).toNat (0, (0, 0))).1 = s.2.2.2.1)))))))) fun s2 =>
 bif s2 then (
 some false)
 else (
 (iter (fun x => qbL s x) 0).bind fun s4 =>
 s4.elim (fun s5 =>
 some true)
 (fun s6 =>
 some s6))
def qet : Fun :=
 ⟨56, 1, 1,
 ⟨r34_, [], []⟩,
 ⟨[(0, bb)], [], []⟩,
 fun x => qbE x⟩
theorem qhE : FO qet := fi [] [qfh] 85 [] ((nn (mm (mm (.mk [.join [⟨.n, ⟨[(1, pt 32 0), (49, bb)], [(32, 59, (kp 7))], []⟩⟩]] none .nil .nil) .nil) (mm (nn (mm (.mk [] (some (⟨[(1, pt 32 0), (51, kk), (52, kk), (53, ii)], [(32, 59, (kp 7))], []⟩, [⟨.x 0, ⟨[], [], []⟩⟩, ⟨.r, ⟨[(2, bb)], [], []⟩⟩])) (nn (nn (mm (mm (nn (mm (.mk [.join [⟨.n, ⟨[(1, pt 32 0), (51, kk), (52, kk), (53, kk), (83, bb)], [(32, 59, (kp 7))], []⟩⟩]] none .nil .nil) .nil)) .nil) .nil))) .nil) .nil)) .nil)))) func56 ⟨⟨qhD, trivial⟩, trivial⟩
def qbg (n : yB0) (v : Int) : Option (Int ⊕ (Unit ⊕ Int)) :=
 bif decide (v < (n.2.1.length : Int)) then (
 gd (inB v n.2.1.length) <|
 (qap ((((((((n.2.1.getD v.toNat ([], (0, (0, (0, (0, (0, []))))))).2).2).2).2).2).2).length : Int) 2 8).bind fun r2 =>
 bif !r2 then (
 some (.inr (.inr 4)))
 else (
 some (.inl (wi64 (v + 1)))))
 else (
 some (.inr (.inl ())))
def qaW (v2 : List (List UInt8)) (v3 : List (List UInt8)) (v4 : List (List UInt8)) (v5 : List (List UInt8)) (v6 : Int) (v7 : List (List UInt8)) (v8 : List (List UInt8)) (v9 : List (List UInt8)) (v10 : List (List UInt8)) (v11 : Int) : Option ((List (List UInt8) × List (List UInt8) × List (List UInt8) × List (List UInt8) × Int) ⊕ ((List (List UInt8) × List (List UInt8) × List (List UInt8) × List (List UInt8)) ⊕ Int)) :=
 bif decide (v11 < (([v2, v3, v4, v5].getD v6.toNat []).length : Int)) then (
 gd (inB v11 ([v2, v3, v4, v5].getD v6.toNat []).length) <|
 (qbD (([v2, v3, v4, v5].getD v6.toNat []).getD v11.toNat [])).bind fun r4 =>
 bif !r4 then (
 some (.inr (.inr 3)))
 else (
 some (.inl (v7, v8, v9, v10, wi64 (v11 + 1)))))
 else (
 some (.inr (.inl (v7, v8, v9, v10))))
def qb7 (v2 : List (List UInt8)) (v3 : List (List UInt8)) (v4 : List (List UInt8)) (v5 : List (List UInt8)) (v6 : Int) : Option ((List (List UInt8) × List (List UInt8) × List (List UInt8) × List (List UInt8) × Int) ⊕ (Unit ⊕ Int)) :=
 bif decide (v6 < 4) then (
 gd (inB v6 4) <|
 (iter (fun x2 => qaW v2 v3 v4 v5 v6 x2.1 x2.2.1 x2.2.2.1 x2.2.2.2.1 x2.2.2.2.2) (v2, v3, v4, v5, 0)).bind fun s5 =>
 s5.elim (fun s6 =>
 some (.inl (s6.1, s6.2.1, s6.2.2.1, s6.2.2.2, wi64 (v6 + 1))))
 (fun s7 =>
 some (.inr (.inr s7))))
 else (
 some (.inr (.inl ())))
def qb8 (v12 : List (List UInt8)) (v13 : List (List UInt8)) (v14 : List (List UInt8)) (v15 : List (List UInt8)) (v16 : Int) : Option ((List (List UInt8) × List (List UInt8) × List (List UInt8) × List (List UInt8) × Int) ⊕ (Unit ⊕ Int)) :=
 bif decide (v16 < 4) then (
 gd (inB v16 4) <|
 (qdM ([v12, v13, v14, v15].getD v16.toNat [])).bind fun r5 =>
 bif r5 then (
 some (.inr (.inr 7)))
 else (
 some (.inl (v12, v13, v14, v15, wi64 (v16 + 1)))))
 else (
 some (.inr (.inl ())))
def qb9 (n : yB0) (v17 : Int) (k : Int) : Option (Int ⊕ (Unit ⊕ Int)) :=
 bif decide (k < v17) then (
 gd (inB v17 n.2.2.2.1.length) <|
 gd (inB k n.2.2.2.1.length) <|
 bif decide (((n.2.2.2.1.getD v17.toNat ([], (0, (0, (0, 0))))).2).1 = ((n.2.2.2.1.getD k.toNat ([], (0, (0, (0, 0))))).2).1) then (
 some (.inr (.inr 7)))
 else (
 some (.inl (wi64 (k + 1)))))
 else (
 some (.inr (.inl ())))
def qca (n : yB0) (v17 : Int) : Option (Int ⊕ (Unit ⊕ Int)) :=
 bif decide (v17 < (n.2.2.2.1.length : Int)) then (
 (iter (fun x5 => qb9 n v17 x5) 0).bind fun s14 =>
 s14.elim (fun s15 =>
 some (.inl (wi64 (v17 + 1))))
 (fun s16 =>
 some (.inr (.inr s16))))
 else (
 some (.inr (.inl ())))
def qbh (n : yB0) (v18 : Int) : Option (Int ⊕ (Unit ⊕ Int)) :=
 bif decide (v18 < (n.2.1.length : Int)) then (
 gd (inB v18 n.2.1.length) <|
 Option.bind (α := Bool) (
 (qap (((n.2.1.getD v18.toNat ([], (0, (0, (0, (0, (0, []))))))).2).1) 0 (wi64 ((n.1.length : Int) - 1))).bind fun r6 =>
 bif !r6 then (
 some true)
 else (
 (qap ((((n.2.1.getD v18.toNat ([], (0, (0, (0, (0, (0, []))))))).2).2).1) 0 (wi64 ((n.1.length : Int) - 1))).bind fun r7 =>
 some (!r7))) fun s20 =>
 bif s20 then (
 some (.inr (.inr 8)))
 else (
 some (.inl (wi64 (v18 + 1)))))
 else (
 some (.inr (.inl ())))
def qbi (n : yB0) (v19 : Int) : Option (Int ⊕ (Unit ⊕ Int)) :=
 bif decide (v19 < (n.2.2.1.length : Int)) then (
 gd (inB v19 n.2.2.1.length) <|
 (qap (((n.2.2.1.getD v19.toNat ([], (0, 0))).2).1) 0 (wi64 ((n.1.length : Int) - 1))).bind fun r8 =>
 bif !r8 then (
 some (.inr (.inr 8)))
 else (
 some (.inl (wi64 (v19 + 1)))))
 else (
 some (.inr (.inl ())))
def qbj (n : yB0) (v20 : Int) : Option (Int ⊕ (Unit ⊕ Int)) :=
 bif decide (v20 < (n.2.2.2.1.length : Int)) then (
 gd (inB v20 n.2.2.2.1.length) <|
 (qap (((n.2.2.2.1.getD v20.toNat ([], (0, (0, (0, 0))))).2).1) 0 (wi64 ((n.1.length : Int) - 1))).bind fun r9 =>
 bif !r9 then (
 some (.inr (.inr 8)))
 else (
 some (.inl (wi64 (v20 + 1)))))
 else (
 some (.inr (.inl ())))
def qbk (n : yB0) (v21 : Int) : Option (Int ⊕ (Unit ⊕ Int)) :=
 bif decide (v21 < (n.2.1.length : Int)) then (
 gd (inB v21 n.2.1.length) <|
 (qbE ((n.2.1.getD v21.toNat ([], (0, (0, (0, (0, (0, []))))))).1, (((n.2.1.getD v21.toNat ([], (0, (0, (0, (0, (0, []))))))).2).1, ((((n.2.1.getD v21.toNat ([], (0, (0, (0, (0, (0, []))))))).2).2).1, (((((n.2.1.getD v21.toNat ([], (0, (0, (0, (0, (0, []))))))).2).2).2).1, ((((((n.2.1.getD v21.toNat ([], (0, (0, (0, (0, (0, []))))))).2).2).2).2).1, (((((((n.2.1.getD v21.toNat ([], (0, (0, (0, (0, (0, []))))))).2).2).2).2).2).1, ((((((n.2.1.getD v21.toNat ([], (0, (0, (0, (0, (0, []))))))).2).2).2).2).2).2))))))).bind fun r10 =>
 bif !r10 then (
 some (.inr (.inr 9)))
 else (
 some (.inl (wi64 (v21 + 1)))))
 else (
 some (.inr (.inl ())))
def qa5 (n : yB0) (v22 : Int) : Option (Int ⊕ (Unit ⊕ Int)) :=
 bif decide (v22 < (n.2.2.1.length : Int)) then (
 gd (inB v22 n.2.2.1.length) <|
 (qap (((n.2.2.1.getD v22.toNat ([], (0, 0))).2).2) 0 100000000).bind fun r11 =>
 bif !r11 then (
 some (.inr (.inr 9)))
 else (
 some (.inl (wi64 (v22 + 1)))))
 else (
 some (.inr (.inl ())))
def qa6 (n : yB0) (v23 : Int) : Option (Int ⊕ (Unit ⊕ Int)) :=
 bif decide (v23 < (n.2.2.2.1.length : Int)) then (
 gd (inB v23 n.2.2.2.1.length) <|
 Option.bind (α := Bool) (
 (qap ((((n.2.2.2.1.getD v23.toNat ([], (0, (0, (0, 0))))).2).2).1) 0 100000000).bind fun r12 =>
 bif !r12 then (
 some true)
 else (
 (qap (((((n.2.2.2.1.getD v23.toNat ([], (0, (0, (0, 0))))).2).2).2).1) 0 100000).bind fun r13 =>
 bif !r13 then (
 some true)
 else (
 (qap (((((n.2.2.2.1.getD v23.toNat ([], (0, (0, (0, 0))))).2).2).2).2) 0 100000000).bind fun r14 =>
 some (!r14)))) fun s36 =>
 bif s36 then (
 some (.inr (.inr 9)))
 else (
 some (.inl (wi64 (v23 + 1)))))
 else (
 some (.inr (.inl ())))
def qc2 (n : yB0) : Option (Int) :=
 Option.bind (α := Bool) (
 (qap (n.1.length : Int) 1 24).bind fun r =>
 bif !r then (
 some true)
 else (
 bif decide (32 < (n.2.1.length : Int)) then (
 some true)
 else (
 bif decide (24 < (n.2.2.1.length : Int)) then (
 some true)
 else (
 some (decide (12 < (n.2.2.2.1.length : Int))))))) fun s =>
 bif s then (
 some 4)
 else (
 (iter (fun x => qbg n x) 0).bind fun s2 =>
 s2.elim (fun s3 =>
 (qc1 (n.1, (n.2.1, (n.2.2.1, (n.2.2.2.1, (n.2.2.2.2.1, n.2.2.2.2.2)))))).bind fun r3 =>
 (iter (fun x3 => qb7 x3.1 x3.2.1 x3.2.2.1 x3.2.2.2.1 x3.2.2.2.2) (r3.1, r3.2.1, r3.2.2.1, r3.2.2.2, 0)).bind fun s8 =>
 s8.elim (fun s9 =>
 (iter (fun x4 => qb8 x4.1 x4.2.1 x4.2.2.1 x4.2.2.2.1 x4.2.2.2.2) (r3.1, r3.2.1, r3.2.2.1, r3.2.2.2, 0)).bind fun s11 =>
 s11.elim (fun s12 =>
 (iter (fun x6 => qca n x6) 0).bind fun s17 =>
 s17.elim (fun s18 =>
 (iter (fun x7 => qbh n x7) 0).bind fun s21 =>
 s21.elim (fun s22 =>
 (iter (fun x8 => qbi n x8) 0).bind fun s24 =>
 s24.elim (fun s25 =>
 (iter (fun x9 => qbj n x9) 0).bind fun s27 =>
 s27.elim (fun s28 =>
 (iter (fun x10 => qbk n x10) 0).bind fun s30 =>
 s30.elim (fun s31 =>
 (iter (fun x11 => qa5 n x11) 0).bind fun s33 =>
 s33.elim (fun s34 =>
 (iter (fun x12 => qa6 n x12) 0).bind fun s37 =>
 s37.elim (fun s38 =>
 Option.bind (α := Bool) (
 (qap n.2.2.2.2.1 (-100000) 100000000).bind fun r15 =>
 bif !r15 then (
 some true)
 else (
 (qap n.2.2.2.2.2 0 100).bind fun r16 =>
 some (!r16))) fun s40 =>
 bif s40 then (
 some 9)
 else (
 some 0))
 (fun s39 =>
 some s39))
 (fun s35 =>
 some s35))
 (fun s32 =>
 some s32))
 (fun s29 =>
 some s29))
 (fun s26 =>
 some s26))
 (fun s23 =>
 some s23))
 (fun s19 =>
 some s19))
 (fun s13 =>
 some s13))
 (fun s10 =>
 some s10))
 (fun s4 =>
 some s4))
def qdn : Fun :=
 ⟨48, 1, 1,
 ⟨r9_, [], []⟩,
 ⟨[(0, ii)], [], []⟩,
 fun x => qc2 x⟩
theorem qeX : FO qdn := fi [] [qfh, qeV, qfM, qeW, qet] 219 [] ((nn (mm (mm (.mk [.join [⟨.n, ⟨[(1, pt 32 0), (49, bb)], v19_, []⟩⟩]] none .nil .nil) .nil) (mm (nn (mm (.mk [] (some (⟨[(1, pt 32 0), (51, kk), (52, kk), (53, ii)], v19_, []⟩, [⟨.x 0, ⟨[(1, pt 32 0)], v19_, []⟩⟩, ⟨.r, ⟨[(2, ii)], [], []⟩⟩])) .nil .nil) .nil)) (nn (mm (nn (mm (.mk [] (some (⟨[(1, pt 32 0), (5, pt 96 0), (65, .agg [.data (.sl (.str)), .data (.sl (.str)), .data (.sl (.str)), .data (.sl (.str))]), (66, ii)], v41_, []⟩, [⟨.x 2, ⟨[(1, pt 32 0), (5, pt 96 0)], v41_, []⟩⟩, ⟨.r, ⟨[(2, ii)], [], []⟩⟩])) (nn (nn (mm (mm (nn (nn (mm (.mk [] (some (⟨[(1, pt 32 0), (5, pt 96 0), (65, .agg [.data (.sl (.str)), .data (.sl (.str)), .data (.sl (.str)), .data (.sl (.str))]), (66, kk), (69, kk), (70, kk), (71, ii)], v41_, []⟩, [⟨.x 4, ⟨[(1, pt 32 0), (5, pt 96 0), (65, .agg [.data (.sl (.str)), .data (.sl (.str)), .data (.sl (.str)), .data (.sl (.str))]), (66, kk)], v41_, []⟩⟩, ⟨.r, ⟨[(2, ii)], [], []⟩⟩])) .nil .nil) .nil))) .nil) .nil))) .nil) .nil)) (mm (nn (mm (.mk [] (some (⟨[(1, pt 32 0), (80, .agg [.data (.sl (.str)), .data (.sl (.str)), .data (.sl (.str)), .data (.sl (.str))]), (81, ii)], v19_, []⟩, [⟨.x 6, ⟨[(1, pt 32 0)], v19_, []⟩⟩, ⟨.r, ⟨[(2, ii)], [], []⟩⟩])) .nil .nil) .nil)) (mm (nn (mm (.mk [] (some (⟨[(1, pt 32 0), (89, kk), (90, ii)], v19_, []⟩, [⟨.x 8, ⟨[(1, pt 32 0)], v19_, []⟩⟩, ⟨.r, ⟨[(2, ii)], [], []⟩⟩])) (nn (nn (mm (mm (nn (nn (mm (.mk [] (some (⟨[(1, pt 32 0), (12, kk), (13, ii), (89, kk), (90, kk)], v19_, []⟩, [⟨.x 10, ⟨[(1, pt 32 0), (89, kk), (90, kk)], v19_, []⟩⟩, ⟨.r, ⟨[(2, ii)], [], []⟩⟩])) .nil .nil) .nil))) .nil) .nil))) .nil) .nil)) (nn (mm (nn (mm (.mk [] (some (⟨[(1, pt 32 0), (14, kk), (117, kk), (118, kk), (119, ii)], v19_, []⟩, [⟨.x 12, ⟨[(1, pt 32 0), (14, kk)], v19_, []⟩⟩, ⟨.r, ⟨[(2, ii)], [], []⟩⟩])) (nn (nn (mm (mm (nn (mm (.mk [.join [⟨.n, ⟨[(1, pt 32 0), (14, kk), (117, kk), (118, kk), (119, kk), (134, bb)], v19_, []⟩⟩]] none .nil .nil) .nil)) .nil) .nil))) .nil) .nil)) (mm (nn (mm (.mk [] (some (⟨[(1, pt 32 0), (14, kk), (137, kk), (138, kk), (139, ii)], v19_, []⟩, [⟨.x 14, ⟨[(1, pt 32 0), (14, kk)], v19_, []⟩⟩, ⟨.r, ⟨[(2, ii)], [], []⟩⟩])) .nil .nil) .nil)) (mm (nn (mm (.mk [] (some (⟨[(1, pt 32 0), (14, kk), (150, kk), (151, kk), (152, ii)], v19_, []⟩, [⟨.x 16, ⟨[(1, pt 32 0)], v19_, []⟩⟩, ⟨.r, ⟨[(2, ii)], [], []⟩⟩])) .nil .nil) .nil)) (mm (nn (mm (.mk [] (some (⟨[(1, pt 32 0), (163, kk), (164, kk), (165, ii)], v19_, []⟩, [⟨.x 18, ⟨[(1, pt 32 0)], v19_, []⟩⟩, ⟨.r, ⟨[(2, ii)], [], []⟩⟩])) .nil .nil) .nil)) (mm (nn (mm (.mk [] (some (⟨[(1, pt 32 0), (174, kk), (175, kk), (176, ii)], v19_, []⟩, [⟨.x 20, ⟨[(1, pt 32 0)], v19_, []⟩⟩, ⟨.r, ⟨[(2, ii)], [], []⟩⟩])) .nil .nil) .nil)) (mm (nn (mm (.mk [] (some (⟨[(1, pt 32 0), (186, kk), (187, kk), (188, ii)], v19_, []⟩, [⟨.x 22, ⟨[(1, pt 32 0)], v19_, []⟩⟩, ⟨.r, ⟨[(2, ii)], [], []⟩⟩])) (nn (nn (mm (mm (nn (mm (.mk [.join [⟨.n, ⟨[(1, pt 32 0), (186, kk), (187, kk), (188, kk), (207, bb)], v19_, []⟩⟩]] none .nil .nil) .nil)) .nil) .nil))) .nil) .nil)) (mm (mm (.mk [.join [⟨.n, ⟨[(218, bb)], [], []⟩⟩]] none .nil .nil) .nil) .nil)))))))))))))))) func48 ⟨⟨qhD, qhZ, qi4, qh0, qhE, trivial⟩, trivial⟩
def qaM (batch : Int) : Option (Bool) :=
 bif decide (0 ≤ batch) then (
 some (decide (batch < 1000)))
 else (
 some false)
def qbM : Fun :=
 ⟨31, 1, 1,
 ⟨[(0, ii)], [], []⟩,
 ⟨[(0, bb)], [], []⟩,
 fun x => qaM x⟩
theorem qc3 : FO qbM := fi [] [] 9 [] .nil func31 ⟨trivial, trivial⟩
def qaE (f : List (Int × Int)) (sum : Int) (v : Int) : Option ((Int × Int) ⊕ (Int ⊕ Bool)) :=
 bif decide (v < (f.length : Int)) then (
 gd (inB v f.length) <|
 Option.bind (α := Bool) (
 (qaM ((f.getD v.toNat (0, 0)).1)).bind fun r =>
 bif !r then (
 some true)
 else (
 bif decide ((f.getD v.toNat (0, 0)).2 < 1) then (
 some true)
 else (
 bif decide (1000000 < (f.getD v.toNat (0, 0)).2) then (
 some true)
 else (
 bif decide (0 < v) then (
 gd (inB (wi64 (v - 1)) f.length) <|
 some (decide ((f.getD v.toNat (0, 0)).1 = (f.getD (wi64 (v - 1)).toNat (0, 0)).1)))
 else (
 some false))))) fun s =>
 bif s then (
 some (.inr (.inr false)))
 else (
 some (.inl (wi64 (sum + ((f.getD v.toNat (0, 0)).2)), wi64 (v + 1)))))
 else (
 some (.inr (.inl sum)))
def qdN (f : List (Int × Int)) : Option (Bool) :=
 bif decide (200 < (f.length : Int)) then (
 some false)
 else (
 (iter (fun x => qaE f x.1 x.2) (0, 0)).bind fun s2 =>
 s2.elim (fun s3 =>
 some (decide (s3 ≤ 1000000)))
 (fun s4 =>
 some s4))
def qeY : Fun :=
 ⟨49, 1, 1,
 ⟨r30_, [], []⟩,
 ⟨[(0, bb)], [], []⟩,
 fun x => qdN x⟩
theorem qh1 : FO qeY := fi [] [qbM] 52 [] ((nn (nn (nn (mm (nn (mm (.mk [] (some (⟨[(0, kk), (3, ii), (9, kk), (10, kk), (11, ii)], [], []⟩, [⟨.x 0, ⟨[(3, ii)], [], []⟩⟩, ⟨.r, ⟨[(2, bb)], [], []⟩⟩])) (nn (nn (mm (mm (nn (mm (mm (.mk [.join [⟨.n, ⟨[(0, kk), (3, kk), (5, pt 96 0), (9, kk), (10, kk), (11, kk), (44, bb)], [(96, 46, [.keep, .keep])], []⟩⟩]] none .nil .nil) .nil) .nil)) .nil) .nil))) .nil) .nil)) .nil))))) func49 ⟨⟨qc3, trivial⟩, trivial⟩
def qdh (f : List (Int × Int)) (sum : Int) (v : Int) : Option ((Int × Int) ⊕ Int) :=
 bif decide (v < (f.length : Int)) then (
 gd (inB v f.length) <|
 some (.inl (wi64 (sum + ((f.getD v.toNat (0, 0)).2)), wi64 (v + 1))))
 else (
 some (.inr sum))
def qdC (f : List (Int × Int)) : Option (Int) :=
 (iter (fun x => qdh f x.1 x.2) (0, 0)).bind fun s =>
 some s
def qeu : Fun :=
 ⟨43, 1, 1,
 ⟨r30_, [], []⟩,
 ⟨[(0, ii)], [], []⟩,
 fun x => qdC x⟩
theorem qgp : FO qeu := fi [] [] 19 [] ((nn (nn (mm (nn (mm (.mk [] (some (⟨[(0, kk), (3, ii), (6, kk), (7, ii)], [], []⟩, [⟨.x 0, ⟨[(3, ii)], [], []⟩⟩])) .nil .nil) .nil)) .nil)))) func43 ⟨trivial, trivial⟩
def qaX (fills : List (List (Int × Int))) (v : Int) : Option (Int ⊕ (Unit ⊕ Int)) :=
 bif decide (v < (fills.length : Int)) then (
 gd (inB v fills.length) <|
 (qdN (fills.getD v.toNat [])).bind fun r2 =>
 bif !r2 then (
 some (.inr (.inr 9)))
 else (
 some (.inl (wi64 (v + 1)))))
 else (
 some (.inr (.inl ())))
def qaY (n : yB0) (fills : List (List (Int × Int))) (v2 : Int) : Option (Int ⊕ (Unit ⊕ Int)) :=
 bif decide (v2 < (fills.length : Int)) then (
 gd (inB v2 fills.length) <|
 (qdC (fills.getD v2.toNat [])).bind fun r3 =>
 gd (inB v2 n.2.1.length) <|
 bif !decide (r3 = ((((n.2.1.getD v2.toNat ([], (0, (0, (0, (0, (0, []))))))).2).2).2).1) then (
 some (.inr (.inr 14)))
 else (
 some (.inl (wi64 (v2 + 1)))))
 else (
 some (.inr (.inl ())))
def qdO (n : yB0) (fills : List (List (Int × Int))) : Option (Int) :=
 (qc2 (n.1, (n.2.1, (n.2.2.1, (n.2.2.2.1, (n.2.2.2.2.1, n.2.2.2.2.2)))))).bind fun r =>
 bif !decide (r = 0) then (
 some r)
 else (
 bif !decide ((fills.length : Int) = (n.2.1.length : Int)) then (
 some 9)
 else (
 (iter (fun x => qaX fills x) 0).bind fun s =>
 s.elim (fun s2 =>
 (iter (fun x2 => qaY n fills x2) 0).bind fun s4 =>
 s4.elim (fun s5 =>
 some 0)
 (fun s6 =>
 some s6))
 (fun s3 =>
 some s3)))
def qeZ : Fun :=
 ⟨38, 2, 1,
 ⟨[(0, dd (.pair (.sl (.str)) (.pair (.sl (.pair (.str) (.pair I6 (.pair I6 (.pair I6 (.pair I6 (.pair I6 (.sl (.pair I6 tT0))))))))) (.pair (.sl (.pair (.str) tT0)) (.pair (.sl (.pair (.str) (.pair I6 (.pair I6 tT0)))) tT0))))), (1, dd (.sl (.sl tT0)))], [], []⟩,
 ⟨[(0, ii)], [], []⟩,
 fun x => qdO x.1 x.2⟩
theorem qh2 : FO qeZ := fi [] [qdn, qeY, qeu] 49 [] ((nn (nn (nn (mm (nn (mm (.mk [] (some (⟨[(1, kk), (2, pt 48 0), (20, kk), (21, ii)], [(48, 32, (kp 6))], []⟩, [⟨.x 0, ⟨[(1, kk), (2, pt 48 0)], [(48, 32, (kp 6))], []⟩⟩, ⟨.r, ⟨[(4, ii)], [], []⟩⟩])) .nil .nil) .nil)) (mm (nn (mm (.mk [] (some (⟨[(1, kk), (2, pt 48 0), (32, kk), (33, ii)], [(48, 32, (kp 6))], []⟩, [⟨.x 2, ⟨[], [], []⟩⟩, ⟨.r, ⟨[(4, ii)], [], []⟩⟩])) .nil .nil) .nil)) .nil)))))) func38 ⟨⟨qeX, qh1, qgp, trivial⟩, trivial⟩
def qcP (s : List UInt8 × Int × Int × Int × Int × Int × List (Int × Int × Int)) (rate : Int) : Option (Int × Int) :=
 bif decide (rate < 0) then (
 some (s.2.2.1, s.2.1))
 else (
 some (s.2.1, s.2.2.1))
def qcE : Fun :=
 ⟨25, 2, 2,
 ⟨[(0, dd (.pair (.str) (.pair I6 (.pair I6 (.pair I6 (.pair I6 (.pair I6 (.sl (.pair I6 tT0))))))))), (1, ii)], [], []⟩,
 ⟨[(0, ii), (1, ii)], [], []⟩,
 fun x => qcP x.1 x.2⟩
theorem qdP : FO qcE := fi [] [] 16 [] .nil func25 ⟨trivial, trivial⟩
def qc4 (n : Int) : Option (Int) :=
 some (max n (wi64 (0 - n)))
def qev : Fun :=
 ⟨26, 1, 1,
 ⟨[(0, ii)], [], []⟩,
 ⟨[(0, ii)], [], []⟩,
 fun x => qc4 x⟩
theorem qgq : FO qev := fi [] [] 7 [] .nil func26 ⟨trivial, trivial⟩
def qaP (n : yB0) (p : yB1) (node : Int) (vin : Int) (out : Int) (v : Int) : Option ((Int × Int × Int) ⊕ (Int × Int)) :=
 bif decide (v < (n.2.1.length : Int)) then (
 Option.bind (α := Int × Int) (
 gd (inB v n.2.1.length) <|
 gd (inB v p.1.length) <|
 bif decide (p.1.getD v.toNat 0 = 0) then (
 some (vin, out))
 else (
 gd (inB v p.1.length) <|
 (qcP ((n.2.1.getD v.toNat ([], (0, (0, (0, (0, (0, []))))))).1, (((n.2.1.getD v.toNat ([], (0, (0, (0, (0, (0, []))))))).2).1, ((((n.2.1.getD v.toNat ([], (0, (0, (0, (0, (0, []))))))).2).2).1, (((((n.2.1.getD v.toNat ([], (0, (0, (0, (0, (0, []))))))).2).2).2).1, ((((((n.2.1.getD v.toNat ([], (0, (0, (0, (0, (0, []))))))).2).2).2).2).1, (((((((n.2.1.getD v.toNat ([], (0, (0, (0, (0, (0, []))))))).2).2).2).2).2).1, ((((((n.2.1.getD v.toNat ([], (0, (0, (0, (0, (0, []))))))).2).2).2).2).2).2)))))) (p.1.getD v.toNat 0)).bind fun r =>
 Option.bind (α := Int) (
 bif decide (r.1 = node) then (
 gd (inB v p.1.length) <|
 (qc4 (p.1.getD v.toNat 0)).bind fun r2 =>
 some (wi64 (out + r2)))
 else (
 some out)) fun s =>
 Option.bind (α := Int) (
 bif decide (r.2 = node) then (
 gd (inB v p.1.length) <|
 (qc4 (p.1.getD v.toNat 0)).bind fun r3 =>
 some (wi64 (vin + r3)))
 else (
 some vin)) fun s2 =>
 some (s2, s))) fun s3 =>
 some (.inl (s3.1, s3.2, wi64 (v + 1))))
 else (
 some (.inr (vin, out)))
def qaQ (n : yB0) (p : yB1) (node : Int) (vin2 : Int) (out2 : Int) (v2 : Int) : Option ((Int × Int × Int) ⊕ (Int × Int)) :=
 bif decide (v2 < (n.2.2.1.length : Int)) then (
 gd (inB v2 n.2.2.1.length) <|
 Option.bind (α := Int × Int) (
 bif decide (((n.2.2.1.getD v2.toNat ([], (0, 0))).2).1 = node) then (
 gd (inB v2 p.2.1.length) <|
 gd (inB v2 p.2.1.length) <|
 some (wi64 (vin2 + (max 0 (p.2.1.getD v2.toNat 0))), wi64 (out2 + (max 0 (wi64 (0 - (p.2.1.getD v2.toNat 0)))))))
 else (
 some (vin2, out2))) fun s5 =>
 some (.inl (s5.1, s5.2, wi64 (v2 + 1))))
 else (
 some (.inr (vin2, out2)))
def qeI (n : yB0) (p : yB1) (node : Int) : Option (Int × Int) :=
 (iter (fun x => qaP n p node x.1 x.2.1 x.2.2) (0, 0, 0)).bind fun s4 =>
 (iter (fun x2 => qaQ n p node x2.1 x2.2.1 x2.2.2) (s4.1, s4.2, 0)).bind fun s6 =>
 some (s6.1, s6.2)
def qfN : Fun :=
 ⟨50, 3, 2,
 ⟨[(0, dd (.pair (.sl (.str)) (.pair (.sl (.pair (.str) (.pair I6 (.pair I6 (.pair I6 (.pair I6 (.pair I6 (.sl (.pair I6 tT0))))))))) (.pair (.sl (.pair (.str) tT0)) (.pair (.sl (.pair (.str) (.pair I6 (.pair I6 tT0)))) tT0))))), (1, dd (.pair (.sl I6) (.pair (.sl I6) (.sl (.bool))))), (2, ii)], [], []⟩,
 ⟨[(0, ii), (1, ii)], [], []⟩,
 fun x => qeI x.1 x.2.1 x.2.2⟩
theorem qi5 : FO qfN := fi [] [qcE, qev] 95 [] ((nn (nn (mm (nn (mm (.mk [] (some (⟨[(2, kk), (3, pt 64 0), (4, pt 80 0), (8, ii), (9, ii), (17, kk), (18, kk), (19, ii)], v27_, []⟩, [⟨.x 0, ⟨[(2, kk), (3, pt 64 0), (4, pt 80 0), (8, ii), (9, ii)], v27_, []⟩⟩])) (nn (nn (mm (.mk [.join [⟨.n, ⟨[(2, kk), (3, pt 64 0), (4, pt 80 0), (8, ii), (9, ii), (17, kk), (18, kk), (19, kk)], v27_, []⟩⟩]] none (nn (nn (nn (mm (nn (.mk [.join [⟨.n, ⟨[(2, kk), (3, pt 64 0), (4, pt 80 0), (8, kk), (9, ii), (10, kk), (13, kk), (17, kk), (18, kk), (19, kk)], v27_, []⟩⟩]] none .nil .nil)) (nn (.mk [.join [⟨.n, ⟨[(2, kk), (3, pt 64 0), (4, pt 80 0), (8, ii), (9, kk), (17, kk), (18, kk), (19, kk)], v27_, []⟩⟩]] none .nil .nil)))))) .nil) .nil))) .nil) .nil)) (mm (nn (mm (.mk [] (some (⟨[(2, kk), (4, pt 80 0), (8, ii), (9, ii), (64, kk), (65, kk), (66, ii)], [(80, 36, [.keep, .keep, .keep])], []⟩, [⟨.x 2, ⟨[(8, ii), (9, ii)], [], []⟩⟩])) (nn (nn (mm (mm (nn (nn (.mk [.join [⟨.n, ⟨[(2, kk), (4, pt 80 0), (8, ii), (9, ii), (64, kk), (65, kk), (66, kk)], [(80, 36, [.keep, .keep, .keep])], []⟩⟩]] none .nil .nil))) .nil) .nil))) .nil) .nil)) .nil))))) func50 ⟨⟨qdP, qgq, trivial⟩, trivial⟩
def qaF (n : yB0) (p : yB1) (v : Int) (free : Bool) (v2 : Int) (out3 : List Int) (there3 : List Bool) : Option ((Bool × Int × List Int × List Bool) ⊕ (Bool × List Int × List Bool)) :=
 bif decide (v2 < (n.2.1.length : Int)) then (
 gd (inB v2 n.2.1.length) <|
 gd (inB v2 p.1.length) <|
 Option.bind (α := Bool × List Int × List Bool) (
 bif !decide (p.1.getD v2.toNat 0 = 0) then (
 gd (inB v2 p.1.length) <|
 (qcP ((n.2.1.getD v2.toNat ([], (0, (0, (0, (0, (0, []))))))).1, (((n.2.1.getD v2.toNat ([], (0, (0, (0, (0, (0, []))))))).2).1, ((((n.2.1.getD v2.toNat ([], (0, (0, (0, (0, (0, []))))))).2).2).1, (((((n.2.1.getD v2.toNat ([], (0, (0, (0, (0, (0, []))))))).2).2).2).1, ((((((n.2.1.getD v2.toNat ([], (0, (0, (0, (0, (0, []))))))).2).2).2).2).1, (((((((n.2.1.getD v2.toNat ([], (0, (0, (0, (0, (0, []))))))).2).2).2).2).2).1, ((((((n.2.1.getD v2.toNat ([], (0, (0, (0, (0, (0, []))))))).2).2).2).2).2).2)))))) (p.1.getD v2.toNat 0)).bind fun r =>
 Option.bind (α := Bool × List Int × List Bool) (
 bif free then (
 bif !decide (r.2 = v) then (
 some (true, out3, there3))
 else (
 gd (inB r.1 there3.length) <|
 some (there3.getD r.1.toNat false, out3, there3)))
 else (
 some (false, out3, there3))) fun s =>
 some (s.1, s.2.1, s.2.2))
 else (
 some (free, out3, there3))) fun s2 =>
 some (.inl (s2.1, wi64 (v2 + 1), s2.2.1, s2.2.2)))
 else (
 some (.inr (free, out3, there3)))
def qaG (n : yB0) (p : yB1) (next : Int) (v : Int) (out2 : List Int) (there2 : List Bool) : Option ((Int × Int × List Int × List Bool) ⊕ (Int × List Int × List Bool)) :=
 bif decide (v < (n.1.length : Int)) then (
 gd (inB v there2.length) <|
 (iter (fun x => qaF n p v x.1 x.2.1 x.2.2.1 x.2.2.2) ((!(there2.getD v.toNat false)), 0, out2, there2)).bind fun s3 =>
 Option.bind (α := Bool × List Int × List Bool) (
 bif s3.1 then (
 some (decide (next < 0), s3.2.1, s3.2.2))
 else (
 some (false, s3.2.1, s3.2.2))) fun s4 =>
 Option.bind (α := Int × List Int × List Bool) (
 bif s4.1 then (
 some (v, s4.2.1, s4.2.2))
 else (
 some (next, s4.2.1, s4.2.2))) fun s5 =>
 some (.inl (s5.1, wi64 (v + 1), s5.2.1, s5.2.2)))
 else (
 some (.inr (next, out2, there2)))
def qax (n : yB0) (p : yB1) (out : List Int) (there : List Bool) : Option ((List Int × List Bool) ⊕ (List Int)) :=
 (iter (fun x2 => qaG n p x2.1 x2.2.1 x2.2.2.1 x2.2.2.2) ((-1), 0, out, there)).bind fun s6 =>
 bif decide (s6.1 < 0) then (
 some (.inr s6.2.1))
 else (
 gd (fits (s6.2.1.length + 1) 8) <|
 gd (inB s6.1 s6.2.2.length) <|
 some (.inl (s6.2.1 ++ [s6.1], s6.2.2.set s6.1.toNat true)))
def qc5 (n : yB0) (p : yB1) : Option (List Int) :=
 gd (makeG 1 (n.1.length : Int)) <|
 (iter (fun x3 => qax n p x3.1 x3.2) ([], List.replicate (n.1.length : Int).toNat (false : Bool))).bind fun s7 =>
 some s7
def qdo : Fun :=
 ⟨40, 2, 1,
 ⟨r8_, [], []⟩,
 ⟨[(0, ow 0)], [], [(0, .arr 3 I6)]⟩,
 fun x => qc5 x.1 x.2⟩
theorem qe0 : FO qdo := fi [] [qcE] 83 [] ((nn (nn (nn (mm (.mk [] (some (⟨[(2, pt 48 0), (3, pt 64 0), (5, ow 107), (6, ow 288)], v5_, a22_⟩, [⟨.r, ⟨[(4, ow 91)], [], [(91, .arr 3 I6)]⟩⟩])) (mm (nn (mm (nn (mm (.mk [] (some (⟨[(2, pt 48 0), (3, pt 64 0), (5, ow 107), (6, ow 288), (7, ii), (20, kk), (21, ii)], v5_, a22_⟩, [⟨.x 2, ⟨[(2, pt 48 0), (3, pt 64 0), (5, ow 107), (6, ow 288), (7, ii)], v5_, a22_⟩⟩])) (nn (nn (mm (mm (nn (nn (mm (nn (mm (.mk [] (some (⟨[(2, pt 48 0), (3, pt 64 0), (5, ow 107), (6, ow 288), (7, kk), (8, kk), (9, bb), (20, kk), (21, kk), (30, kk), (31, kk), (32, ii)], v5_, a22_⟩, [⟨.x 4, ⟨[(2, pt 48 0), (3, pt 64 0), (5, ow 107), (6, ow 288), (7, kk), (8, kk), (9, bb), (20, kk), (21, kk)], v5_, a22_⟩⟩])) (nn (nn (mm (mm (nn (nn (.mk [.join [⟨.n, ⟨r26_, v5_, a22_⟩⟩]] none (nn (.mk [.join [⟨.n, ⟨r26_, v5_, a22_⟩⟩]] none .nil .nil)) .nil))) .nil) .nil))) .nil) .nil)) (mm (.mk [.join [⟨.n, ⟨[(2, pt 48 0), (3, pt 64 0), (5, ow 107), (6, ow 288), (7, kk), (8, kk), (20, kk), (21, kk), (70, bb)], v5_, a22_⟩⟩]] none .nil .nil) (.mk [.join [⟨.n, ⟨[(2, pt 48 0), (3, pt 64 0), (5, ow 107), (6, ow 288), (7, ii), (20, kk), (21, kk)], v5_, a22_⟩⟩]] none .nil .nil))))) .nil) .nil))) .nil) .nil)) .nil)) .nil) .nil) .nil))))) func40 ⟨⟨qdP, trivial⟩, trivial⟩
def qcb (n : yB0) (p : yB1) (v : Int) : Option (Int ⊕ (Unit ⊕ Int)) :=
 bif decide (v < (p.1.length : Int)) then (
 gd (inB v p.1.length) <|
 gd (inB v n.2.1.length) <|
 Option.bind (α := Bool) (
 bif decide (p.1.getD v.toNat 0 < wi64 (0 - (min 1000 (((((n.2.1.getD v.toNat ([], (0, (0, (0, (0, (0, []))))))).2).2).2).1)))) then (
 some true)
 else (
 some (decide (min 1000 (((((n.2.1.getD v.toNat ([], (0, (0, (0, (0, (0, []))))))).2).2).2).1) < p.1.getD v.toNat 0)))) fun s2 =>
 bif s2 then (
 some (.inr (.inr 1)))
 else (
 some (.inl (wi64 (v + 1)))))
 else (
 some (.inr (.inl ())))
def qcc (p : yB1) (v2 : Int) : Option (Int ⊕ (Unit ⊕ Int)) :=
 bif decide (v2 < (p.2.1.length : Int)) then (
 gd (inB v2 p.2.1.length) <|
 Option.bind (α := Bool) (
 bif decide (p.2.1.getD v2.toNat 0 < (-1000)) then (
 some true)
 else (
 some (decide (1000 < p.2.1.getD v2.toNat 0)))) fun s6 =>
 bif s6 then (
 some (.inr (.inr 1)))
 else (
 some (.inl (wi64 (v2 + 1)))))
 else (
 some (.inr (.inl ())))
def qcd (n : yB0) (p : yB1) (v3 : Int) : Option (Int ⊕ (Unit ⊕ Int)) :=
 bif decide (v3 < (n.1.length : Int)) then (
 (qeI (n.1, (n.2.1, (n.2.2.1, (n.2.2.2.1, (n.2.2.2.2.1, n.2.2.2.2.2))))) (p.1, (p.2.1, p.2.2)) v3).bind fun r2 =>
 bif !decide (r2.1 = r2.2) then (
 some (.inr (.inr 12)))
 else (
 some (.inl (wi64 (v3 + 1)))))
 else (
 some (.inr (.inl ())))
def qc6 (n : yB0) (p : yB1) : Option (Int) :=
 (qc2 (n.1, (n.2.1, (n.2.2.1, (n.2.2.2.1, (n.2.2.2.2.1, n.2.2.2.2.2)))))).bind fun r =>
 bif !decide (r = 0) then (
 some r)
 else (
 Option.bind (α := Bool) (
 bif !decide ((p.1.length : Int) = (n.2.1.length : Int)) then (
 some true)
 else (
 bif !decide ((p.2.1.length : Int) = (n.2.2.1.length : Int)) then (
 some true)
 else (
 some (!decide ((p.2.2.length : Int) = (n.2.2.2.1.length : Int)))))) fun s =>
 bif s then (
 some 9)
 else (
 (iter (fun x => qcb n p x) 0).bind fun s3 =>
 s3.elim (fun s4 =>
 (iter (fun x2 => qcc p x2) 0).bind fun s7 =>
 s7.elim (fun s8 =>
 (iter (fun x3 => qcd n p x3) 0).bind fun s10 =>
 s10.elim (fun s11 =>
 (qc5 (n.1, (n.2.1, (n.2.2.1, (n.2.2.2.1, (n.2.2.2.2.1, n.2.2.2.2.2))))) (p.1, (p.2.1, p.2.2))).bind fun r3 =>
 bif !decide ((r3.length : Int) = (n.1.length : Int)) then (
 some 13)
 else (
 some 0))
 (fun s12 =>
 some s12))
 (fun s9 =>
 some s9))
 (fun s5 =>
 some s5)))
def qdp : Fun :=
 ⟨39, 2, 1,
 ⟨r8_, [], []⟩,
 ⟨[(0, ii)], [], []⟩,
 fun x => qc6 x.1 x.2⟩
theorem qe1 : FO qdp := fi [] [qdn, qfN, qdo] 108 [] ((nn (nn (mm (mm (.mk [.join [⟨.n, ⟨[(2, pt 48 0), (3, pt 64 0), (43, bb)], v5_, []⟩⟩]] none .nil .nil) .nil) (mm (nn (mm (.mk [] (some (⟨[(2, pt 48 0), (3, pt 64 0), (45, kk), (46, kk), (47, ii)], v5_, []⟩, [⟨.x 0, ⟨r39_, v5_, []⟩⟩, ⟨.r, ⟨[(4, ii)], [], []⟩⟩])) (nn (nn (mm (mm (nn (nn (mm (.mk [.join [⟨.n, ⟨[(2, pt 48 0), (3, pt 64 0), (45, kk), (46, kk), (47, kk), (67, bb)], v5_, []⟩⟩]] none .nil .nil) .nil))) .nil) .nil))) .nil) .nil)) (mm (nn (mm (.mk [] (some (⟨[(2, pt 48 0), (3, pt 64 0), (70, kk), (71, kk), (72, ii)], v5_, []⟩, [⟨.x 2, ⟨r39_, v5_, []⟩⟩, ⟨.r, ⟨[(4, ii)], [], []⟩⟩])) (nn (nn (mm (mm (nn (mm (.mk [.join [⟨.n, ⟨[(2, pt 48 0), (3, pt 64 0), (70, kk), (71, kk), (72, kk), (81, bb)], v5_, []⟩⟩]] none .nil .nil) .nil)) .nil) .nil))) .nil) .nil)) (mm (nn (mm (.mk [] (some (⟨[(2, pt 48 0), (3, pt 64 0), (85, kk), (86, ii)], v5_, []⟩, [⟨.x 4, ⟨r39_, v5_, []⟩⟩, ⟨.r, ⟨[(4, ii)], [], []⟩⟩])) .nil .nil) .nil)) .nil))))))) func39 ⟨⟨qeX, qi5, qe0, trivial⟩, trivial⟩
def qaZ (feeds : List Int) (v : Int) : Option (Int ⊕ (Unit ⊕ Int)) :=
 bif decide (v < (feeds.length : Int)) then (
 gd (inB v feeds.length) <|
 (qaM (feeds.getD v.toNat 0)).bind fun r3 =>
 bif !r3 then (
 some (.inr (.inr 9)))
 else (
 some (.inl (wi64 (v + 1)))))
 else (
 some (.inr (.inl ())))
def qdQ (n : yB0) (fills : List (List (Int × Int))) (p : yB1) (feeds : List Int) : Option (Int) :=
 (qdO (n.1, (n.2.1, (n.2.2.1, (n.2.2.2.1, (n.2.2.2.2.1, n.2.2.2.2.2))))) fills).bind fun r =>
 bif !decide (r = 0) then (
 some r)
 else (
 (qc6 (n.1, (n.2.1, (n.2.2.1, (n.2.2.2.1, (n.2.2.2.2.1, n.2.2.2.2.2))))) (p.1, (p.2.1, p.2.2))).bind fun r2 =>
 bif !decide (r2 = 0) then (
 some r2)
 else (
 bif !decide ((feeds.length : Int) = (n.2.2.1.length : Int)) then (
 some 9)
 else (
 (iter (fun x => qaZ feeds x) 0).bind fun s =>
 s.elim (fun s2 =>
 some 0)
 (fun s3 =>
 some s3))))
def qe2 : Fun :=
 ⟨23, 4, 1,
 ⟨r10_, [], []⟩,
 ⟨[(0, ii)], [], []⟩,
 fun x => qdQ x.1 x.2.1 x.2.2.1 x.2.2.2⟩
theorem qh3 : FO qe2 := fi [] [qeZ, qdp, qbM] 42 [] ((nn (nn (nn (nn (mm (nn (mm (.mk [] (some (⟨[(3, kk), (31, kk), (32, ii)], [], []⟩, [⟨.x 0, ⟨[], [], []⟩⟩, ⟨.r, ⟨[(8, ii)], [], []⟩⟩])) .nil .nil) .nil)) .nil)))))) func23 ⟨⟨qh2, qe1, qc3, trivial⟩, trivial⟩
def qdR (n : yB0) (p : yB1) : Option (Int × List Int) :=
 (qc6 (n.1, (n.2.1, (n.2.2.1, (n.2.2.2.1, (n.2.2.2.2.1, n.2.2.2.2.2))))) (p.1, (p.2.1, p.2.2))).bind fun r =>
 bif !decide (r = 0) then (
 some (r, []))
 else (
 (qc5 (n.1, (n.2.1, (n.2.2.1, (n.2.2.2.1, (n.2.2.2.2.1, n.2.2.2.2.2))))) (p.1, (p.2.1, p.2.2))).bind fun r2 =>
 some (0, r2))
def qe3 : Fun :=
 ⟨24, 2, 2,
 ⟨r8_, [], []⟩,
 ⟨[(0, ow 0), (1, ii)], [], [(0, .arr 3 I6)]⟩,
 fun x => qdR x.1 x.2⟩
theorem qh4 : FO qe3 := fi [] [qdp, qdo] 16 [] .nil func24 ⟨⟨qe1, qe0, trivial⟩, trivial⟩
def qa7 (f : List (Int × Int)) (v : Int) (out : List (Int × Int)) : Option ((Int × List (Int × Int)) ⊕ (List (Int × Int))) :=
 bif decide (v < (f.length : Int)) then (
 gd (inB v f.length) <|
 Option.bind (α := List (Int × Int)) (
 bif decide ((f.getD v.toNat (0, 0)).2 = 0) then (
 some out)
 else (
 Option.bind (α := Bool × List (Int × Int)) (
 bif decide (0 < (out.length : Int)) then (
 gd (inB (wi64 ((out.length : Int) - 1)) out.length) <|
 some (decide ((out.getD ((wi64 ((out.length : Int) - 1)).toNat) (0, 0)).1 = (f.getD v.toNat (0, 0)).1), out))
 else (
 some (false, out))) fun s =>
 Option.bind (α := List (Int × Int)) (
 bif s.1 then (
 gd (inB (wi64 ((s.2.length : Int) - 1)) s.2.length) <|
 gd (inB (wi64 ((s.2.length : Int) - 1)) s.2.length) <|
 some (s.2.set ((wi64 ((s.2.length : Int) - 1)).toNat) ((s.2.getD ((wi64 ((s.2.length : Int) - 1)).toNat) (0, 0)).1, wi64 (((s.2.getD ((wi64 ((s.2.length : Int) - 1)).toNat) (0, 0)).2) + ((f.getD v.toNat (0, 0)).2)))))
 else (
 gd (fits (s.2.length + 1) 16) <|
 some (s.2 ++ [((f.getD v.toNat (0, 0)).1, (f.getD v.toNat (0, 0)).2)]))) fun s2 =>
 some s2)) fun s3 =>
 some (.inl (wi64 (v + 1), s3)))
 else (
 some (.inr out))
def qaN (f : List (Int × Int)) : Option (List (Int × Int)) :=
 (iter (fun x => qa7 f x.1 x.2) (0, [])).bind fun s4 =>
 some s4
def qa8 : Fun :=
 ⟨27, 1, 1,
 ⟨r30_, [], []⟩,
 ⟨[(0, ow 0)], [], [(0, .arr 46 tT0)]⟩,
 fun x => qaN x⟩
theorem qbN : FO qa8 := fi [] [] 50 [] ((nn (nn (mm (nn (mm (.mk [] (some (⟨[(3, ow 75), (6, kk), (7, kk), (8, ii)], [], a28_⟩, [⟨.x 0, ⟨[(3, ow 75)], [], a28_⟩⟩])) (nn (nn (mm (mm (nn (mm (nn (.mk [.join [⟨.n, ⟨[(3, ow 75), (6, kk), (7, kk), (8, kk)], [], a28_⟩⟩]] none .nil (mm (.mk [.join [⟨.n, ⟨[(3, ow 75), (5, pt 96 0), (6, kk), (7, kk), (8, kk), (20, bb)], [(96, 46, [.keep, .keep])], a28_⟩⟩]] none .nil .nil) (.mk [.join [⟨.n, ⟨[(3, ow 75), (6, kk), (7, kk), (8, kk)], [], a28_⟩⟩]] none .nil .nil)))) .nil)) .nil) .nil))) .nil) .nil)) .nil)))) func27 ⟨trivial, trivial⟩
def qdS (rates : List Int) (got : List Int) (best : Int) (v : Int) : Option ((Int × Int) ⊕ Int) :=
 bif decide (v < (rates.length : Int)) then (
 Option.bind (α := Bool) (
 gd (inB v rates.length) <|
 bif decide (0 < rates.getD v.toNat 0) then (
 bif decide (best < 0) then (
 some true)
 else (
 gd (inB v got.length) <|
 gd (inB best rates.length) <|
 gd (inB best got.length) <|
 gd (inB v rates.length) <|
 some (decide (wi64 ((wi64 ((got.getD v.toNat 0) + 1)) * (rates.getD best.toNat 0)) < wi64 ((wi64 ((got.getD best.toNat 0) + 1)) * (rates.getD v.toNat 0))))))
 else (
 some false)) fun s =>
 Option.bind (α := Int) (
 bif s then (
 some v)
 else (
 some best)) fun s2 =>
 some (.inl (s2, wi64 (v + 1))))
 else (
 some (.inr best))
def qeJ (rates : List Int) (got : List Int) : Option (Int) :=
 (iter (fun x => qdS rates got x.1 x.2) ((-1), 0)).bind fun s3 =>
 some s3
def qfO : Fun :=
 ⟨41, 2, 1,
 ⟨[(0, dd (.sl I6)), (1, dd (.sl I6))], [], []⟩,
 ⟨[(0, ii)], [], []⟩,
 fun x => qeJ x.1 x.2⟩
theorem qi6 : FO qfO := fi [] [] 47 [] ((nn (nn (mm (nn (mm (.mk [] (some (⟨[(0, kk), (1, kk), (5, ii), (8, kk), (9, ii)], [], []⟩, [⟨.x 0, ⟨[(5, ii)], [], []⟩⟩])) (nn (nn (mm (mm (nn (mm (.mk [.join [⟨.n, ⟨[(0, kk), (1, kk), (5, kk), (6, kk), (8, kk), (9, kk), (43, bb)], [], []⟩⟩]] none .nil .nil) (.mk [.join [⟨.n, ⟨[(0, kk), (1, kk), (5, ii), (8, kk), (9, kk)], [], []⟩⟩]] none .nil .nil))) .nil) .nil))) .nil) .nil)) .nil)))) func41 ⟨trivial, trivial⟩
def qcF (vin : List (Int × Int)) (rates : List Int) (v : Int) (k : Int) (out2 : List (List (Int × Int))) (got2 : List Int) (was : List Int) : Option ((Int × (List (List (Int × Int))) × List Int × List Int) ⊕ ((List (List (Int × Int))) × List Int × List Int)) :=
 bif decide (k < (vin.getD v.toNat (0, 0)).2) then (
 (qeJ rates got2).bind fun r =>
 gd (inB r got2.length) <|
 gd (inB r got2.length) <|
 some (.inl (wi64 (k + 1), out2, got2.set r.toNat (wi64 ((got2.getD r.toNat 0) + 1)), was)))
 else (
 some (.inr (out2, got2, was)))
def qcG (vin : List (Int × Int)) (rates : List Int) (v : Int) (v2 : Int) (out3 : List (List (Int × Int))) (got3 : List Int) (was2 : List Int) : Option ((Int × (List (List (Int × Int))) × List Int × List Int) ⊕ ((List (List (Int × Int))) × List Int)) :=
 bif decide (v2 < (rates.length : Int)) then (
 gd (inB v2 out3.length) <|
 gd (inB v2 got3.length) <|
 gd (inB v2 was2.length) <|
 gd (fits ((out3.getD v2.toNat []).length + 1) 16) <|
 gd (inB v2 out3.length) <|
 gd (Nat.beq v2.toNat v2.toNat) <|
 some (.inl (wi64 (v2 + 1), out3.set v2.toNat ((out3.getD v2.toNat []) ++ [((vin.getD v.toNat (0, 0)).1, wi64 ((got3.getD v2.toNat 0) - (was2.getD v2.toNat 0)))]), got3, was2)))
 else (
 some (.inr (out3, got3)))
def qdT (vin : List (Int × Int)) (rates : List Int) (v : Int) (out : List (List (Int × Int))) (got : List Int) : Option ((Int × (List (List (Int × Int))) × List Int) ⊕ (List (List (Int × Int)))) :=
 bif decide (v < (vin.length : Int)) then (
 gd (inB v vin.length) <|
 gd (fits (0 + got.length) 8) <|
 (iter (fun x => qcF vin rates v x.1 x.2.1 x.2.2.1 x.2.2.2) (0, out, got, ([] ++ got))).bind fun s =>
 (iter (fun x2 => qcG vin rates v x2.1 x2.2.1 x2.2.2.1 x2.2.2.2) (0, s.1, s.2.1, s.2.2)).bind fun s2 =>
 some (.inl (wi64 (v + 1), s2.1, s2.2)))
 else (
 some (.inr out))
def qcH (s3 : List (List (Int × Int))) (v3 : Int) (out4 : List (List (Int × Int))) : Option ((Int × List (List (Int × Int))) ⊕ (List (List (Int × Int)))) :=
 bif decide (v3 < (s3.length : Int)) then (
 gd (inB v3 out4.length) <|
 (qaN (out4.getD v3.toNat [])).bind fun r2 =>
 gd (inB v3 out4.length) <|
 gd (Nat.beq v3.toNat v3.toNat) <|
 some (.inl (wi64 (v3 + 1), out4.set v3.toNat r2)))
 else (
 some (.inr out4))
def qeK (vin : List (Int × Int)) (rates : List Int) : Option (List (List (Int × Int))) :=
 gd (makeG 24 (rates.length : Int)) <|
 gd (makeG 8 (rates.length : Int)) <|
 (iter (fun x3 => qdT vin rates x3.1 x3.2.1 x3.2.2) (0, List.replicate (rates.length : Int).toNat ([] : List (Int × Int)), List.replicate (rates.length : Int).toNat (0 : Int))).bind fun s3 =>
 (iter (fun x4 => qcH s3 x4.1 x4.2) (0, s3)).bind fun s4 =>
 some s4
def qfP : Fun :=
 ⟨28, 2, 1,
 ⟨[(0, dd (.sl tT0)), (1, dd (.sl I6))], [], []⟩,
 ⟨[(0, ow 0)], [], [(0, .arr 44 (.sl tT0))]⟩,
 fun x => qeK x.1 x.2⟩
theorem qi7 : FO qfP := fi [25, 6000015, 51792495232388495] [qfO, qa8] 85 [] ((nn (nn (nn (mm (nn (mm (.mk [] (some (⟨[(1, kk), (5, ow 256), (6, ow 304), (19, kk), (20, kk), (21, ii)], [], [(256, .nest 44 (.sl tT0) 0 46), (304, .arr 3 I6)]⟩, [⟨.x 0, ⟨[(5, ow 256)], [], a52_⟩⟩])) (nn (nn (mm (mm (nn (nn (mm (nn (mm (.mk [] (some (⟨[(1, kk), (5, ow 256), (6, ow 304), (8, pt 144 0), (9, ow 448), (10, ii), (19, kk), (20, kk), (21, kk)], [(144, 46, [.keep, .keep])], a32_⟩, [⟨.x 2, ⟨[(1, kk), (5, ow 256), (6, ow 304), (8, pt 144 0), (9, ow 448), (19, kk), (20, kk), (21, kk)], [(144, 46, [.keep, .keep])], a32_⟩⟩])) .nil .nil) .nil)) (nn (mm (.mk [] (some (⟨[(1, kk), (5, ow 256), (6, ow 304), (8, pt 144 0), (9, ow 448), (19, kk), (20, kk), (21, kk), (43, kk), (44, ii)], [(144, 46, [.keep, .keep])], a32_⟩, [⟨.x 4, ⟨[(1, kk), (5, ow 256), (6, ow 304), (19, kk), (20, kk), (21, kk)], [], [(256, .nest 44 (.sl tT0) 0 46), (304, .arr 3 I6)]⟩⟩])) .nil .nil) .nil))))) .nil) .nil))) .nil) .nil)) (mm (nn (mm (.mk [] (some (⟨[(5, ow 256), (71, kk), (72, ii)], [], a52_⟩, [⟨.x 6, ⟨[(5, ow 256)], [], a52_⟩⟩])) .nil .nil) .nil)) .nil)))))) func28 ⟨⟨qi6, qbN, trivial⟩, trivial⟩
def qc7 (f : List (Int × Int)) (i : Int) (out : List (Int × Int)) : Option ((Int × List (Int × Int)) ⊕ (List (Int × Int))) :=
 bif decide (0 ≤ i) then (
 gd (inB i f.length) <|
 gd (fits (out.length + 1) 16) <|
 some (.inl (wi64 (i - 1), out ++ [((f.getD i.toNat (0, 0)).1, (f.getD i.toNat (0, 0)).2)])))
 else (
 some (.inr out))
def qcl (f : List (Int × Int)) : Option (List (Int × Int)) :=
 (iter (fun x => qc7 f x.1 x.2) (wi64 ((f.length : Int) - 1), [])).bind fun s =>
 some s
def qew : Fun :=
 ⟨29, 1, 1,
 ⟨r30_, [], []⟩,
 ⟨[(0, ow 0)], [], [(0, .arr 46 tT0)]⟩,
 fun x => qcl x⟩
theorem qhF : FO qew := fi [] [] 20 [] ((nn (nn (mm (nn (mm (.mk [] (some (⟨[(0, kk), (3, ow 75), (4, ii)], [], a28_⟩, [⟨.x 0, ⟨[(3, ow 75)], [], a28_⟩⟩])) .nil .nil) .nil)) .nil)))) func29 ⟨trivial, trivial⟩
def qce (f : List (Int × Int)) (litres2 : Int) (v : Int) (a : List (Int × Int)) (b : List (Int × Int)) : Option ((Int × Int × (List (Int × Int)) × List (Int × Int)) ⊕ ((List (Int × Int)) × List (Int × Int))) :=
 bif decide (v < (f.length : Int)) then (
 gd (inB v f.length) <|
 gd (fits (a.length + 1) 16) <|
 gd (fits (b.length + 1) 16) <|
 some (.inl (wi64 (litres2 - (min litres2 ((f.getD v.toNat (0, 0)).2))), wi64 (v + 1), a ++ [((f.getD v.toNat (0, 0)).1, min litres2 ((f.getD v.toNat (0, 0)).2))], b ++ [((f.getD v.toNat (0, 0)).1, wi64 (((f.getD v.toNat (0, 0)).2) - (min litres2 ((f.getD v.toNat (0, 0)).2))))])))
 else (
 some (.inr (a, b)))
def qbz (f : List (Int × Int)) (litres : Int) : Option ((List (Int × Int)) × List (Int × Int)) :=
 (iter (fun x => qce f x.1 x.2.1 x.2.2.1 x.2.2.2) (litres, 0, [], [])).bind fun s =>
 (qaN s.1).bind fun r =>
 (qaN s.2).bind fun r2 =>
 some (r, r2)
def qe4 : Fun :=
 ⟨42, 2, 2,
 ⟨[(0, dd (.sl tT0)), (1, ii)], [], []⟩,
 ⟨[(0, ow 0), (1, ow 1)], [], a50_⟩,
 fun x => qbz x.1 x.2⟩
theorem qh5 : FO qe4 := fi [] [qa8] 46 [] ((nn (nn (mm (nn (mm (.mk [] (some (⟨[(1, ii), (6, ow 123), (7, ow 139), (11, kk), (12, kk), (13, ii)], [], [(123, .arr 46 tT0), (139, .arr 46 tT0)]⟩, [⟨.x 0, ⟨[(6, ow 123), (7, ow 139)], [], [(123, .arr 46 tT0), (139, .arr 46 tT0)]⟩⟩])) .nil .nil) .nil)) .nil)))) func42 ⟨⟨qbN, trivial⟩, trivial⟩
def qaH (f : List (Int × Int)) (vin : List (Int × Int)) (back : Bool) : Option ((List (Int × Int)) × List (Int × Int)) :=
 bif back then (
 gd (fits (0 + f.length) 16) <|
 gd (fits (([] ++ f).length + vin.length) 16) <|
 (qdC vin).bind fun r =>
 (qbz (([] ++ f) ++ vin) r).bind fun r2 =>
 some (r2.2, r2.1))
 else (
 gd (fits (0 + vin.length) 16) <|
 gd (fits (([] ++ vin).length + f.length) 16) <|
 (qdC f).bind fun r3 =>
 (qbz (([] ++ vin) ++ f) r3).bind fun r4 =>
 some (r4.1, r4.2))
def qe5 : Fun :=
 ⟨30, 3, 2,
 ⟨[(0, dd (.sl tT0)), (1, dd (.sl tT0)), (2, bb)], [], []⟩,
 ⟨[(0, dd (.sl tT0)), (1, dd (.sl tT0))], [], []⟩,
 fun x => qaH x.1 x.2.1 x.2.2⟩
theorem qh6 : FO qe5 := fi [12, 24] [qeu, qe4] 34 [] .nil func30 ⟨⟨qgp, qh5, trivial⟩, trivial⟩
def qbO (fills : List (List (Int × Int))) (v : Int) (next : List (List (Int × Int))) (ports : List (List (Int × Int))) (given : List (List (Int × Int))) : Option ((Int × (List (List (Int × Int))) × (List (List (Int × Int))) × List (List (Int × Int))) ⊕ ((List (List (Int × Int))) × (List (List (Int × Int))) × List (List (Int × Int)))) :=
 bif decide (v < (fills.length : Int)) then (
 gd (inB v fills.length) <|
 gd (fits (0 + (fills.getD v.toNat []).length) 16) <|
 gd (inB v next.length) <|
 some (.inl (wi64 (v + 1), next.set v.toNat ([] ++ (fills.getD v.toNat [])), ports, given)))
 else (
 some (.inr (next, ports, given)))
def qcI (n : yB0) (p : yB1) (feeds : List Int) (v2 : Int) (v3 : List Int) (v4 : Int) (next3 : List (List (Int × Int))) (ports3 : List (List (Int × Int))) (given3 : List (List (Int × Int))) (stream : List (Int × Int)) (rates : List Int) (toPort : List Int) (v5 : List Int) : Option ((Int × (List (List (Int × Int))) × (List (List (Int × Int))) × (List (List (Int × Int))) × (List (Int × Int)) × List Int × List Int × List Int) ⊕ yB3) :=
 bif decide (v4 < (n.2.2.1.length : Int)) then (
 gd (inB v4 n.2.2.1.length) <|
 Option.bind (α := Bool × (List (List (Int × Int))) × (List (List (Int × Int))) × (List (List (Int × Int))) × (List (Int × Int)) × List Int × List Int × List Int) (
 bif decide (((n.2.2.1.getD v4.toNat ([], (0, 0))).2).1 = v3.getD v2.toNat 0) then (
 gd (inB v4 p.2.1.length) <|
 some (decide (0 < p.2.1.getD v4.toNat 0), next3, ports3, given3, stream, rates, toPort, v5))
 else (
 some (false, next3, ports3, given3, stream, rates, toPort, v5))) fun s2 =>
 Option.bind (α := yB3) (
 bif s2.1 then (
 gd (inB v4 feeds.length) <|
 gd (inB v4 p.2.1.length) <|
 gd (fits (s2.2.2.2.2.1.length + 1) 16) <|
 some (s2.2.1, s2.2.2.1, s2.2.2.2.1, s2.2.2.2.2.1 ++ [(feeds.getD v4.toNat 0, p.2.1.getD v4.toNat 0)], s2.2.2.2.2.2.1, s2.2.2.2.2.2.2.1, s2.2.2.2.2.2.2.2))
 else (
 some (s2.2.1, s2.2.2.1, s2.2.2.2.1, s2.2.2.2.2.1, s2.2.2.2.2.2.1, s2.2.2.2.2.2.2.1, s2.2.2.2.2.2.2.2))) fun s3 =>
 Option.bind (α := Bool × (List (List (Int × Int))) × (List (List (Int × Int))) × (List (List (Int × Int))) × (List (Int × Int)) × List Int × List Int × List Int) (
 bif decide (((n.2.2.1.getD v4.toNat ([], (0, 0))).2).1 = v3.getD v2.toNat 0) then (
 gd (inB v4 p.2.1.length) <|
 some (decide (p.2.1.getD v4.toNat 0 < 0), s3.1, s3.2.1, s3.2.2.1, s3.2.2.2.1, s3.2.2.2.2.1, s3.2.2.2.2.2.1, s3.2.2.2.2.2.2))
 else (
 some (false, s3.1, s3.2.1, s3.2.2.1, s3.2.2.2.1, s3.2.2.2.2.1, s3.2.2.2.2.2.1, s3.2.2.2.2.2.2))) fun s4 =>
 Option.bind (α := yB3) (
 bif s4.1 then (
 gd (inB v4 p.2.1.length) <|
 gd (fits (s4.2.2.2.2.2.1.length + 1) 8) <|
 gd (fits (s4.2.2.2.2.2.2.1.length + 1) 8) <|
 some (s4.2.1, s4.2.2.1, s4.2.2.2.1, s4.2.2.2.2.1, s4.2.2.2.2.2.1 ++ [wi64 (0 - (p.2.1.getD v4.toNat 0))], s4.2.2.2.2.2.2.1 ++ [v4], s4.2.2.2.2.2.2.2))
 else (
 some (s4.2.1, s4.2.2.1, s4.2.2.2.1, s4.2.2.2.2.1, s4.2.2.2.2.2.1, s4.2.2.2.2.2.2.1, s4.2.2.2.2.2.2.2))) fun s5 =>
 some (.inl (wi64 (v4 + 1), s5.1, s5.2.1, s5.2.2.1, s5.2.2.2.1, s5.2.2.2.2.1, s5.2.2.2.2.2.1, s5.2.2.2.2.2.2)))
 else (
 some (.inr (next3, ports3, given3, stream, rates, toPort, v5)))
def qbP (n : yB0) (p : yB1) (v2 : Int) (v3 : List Int) (v6 : Int) (next4 : List (List (Int × Int))) (ports4 : List (List (Int × Int))) (given4 : List (List (Int × Int))) (stream2 : List (Int × Int)) (rates2 : List Int) (toPort2 : List Int) (toSegment : List Int) (v7 : List Int) : Option ((Int × (List (List (Int × Int))) × (List (List (Int × Int))) × (List (List (Int × Int))) × (List (Int × Int)) × List Int × List Int × List Int × List Int) ⊕ yB2) :=
 bif decide (v6 < (n.2.1.length : Int)) then (
 Option.bind (α := yB2) (
 gd (inB v6 n.2.1.length) <|
 gd (inB v6 p.1.length) <|
 bif decide (p.1.getD v6.toNat 0 = 0) then (
 some (next4, ports4, given4, stream2, rates2, toPort2, toSegment, v7))
 else (
 gd (inB v6 p.1.length) <|
 (qcP ((n.2.1.getD v6.toNat ([], (0, (0, (0, (0, (0, []))))))).1, (((n.2.1.getD v6.toNat ([], (0, (0, (0, (0, (0, []))))))).2).1, ((((n.2.1.getD v6.toNat ([], (0, (0, (0, (0, (0, []))))))).2).2).1, (((((n.2.1.getD v6.toNat ([], (0, (0, (0, (0, (0, []))))))).2).2).2).1, ((((((n.2.1.getD v6.toNat ([], (0, (0, (0, (0, (0, []))))))).2).2).2).2).1, (((((((n.2.1.getD v6.toNat ([], (0, (0, (0, (0, (0, []))))))).2).2).2).2).2).1, ((((((n.2.1.getD v6.toNat ([], (0, (0, (0, (0, (0, []))))))).2).2).2).2).2).2)))))) (p.1.getD v6.toNat 0)).bind fun r3 =>
 Option.bind (α := yB2) (
 bif decide (r3.2 = v3.getD v2.toNat 0) then (
 gd (inB v6 given4.length) <|
 gd (fits (stream2.length + (given4.getD v6.toNat []).length) 16) <|
 some (next4, ports4, given4, stream2 ++ (given4.getD v6.toNat []), rates2, toPort2, toSegment, v7))
 else (
 some (next4, ports4, given4, stream2, rates2, toPort2, toSegment, v7))) fun s7 =>
 Option.bind (α := yB2) (
 bif decide (r3.1 = v3.getD v2.toNat 0) then (
 gd (inB v6 p.1.length) <|
 (qc4 (p.1.getD v6.toNat 0)).bind fun r4 =>
 gd (fits (s7.2.2.2.2.1.length + 1) 8) <|
 gd (fits (s7.2.2.2.2.2.2.1.length + 1) 8) <|
 some (s7.1, s7.2.1, s7.2.2.1, s7.2.2.2.1, s7.2.2.2.2.1 ++ [r4], s7.2.2.2.2.2.1, s7.2.2.2.2.2.2.1 ++ [v6], s7.2.2.2.2.2.2.2))
 else (
 some (s7.1, s7.2.1, s7.2.2.1, s7.2.2.2.1, s7.2.2.2.2.1, s7.2.2.2.2.2.1, s7.2.2.2.2.2.2.1, s7.2.2.2.2.2.2.2))) fun s8 =>
 some (s8.1, s8.2.1, s8.2.2.1, s8.2.2.2.1, s8.2.2.2.2.1, s8.2.2.2.2.2.1, s8.2.2.2.2.2.2.1, s8.2.2.2.2.2.2.2))) fun s9 =>
 some (.inl (wi64 (v6 + 1), s9.1, s9.2.1, s9.2.2.1, s9.2.2.2.1, s9.2.2.2.2.1, s9.2.2.2.2.2.1, s9.2.2.2.2.2.2.1, s9.2.2.2.2.2.2.2)))
 else (
 some (.inr (next4, ports4, given4, stream2, rates2, toPort2, toSegment, v7)))
def qcJ (s11 : Bool × (List (List (Int × Int))) × (List (List (Int × Int))) × (List (List (Int × Int))) × (List (Int × Int)) × List Int × List Int × List Int × List Int) (v8 : Int) (next5 : List (List (Int × Int))) (ports5 : List (List (Int × Int))) (given5 : List (List (Int × Int))) (v9 : List Int) (toSegment2 : List Int) (dealt : List (List (Int × Int))) (v10 : List Int) : Option ((Int × (List (List (Int × Int))) × (List (List (Int × Int))) × (List (List (Int × Int))) × List Int × List Int × (List (List (Int × Int))) × List Int) ⊕ ((List (List (Int × Int))) × (List (List (Int × Int))) × (List (List (Int × Int))) × List Int × List Int × (List (List (Int × Int))) × List Int)) :=
 bif decide (v8 < (s11.2.2.2.2.2.2.1.length : Int)) then (
 gd (inB v8 v9.length) <|
 gd (inB v8 dealt.length) <|
 gd (inB (v9.getD v8.toNat 0) ports5.length) <|
 some (.inl (wi64 (v8 + 1), next5, ports5.set ((v9.getD v8.toNat 0).toNat) (dealt.getD v8.toNat []), given5, v9, toSegment2, dealt, v10)))
 else (
 some (.inr (next5, ports5, given5, v9, toSegment2, dealt, v10)))
def qcK (p : yB1) (s12 : (List (List (Int × Int))) × (List (List (Int × Int))) × (List (List (Int × Int))) × List Int × List Int × (List (List (Int × Int))) × List Int) (v11 : Int) (next6 : List (List (Int × Int))) (ports6 : List (List (Int × Int))) (given6 : List (List (Int × Int))) (toPort3 : List Int) (dealt2 : List (List (Int × Int))) (v12 : List Int) (v13 : List Int) : Option ((Int × (List (List (Int × Int))) × (List (List (Int × Int))) × (List (List (Int × Int))) × List Int × (List (List (Int × Int))) × List Int × List Int) ⊕ ((List (List (Int × Int))) × (List (List (Int × Int))) × (List (List (Int × Int))) × List Int)) :=
 bif decide (v11 < (s12.2.2.2.2.1.length : Int)) then (
 gd (inB v11 v13.length) <|
 gd (inB (wi64 ((toPort3.length : Int) + v11)) dealt2.length) <|
 gd (inB (v13.getD v11.toNat 0) p.1.length) <|
 Option.bind (α := (List (Int × Int)) × (List (List (Int × Int))) × (List (List (Int × Int))) × (List (List (Int × Int))) × List Int × (List (List (Int × Int))) × List Int × List Int) (
 bif !(decide (p.1.getD (v13.getD v11.toNat 0).toNat 0 < 0)) then (
 (qcl (dealt2.getD ((wi64 ((toPort3.length : Int) + v11)).toNat) [])).bind fun r7 =>
 some (r7, next6, ports6, given6, toPort3, dealt2, v12, v13))
 else (
 some (dealt2.getD ((wi64 ((toPort3.length : Int) + v11)).toNat) [], next6, ports6, given6, toPort3, dealt2, v12, v13))) fun s13 =>
 gd (inB (v13.getD v11.toNat 0) s13.2.1.length) <|
 (qaH (s13.2.1.getD ((v13.getD v11.toNat 0).toNat) []) s13.1 (decide (p.1.getD (v13.getD v11.toNat 0).toNat 0 < 0))).bind fun r8 =>
 gd (inB (v13.getD v11.toNat 0) s13.2.1.length) <|
 Option.bind (α := (List (Int × Int)) × (List (List (Int × Int))) × (List (List (Int × Int))) × (List (List (Int × Int))) × List Int × (List (List (Int × Int))) × List Int × List Int) (
 bif !(decide (p.1.getD (v13.getD v11.toNat 0).toNat 0 < 0)) then (
 (qcl r8.2).bind fun r9 =>
 some (r9, s13.2.1.set ((v13.getD v11.toNat 0).toNat) r8.1, s13.2.2.1, s13.2.2.2.1, s13.2.2.2.2.1, s13.2.2.2.2.2.1, s13.2.2.2.2.2.2.1, s13.2.2.2.2.2.2.2))
 else (
 some (r8.2, s13.2.1.set ((v13.getD v11.toNat 0).toNat) r8.1, s13.2.2.1, s13.2.2.2.1, s13.2.2.2.2.1, s13.2.2.2.2.2.1, s13.2.2.2.2.2.2.1, s13.2.2.2.2.2.2.2))) fun s14 =>
 gd (inB (v13.getD v11.toNat 0) s14.2.2.2.1.length) <|
 some (.inl (wi64 (v11 + 1), s14.2.1, s14.2.2.1, s14.2.2.2.1.set ((v13.getD v11.toNat 0).toNat) s14.1, s14.2.2.2.2.1, s14.2.2.2.2.2.1, s14.2.2.2.2.2.2.1, s14.2.2.2.2.2.2.2)))
 else (
 some (.inr (next6, ports6, given6, v12)))
def qbd (n : yB0) (p : yB1) (feeds : List Int) (r2 : Int × List Int) (long : Bool) (v2 : Int) (next2 : List (List (Int × Int))) (ports2 : List (List (Int × Int))) (given2 : List (List (Int × Int))) (v3 : List Int) : Option ((Bool × Int × (List (List (Int × Int))) × (List (List (Int × Int))) × (List (List (Int × Int))) × List Int) ⊕ (Bool × (List (List (Int × Int))) × (List (List (Int × Int))) × List (List (Int × Int)))) :=
 bif decide (v2 < (r2.2.length : Int)) then (
 Option.bind (α := Bool × (List (List (Int × Int))) × (List (List (Int × Int))) × (List (List (Int × Int))) × List Int) (
 gd (inB v2 v3.length) <|
 (iter (fun x2 => qcI n p feeds v2 v3 x2.1 x2.2.1 x2.2.2.1 x2.2.2.2.1 x2.2.2.2.2.1 x2.2.2.2.2.2.1 x2.2.2.2.2.2.2.1 x2.2.2.2.2.2.2.2) (0, next2, ports2, given2, [], [], [], v3)).bind fun s6 =>
 (iter (fun x3 => qbP n p v2 v3 x3.1 x3.2.1 x3.2.2.1 x3.2.2.2.1 x3.2.2.2.2.1 x3.2.2.2.2.2.1 x3.2.2.2.2.2.2.1 x3.2.2.2.2.2.2.2.1 x3.2.2.2.2.2.2.2.2) (0, s6.1, s6.2.1, s6.2.2.1, s6.2.2.2.1, s6.2.2.2.2.1, s6.2.2.2.2.2.1, [], s6.2.2.2.2.2.2)).bind fun s10 =>
 (qaN s10.2.2.2.1).bind fun r5 =>
 Option.bind (α := Bool × (List (List (Int × Int))) × (List (List (Int × Int))) × (List (List (Int × Int))) × (List (Int × Int)) × List Int × List Int × List Int × List Int) (
 bif long then (
 some (true, s10.1, s10.2.1, s10.2.2.1, r5, s10.2.2.2.2.1, s10.2.2.2.2.2.1, s10.2.2.2.2.2.2.1, s10.2.2.2.2.2.2.2))
 else (
 some (decide (200 < (r5.length : Int)), s10.1, s10.2.1, s10.2.2.1, r5, s10.2.2.2.2.1, s10.2.2.2.2.2.1, s10.2.2.2.2.2.2.1, s10.2.2.2.2.2.2.2))) fun s11 =>
 bif decide ((s11.2.2.2.2.1.length : Int) = 0) then (
 some (s11.1, s11.2.1, s11.2.2.1, s11.2.2.2.1, s11.2.2.2.2.2.2.2.2))
 else (
 (qeK s11.2.2.2.2.1 s11.2.2.2.2.2.1).bind fun r6 =>
 (iter (fun x4 => qcJ s11 x4.1 x4.2.1 x4.2.2.1 x4.2.2.2.1 x4.2.2.2.2.1 x4.2.2.2.2.2.1 x4.2.2.2.2.2.2.1 x4.2.2.2.2.2.2.2) (0, s11.2.1, s11.2.2.1, s11.2.2.2.1, s11.2.2.2.2.2.2.1, s11.2.2.2.2.2.2.2.1, r6, s11.2.2.2.2.2.2.2.2)).bind fun s12 =>
 (iter (fun x5 => qcK p s12 x5.1 x5.2.1 x5.2.2.1 x5.2.2.2.1 x5.2.2.2.2.1 x5.2.2.2.2.2.1 x5.2.2.2.2.2.2.1 x5.2.2.2.2.2.2.2) (0, s12.1, s12.2.1, s12.2.2.1, s12.2.2.2.1, s12.2.2.2.2.2.1, s12.2.2.2.2.2.2, s12.2.2.2.2.1)).bind fun s15 =>
 some (s11.1, s15.1, s15.2.1, s15.2.2.1, s15.2.2.2))) fun s16 =>
 some (.inl (s16.1, wi64 (v2 + 1), s16.2.1, s16.2.2.1, s16.2.2.2.1, s16.2.2.2.2)))
 else (
 some (.inr (long, next2, ports2, given2)))
def qcL (s17 : Bool × (List (List (Int × Int))) × (List (List (Int × Int))) × List (List (Int × Int))) (long2 : Bool) (v14 : Int) (next7 : List (List (Int × Int))) (ports7 : List (List (Int × Int))) (given7 : List (List (Int × Int))) : Option ((Bool × Int × (List (List (Int × Int))) × (List (List (Int × Int))) × List (List (Int × Int))) ⊕ (Bool × (List (List (Int × Int))) × List (List (Int × Int)))) :=
 bif decide (v14 < (s17.2.1.length : Int)) then (
 Option.bind (α := Bool × (List (List (Int × Int))) × (List (List (Int × Int))) × List (List (Int × Int))) (
 bif long2 then (
 some (true, next7, ports7, given7))
 else (
 gd (inB v14 next7.length) <|
 bif decide (200 < ((next7.getD v14.toNat []).length : Int)) then (
 some (true, next7, ports7, given7))
 else (
 gd (inB v14 given7.length) <|
 some (decide (200 < ((given7.getD v14.toNat []).length : Int)), next7, ports7, given7)))) fun s18 =>
 some (.inl (s18.1, wi64 (v14 + 1), s18.2.1, s18.2.2.1, s18.2.2.2)))
 else (
 some (.inr (long2, next7, ports7)))
def qcM (s19 : Bool × (List (List (Int × Int))) × List (List (Int × Int))) (long3 : Bool) (v15 : Int) (next8 : List (List (Int × Int))) (ports8 : List (List (Int × Int))) : Option ((Bool × Int × (List (List (Int × Int))) × List (List (Int × Int))) ⊕ (Bool × (List (List (Int × Int))) × List (List (Int × Int)))) :=
 bif decide (v15 < (s19.2.2.length : Int)) then (
 Option.bind (α := Bool × (List (List (Int × Int))) × List (List (Int × Int))) (
 bif long3 then (
 some (true, next8, ports8))
 else (
 gd (inB v15 ports8.length) <|
 some (decide (200 < ((ports8.getD v15.toNat []).length : Int)), next8, ports8))) fun s20 =>
 some (.inl (s20.1, wi64 (v15 + 1), s20.2.1, s20.2.2)))
 else (
 some (.inr (long3, next8, ports8)))
def qeL (n : yB0) (fills : List (List (Int × Int))) (p : yB1) (feeds : List Int) : Option (Int × (List (List (Int × Int))) × List (List (Int × Int))) :=
 (qdQ (n.1, (n.2.1, (n.2.2.1, (n.2.2.2.1, (n.2.2.2.2.1, n.2.2.2.2.2))))) fills (p.1, (p.2.1, p.2.2)) feeds).bind fun r =>
 bif !decide (r = 0) then (
 some (r, [], []))
 else (
 gd (makeG 24 (fills.length : Int)) <|
 gd (makeG 24 (n.2.2.1.length : Int)) <|
 gd (makeG 24 (fills.length : Int)) <|
 (iter (fun x => qbO fills x.1 x.2.1 x.2.2.1 x.2.2.2) (0, List.replicate (fills.length : Int).toNat ([] : List (Int × Int)), List.replicate (n.2.2.1.length : Int).toNat ([] : List (Int × Int)), List.replicate (fills.length : Int).toNat ([] : List (Int × Int)))).bind fun s =>
 (qdR (n.1, (n.2.1, (n.2.2.1, (n.2.2.2.1, (n.2.2.2.2.1, n.2.2.2.2.2))))) (p.1, (p.2.1, p.2.2))).bind fun r2 =>
 (iter (fun x6 => qbd n p feeds r2 x6.1 x6.2.1 x6.2.2.1 x6.2.2.2.1 x6.2.2.2.2.1 x6.2.2.2.2.2) (false, 0, s.1, s.2.1, s.2.2, r2.2)).bind fun s17 =>
 (iter (fun x7 => qcL s17 x7.1 x7.2.1 x7.2.2.1 x7.2.2.2.1 x7.2.2.2.2) (s17.1, 0, s17.2.1, s17.2.2.1, s17.2.2.2)).bind fun s19 =>
 (iter (fun x8 => qcM s19 x8.1 x8.2.1 x8.2.2.1 x8.2.2.2) (s19.1, 0, s19.2.1, s19.2.2)).bind fun s21 =>
 bif s21.1 then (
 some (4, [], []))
 else (
 some (0, s21.2.1, s21.2.2)))
def qfQ : Fun :=
 ⟨11, 4, 3,
 ⟨r10_, [], []⟩,
 ⟨[(0, ow 0), (1, ow 1), (2, ii)], [], [(0, .arr 44 (.sl tT0)), (1, .arr 44 (.sl tT0))]⟩,
 fun x => qeL x.1 x.2.1 x.2.2.1 x.2.2.2⟩
theorem qi8 : FO qfQ := fi [66, 1000071] [qe2, qe3, qcE, qev, qa8, qfP, qew, qe5] 312 [] ((nn (nn (nn (nn (nn (mm (nn (mm (.mk [] (some (⟨[(1, kk), (3, kk), (4, pt 80 0), (6, pt 112 0), (12, ow 832), (13, ow 896), (14, ow 944), (15, kk), (60, kk), (61, ii)], v3_, a20_⟩, [⟨.x 0, ⟨[(3, kk), (4, pt 80 0), (6, pt 112 0), (12, ow 832), (13, ow 896), (14, ow 944), (15, kk)], v3_, a20_⟩⟩])) .nil .nil) .nil)) (nn (mm (nn (mm (.mk [] (some (⟨[(3, kk), (4, pt 80 0), (6, pt 112 0), (12, ow 832), (13, ow 896), (14, ow 944), (15, bb), (80, ow 1248), (81, kk), (82, ii)], v3_, a25_⟩, [⟨.x 2, ⟨[(12, ow 832), (13, ow 896), (14, ow 944), (15, bb)], [], a20_⟩⟩])) (nn (nn (mm (.mk [.join [⟨.n, ⟨[(3, kk), (4, pt 80 0), (6, pt 112 0), (12, ow 832), (13, ow 896), (14, ow 944), (15, bb), (80, ow 1248), (81, kk), (82, kk)], v3_, a25_⟩⟩]] none (nn (nn (nn (mm (nn (mm (.mk [] (some (⟨[(3, kk), (4, pt 80 0), (6, pt 112 0), (12, ow 832), (13, ow 896), (14, ow 944), (15, kk), (20, kk), (21, ow 363), (22, ow 379), (23, ow 395), (24, kk), (80, ow 1248), (81, kk), (82, kk), (87, kk), (88, kk), (89, ii)], v3_, a6_⟩, [⟨.x 4, ⟨[(3, kk), (4, pt 80 0), (6, pt 112 0), (12, ow 832), (13, ow 896), (14, ow 944), (15, kk), (20, kk), (21, ow 363), (22, ow 379), (23, ow 395), (24, kk), (80, ow 1248), (81, kk), (82, kk)], v3_, a6_⟩⟩])) (nn (nn (mm (mm (nn (mm (mm (.mk [.join [⟨.n, ⟨[(3, kk), (4, pt 80 0), (6, pt 112 0), (12, ow 832), (13, ow 896), (14, ow 944), (15, kk), (20, kk), (21, ow 363), (22, ow 379), (23, ow 395), (24, kk), (25, kk), (26, pt 432 0), (80, ow 1248), (81, kk), (82, kk), (87, kk), (88, kk), (89, kk), (105, bb)], v37_, a6_⟩⟩]] none .nil .nil) (.mk [.join [⟨.n, ⟨[(3, kk), (4, pt 80 0), (6, pt 112 0), (12, ow 832), (13, ow 896), (14, ow 944), (15, kk), (20, kk), (21, ow 363), (22, ow 379), (23, ow 395), (24, kk), (25, kk), (26, pt 432 0), (80, ow 1248), (81, kk), (82, kk), (87, kk), (88, kk), (89, kk)], v37_, a6_⟩⟩]] none .nil .nil)) (mm (.mk [.join [⟨.n, ⟨[(3, kk), (4, pt 80 0), (6, pt 112 0), (12, ow 832), (13, ow 896), (14, ow 944), (15, kk), (20, kk), (21, ow 363), (22, ow 379), (23, ow 395), (24, kk), (25, kk), (80, ow 1248), (81, kk), (82, kk), (87, kk), (88, kk), (89, kk), (130, bb)], v3_, a6_⟩⟩]] none .nil .nil) (.mk [.join [⟨.n, ⟨[(3, kk), (4, pt 80 0), (6, pt 112 0), (12, ow 832), (13, ow 896), (14, ow 944), (15, kk), (20, kk), (21, ow 363), (22, ow 379), (23, ow 395), (24, kk), (80, ow 1248), (81, kk), (82, kk), (87, kk), (88, kk), (89, kk)], v3_, a6_⟩⟩]] none .nil .nil)))) .nil) .nil))) .nil) .nil)) (mm (nn (mm (.mk [] (some (⟨[(3, kk), (4, pt 80 0), (6, pt 112 0), (12, ow 832), (13, ow 896), (14, ow 944), (15, kk), (20, kk), (21, ow 363), (22, ow 379), (23, ow 395), (24, ow 411), (80, ow 1248), (81, kk), (82, kk), (146, kk), (147, kk), (148, ii)], v3_, a7_⟩, [⟨.x 6, ⟨[(3, kk), (4, pt 80 0), (6, pt 112 0), (12, ow 832), (13, ow 896), (14, ow 944), (15, kk), (21, ow 363), (22, ow 379), (23, ow 395), (24, ow 411), (80, ow 1248), (81, kk), (82, kk)], v3_, a7_⟩⟩])) (nn (nn (mm (.mk [.join [⟨.n, ⟨r17_, v3_, a7_⟩⟩]] none (nn (nn (nn (mm (nn (.mk [.join [⟨.n, ⟨[(3, kk), (4, pt 80 0), (6, pt 112 0), (12, ow 832), (13, ow 896), (14, ow 944), (15, kk), (20, kk), (21, ow 363), (22, ow 379), (23, ow 395), (24, ow 411), (27, kk), (29, kk), (80, ow 1248), (81, kk), (82, kk), (146, kk), (147, kk), (148, kk)], v3_, a7_⟩⟩]] none .nil .nil)) (nn (.mk [.join [⟨.n, ⟨r17_, v3_, a7_⟩⟩]] none .nil .nil)))))) .nil) .nil))) .nil) .nil)) (nn (mm (.mk [.join [⟨.n, ⟨[(3, kk), (4, pt 80 0), (6, pt 112 0), (12, ow 832), (13, ow 896), (14, ow 944), (15, bb), (21, ow 3152), (22, ow 379), (23, ow 395), (24, ow 411), (80, ow 1248), (81, kk), (82, kk)], v3_, [(832, .arr 44 (.sl tT0)), (896, .arr 44 (.sl tT0)), (944, .arr 44 (.sl tT0)), (3152, .arr 46 tT0), (379, .arr 3 I6), (395, .arr 3 I6), (411, .arr 3 I6), (1248, .arr 3 I6)]⟩⟩]] none .nil .nil) (nn (mm (.mk [.fz [21, 22]] none .nil .nil) (mm (nn (mm (.mk [] (some (⟨[(3, kk), (4, pt 80 0), (6, pt 112 0), (12, ow 832), (13, ow 896), (14, ow 944), (15, kk), (23, ow 395), (24, ow 411), (31, ow 3344), (80, ow 1248), (81, kk), (82, kk), (209, ow 395), (210, kk), (211, ii)], v3_, a24_⟩, [⟨.x 8, ⟨[(3, kk), (4, pt 80 0), (6, pt 112 0), (12, ow 832), (13, ow 896), (14, ow 944), (15, kk), (23, ow 395), (24, ow 411), (31, ow 3344), (80, ow 1248), (81, kk), (82, kk)], v3_, a24_⟩⟩])) .nil .nil) .nil)) (nn (mm (.mk [] (some (⟨[(3, kk), (4, pt 80 0), (6, pt 112 0), (12, ow 832), (13, ow 896), (14, ow 944), (15, kk), (23, ow 395), (31, ow 3344), (80, ow 1248), (81, kk), (82, kk), (224, ow 411), (225, kk), (226, ii)], v3_, a15_⟩, [⟨.x 10, ⟨[(3, kk), (4, pt 80 0), (6, pt 112 0), (12, ow 832), (13, ow 896), (14, ow 944), (15, kk), (80, ow 1248), (81, kk), (82, kk)], v3_, a25_⟩⟩])) (nn (nn (mm (mm (nn (nn (mm (nn (.mk [.join [⟨.n, ⟨[(3, kk), (4, pt 80 0), (6, pt 112 0), (12, ow 832), (13, ow 896), (14, ow 944), (15, kk), (23, ow 395), (31, ow 3344), (35, kk), (36, dd (.sl tT0)), (37, kk), (80, ow 1248), (81, kk), (82, kk), (224, ow 411), (225, kk), (226, kk)], v3_, a15_⟩⟩]] none .nil .nil)) (nn (nn (mm (nn (.mk [.join [⟨.n, ⟨[(3, kk), (4, pt 80 0), (6, pt 112 0), (12, ow 832), (13, ow 896), (14, ow 944), (15, kk), (23, ow 395), (31, ow 3344), (35, kk), (38, dd (.sl tT0)), (80, ow 1248), (81, kk), (82, kk), (224, ow 411), (225, kk), (226, kk)], v3_, a15_⟩⟩]] none .nil .nil)) .nil)))))) .nil) .nil))) .nil) .nil)))))))))))) .nil) .nil))) .nil) .nil)) (mm (nn (mm (.mk [] (some (⟨[(12, ow 832), (13, ow 896), (14, ow 944), (15, bb), (272, kk), (273, ii)], [], a20_⟩, [⟨.x 12, ⟨[(12, ow 832), (13, ow 896), (15, bb)], [], a31_⟩⟩])) (nn (nn (mm (mm (nn (.mk [.join [⟨.n, ⟨[(12, ow 832), (13, ow 896), (14, ow 944), (15, bb), (272, kk), (273, kk)], [], a20_⟩⟩]] none .nil .nil)) .nil) .nil))) .nil) .nil)) (mm (nn (mm (.mk [] (some (⟨[(12, ow 832), (13, ow 896), (15, bb), (295, kk), (296, ii)], [], a31_⟩, [⟨.x 14, ⟨[(12, ow 832), (13, ow 896), (15, bb)], [], a31_⟩⟩])) (nn (nn (mm (mm (nn (.mk [.join [⟨.n, ⟨[(12, ow 832), (13, ow 896), (15, bb), (295, kk), (296, kk)], [], a31_⟩⟩]] none .nil .nil)) .nil) .nil))) .nil) .nil)) .nil))))))))))) func11 ⟨⟨qh3, qh4, qdP, qgq, qbN, qi7, qhF, qh6, trivial⟩, trivial⟩
def qcf (f : List (Int × Int)) (v : Int) : Option (Int ⊕ (Unit ⊕ (List (Int × Int)))) :=
 bif decide (v < (f.length : Int)) then (
 gd (inB v f.length) <|
 Option.bind (α := Bool) (
 (qaM ((f.getD v.toNat (0, 0)).1)).bind fun r =>
 bif !r then (
 some true)
 else (
 bif decide ((f.getD v.toNat (0, 0)).2 < 0) then (
 some true)
 else (
 some (decide (1000000 < (f.getD v.toNat (0, 0)).2))))) fun s =>
 bif s then (
 some (.inr (.inr [])))
 else (
 some (.inl (wi64 (v + 1)))))
 else (
 some (.inr (.inl ())))
def qc8 (f : List (Int × Int)) : Option (List (Int × Int)) :=
 bif decide (400 < (f.length : Int)) then (
 some [])
 else (
 (iter (fun x => qcf f x) 0).bind fun s2 =>
 s2.elim (fun s3 =>
 (qaN f).bind fun r2 =>
 some r2)
 (fun s4 =>
 some s4))
def qe6 : Fun :=
 ⟨12, 1, 1,
 ⟨r30_, [], []⟩,
 ⟨r30_, [], []⟩,
 fun x => qc8 x⟩
theorem qh7 : FO qe6 := fi [] [qbM, qa8] 31 [] ((nn (nn (mm (nn (mm (.mk [] (some (⟨[(0, kk), (8, kk), (9, kk), (10, ii)], [], []⟩, [⟨.x 0, ⟨[(0, kk)], [], []⟩⟩, ⟨.r, ⟨[(2, dd (.sl tT0))], [], []⟩⟩])) (nn (nn (mm (mm (nn (mm (.mk [.join [⟨.n, ⟨[(0, kk), (8, kk), (9, kk), (10, kk), (27, bb)], [], []⟩⟩]] none .nil .nil) .nil)) .nil) .nil))) .nil) .nil)) .nil)))) func12 ⟨⟨qc3, qbN, trivial⟩, trivial⟩
def qaR (r5 : yB1 × List Int × Int) (r6 : List Int × Int × List Int) (i : Int) (now : List (List (Int × Int))) (outs : List (List (Int × Int))) (vin : List (Int × Int)) (out : List (Int × Int)) : Option ((Int × (List (List (Int × Int))) × (List (List (Int × Int))) × (List (Int × Int)) × List (Int × Int)) ⊕ ((List (List (Int × Int))) × (List (Int × Int)) × List (Int × Int))) :=
 bif decide (i < (r5.1.2.1.length : Int)) then (
 gd (inB i r5.1.2.1.length) <|
 Option.bind (α := (List (List (Int × Int))) × (List (List (Int × Int))) × (List (Int × Int)) × List (Int × Int)) (
 bif decide (0 < r5.1.2.1.getD i.toNat 0) then (
 gd (inB i r6.2.2.length) <|
 gd (inB i r5.1.2.1.length) <|
 gd (fits (vin.length + 1) 16) <|
 some (now, outs, vin ++ [(r6.2.2.getD i.toNat 0, r5.1.2.1.getD i.toNat 0)], out))
 else (
 some (now, outs, vin, out))) fun s =>
 gd (inB i s.2.1.length) <|
 gd (fits (s.2.2.2.length + (s.2.1.getD i.toNat []).length) 16) <|
 some (.inl (wi64 (i + 1), s.1, s.2.1, s.2.2.1, s.2.2.2 ++ (s.2.1.getD i.toNat []))))
 else (
 some (.inr (now, vin, out)))
def qcq (l : List Int) (which : Int) : Option (Bool) :=
 (qf4 l).bind fun r =>
 bif !r then (
 (qby).bind fun r2 =>
 some r2)
 else (
 (qgB l).bind fun r3 =>
 (qbp r3.1 r3.2).bind fun r4 =>
 (qcC (r4.1.1, (r4.1.2.1, (r4.1.2.2.1, (r4.1.2.2.2.1, (r4.1.2.2.2.2.1, r4.1.2.2.2.2.2))))) r4.2.1 r4.2.2).bind fun r5 =>
 (qb1 (r4.1.1, (r4.1.2.1, (r4.1.2.2.1, (r4.1.2.2.2.1, (r4.1.2.2.2.2.1, r4.1.2.2.2.2.2))))) 4 r5.2.1 r5.2.2).bind fun r6 =>
 (qb2 (r4.1.1, (r4.1.2.1, (r4.1.2.2.1, (r4.1.2.2.2.1, (r4.1.2.2.2.2.1, r4.1.2.2.2.2.2))))) 4 r6.1 r6.2.1).bind fun r7 =>
 (qeL (r4.1.1, (r4.1.2.1, (r4.1.2.2.1, (r4.1.2.2.2.1, (r4.1.2.2.2.2.1, r4.1.2.2.2.2.2))))) r7.2.2 (r5.1.1, (r5.1.2.1, r5.1.2.2)) r6.2.2).bind fun r8 =>
 bif !decide (r8.1 = 0) then (
 (qby).bind fun r9 =>
 some r9)
 else (
 (iter (fun x => qaR r5 r6 x.1 x.2.1 x.2.2.1 x.2.2.2.1 x.2.2.2.2) (0, r8.2.1, r8.2.2, [], [])).bind fun s2 =>
 (qc8 s2.2.1).bind fun r10 =>
 (qc8 s2.2.2).bind fun r11 =>
 (qcO r7.2.2 s2.1 r10 r11).bind fun r12 =>
 gd (fits (0 + r10.length) 16) <|
 gd (fits (([] ++ r10).length + 1) 16) <|
 (qcO r7.2.2 s2.1 (([] ++ r10) ++ [(wi64 (900 + (Int.tmod (wi64 which) 50)), 1)]) r11).bind fun r13 =>
 bif decide (r12.2 = 0) then (
 bif decide (r13.2 = 0) then (
 bif r12.1 then (
 bif !r13.1 then (
 (qby).bind fun r14 =>
 some r14)
 else (
 some false))
 else (
 some false))
 else (
 some false))
 else (
 some false)))
def qc9 : Fun :=
 ⟨3, 2, 1,
 ⟨[(0, dd (.sl I6)), (1, dd (.int .u8))], [], []⟩,
 ⟨[(0, bb)], [], []⟩,
 fun x => qcq x.1 x.2⟩
theorem qfi : FO qc9 := fi [94] [qfJ, qeU, qhy, qc0, qd3, qdz, qdB, qfQ, qe6, qdL] 128 [] ((nn (nn (nn (nn (nn (mm (.mk [.fz [9, 8]] none .nil .nil) (nn (nn (mm (nn (mm (.mk [] (some (⟨[(1, kk), (7, pt 128 0), (8, kk), (9, kk), (10, ow 704), (11, ow 705), (13, ow 235), (14, ow 251), (15, ii)], [(128, 36, [.keep, .keep, .keep])], a35_⟩, [⟨.x 0, ⟨[(1, kk), (9, kk), (10, ow 704), (13, ow 235), (14, ow 251)], [], [(704, .arr 44 (.sl tT0)), (235, .arr 46 tT0), (251, .arr 46 tT0)]⟩⟩])) (nn (mm (mm (mm (nn (.mk [.join [⟨.n, ⟨[(1, kk), (7, pt 128 0), (8, kk), (9, kk), (10, ow 704), (11, ow 705), (13, ow 235), (14, ow 251), (15, kk)], [(128, 36, [.keep, .keep, .keep])], a35_⟩⟩]] none .nil .nil)) .nil) .nil) .nil)) .nil) .nil)) (mm (.mk [.fz [13, 14]] none .nil .nil) .nil))))))))))) func3 ⟨⟨qi1, qhY, qlf, qfg, qgs, qf5, qf6, qi8, qh7, qfK, trivial⟩, trivial⟩
end
end Go.Proofs.Ytikmdoopfpnbbaa
