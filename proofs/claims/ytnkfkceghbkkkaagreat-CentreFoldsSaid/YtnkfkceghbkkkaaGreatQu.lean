/- Functions, evaluated. No condition. -/
import Derived.Test.YtnkfkceghbkkkaaGreatProg
import Derived.Test.YtnkfkceghbkkkaaGreatSqLI
import Derived.Test.YtnkfkceghbkkkaaGreatIn4
namespace Go.Proofs.YtnkfkceghbkkkaaGreat
open Go Go.Sq
open Go.Proofs.Tryz
noncomputable section
abbrev I6 : Ty := .int .i64
abbrev dd (τ : Ty) : Sh := .one (.data τ)
abbrev pt (b o : Nat) : Sh := .one (.ptr b o)
abbrev ow (b : Nat) : Sh := .one (.own b)
abbrev FO (e : Fun) : Prop := FunOk Tryz.prog e
abbrev yT0 : Type := List UInt8 × Int × Int × Int × Int × Int × List (Int × Int × Int)
abbrev tT0 : Ty := .pair (.sl (.str)) (.pair (.sl (.pair (.str) (.pair I6 (.pair I6 (.pair I6 (.pair I6 (.pair I6 (.sl (.pair I6 (.pair I6 I6)))))))))) (.pair (.sl (.pair (.str) (.pair I6 I6))) (.pair (.sl (.pair (.str) (.pair I6 (.pair I6 (.pair I6 I6))))) (.pair I6 I6))))
abbrev tT1 : Ty := .pair I6 (.pair I6 (.pair (.bool) (.bool)))
abbrev tT2 : Ty := .pair (.str) (.pair I6 (.pair I6 (.pair I6 I6)))
abbrev tT3 : Ty := .pair I6 (.pair I6 (.pair I6 (.pair I6 (.pair I6 (.sl I6)))))
abbrev tT4 : Ty := .pair I6 (.pair I6 (.pair (.sl (.pair I6 (.bool))) I6))
abbrev tT5 : Ty := .pair I6 (.pair I6 (.pair I6 (.pair I6 (.pair I6 (.sl (.pair I6 (.pair I6 I6)))))))
abbrev tT6 : Ty := .pair (.sl I6) (.pair (.sl I6) (.sl (.bool)))
abbrev yB0 : Type := List (List UInt8) × List yT0 × List (List UInt8 × Int × Int) × List (List UInt8 × Int × Int × Int × Int) × Int × Int
abbrev yB1 : Type := List UInt8 × Int × Int × Int × Int
abbrev yB2 : Type := List (Int × Int × Bool × Bool)
abbrev yB3 : Type := List (Int × Int × Bool × Bool) × List Int × List Int × List Bool
abbrev yB4 : Type := Int × Int × Int × Int × Int × List Int
abbrev yB5 : Type := Int × Int × Int × Int × Int × List (Int × Bool) × Int
abbrev yB6 : Type := List Int × List Int × List Bool
abbrev yB7 : Type := Int × Int × List (Int × Bool) × Int
abbrev yB8 : Type := Int × yB2 × List Int × List Int × List Bool
abbrev yB9 : Type := List UInt8 × Int × Int × Int × Int × Int × List (Int × Int × Int)
abbrev yB10 : Type := List (List UInt8) × List (List UInt8) × List (List UInt8) × List (List UInt8)
abbrev yB11 : Type := Int × List Int × yB5 × List UInt8 × Int × Int
abbrev yB12 : Type := List (List UInt8 × Int × Int)
abbrev yB13 : Type := yB3 × List yB4 × List yB1 × Int
abbrev fd (n : String) (t o : Nat) (p : String) (b : Nat) : Field := { name := n, type := t, offset := o, embedded := false, tag := "", pkgPath := p, byteOffset := b }
def ti3 : TI := ⟨3, .int .i64, 1, 8, .int .i64 0, .int .i64, false⟩
theorem tk3 : ti3.ok prog := ⟨underlying3, by kernel_rfl, fun h => by cases h⟩
def ti4 : TI := ⟨4, .bool, 1, 1, .bool false, .bool, false⟩
theorem tk4 : ti4.ok prog := ⟨underlying4, by kernel_rfl, fun h => by cases h⟩
def ti5 : TI := ⟨5, .int .u8, 1, 1, .int .u8 0, .int .u8, false⟩
theorem tk5 : ti5.ok prog := ⟨underlying5, by kernel_rfl, fun h => by cases h⟩
def ti9 : TI := ⟨9, .string, 1, 16, .string ⟨#[]⟩, .str, false⟩
theorem tk9 : ti9.ok prog := ⟨underlying9, by kernel_rfl, fun h => by cases h⟩
def ti22 : TI := ⟨22, .slice 5, 1, 24, .slice none 0 0, .sl (.int .u8), false⟩
theorem tk22 : ti22.ok prog := ⟨underlying22, by kernel_rfl, fun h => by cases h⟩
def ti23 : TI := ⟨23, .slice 3, 1, 24, .slice none 0 0, .sl I6, false⟩
theorem tk23 : ti23.ok prog := ⟨underlying23, by kernel_rfl, fun h => by cases h⟩
def ti24 : TI := ⟨24, .slice 114, 1, 24, .slice none 0 0, .sl (.pair I6 (.bool)), false⟩
theorem tk24 : ti24.ok prog := ⟨underlying24, by kernel_rfl, fun h => by cases h⟩
def ti26 : TI := ⟨26, .struct #[fd "In" 3 0 "" 0, fd "Out" 3 1 "" 8, fd "Hops" 24 2 "" 16, fd "Rate" 3 3 "" 40], 4, 48, .agg #[.int .i64 0, .int .i64 0, .slice none 0 0, .int .i64 0], .pair I6 (.pair I6 (.pair (.sl (.pair I6 (.bool))) I6)), true⟩
theorem tk26 : ti26.ok prog := ⟨underlying26, by kernel_rfl, fun _ => ⟨eqGuardType26, stoodInHeld26⟩⟩
def ti28 : TI := ⟨28, .struct #[fd "Kind" 3 0 "" 0, fd "Index" 3 1 "" 8, fd "Value" 3 2 "" 16, fd "Path" 26 3 "" 24], 7, 72, .agg #[.int .i64 0, .int .i64 0, .int .i64 0, .int .i64 0, .int .i64 0, .slice none 0 0, .int .i64 0], .pair I6 (.pair I6 (.pair I6 tT4)), true⟩
theorem tk28 : ti28.ok prog := ⟨underlying28, by kernel_rfl, fun _ => ⟨eqGuardType28, stoodInHeld28⟩⟩
def ti30 : TI := ⟨30, .struct #[fd "Shipper" 9 0 "" 0, fd "Kind" 3 1 "" 16, fd "Volume" 3 2 "" 24], 3, 32, .agg #[.string ⟨#[]⟩, .int .i64 0, .int .i64 0], .pair (.str) (.pair I6 I6), true⟩
theorem tk30 : ti30.ok prog := ⟨underlying30, by kernel_rfl, fun _ => ⟨eqGuardType30, stoodInHeld30⟩⟩
def ti32 : TI := ⟨32, .struct #[fd "Kind" 3 0 "" 0, fd "Values" 23 1 "" 8, fd "Step" 28 2 "" 32, fd "Entry" 30 9 "" 104], 12, 136, .agg #[.int .i64 0, .slice none 0 0, .int .i64 0, .int .i64 0, .int .i64 0, .int .i64 0, .int .i64 0, .slice none 0 0, .int .i64 0, .string ⟨#[]⟩, .int .i64 0, .int .i64 0], .pair I6 (.pair (.sl I6) (.pair (.pair I6 (.pair I6 (.pair I6 tT4))) (.pair (.str) (.pair I6 I6)))), true⟩
theorem tk32 : ti32.ok prog := ⟨underlying32, by kernel_rfl, fun _ => ⟨eqGuardType32, stoodInHeld32⟩⟩
def ti45 : TI := ⟨45, .slice 9, 1, 24, .slice none 0 0, .sl (.str), false⟩
theorem tk45 : ti45.ok prog := ⟨underlying45, by kernel_rfl, fun h => by cases h⟩
def ti46 : TI := ⟨46, .slice 106, 1, 24, .slice none 0 0, .sl (.pair (.str) tT5), false⟩
theorem tk46 : ti46.ok prog := ⟨underlying46, by kernel_rfl, fun h => by cases h⟩
def ti47 : TI := ⟨47, .slice 108, 1, 24, .slice none 0 0, .sl (.pair (.str) (.pair I6 I6)), false⟩
theorem tk47 : ti47.ok prog := ⟨underlying47, by kernel_rfl, fun h => by cases h⟩
def ti48 : TI := ⟨48, .slice 132, 1, 24, .slice none 0 0, .sl tT2, false⟩
theorem tk48 : ti48.ok prog := ⟨underlying48, by kernel_rfl, fun h => by cases h⟩
def ti50 : TI := ⟨50, .struct #[fd "Nodes" 45 0 "" 0, fd "Segments" 46 1 "" 24, fd "Ports" 47 2 "" 48, fd "Stations" 48 3 "" 72, fd "Vapour" 3 4 "" 96, fd "Settle" 3 5 "" 104], 6, 112, .agg #[.slice none 0 0, .slice none 0 0, .slice none 0 0, .slice none 0 0, .int .i64 0, .int .i64 0], .pair (.sl (.str)) (.pair (.sl (.pair (.str) tT5)) (.pair (.sl (.pair (.str) (.pair I6 I6))) (.pair (.sl tT2) (.pair I6 I6)))), true⟩
theorem tk50 : ti50.ok prog := ⟨underlying50, by kernel_rfl, fun _ => ⟨eqGuardType50, stoodInHeld50⟩⟩
def ti52 : TI := ⟨52, .slice 152, 1, 24, .slice none 0 0, .sl tT1, false⟩
theorem tk52 : ti52.ok prog := ⟨underlying52, by kernel_rfl, fun h => by cases h⟩
def ti53 : TI := ⟨53, .slice 4, 1, 24, .slice none 0 0, .sl (.bool), false⟩
theorem tk53 : ti53.ok prog := ⟨underlying53, by kernel_rfl, fun h => by cases h⟩
def ti55 : TI := ⟨55, .struct #[fd "Rates" 23 0 "" 0, fd "Ports" 23 1 "" 24, fd "Pumps" 53 2 "" 48], 3, 72, .agg #[.slice none 0 0, .slice none 0 0, .slice none 0 0], .pair (.sl I6) (.pair (.sl I6) (.sl (.bool))), true⟩
theorem tk55 : ti55.ok prog := ⟨underlying55, by kernel_rfl, fun _ => ⟨eqGuardType55, stoodInHeld55⟩⟩
def ti57 : TI := ⟨57, .struct #[fd "Valves" 52 0 "" 0, fd "Plan" 55 1 "" 24], 4, 96, .agg #[.slice none 0 0, .slice none 0 0, .slice none 0 0, .slice none 0 0], .pair (.sl tT1) tT6, true⟩
theorem tk57 : ti57.ok prog := ⟨underlying57, by kernel_rfl, fun _ => ⟨eqGuardType57, stoodInHeld57⟩⟩
def ti58 : TI := ⟨58, .slice 97, 1, 24, .slice none 0 0, .sl tT3, false⟩
theorem tk58 : ti58.ok prog := ⟨underlying58, by kernel_rfl, fun h => by cases h⟩
def ti59 : TI := ⟨59, .slice 110, 1, 24, .slice none 0 0, .sl tT2, false⟩
theorem tk59 : ti59.ok prog := ⟨underlying59, by kernel_rfl, fun h => by cases h⟩
def ti61 : TI := ⟨61, .struct #[fd "Desk" 57 0 "" 0, fd "Stations" 58 4 "" 96, fd "Accounts" 59 5 "" 120, fd "Count" 3 6 "" 144], 7, 152, .agg #[.slice none 0 0, .slice none 0 0, .slice none 0 0, .slice none 0 0, .slice none 0 0, .slice none 0 0, .int .i64 0], .pair (.pair (.sl tT1) tT6) (.pair (.sl tT3) (.pair (.sl tT2) I6)), true⟩
theorem tk61 : ti61.ok prog := ⟨underlying61, by kernel_rfl, fun _ => ⟨eqGuardType61, stoodInHeld61⟩⟩
def ti65 : TI := ⟨65, .struct #[fd "Bytes" 22 0 "" 0, fd "Pending" 22 1 "" 24], 2, 48, .agg #[.slice none 0 0, .slice none 0 0], .pair (.sl (.int .u8)) (.sl (.int .u8)), true⟩
theorem tk65 : ti65.ok prog := ⟨underlying65, by kernel_rfl, fun _ => ⟨eqGuardType65, stoodInHeld65⟩⟩
def ti81 : TI := ⟨81, .slice 28, 1, 24, .slice none 0 0, .sl (.pair I6 (.pair I6 (.pair I6 tT4))), false⟩
theorem tk81 : ti81.ok prog := ⟨underlying81, by kernel_rfl, fun h => by cases h⟩
def ti82 : TI := ⟨82, .slice 30, 1, 24, .slice none 0 0, .sl (.pair (.str) (.pair I6 I6)), false⟩
theorem tk82 : ti82.ok prog := ⟨underlying82, by kernel_rfl, fun h => by cases h⟩
def ti97 : TI := ⟨97, .struct #[fd "Station" 3 0 "" 0, fd "Epoch" 3 1 "" 8, fd "Seq" 3 2 "" 16, fd "Time" 3 3 "" 24, fd "Kind" 3 4 "" 32, fd "Values" 23 5 "" 40], 6, 64, .agg #[.int .i64 0, .int .i64 0, .int .i64 0, .int .i64 0, .int .i64 0, .slice none 0 0], .pair I6 (.pair I6 (.pair I6 (.pair I6 (.pair I6 (.sl I6))))), true⟩
theorem tk97 : ti97.ok prog := ⟨underlying97, by kernel_rfl, fun _ => ⟨eqGuardType97, stoodInHeld97⟩⟩
def ti103 : TI := ⟨103, .struct #[fd "At" 3 0 "" 0, fd "Height" 3 1 "" 8, fd "Limit" 3 2 "" 16], 3, 24, .agg #[.int .i64 0, .int .i64 0, .int .i64 0], .pair I6 (.pair I6 I6), true⟩
theorem tk103 : ti103.ok prog := ⟨underlying103, by kernel_rfl, fun _ => ⟨eqGuardType103, stoodInHeld103⟩⟩
def ti104 : TI := ⟨104, .slice 103, 1, 24, .slice none 0 0, .sl (.pair I6 (.pair I6 I6)), false⟩
theorem tk104 : ti104.ok prog := ⟨underlying104, by kernel_rfl, fun h => by cases h⟩
def ti106 : TI := ⟨106, .struct #[fd "Name" 9 0 "" 0, fd "From" 3 1 "" 16, fd "To" 3 2 "" 24, fd "Capacity" 3 3 "" 32, fd "Resist" 3 4 "" 40, fd "Wave" 3 5 "" 48, fd "Points" 104 6 "" 56], 7, 80, .agg #[.string ⟨#[]⟩, .int .i64 0, .int .i64 0, .int .i64 0, .int .i64 0, .int .i64 0, .slice none 0 0], .pair (.str) tT5, true⟩
theorem tk106 : ti106.ok prog := ⟨underlying106, by kernel_rfl, fun _ => ⟨eqGuardType106, stoodInHeld106⟩⟩
def ti108 : TI := ⟨108, .struct #[fd "Name" 9 0 "" 0, fd "Node" 3 1 "" 16, fd "Pressure" 3 2 "" 24], 3, 32, .agg #[.string ⟨#[]⟩, .int .i64 0, .int .i64 0], .pair (.str) (.pair I6 I6), true⟩
theorem tk108 : ti108.ok prog := ⟨underlying108, by kernel_rfl, fun _ => ⟨eqGuardType108, stoodInHeld108⟩⟩
def ti110 : TI := ⟨110, .struct #[fd "Shipper" 9 0 "" 0, fd "Received" 3 1 "" 16, fd "Delivered" 3 2 "" 24, fd "Slop" 3 3 "" 32, fd "Shared" 3 4 "" 40], 5, 48, .agg #[.string ⟨#[]⟩, .int .i64 0, .int .i64 0, .int .i64 0, .int .i64 0], .pair (.str) (.pair I6 (.pair I6 (.pair I6 I6))), true⟩
theorem tk110 : ti110.ok prog := ⟨underlying110, by kernel_rfl, fun _ => ⟨eqGuardType110, stoodInHeld110⟩⟩
def ti114 : TI := ⟨114, .struct #[fd "Segment" 3 0 "" 0, fd "Back" 4 1 "" 8], 2, 16, .agg #[.int .i64 0, .bool false], .pair I6 (.bool), true⟩
theorem tk114 : ti114.ok prog := ⟨underlying114, by kernel_rfl, fun _ => ⟨eqGuardType114, stoodInHeld114⟩⟩
def ti118 : TI := ⟨118, .struct #[fd "b" 22 0 "batchline/centre" 0, fd "at" 3 1 "batchline/centre" 24, fd "failed" 4 2 "batchline/centre" 32], 3, 40, .agg #[.slice none 0 0, .int .i64 0, .bool false], .pair (.sl (.int .u8)) (.pair I6 (.bool)), true⟩
theorem tk118 : ti118.ok prog := ⟨underlying118, by kernel_rfl, fun _ => ⟨eqGuardType118, stoodInHeld118⟩⟩
def ti128 : TI := ⟨128, .struct #[fd "L" 23 0 "" 0, fd "At" 3 1 "" 24], 2, 32, .agg #[.slice none 0 0, .int .i64 0], .pair (.sl I6) I6, true⟩
theorem tk128 : ti128.ok prog := ⟨underlying128, by kernel_rfl, fun _ => ⟨eqGuardType128, stoodInHeld128⟩⟩
def ti132 : TI := ⟨132, .struct #[fd "Name" 9 0 "" 0, fd "Node" 3 1 "" 16, fd "Head" 3 2 "" 24, fd "Fall" 3 3 "" 32, fd "Suction" 3 4 "" 40], 5, 48, .agg #[.string ⟨#[]⟩, .int .i64 0, .int .i64 0, .int .i64 0, .int .i64 0], .pair (.str) (.pair I6 (.pair I6 (.pair I6 I6))), true⟩
theorem tk132 : ti132.ok prog := ⟨underlying132, by kernel_rfl, fun _ => ⟨eqGuardType132, stoodInHeld132⟩⟩
def ti138 : TI := ⟨138, .slice 22, 1, 24, .slice none 0 0, .sl (.sl (.int .u8)), false⟩
theorem tk138 : ti138.ok prog := ⟨underlying138, by kernel_rfl, fun h => by cases h⟩
def ti148 : TI := ⟨148, .struct #[fd "Segments" 53 0 "" 0, fd "Ports" 53 1 "" 24], 2, 48, .agg #[.slice none 0 0, .slice none 0 0], .pair (.sl (.bool)) (.sl (.bool)), true⟩
theorem tk148 : ti148.ok prog := ⟨underlying148, by kernel_rfl, fun _ => ⟨eqGuardType148, stoodInHeld148⟩⟩
def ti152 : TI := ⟨152, .struct #[fd "Travel" 3 0 "" 0, fd "Open" 3 1 "" 8, fd "Want" 4 2 "" 16, fd "Stuck" 4 3 "" 17], 4, 24, .agg #[.int .i64 0, .int .i64 0, .bool false, .bool false], .pair I6 (.pair I6 (.pair (.bool) (.bool))), true⟩
theorem tk152 : ti152.ok prog := ⟨underlying152, by kernel_rfl, fun _ => ⟨eqGuardType152, stoodInHeld152⟩⟩
def ti155 : TI := ⟨155, .func #[50, 158, 32] #[34] false, 1, 8, .nilFunc, .fnl [76, 77, 78], false⟩
theorem tk155 : ti155.ok prog := ⟨underlying155, by kernel_rfl, fun h => by cases h⟩
def ti156 : TI := ⟨156, .map 3 155, 1, 8, .map none, .unit, false⟩
theorem tk156 : ti156.ok prog := ⟨underlying156, by kernel_rfl, fun h => by cases h⟩
def ti167 : TI := ⟨167, .int .u64, 1, 8, .int .u64 0, .int .u64, false⟩
theorem tk167 : ti167.ok prog := ⟨underlying167, by kernel_rfl, fun h => by cases h⟩
def ti168 : TI := ⟨168, .int .u64, 1, 8, .int .u64 0, .int .u64, false⟩
theorem tk168 : ti168.ok prog := ⟨underlying168, by kernel_rfl, fun h => by cases h⟩
def ti174 : TI := ⟨174, .slice 26, 1, 24, .slice none 0 0, .sl tT4, false⟩
theorem tk174 : ti174.ok prog := ⟨underlying174, by kernel_rfl, fun h => by cases h⟩
def ti183 : TI := ⟨183, .array 4 45, 4, 96, .agg #[.slice none 0 0, .slice none 0 0, .slice none 0 0, .slice none 0 0], .pair (.sl (.str)) (.pair (.sl (.str)) (.pair (.sl (.str)) (.sl (.str)))), false⟩
theorem tk183 : ti183.ok prog := ⟨underlying183, by kernel_rfl, fun h => by cases h⟩
def ti222 : TI := ⟨222, .func #[3] #[4] false, 1, 8, .nilFunc, .clo 245 (.pair (.sl tT1) tT6), false⟩
theorem tk222 : ti222.ok prog := ⟨underlying222, by kernel_rfl, fun h => by cases h⟩
def ti227 : TI := ⟨227, .func #[50, 228, 28] #[34] false, 1, 8, .nilFunc, .unit, false⟩
theorem tk227 : ti227.ok prog := ⟨underlying227, by kernel_rfl, fun h => by cases h⟩
def ti245 : TI := ⟨245, .int .u32, 1, 4, .int .u32 0, .int .u32, false⟩
theorem tk245 : ti245.ok prog := ⟨underlying245, by kernel_rfl, fun h => by cases h⟩
def ti257 : TI := ⟨257, .array 7 227, 7, 56, .agg #[.nilFunc, .nilFunc, .nilFunc, .nilFunc, .nilFunc, .nilFunc, .nilFunc], .unit, false⟩
theorem tk257 : ti257.ok prog := ⟨underlying257, by kernel_rfl, fun h => by cases h⟩
def ti266 : TI := ⟨266, .array 24 3, 24, 192, .agg #[.int .i64 0, .int .i64 0, .int .i64 0, .int .i64 0, .int .i64 0, .int .i64 0, .int .i64 0, .int .i64 0, .int .i64 0, .int .i64 0, .int .i64 0, .int .i64 0, .int .i64 0, .int .i64 0, .int .i64 0, .int .i64 0, .int .i64 0, .int .i64 0, .int .i64 0, .int .i64 0, .int .i64 0, .int .i64 0, .int .i64 0, .int .i64 0], .arr 24 I6, true⟩
theorem tk266 : ti266.ok prog := ⟨underlying266, by kernel_rfl, fun _ => ⟨by kernel_rfl, by kernel_rfl⟩⟩
def ti268 : TI := ⟨268, .struct #[fd "come" 266 0 "batchline/flow" 0, fd "leave" 266 24 "batchline/flow" 192], 48, 384, .agg #[.int .i64 0, .int .i64 0, .int .i64 0, .int .i64 0, .int .i64 0, .int .i64 0, .int .i64 0, .int .i64 0, .int .i64 0, .int .i64 0, .int .i64 0, .int .i64 0, .int .i64 0, .int .i64 0, .int .i64 0, .int .i64 0, .int .i64 0, .int .i64 0, .int .i64 0, .int .i64 0, .int .i64 0, .int .i64 0, .int .i64 0, .int .i64 0, .int .i64 0, .int .i64 0, .int .i64 0, .int .i64 0, .int .i64 0, .int .i64 0, .int .i64 0, .int .i64 0, .int .i64 0, .int .i64 0, .int .i64 0, .int .i64 0, .int .i64 0, .int .i64 0, .int .i64 0, .int .i64 0, .int .i64 0, .int .i64 0, .int .i64 0, .int .i64 0, .int .i64 0, .int .i64 0, .int .i64 0, .int .i64 0], .pair (.arr 24 I6) (.arr 24 I6), true⟩
theorem tk268 : ti268.ok prog := ⟨underlying268, by kernel_rfl, fun _ => ⟨eqGuardType268, stoodInHeld268⟩⟩
def types : List TI := [ti3, ti4, ti5, ti9, ti22, ti23, ti24, ti26, ti28, ti30, ti32, ti45, ti46, ti47, ti48, ti50, ti52, ti53, ti55, ti57, ti58, ti59, ti61, ti65, ti81, ti82, ti97, ti103, ti104, ti106, ti108, ti110, ti114, ti118, ti128, ti132, ti138, ti148, ti152, ti155, ti156, ti167, ti168, ti174, ti183, ti222, ti227, ti245, ti257, ti266, ti268]
theorem qxf : Tys prog types := ⟨tk3, tk4, tk5, tk9, tk22, tk23, tk24, tk26, tk28, tk30, tk32, tk45, tk46, tk47, tk48, tk50, tk52, tk53, tk55, tk57, tk58, tk59, tk61, tk65, tk81, tk82, tk97, tk103, tk104, tk106, tk108, tk110, tk114, tk118, tk128, tk132, tk138, tk148, tk152, tk155, tk156, tk167, tk168, tk174, tk183, tk222, tk227, tk245, tk257, tk266, tk268, trivial⟩
def xt251 : Ext := qyc 251
theorem xk251 : ExtOk prog xt251 := qv2 func251 (by kernel_rfl) (by kernel_rfl) (by kernel_rfl) (by kernel_rfl)
theorem mx : prog.follows .mixedOrders = true := by kernel_rfl
abbrev kk : Sh := .one .keep
abbrev ii : Sh := .one (.data (.int .i64))
abbrev bb : Sh := .one (.data .bool)
abbrev ss : Sh := .one (.data .str)
abbrev nn (r : Plan) : Plan := .mk [] none .nil r
abbrev mm (l r : Plan) : Plan := .mk [] none l r
abbrev kp (n : Nat) : List Sh1 := List.replicate n .keep
theorem fi {e : Fun} {fn : Func} {c : Code} (ow : List Nat) (fs : List Fun) (N : Nat) (xs : List Ext) (p : Plan) (hf : Tryz.prog.funcs[e.f]? = some fn) (hfs : CxOk Tryz.prog ⟨types, ow, fs, N, xs⟩) (hb : fn.body = some c := by exact rfl) (hname : (fn.name == "runtime.NumGoroutine") = false := by kernel_rfl) (hN : fn.ntmps = N := by exact rfl) (hnp : Nat.ble e.np N = true := by exact rfl) (hnr : fn.results.toList.length = e.nr := by exact rfl) (hregs : e.ji.regs.all (fun q => Nat.blt q.1 e.np) = true := by exact rfl) (h : ∀ x, e.tw x = evFun ⟨types, ow, fs, N, xs⟩ e.ji e.jo fn.results.toList c p x := by intro x; kernel_rfl) : FunOk Tryz.prog e :=
 FunOk.intro (C := ⟨types, ow, fs, N, xs⟩) hf hb hname hN hnp hnr hregs qxf hfs mx h
abbrev v0_ : List (Nat × TypeId × List Sh1) := [(48, 50, (kp 6)), (64, 55, [.keep, .keep, .keep])]
abbrev a1_ : List (Nat × ObSh) := [(1, .arr 152 tT1), (2, .arr 3 I6), (3, .arr 3 I6), (4, .arr 4 (.bool))]
abbrev v2_ : List (Nat × TypeId × List Sh1) := [(0, 128, [.data (.sl I6), .data I6]), (64, 50, (kp 6)), (80, 55, [.keep, .keep, .keep]), (96, 55, [.own 416, .own 480, .own 1593])]
abbrev v3_ : List (Nat × TypeId × List Sh1) := [(0, 128, [.data (.sl I6), .data I6])]
abbrev v4_ : List (Nat × TypeId × List Sh1) := [(0, 128, [.keep, .keep]), (64, 50, (kp 6)), (80, 55, [.keep, .keep, .keep]), (96, 55, [.own 416, .own 480, .own 1593])]
abbrev a5_ : List (Nat × ObSh) := [(1049, .arr 9 (.str)), (1065, .arr 106 (.pair (.str) tT5)), (1081, .arr 108 (.pair (.str) (.pair I6 I6))), (1097, .arr 132 tT2)]
abbrev v6_ : List (Nat × TypeId × List Sh1) := [(0, 57, [.own 1, .own 2, .own 3, .own 4])]
abbrev v7_ : List (Nat × TypeId × List Sh1) := [(32, 50, (kp 6))]
abbrev a8_ : List (Nat × ObSh) := [(1, .arr 152 tT1), (2, .arr 3 I6), (3, .arr 3 I6), (4, .arr 4 (.bool)), (5, .arr 97 tT3), (6, .arr 110 tT2)]
abbrev v9_ : List (Nat × TypeId × List Sh1) := [(0, 128, [.data (.sl I6), .data I6]), (48, 50, (kp 6)), (64, 50, [.own 1049, .own 1065, .own 1081, .own 1097, .keep, .keep])]
abbrev a10_ : List (Nat × ObSh) := [(219, .arr 3 I6), (416, .arr 3 I6), (480, .arr 3 I6), (1593, .arr 4 (.bool))]
abbrev a11_ : List (Nat × ObSh) := [(171, .arr 28 (.pair I6 (.pair I6 (.pair I6 tT4)))), (187, .arr 30 (.pair (.str) (.pair I6 I6)))]
abbrev v12_ : List (Nat × TypeId × List Sh1) := [(0, 128, [.data (.sl I6), .data I6]), (48, 50, (kp 6)), (64, 50, [.own 1049, .own 1065, .keep, .keep, .keep, .keep])]
abbrev a13_ : List (Nat × ObSh) := [(432, .arr 114 (.pair I6 (.bool))), (656, .arr 152 tT1), (657, .arr 3 I6), (658, .arr 3 I6), (659, .arr 4 (.bool))]
abbrev v14_ : List (Nat × TypeId × List Sh1) := [(80, 50, (kp 6)), (144, 26, [.data I6, .data I6, .data (.sl (.pair I6 (.bool))), .data I6]), (176, 26, [.keep, .data I6, .own 2873, .data I6])]
abbrev a15_ : List (Nat × ObSh) := [(416, .arr 3 I6), (480, .arr 3 I6), (1593, .arr 4 (.bool))]
abbrev r16_ : List (Nat × Sh) := [(0, dd tT0), (1, pt 0 0), (2, dd (.pair I6 (.pair (.sl I6) (.pair (.pair I6 (.pair I6 (.pair I6 tT4))) (.pair (.str) (.pair I6 I6))))))]
abbrev v17_ : List (Nat × TypeId × List Sh1) := [(432, 128, [.data (.sl I6), .data I6]), (80, 50, (kp 6)), (96, 61, [.data (.sl tT1), .data (.sl I6), .data (.sl I6), .data (.sl (.bool)), .data (.sl tT3), .data (.sl tT2), .data I6]), (128, 57, (kp 4))]
abbrev a18_ : List (Nat × ObSh) := [(80, .one 268 (.pair (.arr 24 I6) (.arr 24 I6))), (96, .one 268 (.pair (.arr 24 I6) (.arr 24 I6)))]
abbrev v19_ : List (Nat × TypeId × List Sh1) := [(64, 50, (kp 6)), (80, 57, (kp 4)), (96, 28, (kp 7)), (112, 57, (kp 4)), (144, 26, [.keep, .keep, .own 432, .keep]), (160, 57, [.own 656, .own 657, .own 658, .own 659]), (192, 114, [.keep, .keep])]
abbrev a20_ : List (Nat × ObSh) := [(219, .arr 3 I6), (283, .arr 3 I6), (416, .arr 3 I6), (480, .arr 3 I6), (1593, .arr 4 (.bool))]
abbrev v21_ : List (Nat × TypeId × List Sh1) := [(0, 128, [.data (.sl I6), .data I6]), (144, 106, (kp 7)), (160, 106, [.keep, .keep, .keep, .keep, .keep, .keep, .own 2681])]
abbrev v22_ : List (Nat × TypeId × List Sh1) := [(48, 32, (kp 12)), (192, 118, [.data (.sl (.int .u8)), .data I6, .data (.bool)]), (96, 32, [.keep, .own 1577, .keep, .keep, .keep, .keep, .keep, .own 1673, .keep, .keep, .keep, .keep])]
abbrev a23_ : List (Nat × ObSh) := [(107, .arr 3 I6), (288, .arr 4 (.bool))]
abbrev a24_ : List (Nat × ObSh) := [(400, .arr 3 I6), (464, .arr 3 I6), (171, .arr 26 tT4), (736, .arr 114 (.pair I6 (.bool)))]
abbrev v25_ : List (Nat × TypeId × List Sh1) := [(48, 32, (kp 12)), (192, 118, [.data (.sl (.int .u8)), .data I6, .data (.bool)]), (96, 32, [.keep, .own 1577, .keep, .keep, .keep, .keep, .keep, .keep, .keep, .keep, .keep, .keep])]
abbrev r26_ : List (Nat × Sh) := [(0, dd tT0), (1, pt 0 0), (2, dd (.pair I6 (.pair I6 (.pair I6 tT4))))]
abbrev r27_ : List (Nat × Sh) := [(0, dd tT0), (1, dd (.pair (.sl tT1) tT6)), (2, dd (.pair I6 (.pair I6 (.pair I6 tT4))))]
abbrev v28_ : List (Nat × TypeId × List Sh1) := [(64, 50, (kp 6)), (80, 55, [.keep, .keep, .keep])]
abbrev r29_ : List (Nat × Sh) := [(0, dd (.pair (.sl (.int .u8)) (.sl (.int .u8))))]
abbrev v30_ : List (Nat × TypeId × List Sh1) := [(32, 50, (kp 6)), (48, 183, (kp 4)), (64, 183, [.keep, .own 1065, .own 1081, .keep])]
abbrev a31_ : List (Nat × ObSh) := [(7, .arr 152 tT1), (8, .arr 3 I6), (9, .arr 3 I6), (10, .arr 4 (.bool)), (11, .arr 97 tT3), (12, .arr 110 tT2)]
abbrev v32_ : List (Nat × TypeId × List Sh1) := [(32, 50, (kp 6)), (48, 183, (kp 4)), (64, 183, [.keep, .own 1065, .keep, .keep])]
abbrev r33_ : List (Nat × Sh) := [(0, kk), (1, kk), (7, kk), (8, ii)]
abbrev r34_ : List (Nat × Sh) := [(2, pt 48 0), (3, pt 64 0)]
abbrev v35_ : List (Nat × TypeId × List Sh1) := [(64, 50, (kp 6)), (80, 57, (kp 4)), (96, 28, (kp 7)), (112, 57, (kp 4))]
abbrev v36_ : List (Nat × TypeId × List Sh1) := [(48, 183, (kp 4)), (64, 183, [.keep, .own 1065, .own 1081, .own 1097])]
abbrev a37_ : List (Nat × ObSh) := [(1065, .arr 9 (.str)), (1081, .arr 9 (.str)), (1097, .arr 9 (.str))]
abbrev r38_ : List (Nat × Sh) := [(0, dd (.pair (.sl (.int .u8)) (.sl (.int .u8)))), (1, dd (.pair (.pair (.sl tT1) tT6) (.pair (.sl tT3) (.pair (.sl tT2) I6)))), (2, ii)]
abbrev r39_ : List (Nat × Sh) := [(2, pt 48 0), (3, pt 64 0), (5, ow 107), (6, ow 288), (7, kk), (8, kk), (9, bb), (20, kk), (21, kk), (30, kk), (31, kk), (32, kk)]
abbrev r40_ : List (Nat × Sh) := [(1, pt 32 0), (2, pt 48 0), (3, pt 64 0)]
abbrev v41_ : List (Nat × TypeId × List Sh1) := [(48, 50, (kp 6)), (64, 57, (kp 4))]
abbrev v42_ : List (Nat × TypeId × List Sh1) := [(48, 50, (kp 6)), (192, 26, [.keep, .keep, .own 736, .keep])]
abbrev a43_ : List (Nat × ObSh) := [(107, .arr 3 I6), (256, .arr 4 (.bool))]
abbrev v44_ : List (Nat × TypeId × List Sh1) := [(0, 57, [.own 1, .own 2, .own 3, .own 4]), (96, 28, (kp 7))]
abbrev v45_ : List (Nat × TypeId × List Sh1) := [(0, 118, [.data (.sl (.int .u8)), .data I6, .data (.bool)])]
abbrev r46_ : List (Nat × Sh) := [(0, dd (.pair (.sl tT1) tT6)), (1, ii)]
abbrev a47_ : List (Nat × ObSh) := [(1049, .arr 9 (.str)), (1065, .arr 106 (.pair (.str) tT5))]
abbrev r48_ : List (Nat × Sh) := [(0, dd tT0), (1, dd tT6)]
abbrev v49_ : List (Nat × TypeId × List Sh1) := [(64, 30, [.keep, .keep, .keep])]
abbrev r50_ : List (Nat × Sh) := [(0, dd (.pair I6 (.pair (.sl I6) (.pair (.pair I6 (.pair I6 (.pair I6 tT4))) (.pair (.str) (.pair I6 I6))))))]
abbrev a51_ : List (Nat × ObSh) := [(2873, .arr 114 (.pair I6 (.bool)))]
abbrev a52_ : List (Nat × ObSh) := [(0, .arr 152 tT1), (1, .arr 3 I6), (2, .arr 3 I6), (3, .arr 4 (.bool))]
abbrev v53_ : List (Nat × TypeId × List Sh1) := [(0, 61, [.own 7, .own 8, .own 9, .own 10, .own 11, .own 12, .data I6])]
abbrev v54_ : List (Nat × TypeId × List Sh1) := [(48, 50, (kp 6)), (64, 26, (kp 4))]
abbrev v55_ : List (Nat × TypeId × List Sh1) := [(32, 55, [.keep, .keep, .keep]), (48, 55, [.keep, .keep, .keep]), (64, 55, [.own 1049, .keep, .own 160])]
abbrev v56_ : List (Nat × TypeId × List Sh1) := [(0, 61, [.own 1, .own 2, .own 3, .own 4, .own 5, .own 6, .data I6])]
abbrev v57_ : List (Nat × TypeId × List Sh1) := [(0, 128, [.keep, .keep]), (48, 50, (kp 6)), (64, 50, [.own 1049, .keep, .keep, .keep, .keep, .keep])]
abbrev r58_ : List (Nat × Sh) := [(0, ii), (1, ii)]
abbrev r59_ : List (Nat × Sh) := [(0, dd (.sl (.pair (.str) (.pair I6 I6)))), (1, .one (.fn [.pair (.str) (.pair I6 I6)] (.bool)))]
abbrev a60_ : List (Nat × ObSh) := [(0, .one 268 (.pair (.arr 24 I6) (.arr 24 I6)))]
abbrev v61_ : List (Nat × TypeId × List Sh1) := [(32, 61, [.own 128, .own 129, .own 130, .own 131, .own 176, .own 224, .keep]), (48, 61, (kp 7))]
abbrev r62_ : List (Nat × Sh) := [(0, dd (.sl tT2)), (1, .one (.fn [.pair (.str) (.pair I6 (.pair I6 (.pair I6 I6)))] (.bool)))]
abbrev a63_ : List (Nat × ObSh) := [(1065, .arr 9 (.str)), (1081, .arr 9 (.str))]
abbrev r64_ : List (Nat × Sh) := [(0, dd (.pair I6 (.pair I6 (.pair I6 tT4))))]
abbrev v65_ : List (Nat × TypeId × List Sh1) := [(32, 55, [.keep, .keep, .keep]), (48, 148, [.keep, .keep]), (64, 148, [.own 1049, .keep])]
abbrev r66_ : List (Nat × Sh) := [(0, dd (.sl tT1)), (1, .one (.fn [.pair I6 (.pair I6 (.pair (.bool) (.bool)))] (.bool)))]
abbrev r67_ : List (Nat × Sh) := [(0, dd (.pair (.sl (.int .u8)) (.sl (.int .u8)))), (1, ii)]
abbrev a68_ : List (Nat × ObSh) := [(107, .arr 30 (.pair (.str) (.pair I6 I6)))]
abbrev r69_ : List (Nat × Sh) := [(0, dd tT1), (1, ii)]
abbrev r70_ : List (Nat × Sh) := [(0, dd (.pair (.pair (.sl tT1) tT6) (.pair (.sl tT3) (.pair (.sl tT2) I6)))), (1, ii)]
abbrev r71_ : List (Nat × Sh) := [(1, pt 32 0), (3, pt 64 0), (4, kk), (27, kk), (28, bb)]
abbrev r72_ : List (Nat × Sh) := [(0, dd (.pair (.sl (.str)) (.pair (.sl (.str)) (.pair (.sl (.str)) (.sl (.str))))))]
abbrev v73_ : List (Nat × TypeId × List Sh1) := [(0, 61, [.own 1, .own 2, .own 3, .own 4, .own 5, .own 6, .keep]), (96, 32, (kp 12))]
abbrev r74_ : List (Nat × Sh) := [(0, dd (.int .u64)), (1, dd (.int .u64))]
abbrev a75_ : List (Nat × ObSh) := [(1577, .arr 3 I6), (1673, .arr 114 (.pair I6 (.bool)))]
abbrev a76_ : List (Nat × ObSh) := [(400, .arr 3 I6), (464, .arr 3 I6), (171, .arr 26 tT4)]
abbrev v77_ : List (Nat × TypeId × List Sh1) := [(112, 57, [.data (.sl tT1), .data (.sl I6), .data (.sl I6), .data (.sl (.bool))])]
abbrev v78_ : List (Nat × TypeId × List Sh1) := [(48, 152, [.keep, .data I6, .keep, .keep]), (80, 152, (kp 4)), (96, 152, (kp 4))]
abbrev v79_ : List (Nat × TypeId × List Sh1) := [(48, 152, [.data I6, .data I6, .data (.bool), .data (.bool)]), (80, 152, (kp 4))]
abbrev a80_ : List (Nat × ObSh) := [(2073, .arr 152 tT1), (416, .arr 3 I6), (480, .arr 3 I6), (544, .arr 4 (.bool))]
abbrev r81_ : List (Nat × Sh) := [(1, pt 32 0), (4, kk), (5, bb)]
abbrev a82_ : List (Nat × ObSh) := [(960, .arr 152 tT1), (961, .arr 3 I6), (962, .arr 3 I6), (963, .arr 4 (.bool))]
abbrev v83_ : List (Nat × TypeId × List Sh1) := [(0, 57, [.own 1, .own 2, .own 3, .own 4]), (64, 50, (kp 6)), (96, 28, (kp 7))]
abbrev r84_ : List (Nat × Sh) := [(0, dd (.sl (.pair (.str) tT5))), (1, .one (.fn [.pair (.str) tT5] (.bool)))]
abbrev r85_ : List (Nat × Sh) := [(0, dd (.sl (.int .u8)))]
abbrev r86_ : List (Nat × Sh) := [(0, dd (.sl (.pair I6 (.bool)))), (1, .one (.fn [.pair I6 (.bool)] (.bool)))]
abbrev v87_ : List (Nat × TypeId × List Sh1) := [(32, 50, (kp 6)), (96, 183, (kp 4))]
abbrev r88_ : List (Nat × Sh) := [(0, pt 0 0), (3, pt 64 0), (4, pt 80 0), (5, pt 96 0), (7, kk), (8, kk)]
abbrev r89_ : List (Nat × Sh) := [(1, pt 32 0), (2, pt 48 0), (3, pt 64 0), (14, kk), (15, kk), (16, ii)]
abbrev r90_ : List (Nat × Sh) := [(1, pt 32 0), (2, pt 48 0), (3, pt 64 0), (29, kk), (30, kk), (31, ii)]
abbrev v91_ : List (Nat × TypeId × List Sh1) := [(32, 28, (kp 7)), (64, 26, (kp 4))]
abbrev r92_ : List (Nat × Sh) := [(0, dd (.pair (.str) tT5))]
abbrev r93_ : List (Nat × Sh) := [(0, dd tT0), (1, dd tT6), (2, ii)]
abbrev r94_ : List (Nat × Sh) := [(2, pt 48 0), (4, pt 80 0)]
abbrev r95_ : List (Nat × Sh) := [(5, dd (.int .u64)), (6, ow 123)]
abbrev v96_ : List (Nat × TypeId × List Sh1) := [(32, 106, (kp 7))]
abbrev v97_ : List (Nat × TypeId × List Sh1) := [(32, 30, [.keep, .keep, .keep])]
abbrev a98_ : List (Nat × ObSh) := [(2681, .arr 103 (.pair I6 (.pair I6 I6)))]
abbrev r99_ : List (Nat × Sh) := [(0, dd (.sl I6))]
abbrev r100_ : List (Nat × Sh) := [(2, pt 48 0), (3, pt 64 0), (5, ow 107), (6, ow 256), (7, ii)]
abbrev r101_ : List (Nat × Sh) := [(2, pt 48 0), (3, pt 64 0), (5, ow 107), (6, ow 256), (7, kk)]
abbrev a102_ : List (Nat × ObSh) := [(139, .arr 3 I6)]
abbrev r103_ : List (Nat × Sh) := [(2, pt 48 0), (7, ow 400), (8, ow 464), (9, ow 171), (10, kk)]
abbrev v104_ : List (Nat × TypeId × List Sh1) := [(32, 152, [.keep, .data I6, .keep, .keep]), (48, 152, (kp 4))]
abbrev v105_ : List (Nat × TypeId × List Sh1) := [(32, 32, (kp 12)), (91, 22, [.own 1481]), (128, 26, (kp 4))]
abbrev a106_ : List (Nat × ObSh) := [(1049, .arr 3 I6), (1065, .arr 3 I6), (160, .arr 4 (.bool))]
abbrev r107_ : List (Nat × Sh) := [(0, pt 0 0), (2, pt 48 0), (3, pt 64 0), (5, kk), (9, kk)]
abbrev r108_ : List (Nat × Sh) := [(2, pt 48 0), (3, pt 64 0), (44, kk), (45, kk), (46, ii)]
abbrev r109_ : List (Nat × Sh) := [(0, dd (.pair (.str) (.pair I6 I6)))]
abbrev r110_ : List (Nat × Sh) := [(0, dd (.sl tT2)), (1, dd (.pair (.str) (.pair I6 I6)))]
abbrev r111_ : List (Nat × Sh) := [(2, pt 48 0), (3, pt 64 0), (5, ii)]
abbrev r112_ : List (Nat × Sh) := [(0, dd (.sl I6)), (1, .one (.fn [.int .i64] (.bool)))]
abbrev r113_ : List (Nat × Sh) := [(0, kk), (1, kk), (2, kk), (8, kk), (9, ii), (10, ii)]
abbrev r114_ : List (Nat × Sh) := [(0, dd (.sl (.str))), (1, .one (.fn [.str] (.bool)))]
abbrev a115_ : List (Nat × ObSh) := [(1481, .arr 5 (.int .u8))]
abbrev r116_ : List (Nat × Sh) := [(0, kk), (1, kk), (5, ii)]
abbrev v117_ : List (Nat × TypeId × List Sh1) := [(48, 57, (kp 4)), (64, 28, (kp 7)), (80, 57, (kp 4))]
abbrev r118_ : List (Nat × Sh) := [(0, dd (.sl (.int .u8))), (1, ii)]
abbrev a119_ : List (Nat × ObSh) := [(139, .arr 110 tT2)]
abbrev r120_ : List (Nat × Sh) := [(0, dd tT0), (1, dd tT4)]
abbrev a121_ : List (Nat × ObSh) := [(123, .arr 5 (.int .u8))]
abbrev a122_ : List (Nat × ObSh) := [(75, .arr 3 I6)]
abbrev a123_ : List (Nat × ObSh) := [(0, .arr 5 (.int .u8))]
abbrev a124_ : List (Nat × ObSh) := [(91, .arr 22 (.sl (.int .u8)))]
abbrev r125_ : List (Nat × Sh) := [(0, kk), (6, kk), (7, ow 139)]
abbrev a126_ : List (Nat × ObSh) := [(1065, .arr 9 (.str))]
abbrev r127_ : List (Nat × Sh) := [(0, pt 0 0), (1, ii)]
abbrev a128_ : List (Nat × ObSh) := [(0, .arr 4 (.bool))]
def qm4 (l : List Int) : Option (Bool) :=
 some (decide ((l.length : Int) ≤ 400))
def qlW : Fun :=
 ⟨15, 1, 1,
 ⟨r99_, [], []⟩,
 ⟨[(0, bb)], [], []⟩,
 fun x => qm4 x⟩
theorem qqU : FO qlW := fi [] [] 6 [] .nil func15 ⟨trivial, trivial⟩
def qad (s : List yT0) (f : yT0 × Unit → Option Bool) (v : Int) : Option (Int ⊕ (Unit ⊕ Int)) :=
 bif decide (v < (s.length : Int)) then (
 gd (inB v s.length) <|
 (f (s.getD v.toNat ([], (0, (0, (0, (0, (0, [])))))), ())).bind fun r =>
 bif r then (
 some (.inr (.inr v)))
 else (
 some (.inl (wi64 (v + 1)))))
 else (
 some (.inr (.inl ())))
def qaB (s : List yT0) (f : yT0 × Unit → Option Bool) : Option (Int) :=
 (iter (fun x => qad s f x) 0).bind fun s2 =>
 s2.elim (fun s3 =>
 some (-1))
 (fun s4 =>
 some s4)
def qbc : Fun :=
 ⟨224, 2, 1,
 ⟨r84_, [], []⟩,
 ⟨[(0, ii)], [], []⟩,
 fun x => qaB x.1 x.2⟩
theorem qcy : FO qbc := fi [] [] 19 [] ((nn (mm (nn (mm (.mk [] (some (⟨r33_, [], []⟩, [⟨.x 0, ⟨[], [], []⟩⟩, ⟨.r, ⟨[(4, ii)], [], []⟩⟩])) .nil .nil) .nil)) .nil))) func224 ⟨trivial, trivial⟩
def qak (s : List yT0) (f : yT0 × Unit → Option Bool) : Option (Bool) :=
 (qaB s f).bind fun r =>
 some (decide (0 ≤ r))
def qaF : Fun :=
 ⟨183, 2, 1,
 ⟨r84_, [], []⟩,
 ⟨[(0, bb)], [], []⟩,
 fun x => qak x.1 x.2⟩
theorem qa8 : FO qaF := fi [] [qbc] 9 [] .nil func183 ⟨⟨qcy, trivial⟩, trivial⟩
def qfy (s : yB9) : Option (Bool) :=
 bif decide ((s.2.2.2.2.2.2.length : Int) < 2) then (
 some true)
 else (
 some (decide (8 < (s.2.2.2.2.2.2.length : Int))))
def qf9 : Fun :=
 ⟨184, 1, 1,
 ⟨r92_, [], []⟩,
 ⟨[(0, bb)], [], []⟩,
 fun x => qfy x⟩
theorem qli : FO qf9 := fi [] [] 13 [] .nil func184 ⟨trivial, trivial⟩
def qdu (n : yB0) : Option (Bool) :=
 Option.bind (α := Bool) (
 bif decide ((n.1.length : Int) < 1) then (
 some true)
 else (
 bif decide (24 < (n.1.length : Int)) then (
 some true)
 else (
 bif decide (32 < (n.2.1.length : Int)) then (
 some true)
 else (
 bif decide (24 < (n.2.2.1.length : Int)) then (
 some true)
 else (
 some (decide (12 < (n.2.2.2.1.length : Int)))))))) fun s =>
 bif s then (
 some false)
 else (
 (qak n.2.1 (fun h => (qfy h.1).bind fun y => some y)).bind fun r =>
 some (!r))
def qht : Fun :=
 ⟨144, 1, 1,
 ⟨[(0, dd tT0)], [], []⟩,
 ⟨[(0, bb)], [], []⟩,
 fun x => qdu x⟩
theorem qm5 : FO qht := fi [] [qaF, qf9] 35 [] ((nn (mm (mm (.mk [.join [⟨.n, ⟨[(1, pt 32 0), (30, bb)], v7_, []⟩⟩]] none .nil .nil) .nil) .nil))) func144 ⟨⟨qa8, qli, trivial⟩, trivial⟩
def qdN (n : yB0) (v : Int) (out : List (List UInt8)) : Option ((Int × List (List UInt8)) ⊕ (List (List UInt8))) :=
 bif decide (v < (n.2.1.length : Int)) then (
 gd (inB v n.2.1.length) <|
 gd (fits (out.length + 1) 16) <|
 some (.inl (wi64 (v + 1), out ++ [(n.2.1.getD v.toNat ([], (0, (0, (0, (0, (0, []))))))).1])))
 else (
 some (.inr out))
def qdO (n : yB0) (v2 : Int) (out2 : List (List UInt8)) (out3 : List (List UInt8)) : Option ((Int × List (List UInt8) × List (List UInt8)) ⊕ (List (List UInt8) × List (List UInt8))) :=
 bif decide (v2 < (n.2.2.1.length : Int)) then (
 gd (inB v2 n.2.2.1.length) <|
 gd (fits (out3.length + 1) 16) <|
 some (.inl (wi64 (v2 + 1), out2, out3 ++ [(n.2.2.1.getD v2.toNat ([], (0, 0))).1])))
 else (
 some (.inr (out2, out3)))
def qdP (n : yB0) (v3 : Int) (out4 : List (List UInt8)) (out5 : List (List UInt8)) (out6 : List (List UInt8)) : Option ((Int × List (List UInt8) × List (List UInt8) × List (List UInt8)) ⊕ (List (List UInt8) × List (List UInt8) × List (List UInt8))) :=
 bif decide (v3 < (n.2.2.2.1.length : Int)) then (
 gd (inB v3 n.2.2.2.1.length) <|
 gd (fits (out6.length + 1) 16) <|
 some (.inl (wi64 (v3 + 1), out4, out5, out6 ++ [(n.2.2.2.1.getD v3.toNat ([], (0, (0, (0, 0))))).1])))
 else (
 some (.inr (out4, out5, out6)))
def qbE (n : yB0) : Option yB10 :=
 (iter (fun x => qdN n x.1 x.2) (0, [])).bind fun s =>
 (iter (fun x2 => qdO n x2.1 x2.2.1 x2.2.2) (0, s, [])).bind fun s2 =>
 (iter (fun x3 => qdP n x3.1 x3.2.1 x3.2.2.1 x3.2.2.2) (0, s2.1, s2.2, [])).bind fun s3 =>
 some (n.1, (s3.1, (s3.2.1, s3.2.2)))
def qfz : Fun :=
 ⟨145, 1, 1,
 ⟨[(0, dd tT0)], [], []⟩,
 ⟨r72_, [], []⟩,
 fun x => qbE x⟩
theorem qiJ : FO qfz := fi [] [] 59 [] ((nn (nn (nn (mm (nn (mm (.mk [] (some (⟨r89_, v32_, a126_⟩, [⟨.x 0, ⟨r40_, v32_, a126_⟩⟩])) .nil .nil) .nil)) (mm (nn (mm (.mk [] (some (⟨r90_, v30_, a63_⟩, [⟨.x 2, ⟨r40_, v30_, a63_⟩⟩])) .nil .nil) .nil)) (mm (nn (mm (.mk [] (some (⟨r108_, v36_, a37_⟩, [⟨.x 4, ⟨r34_, v36_, a37_⟩⟩])) .nil .nil) .nil)) .nil))))))) func145 ⟨trivial, trivial⟩
def qav (s : List (List UInt8)) (f : List UInt8 × Unit → Option Bool) (v : Int) : Option (Int ⊕ (Unit ⊕ Int)) :=
 bif decide (v < (s.length : Int)) then (
 gd (inB v s.length) <|
 (f (s.getD v.toNat [], ())).bind fun r =>
 bif r then (
 some (.inr (.inr v)))
 else (
 some (.inl (wi64 (v + 1)))))
 else (
 some (.inr (.inl ())))
def qa5 (s : List (List UInt8)) (f : List UInt8 × Unit → Option Bool) : Option (Int) :=
 (iter (fun x => qav s f x) 0).bind fun s2 =>
 s2.elim (fun s3 =>
 some (-1))
 (fun s4 =>
 some s4)
def qca : Fun :=
 ⟨185, 2, 1,
 ⟨r114_, [], []⟩,
 ⟨[(0, ii)], [], []⟩,
 fun x => qa5 x.1 x.2⟩
theorem qem : FO qca := fi [] [] 19 [] ((nn (mm (nn (mm (.mk [] (some (⟨r33_, [], []⟩, [⟨.x 0, ⟨[], [], []⟩⟩, ⟨.r, ⟨[(4, ii)], [], []⟩⟩])) .nil .nil) .nil)) .nil))) func185 ⟨trivial, trivial⟩
def qaw (s : List (List UInt8)) (f : List UInt8 × Unit → Option Bool) : Option (Bool) :=
 (qa5 s f).bind fun r =>
 some (decide (0 ≤ r))
def qbL : Fun :=
 ⟨146, 2, 1,
 ⟨r114_, [], []⟩,
 ⟨[(0, bb)], [], []⟩,
 fun x => qaw x.1 x.2⟩
theorem qdv : FO qbL := fi [] [qca] 9 [] .nil func146 ⟨⟨qem, trivial⟩, trivial⟩
def qd6 (c : Int) : Option (Int) :=
 Option.bind (α := Unit ⊕ Unit ⊕ Int) (
 Option.bind (α := Bool) (
 bif decide (97 ≤ c) then (
 some (decide (c ≤ 122)))
 else (
 some false)) fun s =>
 bif s then (
 some (.inr (.inr 1)))
 else (
 Option.bind (α := Bool) (
 bif decide (48 ≤ c) then (
 some (decide (c ≤ 57)))
 else (
 some false)) fun s2 =>
 bif s2 then (
 some (.inl ()))
 else (
 bif decide (c = 45) then (
 some (.inl ()))
 else (
 some (.inr (.inl ())))))) fun s3 =>
 s3.elim (fun s4 =>
 some 2)
 (fun s5 =>
 s5.elim (fun s6 =>
 some 0)
 (fun s7 =>
 some s7))
def qkJ : Fun :=
 ⟨186, 1, 1,
 ⟨[(0, dd (.int .u8))], [], []⟩,
 ⟨[(0, ii)], [], []⟩,
 fun x => qd6 x⟩
theorem qpK : FO qkJ := fi [] [] 20 [] ((nn (mm (mm (mm (.mk [.join [⟨.n, ⟨[], [], []⟩⟩, ⟨.x 0, ⟨[], [], []⟩⟩, ⟨.r, ⟨[(2, ii)], [], []⟩⟩]] none (mm (mm (mm (mm (mm (mm (.mk [.join [⟨.n, ⟨[(0, kk), (3, bb)], [], []⟩⟩]] none .nil .nil) .nil) (mm (mm (.mk [.join [⟨.n, ⟨[(0, kk), (10, bb)], [], []⟩⟩]] none .nil .nil) .nil) .nil)) .nil) .nil) .nil) .nil) .nil) .nil) .nil) .nil))) func186 ⟨trivial, trivial⟩
def qbF (s : List UInt8) (v : Int) : Option (Int ⊕ (Unit ⊕ Bool)) :=
 bif decide (v < (s.length : Int)) then (
 gd (inB v s.length) <|
 (qd6 (Int.ofNat (s.getD v.toNat 0).toNat)).bind fun r2 =>
 bif decide (r2 = 0) then (
 some (.inr (.inr false)))
 else (
 some (.inl (wi64 (v + 1)))))
 else (
 some (.inr (.inl ())))
def qcr (s : List UInt8) : Option (Bool) :=
 Option.bind (α := Bool) (
 bif decide ((s.length : Int) < 1) then (
 some true)
 else (
 bif decide (12 < (s.length : Int)) then (
 some true)
 else (
 gd (inB 0 s.length) <|
 (qd6 (Int.ofNat (s.getD 0 0).toNat)).bind fun r =>
 some (!decide (r = 1))))) fun s2 =>
 bif s2 then (
 some false)
 else (
 (iter (fun x => qbF s x) 0).bind fun s3 =>
 s3.elim (fun s4 =>
 some true)
 (fun s5 =>
 some s5))
def qfK : Fun :=
 ⟨148, 1, 1,
 ⟨[(0, ss)], [], []⟩,
 ⟨[(0, bb)], [], []⟩,
 fun x => qcr x⟩
theorem qh3 : FO qfK := fi [] [qkJ] 29 [] ((nn (mm (mm (.mk [.join [⟨.n, ⟨[(0, kk), (17, bb)], [], []⟩⟩]] none .nil .nil) .nil) (mm (nn (mm (.mk [] (some (⟨[(0, kk), (19, kk), (20, ii)], [], []⟩, [⟨.x 0, ⟨[], [], []⟩⟩, ⟨.r, ⟨[(2, bb)], [], []⟩⟩])) .nil .nil) .nil)) .nil)))) func148 ⟨⟨qpK, trivial⟩, trivial⟩
def qcs (s : List UInt8) : Option (Bool) :=
 (qcr s).bind fun r =>
 some (!r)
def qgQ : Fun :=
 ⟨147, 1, 1,
 ⟨[(0, ss)], [], []⟩,
 ⟨[(0, bb)], [], []⟩,
 fun x => qcs x⟩
theorem qlX : FO qgQ := fi [] [qfK] 6 [] .nil func147 ⟨⟨qh3, trivial⟩, trivial⟩
def qaC (s : List (List UInt8)) (v : List UInt8) (v2 : Int) : Option (Int ⊕ (Unit ⊕ Int)) :=
 bif decide (v2 < (s.length : Int)) then (
 gd (inB v2 s.length) <|
 bif decide (v = s.getD v2.toNat []) then (
 some (.inr (.inr v2)))
 else (
 some (.inl (wi64 (v2 + 1)))))
 else (
 some (.inr (.inl ())))
def qaM (s : List (List UInt8)) (v : List UInt8) : Option (Int) :=
 (iter (fun x => qaC s v x) 0).bind fun s2 =>
 s2.elim (fun s3 =>
 some (-1))
 (fun s4 =>
 some s4)
def qcI : Fun :=
 ⟨187, 2, 1,
 ⟨[(0, dd (.sl (.str))), (1, ss)], [], []⟩,
 ⟨[(0, ii)], [], []⟩,
 fun x => qaM x.1 x.2⟩
theorem qfA : FO qcI := fi [] [] 19 [] ((nn (mm (nn (mm (.mk [] (some (⟨r33_, [], []⟩, [⟨.x 0, ⟨[], [], []⟩⟩, ⟨.r, ⟨[(4, ii)], [], []⟩⟩])) .nil .nil) .nil)) .nil))) func187 ⟨trivial, trivial⟩
def qjk (x : yB1) (v : yB1) : Option (Bool) :=
 some (decide (x.2.1 = v.2.1))
def qgR : Fun :=
 ⟨189, 2, 1,
 ⟨[(0, dd tT2), (1, .one (.sel tT2))], [], []⟩,
 ⟨[(0, bb)], [], []⟩,
 fun x => qjk x.1 x.2⟩
theorem qlY : FO qgR := fi [] [] 9 [] .nil func189 ⟨trivial, trivial⟩
def qae (s : List yB1) (f : yB1 × Unit → Option Bool) (v : Int) : Option (Int ⊕ (Unit ⊕ Int)) :=
 bif decide (v < (s.length : Int)) then (
 gd (inB v s.length) <|
 (f (s.getD v.toNat ([], (0, (0, (0, 0)))), ())).bind fun r =>
 bif r then (
 some (.inr (.inr v)))
 else (
 some (.inl (wi64 (v + 1)))))
 else (
 some (.inr (.inl ())))
def qai (s : List yB1) (f : yB1 × Unit → Option Bool) : Option (Int) :=
 (iter (fun x => qae s f x) 0).bind fun s2 =>
 s2.elim (fun s3 =>
 some (-1))
 (fun s4 =>
 some s4)
def qaN : Fun :=
 ⟨188, 2, 1,
 ⟨r62_, [], []⟩,
 ⟨[(0, ii)], [], []⟩,
 fun x => qai x.1 x.2⟩
theorem qbd : FO qaN := fi [] [] 19 [] ((nn (mm (nn (mm (.mk [] (some (⟨r33_, [], []⟩, [⟨.x 0, ⟨[], [], []⟩⟩, ⟨.r, ⟨[(4, ii)], [], []⟩⟩])) .nil .nil) .nil)) .nil))) func188 ⟨trivial, trivial⟩
def qdQ (r : yB10) (v : Int) (v2 : Int) : Option (Int ⊕ (Unit ⊕ Bool)) :=
 bif decide (v2 < (([r.1, r.2.1, r.2.2.1, r.2.2.2].getD v.toNat []).length : Int)) then (
 gd (inB v2 ([r.1, r.2.1, r.2.2.1, r.2.2.2].getD v.toNat []).length) <|
 (qaM ([r.1, r.2.1, r.2.2.1, r.2.2.2].getD v.toNat []) (([r.1, r.2.1, r.2.2.1, r.2.2.2].getD v.toNat []).getD v2.toNat [])).bind fun r2 =>
 bif decide (r2 < v2) then (
 some (.inr (.inr true)))
 else (
 some (.inl (wi64 (v2 + 1)))))
 else (
 some (.inr (.inl ())))
def qdR (r : yB10) (v : Int) : Option (Int ⊕ (Unit ⊕ Bool)) :=
 bif decide (v < 4) then (
 gd (inB v 4) <|
 (iter (fun x => qdQ r v x) 0).bind fun s =>
 s.elim (fun s2 =>
 some (.inl (wi64 (v + 1))))
 (fun s3 =>
 some (.inr (.inr s3))))
 else (
 some (.inr (.inl ())))
def qdS (n : yB0) (v3 : Int) : Option (Int ⊕ (Unit ⊕ Bool)) :=
 bif decide (v3 < (n.2.2.2.1.length : Int)) then (
 gd (inB v3 n.2.2.2.1.length) <|
 (qai n.2.2.2.1 (fun h => (qjk h.1 ((n.2.2.2.1.getD v3.toNat ([], (0, (0, (0, 0))))).1, (((n.2.2.2.1.getD v3.toNat ([], (0, (0, (0, 0))))).2).1, ((((n.2.2.2.1.getD v3.toNat ([], (0, (0, (0, 0))))).2).2).1, (((((n.2.2.2.1.getD v3.toNat ([], (0, (0, (0, 0))))).2).2).2).1, ((((n.2.2.2.1.getD v3.toNat ([], (0, (0, (0, 0))))).2).2).2).2))))).bind fun y => some y)).bind fun r3 =>
 bif decide (r3 < v3) then (
 some (.inr (.inr true)))
 else (
 some (.inl (wi64 (v3 + 1)))))
 else (
 some (.inr (.inl ())))
def qen (n : yB0) : Option (Bool) :=
 (qbE (n.1, (n.2.1, (n.2.2.1, (n.2.2.2.1, (n.2.2.2.2.1, n.2.2.2.2.2)))))).bind fun r =>
 (iter (fun x2 => qdR r x2) 0).bind fun s4 =>
 s4.elim (fun s5 =>
 (iter (fun x3 => qdS n x3) 0).bind fun s7 =>
 s7.elim (fun s8 =>
 some false)
 (fun s9 =>
 some s9))
 (fun s6 =>
 some s6)
def qiK : Fun :=
 ⟨149, 1, 1,
 ⟨[(0, dd tT0)], [], []⟩,
 ⟨[(0, bb)], [], []⟩,
 fun x => qen x⟩
theorem qnL : FO qiK := fi [] [qfz, qcI, qaN, qgR] 43 [] ((nn (mm (nn (mm (.mk [] (some (⟨[(1, pt 32 0), (10, kk), (11, ii)], v7_, []⟩, [⟨.x 0, ⟨[(1, pt 32 0)], v7_, []⟩⟩, ⟨.r, ⟨[(2, bb)], [], []⟩⟩])) (nn (nn (mm (mm (nn (nn (mm (.mk [] (some (⟨[(1, pt 32 0), (4, kk), (10, kk), (11, kk), (14, kk), (15, kk), (16, ii)], v7_, []⟩, [⟨.x 2, ⟨[(1, pt 32 0), (10, kk), (11, kk)], v7_, []⟩⟩, ⟨.r, ⟨[(2, bb)], [], []⟩⟩])) .nil .nil) .nil))) .nil) .nil))) .nil) .nil)) (mm (nn (mm (.mk [] (some (⟨[(1, pt 32 0), (29, kk), (30, kk), (31, ii)], v7_, []⟩, [⟨.x 4, ⟨[], [], []⟩⟩, ⟨.r, ⟨[(2, bb)], [], []⟩⟩])) (nn (nn (mm (mm (nn (mm (.mk [.fv [(8, .pair (.str) (.pair I6 (.pair I6 (.pair I6 I6))))]] none .nil .nil) .nil)) .nil) .nil))) .nil) .nil)) .nil)))) func149 ⟨⟨qiJ, qfA, qbd, qlY, trivial⟩, trivial⟩
def qeo (k : Int) (v : yB0) : Option (Bool) :=
 bif decide (k < 0) then (
 some true)
 else (
 some (decide ((v.1.length : Int) ≤ k)))
def qgS : Fun :=
 ⟨190, 2, 1,
 ⟨[(0, ii), (1, .one (.sel tT0))], [], []⟩,
 ⟨[(0, bb)], [], []⟩,
 fun x => qeo x.1 x.2⟩
theorem qlZ : FO qgS := fi [] [] 13 [] .nil func190 ⟨trivial, trivial⟩
def qaH (s : List Int) (f : Int × Unit → Option Bool) (v : Int) : Option (Int ⊕ (Unit ⊕ Int)) :=
 bif decide (v < (s.length : Int)) then (
 gd (inB v s.length) <|
 (f (s.getD v.toNat 0, ())).bind fun r =>
 bif r then (
 some (.inr (.inr v)))
 else (
 some (.inl (wi64 (v + 1)))))
 else (
 some (.inr (.inl ())))
def qbx (s : List Int) (f : Int × Unit → Option Bool) : Option (Int) :=
 (iter (fun x => qaH s f x) 0).bind fun s2 =>
 s2.elim (fun s3 =>
 some (-1))
 (fun s4 =>
 some s4)
def qc2 : Fun :=
 ⟨203, 2, 1,
 ⟨r112_, [], []⟩,
 ⟨[(0, ii)], [], []⟩,
 fun x => qbx x.1 x.2⟩
theorem qga : FO qc2 := fi [] [] 19 [] ((nn (mm (nn (mm (.mk [] (some (⟨r33_, [], []⟩, [⟨.x 0, ⟨[], [], []⟩⟩, ⟨.r, ⟨[(4, ii)], [], []⟩⟩])) .nil .nil) .nil)) .nil))) func203 ⟨trivial, trivial⟩
def qaA (s : List Int) (f : Int × Unit → Option Bool) : Option (Bool) :=
 (qbx s f).bind fun r =>
 some (decide (0 ≤ r))
def qa6 : Fun :=
 ⟨161, 2, 1,
 ⟨r112_, [], []⟩,
 ⟨[(0, bb)], [], []⟩,
 fun x => qaA x.1 x.2⟩
theorem qbr : FO qa6 := fi [] [qc2] 9 [] .nil func161 ⟨⟨qga, trivial⟩, trivial⟩
def qdT (n : yB0) (v : Int) (all : List Int) : Option ((Int × List Int) ⊕ (List Int)) :=
 bif decide (v < (n.2.1.length : Int)) then (
 gd (inB v n.2.1.length) <|
 gd (fits (all.length + 2) 8) <|
 some (.inl (wi64 (v + 1), all ++ [((n.2.1.getD v.toNat ([], (0, (0, (0, (0, (0, []))))))).2).1, (((n.2.1.getD v.toNat ([], (0, (0, (0, (0, (0, []))))))).2).2).1])))
 else (
 some (.inr all))
def qdU (n : yB0) (v2 : Int) (all2 : List Int) : Option ((Int × List Int) ⊕ (List Int)) :=
 bif decide (v2 < (n.2.2.1.length : Int)) then (
 gd (inB v2 n.2.2.1.length) <|
 gd (fits (all2.length + 1) 8) <|
 some (.inl (wi64 (v2 + 1), all2 ++ [((n.2.2.1.getD v2.toNat ([], (0, 0))).2).1])))
 else (
 some (.inr all2))
def qdV (n : yB0) (v3 : Int) (all3 : List Int) : Option ((Int × List Int) ⊕ (List Int)) :=
 bif decide (v3 < (n.2.2.2.1.length : Int)) then (
 gd (inB v3 n.2.2.2.1.length) <|
 gd (fits (all3.length + 1) 8) <|
 some (.inl (wi64 (v3 + 1), all3 ++ [((n.2.2.2.1.getD v3.toNat ([], (0, (0, (0, 0))))).2).1])))
 else (
 some (.inr all3))
def qep (n : yB0) : Option (Bool) :=
 (iter (fun x => qdT n x.1 x.2) (0, [])).bind fun s =>
 (iter (fun x2 => qdU n x2.1 x2.2) (0, s)).bind fun s2 =>
 (iter (fun x3 => qdV n x3.1 x3.2) (0, s2)).bind fun s3 =>
 (qaA s3 (fun h => (qeo h.1 (n.1, (n.2.1, (n.2.2.1, (n.2.2.2.1, (n.2.2.2.2.1, n.2.2.2.2.2)))))).bind fun y => some y)).bind fun r =>
 some (!r)
def qiL : Fun :=
 ⟨150, 1, 1,
 ⟨[(0, dd tT0)], [], []⟩,
 ⟨[(0, bb)], [], []⟩,
 fun x => qep x⟩
theorem qnM : FO qiL := fi [] [qa6, qgS] 55 [] ((nn (nn (mm (nn (mm (.mk [] (some (⟨[(1, pt 32 0), (3, ow 75), (11, kk), (12, kk), (13, ii)], v7_, a122_⟩, [⟨.x 0, ⟨[(1, pt 32 0), (3, ow 75)], v7_, a122_⟩⟩])) .nil .nil) .nil)) (mm (nn (mm (.mk [] (some (⟨[(1, pt 32 0), (3, ow 75), (26, kk), (27, kk), (28, ii)], v7_, a122_⟩, [⟨.x 2, ⟨[(1, pt 32 0), (3, ow 75)], v7_, a122_⟩⟩])) .nil .nil) .nil)) (mm (nn (mm (.mk [] (some (⟨[(1, pt 32 0), (3, ow 75), (39, kk), (40, kk), (41, ii)], v7_, a122_⟩, [⟨.x 4, ⟨[(1, pt 32 0), (3, ow 75)], v7_, a122_⟩⟩])) .nil .nil) .nil)) (mm (.mk [.fv [(1, .pair (.sl (.str)) (.pair (.sl (.pair (.str) tT5)) (.pair (.sl (.pair (.str) (.pair I6 I6))) (.pair (.sl tT2) (.pair I6 I6)))))]] none .nil .nil) .nil))))))) func150 ⟨⟨qbr, qlZ, trivial⟩, trivial⟩
def qby (n : Int) (least : Int) (most : Int) : Option (Bool) :=
 bif decide (least ≤ n) then (
 some (decide (n ≤ most)))
 else (
 some false)
def qeq : Fun :=
 ⟨195, 3, 1,
 ⟨[(0, ii), (1, ii), (2, ii)], [], []⟩,
 ⟨[(0, bb)], [], []⟩,
 fun x => qby x.1 x.2.1 x.2.2⟩
theorem qfL : FO qeq := fi [] [] 15 [] .nil func195 ⟨trivial, trivial⟩
def qer (s : yB9) (v : Int) : Option (Int ⊕ (Unit ⊕ Bool)) :=
 bif decide (v < (s.2.2.2.2.2.2.length : Int)) then (
 gd (inB v s.2.2.2.2.2.2.length) <|
 Option.bind (α := Bool) (
 (qby (((s.2.2.2.2.2.2.getD v.toNat (0, (0, 0))).2).1) (-500) 5000).bind fun r4 =>
 bif !r4 then (
 some true)
 else (
 (qby (((s.2.2.2.2.2.2.getD v.toNat (0, (0, 0))).2).2) 0 100000000).bind fun r5 =>
 bif !r5 then (
 some true)
 else (
 bif decide (0 < v) then (
 gd (inB (wi64 (v - 1)) s.2.2.2.2.2.2.length) <|
 some (decide ((s.2.2.2.2.2.2.getD v.toNat (0, (0, 0))).1 ≤ (s.2.2.2.2.2.2.getD (wi64 (v - 1)).toNat (0, (0, 0))).1)))
 else (
 some false)))) fun s3 =>
 bif s3 then (
 some (.inr (.inr false)))
 else (
 some (.inl (wi64 (v + 1)))))
 else (
 some (.inr (.inl ())))
def qfp (s : yB9) : Option (Bool) :=
 Option.bind (α := Bool) (
 bif decide (s.2.1 = s.2.2.1) then (
 some true)
 else (
 (qby s.2.2.2.1 1 1000000).bind fun r =>
 bif !r then (
 some true)
 else (
 (qby s.2.2.2.2.1 0 1000).bind fun r2 =>
 bif !r2 then (
 some true)
 else (
 (qby s.2.2.2.2.2.1 0 100000).bind fun r3 =>
 some (!r3))))) fun s2 =>
 bif s2 then (
 some false)
 else (
 (iter (fun x => qer s x) 0).bind fun s4 =>
 s4.elim (fun s5 =>
 gd (inB 0 s.2.2.2.2.2.2.length) <|
 bif decide ((s.2.2.2.2.2.2.getD 0 (0, (0, 0))).1 = 0) then (
 gd (inB (wi64 ((s.2.2.2.2.2.2.length : Int) - 1)) s.2.2.2.2.2.2.length) <|
 some (decide ((s.2.2.2.2.2.2.getD (wi64 ((s.2.2.2.2.2.2.length : Int) - 1)).toNat (0, (0, 0))).1 = s.2.2.2.1)))
 else (
 some false))
 (fun s6 =>
 some s6))
def qjl : Fun :=
 ⟨192, 1, 1,
 ⟨r92_, [], []⟩,
 ⟨[(0, bb)], [], []⟩,
 fun x => qfp x⟩
theorem qo3 : FO qjl := fi [] [qeq] 83 [] ((nn (mm (mm (.mk [.join [⟨.n, ⟨[(1, pt 32 0), (27, bb)], v96_, []⟩⟩]] none .nil .nil) .nil) (mm (nn (mm (.mk [] (some (⟨[(1, pt 32 0), (29, kk), (30, kk), (31, ii)], v96_, []⟩, [⟨.x 0, ⟨[(1, pt 32 0)], v96_, []⟩⟩, ⟨.r, ⟨[(2, bb)], [], []⟩⟩])) (nn (nn (mm (mm (nn (mm (.mk [.join [⟨.n, ⟨[(1, pt 32 0), (29, kk), (30, kk), (31, kk), (61, bb)], v96_, []⟩⟩]] none .nil .nil) .nil)) .nil) .nil))) .nil) .nil)) .nil)))) func192 ⟨⟨qfL, trivial⟩, trivial⟩
def qdW (s : yB9) : Option (Bool) :=
 (qfp (s.1, (s.2.1, (s.2.2.1, (s.2.2.2.1, (s.2.2.2.2.1, (s.2.2.2.2.2.1, s.2.2.2.2.2.2))))))).bind fun r =>
 some (!r)
def qgb : Fun :=
 ⟨191, 1, 1,
 ⟨r92_, [], []⟩,
 ⟨[(0, bb)], [], []⟩,
 fun x => qdW x⟩
theorem qlj : FO qgb := fi [] [qjl] 6 [] .nil func191 ⟨⟨qo3, trivial⟩, trivial⟩
def qal (s : yB12) (f : (List UInt8 × Int × Int) × Unit → Option Bool) (v : Int) : Option (Int ⊕ (Unit ⊕ Int)) :=
 bif decide (v < (s.length : Int)) then (
 gd (inB v s.length) <|
 (f (s.getD v.toNat ([], (0, 0)), ())).bind fun r =>
 bif r then (
 some (.inr (.inr v)))
 else (
 some (.inl (wi64 (v + 1)))))
 else (
 some (.inr (.inl ())))
def qaS (s : yB12) (f : (List UInt8 × Int × Int) × Unit → Option Bool) : Option (Int) :=
 (iter (fun x => qal s f x) 0).bind fun s2 =>
 s2.elim (fun s3 =>
 some (-1))
 (fun s4 =>
 some s4)
def qbC : Fun :=
 ⟨225, 2, 1,
 ⟨r59_, [], []⟩,
 ⟨[(0, ii)], [], []⟩,
 fun x => qaS x.1 x.2⟩
theorem qdp : FO qbC := fi [] [] 19 [] ((nn (mm (nn (mm (.mk [] (some (⟨r33_, [], []⟩, [⟨.x 0, ⟨[], [], []⟩⟩, ⟨.r, ⟨[(4, ii)], [], []⟩⟩])) .nil .nil) .nil)) .nil))) func225 ⟨trivial, trivial⟩
def qaG (s : yB12) (f : (List UInt8 × Int × Int) × Unit → Option Bool) : Option (Bool) :=
 (qaS s f).bind fun r =>
 some (decide (0 ≤ r))
def qbk : Fun :=
 ⟨193, 2, 1,
 ⟨r59_, [], []⟩,
 ⟨[(0, bb)], [], []⟩,
 fun x => qaG x.1 x.2⟩
theorem qcY : FO qbk := fi [] [qbC] 9 [] .nil func193 ⟨⟨qdp, trivial⟩, trivial⟩
def qdX (p : List UInt8 × Int × Int) : Option (Bool) :=
 (qby p.2.2 0 100000000).bind fun r =>
 some (!r)
def qgc : Fun :=
 ⟨194, 1, 1,
 ⟨r109_, [], []⟩,
 ⟨[(0, bb)], [], []⟩,
 fun x => qdX x⟩
theorem qlk : FO qgc := fi [] [qeq] 7 [] .nil func194 ⟨⟨qfL, trivial⟩, trivial⟩
def qay (s : List yB1) (f : yB1 × Unit → Option Bool) : Option (Bool) :=
 (qai s f).bind fun r =>
 some (decide (0 ≤ r))
def qa9 : Fun :=
 ⟨196, 2, 1,
 ⟨r62_, [], []⟩,
 ⟨[(0, bb)], [], []⟩,
 fun x => qay x.1 x.2⟩
theorem qcp : FO qa9 := fi [] [qaN] 9 [] .nil func196 ⟨⟨qbd, trivial⟩, trivial⟩
def qdY (s : yB1) : Option (Bool) :=
 (qby s.2.2.1 0 100000000).bind fun r =>
 bif !r then (
 some true)
 else (
 (qby s.2.2.2.1 0 100000).bind fun r2 =>
 bif !r2 then (
 some true)
 else (
 (qby s.2.2.2.2 0 100000000).bind fun r3 =>
 some (!r3)))
def qgd : Fun :=
 ⟨197, 1, 1,
 ⟨[(0, dd tT2)], [], []⟩,
 ⟨[(0, bb)], [], []⟩,
 fun x => qdY x⟩
theorem qll : FO qgd := fi [] [qeq] 19 [] .nil func197 ⟨⟨qfL, trivial⟩, trivial⟩
def qdw (n : yB0) : Option (Bool) :=
 (qak n.2.1 (fun h => (qdW h.1).bind fun y => some y)).bind fun r =>
 bif r then (
 some false)
 else (
 (qaG n.2.2.1 (fun h2 => (qdX h2.1).bind fun y => some y)).bind fun r2 =>
 bif r2 then (
 some false)
 else (
 (qay n.2.2.2.1 (fun h3 => (qdY h3.1).bind fun y => some y)).bind fun r3 =>
 bif r3 then (
 some false)
 else (
 (qby n.2.2.2.2.1 (-100000) 100000000).bind fun r4 =>
 bif r4 then (
 (qby n.2.2.2.2.2 0 100).bind fun r5 =>
 some r5)
 else (
 some false))))
def qhu : Fun :=
 ⟨151, 1, 1,
 ⟨[(0, dd tT0)], [], []⟩,
 ⟨[(0, bb)], [], []⟩,
 fun x => qdw x⟩
theorem qm6 : FO qhu := fi [] [qaF, qgb, qbk, qgc, qa9, qgd, qeq] 20 [] .nil func151 ⟨⟨qa8, qlj, qcY, qlk, qcp, qll, qfL, trivial⟩, trivial⟩
def qdZ (r2 : yB10) (v : Int) : Option (Int ⊕ (Unit ⊕ Int)) :=
 bif decide (v < 4) then (
 gd (inB v 4) <|
 (qaw ([r2.1, r2.2.1, r2.2.2.1, r2.2.2.2].getD v.toNat []) (fun h => (qcs h.1).bind fun y => some y)).bind fun r3 =>
 bif r3 then (
 some (.inr (.inr 3)))
 else (
 some (.inl (wi64 (v + 1)))))
 else (
 some (.inr (.inl ())))
def qcb (n : yB0) : Option (Int) :=
 (qdu (n.1, (n.2.1, (n.2.2.1, (n.2.2.2.1, (n.2.2.2.2.1, n.2.2.2.2.2)))))).bind fun r =>
 bif !r then (
 some 4)
 else (
 (qbE (n.1, (n.2.1, (n.2.2.1, (n.2.2.2.1, (n.2.2.2.2.1, n.2.2.2.2.2)))))).bind fun r2 =>
 (iter (fun x => qdZ r2 x) 0).bind fun s =>
 s.elim (fun s2 =>
 (qen (n.1, (n.2.1, (n.2.2.1, (n.2.2.2.1, (n.2.2.2.2.1, n.2.2.2.2.2)))))).bind fun r4 =>
 bif r4 then (
 some 7)
 else (
 (qep (n.1, (n.2.1, (n.2.2.1, (n.2.2.2.1, (n.2.2.2.2.1, n.2.2.2.2.2)))))).bind fun r5 =>
 bif !r5 then (
 some 8)
 else (
 (qdw (n.1, (n.2.1, (n.2.2.1, (n.2.2.2.1, (n.2.2.2.2.1, n.2.2.2.2.2)))))).bind fun r6 =>
 bif !r6 then (
 some 9)
 else (
 some 0))))
 (fun s3 =>
 some s3))
def qb4 : Fun :=
 ⟨95, 1, 1,
 ⟨[(0, dd tT0)], [], []⟩,
 ⟨[(0, ii)], [], []⟩,
 fun x => qcb x⟩
theorem qcJ : FO qb4 := fi [] [qht, qfz, qbL, qgQ, qiK, qiL, qhu] 27 [] ((nn (nn (mm (nn (mm (.mk [] (some (⟨[(1, pt 32 0), (9, kk), (10, ii)], v7_, []⟩, [⟨.x 0, ⟨[(1, pt 32 0)], v7_, []⟩⟩, ⟨.r, ⟨[(2, ii)], [], []⟩⟩])) .nil .nil) .nil)) .nil)))) func95 ⟨⟨qm5, qiJ, qdv, qlX, qnL, qnM, qm6, trivial⟩, trivial⟩
def qc3 (v : Int × Int × Bool × Bool) : Option (Bool) :=
 bif decide (1 ≤ v.1) then (
 bif decide (v.1 ≤ 60) then (
 bif decide (0 ≤ v.2.1) then (
 some (decide (v.2.1 ≤ v.1)))
 else (
 some false))
 else (
 some false))
 else (
 some false)
def qcP : Fun :=
 ⟨96, 1, 1,
 ⟨[(0, dd tT1)], [], []⟩,
 ⟨[(0, bb)], [], []⟩,
 fun x => qc3 x⟩
theorem qdx : FO qcP := fi [] [] 23 [] .nil func96 ⟨trivial, trivial⟩
def qfq (n : yB0) : Option (Int) :=
 some (wi64 ((n.2.1.length : Int) + (n.2.2.1.length : Int)))
def qge : Fun :=
 ⟨98, 1, 1,
 ⟨[(0, dd tT0)], [], []⟩,
 ⟨[(0, ii)], [], []⟩,
 fun x => qfq x⟩
theorem qjm : FO qge := fi [] [] 10 [] .nil func98 ⟨trivial, trivial⟩
def qo4 (x : Int) (y : Int) : Option (Int × Int) :=
 some (wu32 (Int.fdiv (wu64 ((wu64 x) * (wu64 y))) (2 ^ shAmt .u64 32)), wu32 (wu64 ((wu64 x) * (wu64 y))))
def ql0 : Fun :=
 ⟨198, 2, 2,
 ⟨[(0, dd (.int .u32)), (1, dd (.int .u32))], [], []⟩,
 ⟨[(0, dd (.int .u32)), (1, dd (.int .u32))], [], []⟩,
 fun x => qo4 x.1 x.2⟩
theorem qt1 : FO ql0 := fi [] [] 17 [] .nil func198 ⟨trivial, trivial⟩
def qjn (x : Int) (y : Int) : Option (Int × Int) :=
 some (wu64 ((wu64 ((wu64 ((Int.fdiv x (2 ^ shAmt .u64 32)) * (Int.fdiv y (2 ^ shAmt .u64 32)))) + (Int.fdiv (wu64 ((wu64 ((Int.fdiv x (2 ^ shAmt .u64 32)) * (qiH .u64 y 4294967295))) + (Int.fdiv (wu64 ((qiH .u64 x 4294967295) * (qiH .u64 y 4294967295))) (2 ^ shAmt .u64 32)))) (2 ^ shAmt .u64 32)))) + (Int.fdiv (wu64 ((qiH .u64 (wu64 ((wu64 ((Int.fdiv x (2 ^ shAmt .u64 32)) * (qiH .u64 y 4294967295))) + (Int.fdiv (wu64 ((qiH .u64 x 4294967295) * (qiH .u64 y 4294967295))) (2 ^ shAmt .u64 32)))) 4294967295) + (wu64 ((qiH .u64 x 4294967295) * (Int.fdiv y (2 ^ shAmt .u64 32)))))) (2 ^ shAmt .u64 32))), wu64 (x * y))
def qgT : Fun :=
 ⟨199, 2, 2,
 ⟨r74_, [], []⟩,
 ⟨r74_, [], []⟩,
 fun x => qjn x.1 x.2⟩
theorem ql1 : FO qgT := fi [] [] 51 [] .nil func199 ⟨trivial, trivial⟩
def qh4 (x : Int) (y : Int) : Option (Int × Int) :=
 (qjn x y).bind fun r =>
 some (r.1, r.2)
def qiM : Fun :=
 ⟨152, 2, 2,
 ⟨r74_, [], []⟩,
 ⟨r74_, [], []⟩,
 fun x => qh4 x.1 x.2⟩
theorem qnN : FO qiM := fi [] [qgT] 30 [] .nil func152 ⟨⟨ql1, trivial⟩, trivial⟩
def qac (n : Int) (newslice : yB2) : Option ((Int × List (Int × Int × Bool × Bool)) ⊕ yB2) :=
 bif decide (n < (newslice.length : Int)) then (
 gd (decide (0 < newslice.length) && inR n (newslice.length : Int) newslice.length) <|
 gd (decide (0 < newslice.length) && inR 0 n newslice.length) <|
 gd ((decide (newslice.length = newslice.length) && (decide (newslice.length = newslice.length) && decide (n.toNat ≤ newslice.length))) && decide (0 < newslice.length)) <|
 some (.inl (wi64 (n + (Int.ofNat (min (newslice.take n.toNat).length (newslice.length - n.toNat)))), cpyD newslice n.toNat (newslice.take n.toNat))))
 else (
 some (.inr newslice))
def qaU (x : yB2) (count : Int) : Option yB2 :=
 Option.bind (α := Unit) (
 bif decide (count < 0) then (
 none)
 else (
 some ())) fun s =>
 (qh4 (wu64 (x.length : Int)) (wu64 count)).bind fun r =>
 Option.bind (α := Bool) (
 bif decide (0 < r.1) then (
 some true)
 else (
 some (decide (9223372036854775807 < r.2)))) fun s2 =>
 Option.bind (α := Unit) (
 bif s2 then (
 none)
 else (
 some ())) fun s3 =>
 gd (makeG 24 (wi64 r.2)) <|
 gd ((true && true) && decide (0 < (List.replicate (wi64 r.2).toNat ((0, (0, (false, false))) : Int × Int × Bool × Bool)).length)) <|
 (iter (fun x2 => qac x2.1 x2.2) (Int.ofNat (min x.length ((List.replicate (wi64 r.2).toNat ((0, (0, (false, false))) : Int × Int × Bool × Bool)).length - 0)), cpyD (List.replicate (wi64 r.2).toNat ((0, (0, (false, false))) : Int × Int × Bool × Bool)) 0 x)).bind fun s4 =>
 some s4
def qbM : Fun :=
 ⟨97, 2, 1,
 ⟨[(0, dd (.sl tT1)), (1, ii)], [], []⟩,
 ⟨[(0, ow 0)], [], [(0, .arr 152 tT1)]⟩,
 fun x => qaU x.1 x.2⟩
theorem qdy : FO qbM := fi [5000044] [qiM] 48 [] ((nn (mm (nn (.mk [.join [⟨.n, ⟨[(0, kk), (1, kk)], [], []⟩⟩]] none .nil .nil)) (nn (mm (mm (.mk [.join [⟨.n, ⟨[(0, kk), (6, kk), (26, bb)], [], []⟩⟩]] none .nil .nil) (.mk [.join [⟨.n, ⟨[(0, kk), (6, kk)], [], []⟩⟩]] none .nil .nil)) (nn (nn (mm (mm (.mk [] (some (⟨[(7, ow 496), (8, ii)], [], [(496, .arr 152 tT1)]⟩, [⟨.x 0, ⟨[(7, ow 496)], [], [(496, .arr 152 tT1)]⟩⟩])) .nil .nil) .nil) .nil)))))))) func97 ⟨⟨qnN, trivial⟩, trivial⟩
def ql2 (n : yB0) (travel : Int) : Option (yB3 × Int) :=
 (qcb (n.1, (n.2.1, (n.2.2.1, (n.2.2.2.1, (n.2.2.2.2.1, n.2.2.2.2.2)))))).bind fun r =>
 bif !decide (r = 0) then (
 some (([], ([], ([], []))), r))
 else (
 (qc3 (travel, (0, (false, false)))).bind fun r2 =>
 bif !r2 then (
 some (([], ([], ([], []))), 20))
 else (
 gd (makeG 8 (n.2.1.length : Int)) <|
 gd (makeG 8 (n.2.2.1.length : Int)) <|
 gd (makeG 1 (n.2.2.2.1.length : Int)) <|
 (qfq (n.1, (n.2.1, (n.2.2.1, (n.2.2.2.1, (n.2.2.2.2.1, n.2.2.2.2.2)))))).bind fun r3 =>
 (qaU [(travel, (0, (false, false)))] r3).bind fun r4 =>
 some ((r4, (List.replicate (n.2.1.length : Int).toNat (0 : Int), (List.replicate (n.2.2.1.length : Int).toNat (0 : Int), List.replicate (n.2.2.2.1.length : Int).toNat (false : Bool)))), 0)))
def qnv : Fun :=
 ⟨57, 2, 2,
 ⟨[(0, dd tT0), (1, ii)], [], []⟩,
 ⟨r46_, [], []⟩,
 fun x => ql2 x.1 x.2⟩
theorem qr8 : FO qnv := fi [] [qb4, qcP, qge, qbM] 41 [] .nil func57 ⟨⟨qcJ, qdx, qjm, qdy, trivial⟩, trivial⟩
def qf3 (n : yB0) (travel : Int) : Option (yB13 × Int) :=
 (ql2 (n.1, (n.2.1, (n.2.2.1, (n.2.2.2.1, (n.2.2.2.2.1, n.2.2.2.2.2))))) travel).bind fun r =>
 bif !decide (r.2 = 0) then (
 some ((([], ([], ([], []))), ([], ([], 0))), r.2))
 else (
 some (((r.1.1, (r.1.2.1, (r.1.2.2.1, r.1.2.2.2))), ([], ([], 0))), 0))
def qfM : Fun :=
 ⟨18, 2, 2,
 ⟨[(0, dd tT0), (1, ii)], [], []⟩,
 ⟨r70_, [], []⟩,
 fun x => qf3 x.1 x.2⟩
theorem qh5 : FO qfM := fi [] [qnv] 20 [] .nil func18 ⟨⟨qr8, trivial⟩, trivial⟩
def qhv (s : List Int) : Option (List Int) :=
 bif Nat.beq s.length 0 then (bothO (
 some []) (
 gd (fits (0 + s.length) 1) <|
 some ([] ++ s)))
 else (
 gd (fits (0 + s.length) 1) <|
 some ([] ++ s))
def qaI : Fun :=
 ⟨60, 1, 1,
 ⟨r85_, [], []⟩,
 ⟨r85_, [], []⟩,
 fun x => qhv x⟩
theorem qgf : FO qaI := fi [5] [] 8 [] .nil func60 ⟨trivial, trivial⟩
def qa7 (s : List Int) : Option (List Int) := gd (fits (0 + s.length) 1) (some ([] ++ s))
def qbl : Fun := { f := qaI.f, np := qaI.np, nr := qaI.nr, ji := qaI.ji, jo := qaI.jo, tw := fun x => qa7 x }
theorem qcg : FO qbl := qgf.le fun x => qh2 x _
def qei (s : yB2) : Option yB2 :=
 bif Nat.beq s.length 0 then (bothO (
 some []) (
 gd (fits (0 + s.length) 24) <|
 some ([] ++ s)))
 else (
 gd (fits (0 + s.length) 24) <|
 some ([] ++ s))
def qam : Fun :=
 ⟨156, 1, 1,
 ⟨[(0, dd (.sl tT1))], [], []⟩,
 ⟨[(0, ow 0)], [], [(0, .arr 152 tT1)]⟩,
 fun x => qei x⟩
theorem qdq : FO qam := fi [5] [] 8 [] .nil func156 ⟨trivial, trivial⟩
def qaW (s : yB2) : Option yB2 := gd (fits (0 + s.length) 24) (some ([] ++ s))
def qbV : Fun := { f := qam.f, np := qam.np, nr := qam.nr, ji := qam.ji, jo := qam.jo, tw := fun x => qaW x }
theorem qd7 : FO qbV := qdq.le fun x => qh2 x _
def qi8 (s : List Int) : Option (List Int) :=
 bif Nat.beq s.length 0 then (bothO (
 some []) (
 gd (fits (0 + s.length) 8) <|
 some ([] ++ s)))
 else (
 gd (fits (0 + s.length) 8) <|
 some ([] ++ s))
def qaT : Fun :=
 ⟨90, 1, 1,
 ⟨r99_, [], []⟩,
 ⟨[(0, ow 0)], [], [(0, .arr 3 I6)]⟩,
 fun x => qi8 x⟩
theorem qhg : FO qaT := fi [5] [] 8 [] .nil func90 ⟨trivial, trivial⟩
def qbD (s : List Int) : Option (List Int) := gd (fits (0 + s.length) 8) (some ([] ++ s))
def qes : Fun := { f := qaT.f, np := qaT.np, nr := qaT.nr, ji := qaT.ji, jo := qaT.jo, tw := fun x => qbD x }
theorem qh6 : FO qes := qhg.le fun x => qh2 x _
def qhw (s : List Bool) : Option (List Bool) :=
 bif Nat.beq s.length 0 then (bothO (
 some []) (
 gd (fits (0 + s.length) 1) <|
 some ([] ++ s)))
 else (
 gd (fits (0 + s.length) 1) <|
 some ([] ++ s))
def qaJ : Fun :=
 ⟨157, 1, 1,
 ⟨[(0, dd (.sl (.bool)))], [], []⟩,
 ⟨[(0, ow 0)], [], a128_⟩,
 fun x => qhw x⟩
theorem qgg : FO qaJ := fi [5] [] 8 [] .nil func157 ⟨trivial, trivial⟩
def qb2 (s : List Bool) : Option (List Bool) := gd (fits (0 + s.length) 1) (some ([] ++ s))
def qdz : Fun := { f := qaJ.f, np := qaJ.np, nr := qaJ.nr, ji := qaJ.ji, jo := qaJ.jo, tw := fun x => qb2 x }
theorem qhh : FO qdz := qgg.le fun x => qh2 x _
def qgh (d : yB3) : Option (yB2 × List Int × List Int × List Bool) :=
 (qaW d.1).bind fun r =>
 (qbD d.2.1).bind fun r2 =>
 (qbD d.2.2.1).bind fun r3 =>
 (qb2 d.2.2.2).bind fun r4 =>
 some (r, r2, r3, r4)
def qjo : Fun :=
 ⟨102, 1, 1,
 ⟨[(0, dd (.pair (.sl tT1) tT6))], [], []⟩,
 ⟨[(0, .agg [.own 0, .own 1, .own 2, .own 3])], [], a52_⟩,
 fun x => qgh x⟩
theorem qnw : FO qjo := fi [] [qbV, qes, qdz] 34 [] .nil func102 ⟨⟨qd7, qh6, qhh, trivial⟩, trivial⟩
def qcZ (s : List yB4) : Option (List yB4) :=
 bif Nat.beq s.length 0 then (bothO (
 some []) (
 gd (fits (0 + s.length) 64) <|
 some ([] ++ s)))
 else (
 gd (fits (0 + s.length) 64) <|
 some ([] ++ s))
def qaf : Fun :=
 ⟨103, 1, 1,
 ⟨[(0, dd (.sl tT3))], [], []⟩,
 ⟨[(0, ow 0)], [], [(0, .arr 97 tT3)]⟩,
 fun x => qcZ x⟩
theorem qcz : FO qaf := fi [5] [] 8 [] .nil func103 ⟨trivial, trivial⟩
def qaE (s : List yB4) : Option (List yB4) := gd (fits (0 + s.length) 64) (some ([] ++ s))
def qbj : Fun := { f := qaf.f, np := qaf.np, nr := qaf.nr, ji := qaf.ji, jo := qaf.jo, tw := fun x => qaE x }
theorem qcU : FO qbj := qcz.le fun x => qh2 x _
def qdi (s : List yB1) : Option (List yB1) :=
 bif Nat.beq s.length 0 then (bothO (
 some []) (
 gd (fits (0 + s.length) 48) <|
 some ([] ++ s)))
 else (
 gd (fits (0 + s.length) 48) <|
 some ([] ++ s))
def qag : Fun :=
 ⟨104, 1, 1,
 ⟨[(0, dd (.sl tT2))], [], []⟩,
 ⟨[(0, ow 0)], [], [(0, .arr 110 tT2)]⟩,
 fun x => qdi x⟩
theorem qcV : FO qag := fi [5] [] 8 [] .nil func104 ⟨trivial, trivial⟩
def qah (s : List yB1) : Option (List yB1) := gd (fits (0 + s.length) 48) (some ([] ++ s))
def qaY : Fun := { f := qag.f, np := qag.np, nr := qag.nr, ji := qag.ji, jo := qag.jo, tw := fun x => qah x }
theorem qbs : FO qaY := qcV.le fun x => qh2 x _
def qkB (s : List Int) : Option (List Int) :=
 bif Nat.beq s.length 0 then (bothO (
 some []) (
 gd (fits (0 + s.length) 8) <|
 some ([] ++ s)))
 else (
 gd (fits (0 + s.length) 8) <|
 some ([] ++ s))
def qa1 : Fun :=
 ⟨90, 1, 1,
 ⟨r99_, [], []⟩,
 ⟨r99_, [], []⟩,
 fun x => qkB x⟩
theorem qh7 : FO qa1 := fi [5] [] 8 [] .nil func90 ⟨trivial, trivial⟩
def qcc (s : List Int) : Option (List Int) := gd (fits (0 + s.length) 8) (some ([] ++ s))
def qc4 : Fun := { f := qa1.f, np := qa1.np, nr := qa1.nr, ji := qa1.ji, jo := qa1.jo, tw := fun x => qcc x }
theorem qfr : FO qc4 := qh7.le fun x => qh2 x _
def qe0 (r2 : List yB4) (v : Int) (c2 : List yB4) (c3 : yB2) (c4 : List Int) (c5 : List Int) (c6 : List Bool) (c7 : List yB1) : Option ((Int × (List yB4) × yB2 × List Int × List Int × List Bool × List yB1) ⊕ (yB2 × List Int × List Int × List Bool × (List yB4) × List yB1)) :=
 bif decide (v < (r2.length : Int)) then (
 gd (inB v c2.length) <|
 (qcc ((((((c2.getD v.toNat (0, (0, (0, (0, (0, [])))))).2).2).2).2).2)).bind fun r4 =>
 gd (inB v c2.length) <|
 some (.inl (wi64 (v + 1), c2.set v.toNat ((c2.getD v.toNat (0, (0, (0, (0, (0, [])))))).1, (((c2.getD v.toNat (0, (0, (0, (0, (0, [])))))).2).1, ((((c2.getD v.toNat (0, (0, (0, (0, (0, [])))))).2).2).1, (((((c2.getD v.toNat (0, (0, (0, (0, (0, [])))))).2).2).2).1, ((((((c2.getD v.toNat (0, (0, (0, (0, (0, [])))))).2).2).2).2).1, r4))))), c3, c4, c5, c6, c7)))
 else (
 some (.inr (c3, c4, c5, c6, c2, c7)))
def qbA (c : yB13) : Option (Int × yB2 × List Int × List Int × List Bool × (List yB4) × List yB1) :=
 (qgh (c.1.1, (c.1.2.1, (c.1.2.2.1, c.1.2.2.2)))).bind fun r =>
 (qaE c.2.1).bind fun r2 =>
 (qah c.2.2.1).bind fun r3 =>
 (iter (fun x => qe0 r2 x.1 x.2.1 x.2.2.1 x.2.2.2.1 x.2.2.2.2.1 x.2.2.2.2.2.1 x.2.2.2.2.2.2) (0, r2, r.1, r.2.1, r.2.2.1, r.2.2.2, r3)).bind fun s =>
 some (c.2.2.2, s.1, s.2.1, s.2.2.1, s.2.2.2.1, s.2.2.2.2.1, s.2.2.2.2.2)
def qhi : Fun :=
 ⟨61, 1, 1,
 ⟨[(0, dd (.pair (.pair (.sl tT1) tT6) (.pair (.sl tT3) (.pair (.sl tT2) I6))))], [], []⟩,
 ⟨[(0, .agg [.own 0, .own 1, .own 2, .own 3, .own 4, .own 5, .data I6])], [], [(0, .arr 152 tT1), (1, .arr 3 I6), (2, .arr 3 I6), (3, .arr 4 (.bool)), (4, .arr 97 tT3), (5, .arr 110 tT2)]⟩,
 fun x => qbA x⟩
theorem qkK : FO qhi := fi [] [qjo, qbj, qaY, qc4] 35 [] ((nn (nn (mm (nn (mm (.mk [] (some (⟨[(1, pt 32 0), (2, pt 48 0), (18, ow 176), (19, kk), (20, ii)], v61_, [(176, .arr 97 tT3), (128, .arr 152 tT1), (129, .arr 3 I6), (130, .arr 3 I6), (131, .arr 4 (.bool)), (224, .arr 110 tT2)]⟩, [⟨.x 0, ⟨[(1, pt 32 0), (2, pt 48 0)], v61_, [(128, .arr 152 tT1), (129, .arr 3 I6), (130, .arr 3 I6), (131, .arr 4 (.bool)), (176, .arr 97 tT3), (224, .arr 110 tT2)]⟩⟩])) .nil .nil) .nil)) .nil)))) func61 ⟨⟨qnw, qcU, qbs, qfr, trivial⟩, trivial⟩
def qet (s : yB5) : Option (Bool) :=
 bif decide (s.1 = 0) then (
 bif decide (s.2.1 = 0) then (
 bif decide (s.2.2.1 = 0) then (
 bif decide (s.2.2.2.1 = 0) then (
 bif decide (s.2.2.2.2.1 = 0) then (
 bif decide (s.2.2.2.2.2.2 = 0) then (
 some (decide ((s.2.2.2.2.2.1.length : Int) = 0)))
 else (
 some false))
 else (
 some false))
 else (
 some false))
 else (
 some false))
 else (
 some false))
 else (
 some false)
def qfB : Fun :=
 ⟨119, 1, 1,
 ⟨r64_, [], []⟩,
 ⟨[(0, bb)], [], []⟩,
 fun x => qet x⟩
theorem qiN : FO qfB := fi [] [] 40 [] .nil func119 ⟨trivial, trivial⟩
def qbf (n : Int) (most : Int) : Option (Bool) :=
 bif decide (0 ≤ n) then (
 some (decide (n ≤ most)))
 else (
 some false)
def qgi : Fun :=
 ⟨160, 2, 1,
 ⟨r58_, [], []⟩,
 ⟨[(0, bb)], [], []⟩,
 fun x => qbf x.1 x.2⟩
theorem qlm : FO qgi := fi [] [] 12 [] .nil func160 ⟨trivial, trivial⟩
def qb5 (v : Int) : Option (Bool) :=
 bif decide (v < (-9007199254740992)) then (
 some true)
 else (
 some (decide (9007199254740992 < v)))
def qgj : Fun :=
 ⟨162, 1, 1,
 ⟨[(0, ii)], [], []⟩,
 ⟨[(0, bb)], [], []⟩,
 fun x => qb5 x⟩
theorem qln : FO qgj := fi [] [] 9 [] .nil func162 ⟨trivial, trivial⟩
def qe1 (t : yB4) : Option (Bool) :=
 Option.bind (α := Bool) (
 (qbf t.1 255).bind fun r =>
 bif !r then (
 some true)
 else (
 (qbf t.2.1 255).bind fun r2 =>
 bif !r2 then (
 some true)
 else (
 (qbf t.2.2.1 2147483648).bind fun r3 =>
 bif !r3 then (
 some true)
 else (
 (qbf t.2.2.2.1 1099511627776).bind fun r4 =>
 bif !r4 then (
 some true)
 else (
 (qbf t.2.2.2.2.1 63).bind fun r5 =>
 some (!r5)))))) fun s =>
 bif s then (
 some false)
 else (
 bif decide ((t.2.2.2.2.2.length : Int) ≤ 16) then (
 (qaA t.2.2.2.2.2 (fun h => (qb5 h.1).bind fun y => some y)).bind fun r6 =>
 some (!r6))
 else (
 some false))
def qhx : Fun :=
 ⟨120, 1, 1,
 ⟨[(0, dd tT3)], [], []⟩,
 ⟨[(0, bb)], [], []⟩,
 fun x => qe1 x⟩
theorem qm7 : FO qhx := fi [] [qgi, qa6, qgj] 47 [] ((nn (nn (mm (mm (.mk [.join [⟨.n, ⟨[(1, pt 32 0), (36, bb)], [(32, 97, (kp 6))], []⟩⟩]] none .nil .nil) .nil) .nil)))) func120 ⟨⟨qlm, qbr, qln, trivial⟩, trivial⟩
def qau (x : List yB4) (target : Int) (cmp : yB4 × Int × Unit → Option Int) (i : Int) (j : Int) : Option ((Int × Int) ⊕ Int) :=
 bif decide (i < j) then (
 gd (inB (wi64 (Int.fdiv (wu64 (wi64 (i + j))) (2 ^ shAmt .u64 1))) x.length) <|
 (cmp (x.getD (wi64 (Int.fdiv (wu64 (wi64 (i + j))) (2 ^ shAmt .u64 1))).toNat (0, (0, (0, (0, (0, []))))), target, ())).bind fun r =>
 bif decide (r < 0) then (
 some (.inl (wi64 ((wi64 (Int.fdiv (wu64 (wi64 (i + j))) (2 ^ shAmt .u64 1))) + 1), j)))
 else (
 some (.inl (i, wi64 (Int.fdiv (wu64 (wi64 (i + j))) (2 ^ shAmt .u64 1))))))
 else (
 some (.inr i))
def qaz (x : List yB4) (target : Int) (cmp : yB4 × Int × Unit → Option Int) : Option (Int × Bool) :=
 (iter (fun x2 => qau x target cmp x2.1 x2.2) (0, (x.length : Int))).bind fun s =>
 bif decide (s < (x.length : Int)) then (
 gd (inB s x.length) <|
 (cmp (x.getD s.toNat (0, (0, (0, (0, (0, []))))), target, ())).bind fun r2 =>
 some (s, decide (r2 = 0)))
 else (
 some (s, false))
def qaQ : Fun :=
 ⟨163, 3, 2,
 ⟨[(0, dd (.sl tT3)), (1, ii), (2, .one (.fn [.pair I6 (.pair I6 (.pair I6 (.pair I6 (.pair I6 (.sl I6))))), .int .i64] I6))], [], []⟩,
 ⟨[(0, ii), (1, bb)], [], []⟩,
 fun x => qaz x.1 x.2.1 x.2.2⟩
theorem qbv : FO qaQ := fi [] [] 49 [] ((nn (nn (nn (mm (mm (.mk [] (some (⟨r113_, [], []⟩, [⟨.x 0, ⟨[(0, kk), (1, kk), (2, kk), (8, kk), (9, ii)], [], []⟩⟩])) .nil .nil) .nil) .nil))))) func163 ⟨trivial, trivial⟩
def qfN (x : Int) : Option (Bool) :=
 some (!decide (x = x))
def qiO : Fun :=
 ⟨204, 1, 1,
 ⟨[(0, ii)], [], []⟩,
 ⟨[(0, bb)], [], []⟩,
 fun x => qfN x⟩
theorem qnO : FO qiO := fi [] [] 6 [] .nil func204 ⟨trivial, trivial⟩
def qgk (x : Int) (y : Int) : Option (Int) :=
 (qfN x).bind fun r =>
 (qfN y).bind fun r2 =>
 bif r then (
 bif r2 then (
 some 0)
 else (
 some (-1)))
 else (
 bif r2 then (
 some 1)
 else (
 bif decide (x < y) then (
 some (-1))
 else (
 bif decide (y < x) then (
 some 1)
 else (
 some 0))))
def qgU : Fun :=
 ⟨165, 2, 1,
 ⟨r58_, [], []⟩,
 ⟨[(0, ii)], [], []⟩,
 fun x => qgk x.1 x.2⟩
theorem ql3 : FO qgU := fi [] [qiO] 20 [] .nil func165 ⟨⟨qnO, trivial⟩, trivial⟩
def qcA (t : yB4) (s : Int) : Option (Int) :=
 (qgk t.1 s).bind fun r =>
 some r
def qiP : Fun :=
 ⟨164, 2, 1,
 ⟨[(0, dd tT3), (1, ii)], [], []⟩,
 ⟨[(0, ii)], [], []⟩,
 fun x => qcA x.1 x.2⟩
theorem qnP : FO qiP := fi [] [qgU] 9 [] .nil func164 ⟨⟨ql3, trivial⟩, trivial⟩
def qh8 (l : List yB4) (station : Int) : Option (Int × Bool) :=
 (qaz l station (fun h => (qcA h.1 h.2.1).bind fun y => some y)).bind fun r =>
 some (r.1, r.2)
def qkL : Fun :=
 ⟨121, 2, 2,
 ⟨[(0, dd (.sl tT3)), (1, ii)], [], []⟩,
 ⟨[(0, ii), (1, bb)], [], []⟩,
 fun x => qh8 x.1 x.2⟩
theorem qpL : FO qkL := fi [] [qaQ, qiP] 11 [] .nil func121 ⟨⟨qbv, qnP, trivial⟩, trivial⟩
def qbg : Fun := qfo 122 97 tT3 64
theorem qcK : FO qbg := qzg ⟨_, func122, (by kernel_rfl), rfl⟩ underlying58 tk97.info rfl (by decide) (by decide) qyA (ins_grow' tk97.info rfl (by decide)) qv5
def qeu (a : yB4) (b : yB4) : Option (Bool) :=
 bif decide (a.1 = b.1) then (
 bif decide (a.2.1 < b.2.1) then (
 some true)
 else (
 bif decide (a.2.1 = b.2.1) then (
 some (decide (a.2.2.1 < b.2.2.1)))
 else (
 some false)))
 else (
 some false)
def qgV : Fun :=
 ⟨123, 2, 1,
 ⟨[(0, dd tT3), (1, dd tT3)], [], []⟩,
 ⟨[(0, bb)], [], []⟩,
 fun x => qeu x.1 x.2⟩
theorem ql4 : FO qgV := fi [] [] 31 [] .nil func123 ⟨trivial, trivial⟩
def qfO (v : yB0) (r : yB11) (c : Int) (c2 : yB2) (c3 : List Int) (c4 : List Int) (c5 : List Bool) (c6 : List yB4) (c7 : List yB1) : Option (Int × Int × yB2 × List Int × List Int × List Bool × (List yB4) × List yB1) :=
 Option.bind (α := Bool × yB2 × List Int × List Int × List Bool × (List yB4) × List yB1) (
 bif decide ((r.2.1.length : Int) < 5) then (
 some (true, c2, c3, c4, c5, c6, c7))
 else (
 (qet (r.2.2.1.1, (r.2.2.1.2.1, (r.2.2.1.2.2.1, (r.2.2.1.2.2.2.1, (r.2.2.1.2.2.2.2.1, (r.2.2.1.2.2.2.2.2.1, r.2.2.1.2.2.2.2.2.2))))))).bind fun r2 =>
 bif !r2 then (
 some (true, c2, c3, c4, c5, c6, c7))
 else (
 some ((!(decide (r.2.2.2.1 = []) && (decide (r.2.2.2.2.1 = 0) && decide (r.2.2.2.2.2 = 0)))), c2, c3, c4, c5, c6, c7)))) fun s =>
 bif s.1 then (
 some (28, c, s.2.1, s.2.2.1, s.2.2.2.1, s.2.2.2.2.1, s.2.2.2.2.2.1, s.2.2.2.2.2.2))
 else (
 gd (inB 0 r.2.1.length) <|
 gd (inB 1 r.2.1.length) <|
 gd (inB 2 r.2.1.length) <|
 gd (inB 3 r.2.1.length) <|
 gd (inB 4 r.2.1.length) <|
 gd (cutG (some (.i64, 5)) none r.2.1.length) <|
 (qcc (r.2.1.drop 5)).bind fun r3 =>
 (qe1 (r.2.1.getD 0 0, (r.2.1.getD 1 0, (r.2.1.getD 2 0, (r.2.1.getD 3 0, (r.2.1.getD 4 0, r3)))))).bind fun r4 =>
 bif !r4 then (
 some (28, c, s.2.1, s.2.2.1, s.2.2.2.1, s.2.2.2.2.1, s.2.2.2.2.2.1, s.2.2.2.2.2.2))
 else (
 (qh8 s.2.2.2.2.2.1 (r.2.1.getD 0 0)).bind fun r5 =>
 bif !r5.2 then (
 (insT 64 r5.1 s.2.2.2.2.2.1 [(r.2.1.getD 0 0, (r.2.1.getD 1 0, (r.2.1.getD 2 0, (r.2.1.getD 3 0, (r.2.1.getD 4 0, r3)))))]).bind fun r6 =>
 some (0, c, s.2.1, s.2.2.1, s.2.2.2.1, s.2.2.2.2.1, r6, s.2.2.2.2.2.2))
 else (
 gd (inB r5.1 s.2.2.2.2.2.1.length) <|
 (qeu (s.2.2.2.2.2.1.getD r5.1.toNat (0, (0, (0, (0, (0, [])))))) (r.2.1.getD 0 0, (r.2.1.getD 1 0, (r.2.1.getD 2 0, (r.2.1.getD 3 0, (r.2.1.getD 4 0, r3)))))).bind fun r7 =>
 bif !r7 then (
 some (6, c, s.2.1, s.2.2.1, s.2.2.2.1, s.2.2.2.2.1, s.2.2.2.2.2.1, s.2.2.2.2.2.2))
 else (
 gd (inB r5.1 s.2.2.2.2.2.1.length) <|
 some (0, c, s.2.1, s.2.2.1, s.2.2.2.1, s.2.2.2.2.1, s.2.2.2.2.2.1.set r5.1.toNat (r.2.1.getD 0 0, (r.2.1.getD 1 0, (r.2.1.getD 2 0, (r.2.1.getD 3 0, (r.2.1.getD 4 0, r3))))), s.2.2.2.2.2.2)))))
def qiQ : Fun :=
 ⟨76, 3, 1,
 ⟨r16_, v56_, a8_⟩,
 ⟨[(0, ii)], v53_, a31_⟩,
 fun x => qfO x.1 x.2.1 x.2.2.1 x.2.2.2.1 x.2.2.2.2.1 x.2.2.2.2.2.1 x.2.2.2.2.2.2.1 x.2.2.2.2.2.2.2.1 x.2.2.2.2.2.2.2.2⟩
theorem qnQ : FO qiQ := fi [78] [qfB, qc4, qhx, qkL, qbg, qgV] 93 [] ((nn (mm (mm (.mk [.join [⟨.n, ⟨[(1, pt 0 0), (5, pt 96 0), (26, bb)], v73_, a8_⟩⟩]] none .nil .nil) .nil) .nil))) func76 ⟨⟨qiN, qfr, qm7, qpL, qcK, ql4, trivial⟩, trivial⟩
def qaj (s : yB2) (f : (Int × Int × Bool × Bool) × Unit → Option Bool) (v : Int) : Option (Int ⊕ (Unit ⊕ Int)) :=
 bif decide (v < (s.length : Int)) then (
 gd (inB v s.length) <|
 (f (s.getD v.toNat (0, (0, (false, false))), ())).bind fun r =>
 bif r then (
 some (.inr (.inr v)))
 else (
 some (.inl (wi64 (v + 1)))))
 else (
 some (.inr (.inl ())))
def qaK (s : yB2) (f : (Int × Int × Bool × Bool) × Unit → Option Bool) : Option (Int) :=
 (iter (fun x => qaj s f x) 0).bind fun s2 =>
 s2.elim (fun s3 =>
 some (-1))
 (fun s4 =>
 some s4)
def qbt : Fun :=
 ⟨227, 2, 1,
 ⟨r66_, [], []⟩,
 ⟨[(0, ii)], [], []⟩,
 fun x => qaK x.1 x.2⟩
theorem qc5 : FO qbt := fi [] [] 19 [] ((nn (mm (nn (mm (.mk [] (some (⟨r33_, [], []⟩, [⟨.x 0, ⟨[], [], []⟩⟩, ⟨.r, ⟨[(4, ii)], [], []⟩⟩])) .nil .nil) .nil)) .nil))) func227 ⟨trivial, trivial⟩
def qas (s : yB2) (f : (Int × Int × Bool × Bool) × Unit → Option Bool) : Option (Bool) :=
 (qaK s f).bind fun r =>
 some (decide (0 ≤ r))
def qbh : Fun :=
 ⟨206, 2, 1,
 ⟨r66_, [], []⟩,
 ⟨[(0, bb)], [], []⟩,
 fun x => qas x.1 x.2⟩
theorem qcL : FO qbh := fi [] [qbt] 9 [] .nil func206 ⟨⟨qc5, trivial⟩, trivial⟩
def qfs (v : Int × Int × Bool × Bool) : Option (Bool) :=
 (qc3 (v.1, (v.2.1, (v.2.2.1, v.2.2.2)))).bind fun r =>
 some (!r)
def qjp : Fun :=
 ⟨207, 1, 1,
 ⟨[(0, dd tT1)], [], []⟩,
 ⟨[(0, bb)], [], []⟩,
 fun x => qfs x⟩
theorem qo5 : FO qjp := fi [] [qcP] 6 [] .nil func207 ⟨⟨qdx, trivial⟩, trivial⟩
def qgl (rate : Int) (most : Int) : Option (Bool) :=
 bif decide (wi64 (0 - most) ≤ rate) then (
 some (decide (rate ≤ most)))
 else (
 some false)
def qhj : Fun :=
 ⟨228, 2, 1,
 ⟨r58_, [], []⟩,
 ⟨[(0, bb)], [], []⟩,
 fun x => qgl x.1 x.2⟩
theorem qkM : FO qhj := fi [] [] 14 [] .nil func228 ⟨trivial, trivial⟩
def qgW (rate : Int) : Option (Bool) :=
 (qgl rate 1000).bind fun r =>
 some (!r)
def qjq : Fun :=
 ⟨229, 1, 1,
 ⟨[(0, ii)], [], []⟩,
 ⟨[(0, bb)], [], []⟩,
 fun x => qgW x⟩
theorem qo6 : FO qjq := fi [] [qhj] 6 [] .nil func229 ⟨⟨qkM, trivial⟩, trivial⟩
def qcM (vfrom : Int) (to : Int) (rate : Int) (s : List Int × List Int) : Option (List Int × List Int) :=
 Option.bind (α := Int × Int × Int × List Int × List Int) (
 bif decide (rate < 0) then (
 some (to, vfrom, wi64 (0 - rate), s))
 else (
 some (vfrom, to, rate, s))) fun s2 =>
 Option.bind (α := List Int × List Int) (
 bif decide (0 ≤ s2.1) then (
 gd (inB s2.1 24) <|
 gd (inB s2.1 24) <|
 some (s2.2.2.2.1, s2.2.2.2.2.set s2.1.toNat (wi64 ((s2.2.2.2.2.getD s2.1.toNat 0) + s2.2.2.1))))
 else (
 some s2.2.2.2)) fun s3 =>
 bif decide (0 ≤ s2.2.1) then (
 gd (inB s2.2.1 24) <|
 gd (inB s2.2.1 24) <|
 some (s3.1.set s2.2.1.toNat (wi64 ((s3.1.getD s2.2.1.toNat 0) + s2.2.2.1)), s3.2))
 else (
 some s3)
def qgm : Fun :=
 ⟨241, 4, 0,
 ⟨[(0, .one (.ael 0 48)), (1, ii), (2, ii), (3, ii)], [], a60_⟩,
 ⟨[], [], a60_⟩,
 fun x => qcM x.1 x.2.1 x.2.2.1 x.2.2.2⟩
theorem qlo : FO qgm := fi [] [] 40 [] ((mm (nn (.mk [.join [⟨.n, ⟨[(0, .one (.ael 0 48)), (1, ii), (2, ii), (3, ii)], [], a60_⟩⟩]] none .nil .nil)) (mm (nn (.mk [.join [⟨.n, ⟨[(0, .one (.ael 0 48)), (2, kk), (3, kk)], [], a60_⟩⟩]] none .nil .nil)) .nil))) func241 ⟨trivial, trivial⟩
def qc6 (n : yB0) (p : yB6) (v : Int) (v2 : List Int × List Int) (out : List Int × List Int) : Option ((Int × (List Int × List Int) × List Int × List Int) ⊕ ((List Int × List Int) × List Int × List Int)) :=
 bif decide (v < (n.2.1.length : Int)) then (
 gd (inB v n.2.1.length) <|
 gd (inB v p.1.length) <|
 (qcM (((n.2.1.getD v.toNat ([], (0, (0, (0, (0, (0, []))))))).2).1) ((((n.2.1.getD v.toNat ([], (0, (0, (0, (0, (0, []))))))).2).2).1) (p.1.getD v.toNat 0) out).bind fun r =>
 some (.inl (wi64 (v + 1), v2, r)))
 else (
 some (.inr (v2, out)))
def qc7 (n : yB0) (p : yB6) (v3 : Int) (v4 : List Int × List Int) (out2 : List Int × List Int) : Option ((Int × (List Int × List Int) × List Int × List Int) ⊕ ((List Int × List Int) × List Int × List Int)) :=
 bif decide (v3 < (n.2.2.1.length : Int)) then (
 gd (inB v3 n.2.2.1.length) <|
 gd (inB v3 p.2.1.length) <|
 (qcM (-1) (((n.2.2.1.getD v3.toNat ([], (0, 0))).2).1) (p.2.1.getD v3.toNat 0) out2).bind fun r2 =>
 some (.inl (wi64 (v3 + 1), v4, r2)))
 else (
 some (.inr (v4, out2)))
def qjr (n : yB0) (p : yB6) : Option (List Int × List Int) :=
 (iter (fun x => qc6 n p x.1 x.2.1 x.2.2) (0, ((List.replicate 24 0), (List.replicate 24 0)), ((List.replicate 24 0), (List.replicate 24 0)))).bind fun s =>
 (iter (fun x2 => qc7 n p x2.1 x2.2.1 x2.2.2) (0, s.1, s.2)).bind fun s2 =>
 some s2.2
def qjs : Fun :=
 ⟨230, 2, 1,
 ⟨r48_, [], []⟩,
 ⟨[(0, dd (.pair (.arr 24 I6) (.arr 24 I6)))], [], []⟩,
 fun x => qjr x.1 x.2⟩
theorem qnx : FO qjs := fi [3000004, 3000005] [qgm] 47 [] ((nn (nn (mm (nn (mm (.mk [] (some (⟨[(2, pt 48 0), (3, pt 64 0), (4, .one (.ael 80 48)), (5, .one (.ael 96 48)), (11, kk), (12, kk), (13, ii)], v0_, a18_⟩, [⟨.x 0, ⟨[(2, pt 48 0), (3, pt 64 0), (4, .one (.ael 80 48)), (5, .one (.ael 96 48))], v0_, a18_⟩⟩])) .nil .nil) .nil)) (mm (nn (mm (.mk [] (some (⟨[(3, pt 64 0), (4, .one (.ael 80 48)), (5, .one (.ael 96 48)), (30, kk), (31, kk), (32, ii)], [(64, 55, [.keep, .keep, .keep])], a18_⟩, [⟨.x 2, ⟨[(4, .one (.ael 80 48)), (5, .one (.ael 96 48))], [], a18_⟩⟩])) .nil .nil) .nil)) .nil))))) func230 ⟨⟨qlo, trivial⟩, trivial⟩
def ql5 (s : yB9) (rate : Int) : Option (Int × Int) :=
 bif decide (rate < 0) then (
 some (s.2.2.1, s.2.1))
 else (
 some (s.2.1, s.2.2.1))
def qny : Fun :=
 ⟨242, 2, 2,
 ⟨[(0, dd (.pair (.str) tT5)), (1, ii)], [], []⟩,
 ⟨r58_, [], []⟩,
 fun x => ql5 x.1 x.2⟩
theorem qr9 : FO qny := fi [] [] 16 [] .nil func242 ⟨trivial, trivial⟩
def qbG (n : yB0) (p : yB6) (k : Int) (v : Int) (out2 : List Int) (there2 : List Bool) : Option ((Int × List Int × List Bool) ⊕ ((List Int × List Bool) ⊕ (List Int × List Bool))) :=
 bif decide (v < (n.2.1.length : Int)) then (
 gd (inB v n.2.1.length) <|
 gd (inB v p.1.length) <|
 (ql5 ((n.2.1.getD v.toNat ([], (0, (0, (0, (0, (0, []))))))).1, (((n.2.1.getD v.toNat ([], (0, (0, (0, (0, (0, []))))))).2).1, ((((n.2.1.getD v.toNat ([], (0, (0, (0, (0, (0, []))))))).2).2).1, (((((n.2.1.getD v.toNat ([], (0, (0, (0, (0, (0, []))))))).2).2).2).1, ((((((n.2.1.getD v.toNat ([], (0, (0, (0, (0, (0, []))))))).2).2).2).2).1, (((((((n.2.1.getD v.toNat ([], (0, (0, (0, (0, (0, []))))))).2).2).2).2).2).1, ((((((n.2.1.getD v.toNat ([], (0, (0, (0, (0, (0, []))))))).2).2).2).2).2).2)))))) (p.1.getD v.toNat 0)).bind fun r =>
 Option.bind (α := Bool × List Int × List Bool) (
 gd (inB v p.1.length) <|
 bif !decide (p.1.getD v.toNat 0 = 0) then (
 bif decide (r.2 = k) then (
 gd (inB r.1 there2.length) <|
 some ((!(there2.getD r.1.toNat false)), out2, there2))
 else (
 some (false, out2, there2)))
 else (
 some (false, out2, there2))) fun s =>
 bif s.1 then (
 some (.inr (.inl (s.2.1, s.2.2))))
 else (
 some (.inl (wi64 (v + 1), s.2.1, s.2.2))))
 else (
 some (.inr (.inr (out2, there2))))
def qaO (n : yB0) (p : yB6) (k : Int) (out : List Int) (there : List Bool) : Option ((Int × List Int × List Bool) ⊕ (List Int)) :=
 bif decide (k < (n.1.length : Int)) then (
 Option.bind (α := Int × List Int × List Bool) (
 gd (inB k there.length) <|
 bif there.getD k.toNat false then (
 some (k, out, there))
 else (
 (iter (fun x => qbG n p k x.1 x.2.1 x.2.2) (0, out, there)).bind fun s2 =>
 s2.elim (fun s3 =>
 some (k, s3.1, s3.2))
 (fun s4 =>
 gd (inB k s4.2.length) <|
 gd (fits (s4.1.length + 1) 8) <|
 some ((-1), s4.1 ++ [k], s4.2.set k.toNat true)))) fun s5 =>
 some (.inl (wi64 (s5.1 + 1), s5.2.1, s5.2.2)))
 else (
 some (.inr out))
def qke (n : yB0) (p : yB6) : Option (List Int) :=
 gd (makeG 1 (n.1.length : Int)) <|
 (iter (fun x2 => qaO n p x2.1 x2.2.1 x2.2.2) (0, [], List.replicate (n.1.length : Int).toNat (false : Bool))).bind fun s6 =>
 some s6
def ql6 : Fun :=
 ⟨231, 2, 1,
 ⟨r48_, [], []⟩,
 ⟨[(0, ow 0)], [], [(0, .arr 3 I6)]⟩,
 fun x => qke x.1 x.2⟩
theorem qqV : FO ql6 := fi [] [qny] 72 [] ((nn (mm (nn (nn (nn (mm (nn (mm (.mk [] (some (⟨r100_, v0_, a43_⟩, [⟨.x 0, ⟨[(5, ow 107)], [], [(107, .arr 3 I6)]⟩⟩])) (nn (mm (.mk [.join [⟨.n, ⟨r100_, v0_, a43_⟩⟩]] none (nn (mm (nn (mm (.mk [] (some (⟨[(2, pt 48 0), (3, pt 64 0), (5, ow 107), (6, ow 256), (7, kk), (28, kk), (29, kk), (30, ii)], v0_, a43_⟩, [⟨.x 1, ⟨r101_, v0_, a43_⟩⟩, ⟨.x 2, ⟨r101_, v0_, a43_⟩⟩])) (nn (nn (mm (mm (nn (nn (mm (.mk [.join [⟨.n, ⟨[(2, pt 48 0), (3, pt 64 0), (5, ow 107), (6, ow 256), (7, kk), (28, kk), (29, kk), (30, kk), (62, bb)], v0_, a43_⟩⟩]] none .nil .nil) .nil))) .nil) .nil))) .nil) .nil)) .nil)) .nil) .nil)) .nil) .nil)) .nil)))) .nil))) func231 ⟨⟨qr9, trivial⟩, trivial⟩
def qfP (n : yB0) (p : yB6) (v : Int) : Option (Int ⊕ (Unit ⊕ Int)) :=
 bif decide (v < (n.2.1.length : Int)) then (
 gd (inB v n.2.1.length) <|
 gd (inB v p.1.length) <|
 (qgl (p.1.getD v.toNat 0) (min 1000 (((((n.2.1.getD v.toNat ([], (0, (0, (0, (0, (0, []))))))).2).2).2).1))).bind fun r2 =>
 bif !r2 then (
 some (.inr (.inr 1)))
 else (
 some (.inl (wi64 (v + 1)))))
 else (
 some (.inr (.inl ())))
def qeP (n : yB0) (p : yB6) : Option (Int) :=
 (qcb (n.1, (n.2.1, (n.2.2.1, (n.2.2.2.1, (n.2.2.2.2.1, n.2.2.2.2.2)))))).bind fun r =>
 bif !decide (r = 0) then (
 some r)
 else (
 Option.bind (α := Bool) (
 bif !decide ((p.1.length : Int) = (n.2.1.length : Int)) then (
 some true)
 else (
 bif !decide ((p.2.1.length : Int) = (n.2.2.1.length : Int)) then (
 some true)
 else (
 some (!decide ((p.2.2.length : Int) = (n.2.2.2.1.length : Int)))))) fun s =>
 bif s then (
 some 9)
 else (
 (iter (fun x => qfP n p x) 0).bind fun s2 =>
 s2.elim (fun s3 =>
 (qaA p.2.1 (fun h => (qgW h.1).bind fun y => some y)).bind fun r3 =>
 bif r3 then (
 some 1)
 else (
 (qjr (n.1, (n.2.1, (n.2.2.1, (n.2.2.2.1, (n.2.2.2.2.1, n.2.2.2.2.2))))) (p.1, (p.2.1, p.2.2))).bind fun r4 =>
 bif !((List.range 24).all fun i => decide ((r4.1.getD i 0) = (r4.2.getD i 0))) then (
 some 12)
 else (
 (qke (n.1, (n.2.1, (n.2.2.1, (n.2.2.2.1, (n.2.2.2.2.1, n.2.2.2.2.2))))) (p.1, (p.2.1, p.2.2))).bind fun r5 =>
 bif decide ((r5.length : Int) < (n.1.length : Int)) then (
 some 13)
 else (
 some 0))))
 (fun s4 =>
 some s4)))
def qev : Fun :=
 ⟨208, 2, 1,
 ⟨r48_, [], []⟩,
 ⟨[(0, ii)], [], []⟩,
 fun x => qeP x.1 x.2⟩
theorem qfQ : FO qev := fi [3000008] [qb4, qhj, qa6, qjq, qjs, ql6] 77 [] ((nn (nn (mm (mm (.mk [.join [⟨.n, ⟨[(2, pt 48 0), (3, pt 64 0), (38, bb)], v0_, []⟩⟩]] none .nil .nil) .nil) (mm (nn (mm (.mk [] (some (⟨[(2, pt 48 0), (3, pt 64 0), (40, kk), (41, kk), (42, ii)], v0_, []⟩, [⟨.x 0, ⟨r34_, v0_, []⟩⟩, ⟨.r, ⟨[(4, ii)], [], []⟩⟩])) .nil .nil) .nil)) .nil))))) func208 ⟨⟨qcJ, qkM, qbr, qo6, qnx, qqV, trivial⟩, trivial⟩
def qbW (rates : List Int) (v : Int) (out : List Bool) : Option ((Int × List Bool) ⊕ (List Bool)) :=
 bif decide (v < (rates.length : Int)) then (
 gd (inB v rates.length) <|
 gd (fits (out.length + 1) 1) <|
 some (.inl (wi64 (v + 1), out ++ [(!decide (rates.getD v.toNat 0 = 0))])))
 else (
 some (.inr out))
def qft (rates : List Int) : Option (List Bool) :=
 (iter (fun x => qbW rates x.1 x.2) (0, [])).bind fun s =>
 some s
def qjt : Fun :=
 ⟨232, 1, 1,
 ⟨r99_, [], []⟩,
 ⟨[(0, ow 0)], [], a128_⟩,
 fun x => qft x⟩
theorem qo7 : FO qjt := fi [] [] 19 [] ((nn (nn (mm (nn (mm (.mk [] (some (⟨[(3, ow 75), (6, kk), (7, kk), (8, ii)], [], [(75, .arr 4 (.bool))]⟩, [⟨.x 0, ⟨[(3, ow 75)], [], [(75, .arr 4 (.bool))]⟩⟩])) .nil .nil) .nil)) .nil)))) func232 ⟨trivial, trivial⟩
def qeQ (n : yB0) (p : yB6) : Option (Int × List Bool × List Bool) :=
 (qcb (n.1, (n.2.1, (n.2.2.1, (n.2.2.2.1, (n.2.2.2.2.1, n.2.2.2.2.2)))))).bind fun r =>
 bif !decide (r = 0) then (
 some (r, [], []))
 else (
 (qeP (n.1, (n.2.1, (n.2.2.1, (n.2.2.2.1, (n.2.2.2.2.1, n.2.2.2.2.2))))) (p.1, (p.2.1, p.2.2))).bind fun r2 =>
 bif !decide (r2 = 0) then (
 some (r2, [], []))
 else (
 (qft p.1).bind fun r3 =>
 (qft p.2.1).bind fun r4 =>
 some (0, r3, r4)))
def qhk : Fun :=
 ⟨209, 2, 2,
 ⟨r48_, [], []⟩,
 ⟨[(0, .agg [.own 0, .own 1]), (1, ii)], [], [(0, .arr 4 (.bool)), (1, .arr 4 (.bool))]⟩,
 fun x => qeQ x.1 x.2⟩
theorem qkN : FO qhk := fi [] [qb4, qev, qjt] 28 [] .nil func209 ⟨⟨qcJ, qfQ, qo7, trivial⟩, trivial⟩
def qdA (l : List Bool × List Bool) : Option (List Bool) :=
 gd (fits (0 + l.1.length) 1) <|
 gd (fits (([] ++ l.1).length + l.2.length) 1) <|
 some (([] ++ l.1) ++ l.2)
def qeR : Fun :=
 ⟨210, 1, 1,
 ⟨[(0, dd (.pair (.sl (.bool)) (.sl (.bool))))], [], []⟩,
 ⟨[(0, ow 0)], [], a128_⟩,
 fun x => qdA x⟩
theorem qhy : FO qeR := fi [] [] 11 [] .nil func210 ⟨trivial, trivial⟩
def qkf (v : Int × Int × Bool × Bool) : Option (Bool) :=
 (qc3 (v.1, (v.2.1, (v.2.2.1, v.2.2.2)))).bind fun r =>
 bif r then (
 some (decide (v.2.1 = v.1)))
 else (
 some false)
def ql7 : Fun :=
 ⟨233, 1, 1,
 ⟨[(0, dd tT1)], [], []⟩,
 ⟨[(0, bb)], [], []⟩,
 fun x => qkf x⟩
theorem qqW : FO ql7 := fi [] [qcP] 12 [] .nil func233 ⟨⟨qdx, trivial⟩, trivial⟩
def qhz (v : Int × Int × Bool × Bool) : Option (Bool) :=
 (qkf (v.1, (v.2.1, (v.2.2.1, v.2.2.2)))).bind fun r =>
 bif r then (
 some v.2.2.1)
 else (
 some false)
def qh9 : Fun :=
 ⟨211, 1, 1,
 ⟨[(0, dd tT1)], [], []⟩,
 ⟨[(0, bb)], [], []⟩,
 fun x => qhz x⟩
theorem ql8 : FO qh9 := fi [] [ql7] 9 [] .nil func211 ⟨⟨qqW, trivial⟩, trivial⟩
def qgX (n : yB0) (p : yB6) (node : Int) : Option (Int × Int) :=
 (qeP (n.1, (n.2.1, (n.2.2.1, (n.2.2.2.1, (n.2.2.2.2.1, n.2.2.2.2.2))))) (p.1, (p.2.1, p.2.2))).bind fun r =>
 bif !decide (r = 0) then (
 some (0, r))
 else (
 Option.bind (α := Bool) (
 bif decide (node < 0) then (
 some true)
 else (
 some (decide ((n.1.length : Int) ≤ node)))) fun s =>
 bif s then (
 some (0, 8))
 else (
 (qjr (n.1, (n.2.1, (n.2.2.1, (n.2.2.2.1, (n.2.2.2.2.1, n.2.2.2.2.2))))) (p.1, (p.2.1, p.2.2))).bind fun r2 =>
 gd (inB node 24) <|
 some (r2.1.getD node.toNat 0, 0)))
def qju : Fun :=
 ⟨243, 3, 2,
 ⟨r93_, [], []⟩,
 ⟨r58_, [], []⟩,
 fun x => qgX x.1 x.2.1 x.2.2⟩
theorem qo8 : FO qju := fi [] [qev, qjs] 30 [] ((nn (nn (mm (mm (.mk [.join [⟨.n, ⟨[(2, kk), (3, pt 64 0), (4, pt 80 0), (23, bb)], v28_, []⟩⟩]] none .nil .nil) .nil) .nil)))) func243 ⟨⟨qfQ, qnx, trivial⟩, trivial⟩
def qgn (n : yB0) (p : yB6) (station : Int) : Option (Bool) :=
 gd (inB station n.2.2.2.1.length) <|
 (qgX (n.1, (n.2.1, (n.2.2.1, (n.2.2.2.1, (n.2.2.2.2.1, n.2.2.2.2.2))))) (p.1, (p.2.1, p.2.2)) (((n.2.2.2.1.getD station.toNat ([], (0, (0, (0, 0))))).2).1)).bind fun r =>
 bif decide (r.2 = 0) then (
 some (!decide (r.1 = 0)))
 else (
 some false)
def qhl : Fun :=
 ⟨234, 3, 1,
 ⟨r93_, [], []⟩,
 ⟨[(0, bb)], [], []⟩,
 fun x => qgn x.1 x.2.1 x.2.2⟩
theorem qkO : FO qhl := fi [] [qju] 27 [] .nil func234 ⟨⟨qo8, trivial⟩, trivial⟩
def qia (n : yB0) (p : yB6) (v : Int) : Option (Int ⊕ (Unit ⊕ Bool)) :=
 bif decide (v < (p.2.2.length : Int)) then (
 gd (inB v p.2.2.length) <|
 Option.bind (α := Bool) (
 bif p.2.2.getD v.toNat false then (
 bif decide (v < (n.2.2.2.1.length : Int)) then (
 (qgn (n.1, (n.2.1, (n.2.2.1, (n.2.2.2.1, (n.2.2.2.2.1, n.2.2.2.2.2))))) (p.1, (p.2.1, p.2.2)) v).bind fun r =>
 some (!r))
 else (
 some false))
 else (
 some false)) fun s =>
 bif s then (
 some (.inr (.inr true)))
 else (
 some (.inl (wi64 (v + 1)))))
 else (
 some (.inr (.inl ())))
def qhA (n : yB0) (p : yB6) : Option (Bool) :=
 (iter (fun x => qia n p x) 0).bind fun s2 =>
 s2.elim (fun s3 =>
 some false)
 (fun s4 =>
 some s4)
def qib : Fun :=
 ⟨212, 2, 1,
 ⟨r48_, [], []⟩,
 ⟨[(0, bb)], [], []⟩,
 fun x => qhA x.1 x.2⟩
theorem ql9 : FO qib := fi [] [qhl] 31 [] ((nn (mm (nn (mm (.mk [] (some (⟨[(2, pt 48 0), (3, pt 64 0), (8, kk), (9, kk), (10, ii)], v0_, []⟩, [⟨.x 0, ⟨[], [], []⟩⟩, ⟨.r, ⟨[(4, bb)], [], []⟩⟩])) (nn (nn (mm (mm (nn (mm (.mk [.join [⟨.n, ⟨[(2, pt 48 0), (3, pt 64 0), (8, kk), (9, kk), (10, kk), (29, bb)], v0_, []⟩⟩]] none .nil .nil) .nil)) .nil) .nil))) .nil) .nil)) .nil))) func212 ⟨⟨qkO, trivial⟩, trivial⟩
def qbH (d : yB3) (r6 : List Bool) (v : Int) (v2 : List Bool) : Option ((Int × List Bool) ⊕ (Unit ⊕ Int)) :=
 bif decide (v < (r6.length : Int)) then (
 gd (inB v v2.length) <|
 Option.bind (α := Bool × List Bool) (
 bif v2.getD v.toNat false then (
 gd (inB v d.1.length) <|
 (qhz (d.1.getD v.toNat (0, (0, (false, false))))).bind fun r7 =>
 some ((!r7), v2))
 else (
 some (false, v2))) fun s2 =>
 bif s2.1 then (
 some (.inr (.inr 21)))
 else (
 some (.inl (wi64 (v + 1), s2.2))))
 else (
 some (.inr (.inl ())))
def qkg (n : yB0) (d : yB3) : Option (Int) :=
 (qcb (n.1, (n.2.1, (n.2.2.1, (n.2.2.2.1, (n.2.2.2.2.1, n.2.2.2.2.2)))))).bind fun r =>
 bif !decide (r = 0) then (
 some r)
 else (
 Option.bind (α := Bool) (
 (qfq (n.1, (n.2.1, (n.2.2.1, (n.2.2.2.1, (n.2.2.2.2.1, n.2.2.2.2.2)))))).bind fun r2 =>
 bif !decide ((d.1.length : Int) = r2) then (
 some true)
 else (
 (qas d.1 (fun h => (qfs h.1).bind fun y => some y)).bind fun r3 =>
 some r3)) fun s =>
 bif s then (
 some 20)
 else (
 (qeP (n.1, (n.2.1, (n.2.2.1, (n.2.2.2.1, (n.2.2.2.2.1, n.2.2.2.2.2))))) (d.2.1, (d.2.2.1, d.2.2.2))).bind fun r4 =>
 bif !decide (r4 = 0) then (
 some r4)
 else (
 (qeQ (n.1, (n.2.1, (n.2.2.1, (n.2.2.2.1, (n.2.2.2.2.1, n.2.2.2.2.2))))) (d.2.1, (d.2.2.1, d.2.2.2))).bind fun r5 =>
 bif !decide (r5.1 = 0) then (
 some r5.1)
 else (
 (qdA (r5.2.1, r5.2.2)).bind fun r6 =>
 (iter (fun x => qbH d r6 x.1 x.2) (0, r6)).bind fun s3 =>
 s3.elim (fun s4 =>
 (qhA (n.1, (n.2.1, (n.2.2.1, (n.2.2.2.1, (n.2.2.2.2.1, n.2.2.2.2.2))))) (d.2.1, (d.2.2.1, d.2.2.2))).bind fun r8 =>
 bif r8 then (
 some 21)
 else (
 some 0))
 (fun s5 =>
 some s5)))))
def qma : Fun :=
 ⟨168, 2, 1,
 ⟨[(0, dd tT0), (1, dd (.pair (.sl tT1) tT6))], [], []⟩,
 ⟨[(0, ii)], [], []⟩,
 fun x => qkg x.1 x.2⟩
theorem qqX : FO qma := fi [] [qb4, qge, qbh, qjp, qev, qhk, qeR, qh9, qib] 67 [] ((nn (nn (mm (mm (.mk [.join [⟨.n, ⟨[(2, pt 48 0), (3, pt 64 0), (26, bb)], v41_, []⟩⟩]] none .nil .nil) .nil) (nn (nn (nn (mm (nn (mm (.mk [] (some (⟨[(2, pt 48 0), (3, pt 64 0), (45, ow 736), (46, kk), (47, ii)], v41_, [(736, .arr 4 (.bool))]⟩, [⟨.x 0, ⟨r34_, v41_, []⟩⟩, ⟨.r, ⟨[(4, ii)], [], []⟩⟩])) (nn (nn (mm (mm (nn (mm (.mk [.join [⟨.n, ⟨[(2, pt 48 0), (3, pt 64 0), (45, ow 736), (46, kk), (47, kk), (61, bb)], v41_, [(736, .arr 4 (.bool))]⟩⟩]] none .nil .nil) .nil)) .nil) .nil))) .nil) .nil)) .nil)))))))) func168 ⟨⟨qcJ, qjm, qcL, qo5, qfQ, qkN, qhy, ql8, ql9, trivial⟩, trivial⟩
def qkh (s : yB5) : Option (Bool) :=
 Option.bind (α := Bool) (
 bif decide (s.2.2.2.1 = 0) then (
 bif decide (s.2.2.2.2.1 = 0) then (
 bif decide ((s.2.2.2.2.2.1.length : Int) = 0) then (
 some (decide (s.2.2.2.2.2.2 = 0)))
 else (
 some false))
 else (
 some false))
 else (
 some false)) fun s2 =>
 Option.bind (α := Bool) (
 bif decide (s.1 = 1) then (
 some (decide (s.1 = 1)))
 else (
 Option.bind (α := Bool) (
 bif decide (s.1 = 2) then (
 some (decide (s.1 = 2)))
 else (
 Option.bind (α := Bool) (
 bif decide (s.1 = 3) then (
 some (decide (s.1 = 3)))
 else (
 some (decide (s.1 = 4)))) fun s3 =>
 some s3)) fun s4 =>
 some s4)) fun s5 =>
 bif s5 then (
 bif decide (s.2.2.1 = 0) then (
 some s2)
 else (
 some false))
 else (
 bif decide (s.1 = 5) then (
 bif decide (s.2.1 = 0) then (
 some (decide (s.2.2.2.2.2.2 = 0)))
 else (
 some false))
 else (
 bif decide (s.1 = 6) then (
 bif decide (s.2.1 = 0) then (
 some s2)
 else (
 some false))
 else (
 some false)))
def qmb : Fun :=
 ⟨213, 1, 1,
 ⟨r64_, [], []⟩,
 ⟨[(0, bb)], [], []⟩,
 fun x => qkh x⟩
theorem qqY : FO qmb := fi [] [] 57 [] ((nn (nn (mm (.mk [.join [⟨.n, ⟨[(1, pt 32 0), (3, pt 64 0), (4, bb)], v91_, []⟩⟩]] none .nil .nil) (mm (nn (mm (mm (nn (.mk [.join [⟨.n, ⟨r71_, v91_, []⟩⟩]] none .nil (nn (.mk [.join [⟨.n, ⟨r71_, v91_, []⟩⟩]] none .nil (nn (.mk [.join [⟨.n, ⟨r71_, v91_, []⟩⟩]] none .nil .nil)))))) .nil) .nil)) .nil))))) func213 ⟨trivial, trivial⟩
def qfR (v : Int × Int × Bool × Bool) (vopen : Bool) : Option ((Int × Int × Bool × Bool) × Int) :=
 (qc3 (v.1, (v.2.1, (v.2.2.1, v.2.2.2)))).bind fun r =>
 bif !r then (
 some ((v.1, (v.2.1, (v.2.2.1, v.2.2.2))), 20))
 else (
 some ((v.1, (v.2.1, (vopen, v.2.2.2))), 0))
def qiR : Fun :=
 ⟨235, 2, 2,
 ⟨[(0, dd tT1), (1, bb)], [], []⟩,
 ⟨r69_, [], []⟩,
 fun x => qfR x.1 x.2⟩
theorem qnR : FO qiR := fi [] [qcP] 13 [] .nil func235 ⟨⟨qdx, trivial⟩, trivial⟩
def qjv (n : yB0) (s : yB5) (d : yB2) (d2 : List Int) (d3 : List Int) (d4 : List Bool) : Option yB8 :=
 Option.bind (α := Bool × yB2 × List Int × List Int × List Bool) (
 bif decide (s.2.1 < 0) then (
 some (true, d, d2, d3, d4))
 else (
 some (decide ((d.length : Int) ≤ s.2.1), d, d2, d3, d4))) fun s2 =>
 bif s2.1 then (
 some (8, s2.2.1, s2.2.2.1, s2.2.2.2.1, s2.2.2.2.2))
 else (
 Option.bind (α := (yB2 × List Int × List Int × List Bool) ⊕ yB8) (
 bif decide (s.1 = 2) then (
 (qeQ (n.1, (n.2.1, (n.2.2.1, (n.2.2.2.1, (n.2.2.2.2.1, n.2.2.2.2.2))))) (s2.2.2.1, (s2.2.2.2.1, s2.2.2.2.2))).bind fun r =>
 bif !decide (r.1 = 0) then (
 some (.inr (r.1, s2.2.1, s2.2.2.1, s2.2.2.2.1, s2.2.2.2.2)))
 else (
 (qdA (r.2.1, r.2.2)).bind fun r2 =>
 gd (inB s.2.1 r2.length) <|
 bif r2.getD s.2.1.toNat false then (
 some (.inr (22, s2.2.1, s2.2.2.1, s2.2.2.2.1, s2.2.2.2.2)))
 else (
 some (.inl (s2.2.1, s2.2.2.1, s2.2.2.2.1, s2.2.2.2.2)))))
 else (
 some (.inl (s2.2.1, s2.2.2.1, s2.2.2.2.1, s2.2.2.2.2)))) fun s3 =>
 s3.elim (fun s4 =>
 gd (inB s.2.1 s4.1.length) <|
 (qfR (s4.1.getD s.2.1.toNat (0, (0, (false, false)))) (decide (s.1 = 1))).bind fun r3 =>
 gd (inB s.2.1 s4.1.length) <|
 some (r3.2, s4.1.set s.2.1.toNat (r3.1.1, (r3.1.2.1, (r3.1.2.2.1, r3.1.2.2.2))), s4.2.1, s4.2.2.1, s4.2.2.2))
 (fun s5 =>
 some (s5.1, s5.2.1, s5.2.2.1, s5.2.2.2.1, s5.2.2.2.2)))
def qnz : Fun :=
 ⟨214, 3, 1,
 ⟨r26_, v6_, a1_⟩,
 ⟨[(0, ii)], v6_, a1_⟩,
 fun x => qjv x.1 x.2.1 x.2.2.1 x.2.2.2.1 x.2.2.2.2.1 x.2.2.2.2.2⟩
theorem qsa : FO qnz := fi [] [qhk, qeR, qiR] 69 [] ((nn (mm (mm (.mk [.join [⟨.n, ⟨[(1, pt 0 0), (3, pt 64 0), (5, pt 96 0), (23, bb)], v83_, a1_⟩⟩]] none .nil .nil) .nil) (mm (nn (.mk [.join [⟨.n, ⟨[(1, pt 0 0), (5, pt 96 0)], v44_, a1_⟩⟩, ⟨.r, ⟨[(6, ii)], v6_, a1_⟩⟩]] none .nil .nil)) .nil)))) func214 ⟨⟨qkN, qhy, qnR, trivial⟩, trivial⟩
def qmc (n : yB0) (s : yB5) (d : yB2) (d2 : List Int) (d3 : List Int) (d4 : List Bool) : Option yB8 :=
 Option.bind (α := Bool × yB2 × List Int × List Int × List Bool) (
 bif decide (s.2.1 < 0) then (
 some (true, d, d2, d3, d4))
 else (
 some (decide ((n.2.2.2.1.length : Int) ≤ s.2.1), d, d2, d3, d4))) fun s2 =>
 bif s2.1 then (
 some (8, s2.2.1, s2.2.2.1, s2.2.2.2.1, s2.2.2.2.2))
 else (
 Option.bind (α := Bool × yB2 × List Int × List Int × List Bool) (
 bif decide (s.1 = 3) then (
 (qgn (n.1, (n.2.1, (n.2.2.1, (n.2.2.2.1, (n.2.2.2.2.1, n.2.2.2.2.2))))) (s2.2.2.1, (s2.2.2.2.1, s2.2.2.2.2)) s.2.1).bind fun r =>
 some ((!r), s2.2.1, s2.2.2.1, s2.2.2.2.1, s2.2.2.2.2))
 else (
 some (false, s2.2.1, s2.2.2.1, s2.2.2.2.1, s2.2.2.2.2))) fun s3 =>
 bif s3.1 then (
 some (22, s3.2.1, s3.2.2.1, s3.2.2.2.1, s3.2.2.2.2))
 else (
 gd (inB s.2.1 s3.2.2.2.2.length) <|
 some (0, s3.2.1, s3.2.2.1, s3.2.2.2.1, s3.2.2.2.2.set s.2.1.toNat (decide (s.1 = 3)))))
def qo9 : Fun :=
 ⟨215, 3, 1,
 ⟨r26_, v6_, a1_⟩,
 ⟨[(0, ii)], v6_, a1_⟩,
 fun x => qmc x.1 x.2.1 x.2.2.1 x.2.2.2.1 x.2.2.2.2.1 x.2.2.2.2.2⟩
theorem qta : FO qo9 := fi [] [qhl] 43 [] ((nn (mm (mm (.mk [.join [⟨.n, ⟨[(1, pt 0 0), (3, pt 64 0), (5, pt 96 0), (17, bb)], v83_, a1_⟩⟩]] none .nil .nil) .nil) (mm (mm (.mk [.join [⟨.n, ⟨[(1, pt 0 0), (5, pt 96 0), (31, bb)], v44_, a1_⟩⟩]] none .nil .nil) .nil) .nil)))) func215 ⟨⟨qkO, trivial⟩, trivial⟩
def qfS (i : Int) (v : yB0) : Option (Bool) :=
 bif decide (0 ≤ i) then (
 some (decide (i < (v.2.2.1.length : Int))))
 else (
 some false)
def qiS : Fun :=
 ⟨252, 2, 1,
 ⟨[(0, ii), (1, .one (.sel tT0))], [], []⟩,
 ⟨[(0, bb)], [], []⟩,
 fun x => qfS x.1 x.2⟩
theorem qnS : FO qiS := fi [] [] 13 [] .nil func252 ⟨trivial, trivial⟩
def qki (n : yB0) (h : Int × Bool) : Option (Int × Int) :=
 gd (inB h.1 n.2.1.length) <|
 bif h.2 then (
 some ((((n.2.1.getD h.1.toNat ([], (0, (0, (0, (0, (0, []))))))).2).2).1, ((n.2.1.getD h.1.toNat ([], (0, (0, (0, (0, (0, []))))))).2).1))
 else (
 some (((n.2.1.getD h.1.toNat ([], (0, (0, (0, (0, (0, []))))))).2).1, (((n.2.1.getD h.1.toNat ([], (0, (0, (0, (0, (0, []))))))).2).2).1))
def qmd : Fun :=
 ⟨253, 2, 2,
 ⟨[(0, dd tT0), (1, dd (.pair I6 (.bool)))], [], []⟩,
 ⟨r58_, [], []⟩,
 fun x => qki x.1 x.2⟩
theorem qqZ : FO qmd := fi [] [] 23 [] .nil func253 ⟨trivial, trivial⟩
def qa2 (s : List Int) (v : Int) (v2 : Int) : Option (Int ⊕ (Unit ⊕ Int)) :=
 bif decide (v2 < (s.length : Int)) then (
 gd (inB v2 s.length) <|
 bif decide (v = s.getD v2.toNat 0) then (
 some (.inr (.inr v2)))
 else (
 some (.inl (wi64 (v2 + 1)))))
 else (
 some (.inr (.inl ())))
def qdr (s : List Int) (v : Int) : Option (Int) :=
 (iter (fun x => qa2 s v x) 0).bind fun s2 =>
 s2.elim (fun s3 =>
 some (-1))
 (fun s4 =>
 some s4)
def qew : Fun :=
 ⟨257, 2, 1,
 ⟨[(0, dd (.sl I6)), (1, ii)], [], []⟩,
 ⟨[(0, ii)], [], []⟩,
 fun x => qdr x.1 x.2⟩
theorem qic : FO qew := fi [] [] 19 [] ((nn (mm (nn (mm (.mk [] (some (⟨r33_, [], []⟩, [⟨.x 0, ⟨[], [], []⟩⟩, ⟨.r, ⟨[(4, ii)], [], []⟩⟩])) .nil .nil) .nil)) .nil))) func257 ⟨trivial, trivial⟩
def qbI (s : List Int) (v : Int) : Option (Bool) :=
 (qdr s v).bind fun r =>
 some (decide (0 ≤ r))
def qdo : Fun :=
 ⟨254, 2, 1,
 ⟨[(0, dd (.sl I6)), (1, ii)], [], []⟩,
 ⟨[(0, bb)], [], []⟩,
 fun x => qbI x.1 x.2⟩
theorem qgM : FO qdo := fi [] [qew] 9 [] .nil func254 ⟨⟨qic, trivial⟩, trivial⟩
def qch (n : yB0) (p : yB7) (vat : Int) (v : Int) (passed : List Int) : Option ((Int × Int × List Int) ⊕ (Int ⊕ Bool)) :=
 bif decide (v < (p.2.2.1.length : Int)) then (
 gd (inB v p.2.2.1.length) <|
 Option.bind (α := Bool × List Int) (
 bif decide ((p.2.2.1.getD v.toNat (0, false)).1 < 0) then (
 some (true, passed))
 else (
 some (decide ((n.2.1.length : Int) ≤ (p.2.2.1.getD v.toNat (0, false)).1), passed))) fun s2 =>
 bif s2.1 then (
 some (.inr (.inr false)))
 else (
 (qki (n.1, (n.2.1, (n.2.2.1, (n.2.2.2.1, (n.2.2.2.2.1, n.2.2.2.2.2))))) ((p.2.2.1.getD v.toNat (0, false)).1, (p.2.2.1.getD v.toNat (0, false)).2)).bind fun r3 =>
 Option.bind (α := Bool × List Int) (
 bif !decide (r3.1 = vat) then (
 some (true, s2.2))
 else (
 (qbI s2.2 r3.2).bind fun r4 =>
 some (r4, s2.2))) fun s3 =>
 bif s3.1 then (
 some (.inr (.inr false)))
 else (
 gd (fits (s3.2.length + 1) 8) <|
 some (.inl (r3.2, wi64 (v + 1), s3.2 ++ [r3.2])))))
 else (
 some (.inr (.inl vat)))
def qid (n : yB0) (p : yB7) : Option (Bool) :=
 Option.bind (α := Bool) (
 (qfS p.1 (n.1, (n.2.1, (n.2.2.1, (n.2.2.2.1, (n.2.2.2.2.1, n.2.2.2.2.2)))))).bind fun r =>
 bif !r then (
 some true)
 else (
 (qfS p.2.1 (n.1, (n.2.1, (n.2.2.1, (n.2.2.2.1, (n.2.2.2.2.1, n.2.2.2.2.2)))))).bind fun r2 =>
 bif !r2 then (
 some true)
 else (
 bif decide (p.1 = p.2.1) then (
 some true)
 else (
 bif decide (p.2.2.2 < 1) then (
 some true)
 else (
 bif decide (1000 < p.2.2.2) then (
 some true)
 else (
 some (decide (32 < (p.2.2.1.length : Int))))))))) fun s =>
 bif s then (
 some false)
 else (
 gd (inB p.1 n.2.2.1.length) <|
 (iter (fun x => qch n p x.1 x.2.1 x.2.2) (((n.2.2.1.getD p.1.toNat ([], (0, 0))).2).1, 0, [((n.2.2.1.getD p.1.toNat ([], (0, 0))).2).1])).bind fun s4 =>
 s4.elim (fun s5 =>
 gd (inB p.2.1 n.2.2.1.length) <|
 some (decide (s5 = ((n.2.2.1.getD p.2.1.toNat ([], (0, 0))).2).1)))
 (fun s6 =>
 some s6))
def qkP : Fun :=
 ⟨244, 2, 1,
 ⟨r120_, [], []⟩,
 ⟨[(0, bb)], [], []⟩,
 fun x => qid x.1 x.2⟩
theorem qpM : FO qkP := fi [56] [qiS, qmd, qdo] 104 [] ((nn (mm (.mk [.fv [(2, .pair (.sl (.str)) (.pair (.sl (.pair (.str) tT5)) (.pair (.sl (.pair (.str) (.pair I6 I6))) (.pair (.sl tT2) (.pair I6 I6)))))]] none .nil .nil) (mm (mm (.mk [.join [⟨.n, ⟨[(2, kk), (3, pt 64 0), (47, bb)], [(64, 26, (kp 4))], []⟩⟩]] none .nil .nil) .nil) (nn (nn (mm (nn (mm (.mk [] (some (⟨[(2, kk), (3, pt 64 0), (6, ii), (7, ow 139), (58, kk), (59, kk), (60, ii)], [(64, 26, (kp 4))], a102_⟩, [⟨.x 0, ⟨[(2, kk), (3, pt 64 0), (6, ii)], [(64, 26, (kp 4))], []⟩⟩, ⟨.r, ⟨[(4, bb)], [], []⟩⟩])) (nn (nn (mm (mm (nn (mm (mm (.mk [.join [⟨.n, ⟨[(2, kk), (3, pt 64 0), (6, kk), (7, ow 139), (9, pt 160 0), (58, kk), (59, kk), (60, kk), (74, bb)], [(64, 26, (kp 4)), (160, 114, [.keep, .keep])], a102_⟩⟩]] none .nil .nil) .nil) (nn (mm (mm (.mk [.join [⟨.n, ⟨[(2, kk), (3, pt 64 0), (7, ow 139), (11, kk), (58, kk), (59, kk), (60, kk), (88, bb)], [(64, 26, (kp 4))], a102_⟩⟩]] none .nil .nil) .nil) .nil)))) .nil) .nil))) .nil) .nil)) .nil))))))) func244 ⟨⟨qnS, qqZ, qgM, trivial⟩, trivial⟩
def qie (n : yB0) (p : yB7) : Option (Bool) :=
 (qcb (n.1, (n.2.1, (n.2.2.1, (n.2.2.2.1, (n.2.2.2.2.1, n.2.2.2.2.2)))))).bind fun r =>
 bif decide (r = 0) then (
 (qid (n.1, (n.2.1, (n.2.2.1, (n.2.2.2.1, (n.2.2.2.2.1, n.2.2.2.2.2))))) (p.1, (p.2.1, (p.2.2.1, p.2.2.2)))).bind fun r2 =>
 some r2)
 else (
 some false)
def qkQ : Fun :=
 ⟨236, 2, 1,
 ⟨r120_, [], []⟩,
 ⟨[(0, bb)], [], []⟩,
 fun x => qie x.1 x.2⟩
theorem qpN : FO qkQ := fi [] [qb4, qkP] 13 [] .nil func236 ⟨⟨qcJ, qpM, trivial⟩, trivial⟩
def qee (i : Int) (v : yB3) : Option (Bool) :=
 gd (inB i v.1.length) <|
 (qhz (v.1.getD i.toNat (0, (0, (false, false))))).bind fun r =>
 some r
def qgo : Fun :=
 ⟨245, 2, 1,
 ⟨[(0, ii), (1, .one (.sel (.pair (.sl tT1) tT6)))], [], []⟩,
 ⟨[(0, bb)], [], []⟩,
 fun x => qee x.1 x.2⟩
theorem qjw : FO qgo := fi [] [qh9] 10 [] .nil func245 ⟨⟨ql8, trivial⟩, trivial⟩
def qkj (p : yB6) (h : Int × Bool) : Option (Int) :=
 bif h.2 then (
 gd (inB h.1 p.1.length) <|
 some (wi64 (0 - (p.1.getD h.1.toNat 0))))
 else (
 gd (inB h.1 p.1.length) <|
 some (p.1.getD h.1.toNat 0))
def qme : Fun :=
 ⟨248, 2, 1,
 ⟨[(0, dd tT6), (1, dd (.pair I6 (.bool)))], [], []⟩,
 ⟨[(0, ii)], [], []⟩,
 fun x => qkj x.1 x.2⟩
theorem qq0 : FO qme := fi [] [] 20 [] .nil func248 ⟨trivial, trivial⟩
def qef (h : Int × Bool) (v : yB3) (v2 : yB3) (v3 : Int) : Option (Bool) :=
 (qkj v.2 (h.1, h.2)).bind fun r =>
 (qee h.1 v2).bind fun r2 =>
 bif !r2 then (
 some true)
 else (
 bif decide (r < 0) then (
 some true)
 else (
 some (decide (wi64 (r + v3) < 0))))
def qjx : Fun :=
 ⟨247, 4, 1,
 ⟨[(0, dd (.pair I6 (.bool))), (1, .one (.sel (.pair (.sl tT1) tT6))), (2, .one (.sel (.clo 245 (.pair (.sl tT1) tT6)))), (3, .one (.sel I6))], [], []⟩,
 ⟨[(0, bb)], [], []⟩,
 fun x => qef x.1 x.2.1 x.2.2.1 x.2.2.2⟩
theorem qpa : FO qjx := fi [] [qme, qgo] 26 [] .nil func247 ⟨⟨qq0, qjw, trivial⟩, trivial⟩
def qaq (s : List (Int × Bool)) (f : (Int × Bool) × Unit → Option Bool) (v : Int) : Option (Int ⊕ (Unit ⊕ Int)) :=
 bif decide (v < (s.length : Int)) then (
 gd (inB v s.length) <|
 (f (s.getD v.toNat (0, false), ())).bind fun r =>
 bif r then (
 some (.inr (.inr v)))
 else (
 some (.inl (wi64 (v + 1)))))
 else (
 some (.inr (.inl ())))
def qaX (s : List (Int × Bool)) (f : (Int × Bool) × Unit → Option Bool) : Option (Int) :=
 (iter (fun x => qaq s f x) 0).bind fun s2 =>
 s2.elim (fun s3 =>
 some (-1))
 (fun s4 =>
 some s4)
def qbX : Fun :=
 ⟨255, 2, 1,
 ⟨r86_, [], []⟩,
 ⟨[(0, ii)], [], []⟩,
 fun x => qaX x.1 x.2⟩
theorem qd8 : FO qbX := fi [] [] 19 [] ((nn (mm (nn (mm (.mk [] (some (⟨r33_, [], []⟩, [⟨.x 0, ⟨[], [], []⟩⟩, ⟨.r, ⟨[(4, ii)], [], []⟩⟩])) .nil .nil) .nil)) .nil))) func255 ⟨trivial, trivial⟩
def qaP (s : List (Int × Bool)) (f : (Int × Bool) × Unit → Option Bool) : Option (Bool) :=
 (qaX s f).bind fun r =>
 some (decide (0 ≤ r))
def qbz : Fun :=
 ⟨246, 2, 1,
 ⟨r86_, [], []⟩,
 ⟨[(0, bb)], [], []⟩,
 fun x => qaP x.1 x.2⟩
theorem qdj : FO qbz := fi [] [qbX] 9 [] .nil func246 ⟨⟨qd8, trivial⟩, trivial⟩
def qkk (n : yB0) (d : yB3) (x : yB7) (vby : Int) : Option (Bool) :=
 gd (inB x.1 d.2.2.1.length) <|
 gd (inB x.2.1 d.2.2.1.length) <|
 Option.bind (α := Bool × List (Int × Int × Bool × Bool) × List Int × List Int × List Bool) (
 (qee (wi64 ((n.2.1.length : Int) + x.1)) (d.1, (d.2.1, (d.2.2.1, d.2.2.2)))).bind fun r =>
 bif !r then (
 some (true, (d.1, (d.2.1, (d.2.2.1, d.2.2.2)))))
 else (
 (qee (wi64 ((n.2.1.length : Int) + x.2.1)) (d.1, (d.2.1, (d.2.2.1, d.2.2.2)))).bind fun r2 =>
 bif !r2 then (
 some (true, (d.1, (d.2.1, (d.2.2.1, d.2.2.2)))))
 else (
 bif decide (d.2.2.1.getD x.1.toNat 0 < 0) then (
 some (true, (d.1, (d.2.1, (d.2.2.1, d.2.2.2)))))
 else (
 bif decide (wi64 (0 - (d.2.2.1.getD x.2.1.toNat 0)) < 0) then (
 some (true, (d.1, (d.2.1, (d.2.2.1, d.2.2.2)))))
 else (
 bif decide (wi64 ((d.2.2.1.getD x.1.toNat 0) + vby) < 0) then (
 some (true, (d.1, (d.2.1, (d.2.2.1, d.2.2.2)))))
 else (
 some (decide (wi64 ((wi64 (0 - (d.2.2.1.getD x.2.1.toNat 0))) + vby) < 0), (d.1, (d.2.1, (d.2.2.1, d.2.2.2)))))))))) fun s =>
 bif s.1 then (
 some false)
 else (
 (qaP x.2.2.1 (fun h => (qef h.1 (d.1, (d.2.1, (d.2.2.1, d.2.2.2))) s.2 vby).bind fun y => some y)).bind fun r3 =>
 some (!r3))
def qmf : Fun :=
 ⟨237, 4, 1,
 ⟨[(0, dd tT0), (1, dd (.pair (.sl tT1) tT6)), (2, dd tT4), (3, ii)], [], []⟩,
 ⟨[(0, bb)], [], []⟩,
 fun x => qkk x.1 x.2.1 x.2.2.1 x.2.2.2⟩
theorem qq1 : FO qmf := fi [] [qgo, qbz, qjx] 73 [] ((nn (mm (.mk [.fv [(5, .pair (.sl tT1) tT6)]] none .nil .nil) (nn (nn (mm (mm (.mk [.join [⟨.n, ⟨[(5, kk), (6, pt 112 0), (7, pt 128 0), (9, pt 160 0), (67, bb)], [(112, 26, (kp 4)), (128, 3, [.keep]), (160, 222, [.data (.clo 245 (.pair (.sl tT1) tT6))])], []⟩⟩]] none .nil .nil) .nil) (mm (.mk [.fv [(9, .clo 245 (.pair (.sl tT1) tT6)), (7, .int .i64)]] none .nil .nil) .nil))))))) func237 ⟨⟨qjw, qdj, qpa, trivial⟩, trivial⟩
def qgY (h : Int × Bool) (rate : Int) : Option (Int) :=
 bif h.2 then (
 some (wi64 (0 - rate)))
 else (
 some rate)
def qjy : Fun :=
 ⟨249, 2, 1,
 ⟨[(0, dd (.pair I6 (.bool))), (1, ii)], [], []⟩,
 ⟨[(0, ii)], [], []⟩,
 fun x => qgY x.1 x.2⟩
theorem qpb : FO qjy := fi [] [] 10 [] .nil func249 ⟨trivial, trivial⟩
def qcB (x : yB7) (rate : Int) (v : Int) (p5 : yB2) (p6 : List Int) (p7 : List Int) (p8 : List Bool) : Option (yB8 ⊕ (yB2 × List Int × List Int × List Bool)) :=
 bif decide (v < (x.2.2.1.length : Int)) then (
 gd (inB v x.2.2.1.length) <|
 gd (inB ((x.2.2.1.getD v.toNat (0, false)).1) p6.length) <|
 (qgY ((x.2.2.1.getD v.toNat (0, false)).1, (x.2.2.1.getD v.toNat (0, false)).2) rate).bind fun r =>
 gd (inB ((x.2.2.1.getD v.toNat (0, false)).1) p6.length) <|
 some (.inl (wi64 (v + 1), p5, p6.set (((x.2.2.1.getD v.toNat (0, false)).1).toNat) (wi64 ((p6.getD (((x.2.2.1.getD v.toNat (0, false)).1).toNat) 0) + r)), p7, p8)))
 else (
 some (.inr (p5, p6, p7, p8)))
def qkl (x : yB7) (rate : Int) (p : yB2) (p2 : List Int) (p3 : List Int) (p4 : List Bool) : Option (yB2 × List Int × List Int × List Bool) :=
 gd (inB x.1 p3.length) <|
 gd (inB x.1 p3.length) <|
 gd (inB x.2.1 (p3.set x.1.toNat (wi64 ((p3.getD x.1.toNat 0) + rate))).length) <|
 gd (inB x.2.1 (p3.set x.1.toNat (wi64 ((p3.getD x.1.toNat 0) + rate))).length) <|
 (iter (fun x2 => qcB x rate x2.1 x2.2.1 x2.2.2.1 x2.2.2.2.1 x2.2.2.2.2) (0, p, p2, (p3.set x.1.toNat (wi64 ((p3.getD x.1.toNat 0) + rate))).set x.2.1.toNat (wi64 (((p3.set x.1.toNat (wi64 ((p3.getD x.1.toNat 0) + rate))).getD x.2.1.toNat 0) - rate)), p4)).bind fun s =>
 some (s.1, s.2.1, s.2.2.1, s.2.2.2)
def qmg : Fun :=
 ⟨238, 3, 0,
 ⟨[(0, pt 0 1), (1, dd tT4), (2, ii)], v6_, a1_⟩,
 ⟨[], v6_, a1_⟩,
 fun x => qkl x.1 x.2.1 x.2.2.1 x.2.2.2.1 x.2.2.2.2.1 x.2.2.2.2.2⟩
theorem qq2 : FO qmg := fi [] [qjy] 51 [] ((nn (nn (nn (nn (mm (.mk [] (some (⟨[(0, pt 0 1), (2, kk), (31, kk), (32, kk), (33, ii)], v6_, a1_⟩, [⟨.x 0, ⟨[], v6_, a1_⟩⟩])) .nil .nil) .nil)))))) func238 ⟨⟨qpb, trivial⟩, trivial⟩
def qif (n : yB0) (s : yB5) (d : yB2) (d2 : List Int) (d3 : List Int) (d4 : List Bool) : Option yB8 :=
 Option.bind (α := Bool × yB2 × List Int × List Int × List Bool) (
 bif decide (s.2.2.1 < (-1000)) then (
 some (true, d, d2, d3, d4))
 else (
 some (decide (1000 < s.2.2.1), d, d2, d3, d4))) fun s2 =>
 bif s2.1 then (
 some (23, s2.2.1, s2.2.2.1, s2.2.2.2.1, s2.2.2.2.2))
 else (
 (qie (n.1, (n.2.1, (n.2.2.1, (n.2.2.2.1, (n.2.2.2.2.1, n.2.2.2.2.2))))) (s.2.2.2.1, (s.2.2.2.2.1, (s.2.2.2.2.2.1, max s.2.2.1 (wi64 (0 - s.2.2.1)))))).bind fun r =>
 bif !r then (
 some (23, s2.2.1, s2.2.2.1, s2.2.2.2.1, s2.2.2.2.2))
 else (
 (qkk (n.1, (n.2.1, (n.2.2.1, (n.2.2.2.1, (n.2.2.2.2.1, n.2.2.2.2.2))))) (s2.2.1, (s2.2.2.1, (s2.2.2.2.1, s2.2.2.2.2))) (s.2.2.2.1, (s.2.2.2.2.1, (s.2.2.2.2.2.1, max s.2.2.1 (wi64 (0 - s.2.2.1))))) s.2.2.1).bind fun r2 =>
 bif !r2 then (
 some (22, s2.2.1, s2.2.2.1, s2.2.2.2.1, s2.2.2.2.2))
 else (
 (qkl (s.2.2.2.1, (s.2.2.2.2.1, (s.2.2.2.2.2.1, max s.2.2.1 (wi64 (0 - s.2.2.1))))) s.2.2.1 s2.2.1 s2.2.2.1 s2.2.2.2.1 s2.2.2.2.2).bind fun r3 =>
 (qeP (n.1, (n.2.1, (n.2.2.1, (n.2.2.2.1, (n.2.2.2.2.1, n.2.2.2.2.2))))) (r3.2.1, (r3.2.2.1, r3.2.2.2))).bind fun r4 =>
 bif !decide (r4 = 0) then (
 some (r4, r3.1, r3.2.1, r3.2.2.1, r3.2.2.2))
 else (
 (qhA (n.1, (n.2.1, (n.2.2.1, (n.2.2.2.1, (n.2.2.2.2.1, n.2.2.2.2.2))))) (r3.2.1, (r3.2.2.1, r3.2.2.2))).bind fun r5 =>
 bif r5 then (
 some (22, r3.1, r3.2.1, r3.2.2.1, r3.2.2.2))
 else (
 some (0, r3.1, r3.2.1, r3.2.2.1, r3.2.2.2))))))
def qkR : Fun :=
 ⟨216, 3, 1,
 ⟨r26_, v6_, a1_⟩,
 ⟨[(0, ii)], v6_, a1_⟩,
 fun x => qif x.1 x.2.1 x.2.2.1 x.2.2.2.1 x.2.2.2.2.1 x.2.2.2.2.2⟩
theorem qpO : FO qkR := fi [] [qkQ, qmf, qmg, qev, qib] 61 [] ((nn (nn (mm (mm (.mk [.join [⟨.n, ⟨[(1, pt 0 0), (3, pt 64 0), (5, pt 96 0), (7, pt 128 0), (18, bb)], [(0, 57, [.own 1, .own 2, .own 3, .own 4]), (64, 50, (kp 6)), (96, 28, (kp 7)), (128, 26, (kp 4))], a1_⟩⟩]] none .nil .nil) .nil) .nil)))) func216 ⟨⟨qpN, qq1, qq2, qfQ, ql9, trivial⟩, trivial⟩
def qm8 (v : Int × Int × Bool × Bool) : Option (Int) :=
 bif v.2.2.1 then (
 some v.1)
 else (
 some 0)
def qmh : Fun :=
 ⟨256, 1, 1,
 ⟨[(0, dd tT1)], [], []⟩,
 ⟨[(0, ii)], [], []⟩,
 fun x => qm8 x⟩
theorem qq3 : FO qmh := fi [] [] 7 [] .nil func256 ⟨trivial, trivial⟩
def qig (v : Int × Int × Bool × Bool) (ticks : Int) : Option (Int × Int × Bool × Bool) :=
 (qm8 (v.1, (v.2.1, (v.2.2.1, v.2.2.2)))).bind fun r =>
 Option.bind (α := Int) (
 bif v.2.2.2 then (
 some v.2.1)
 else (
 Option.bind (α := Int) (
 bif decide (v.2.1 < r) then (
 some (min r (wi64 (v.2.1 + ticks))))
 else (
 some (max r (wi64 (v.2.1 - ticks))))) fun s =>
 some s)) fun s2 =>
 bif decide (v.1 = v.1) && (decide (s2 = v.2.1) && ((v.2.2.1 == v.2.2.1) && (v.2.2.2 == v.2.2.2))) then (
 some (v.1, (v.2.1, (v.2.2.1, v.2.2.2))))
 else (
 some (v.1, (s2, (v.2.2.1, v.2.2.2))))
def qkS : Fun :=
 ⟨250, 2, 1,
 ⟨r69_, [], []⟩,
 ⟨[(0, dd tT1)], [], []⟩,
 fun x => qig x.1 x.2⟩
theorem qpP : FO qkS := fi [] [qmh] 37 [] ((nn (nn (mm (nn (mm (nn (.mk [.join [⟨.n, ⟨[(2, pt 48 0), (4, pt 80 0), (5, pt 96 0)], v78_, []⟩⟩]] none .nil (nn (.mk [.join [⟨.n, ⟨[(2, pt 48 0), (4, pt 80 0), (5, pt 96 0)], v78_, []⟩⟩]] none .nil .nil)))) .nil)) .nil)))) func250 ⟨⟨qq3, trivial⟩, trivial⟩
def qkm (v : Int × Int × Bool × Bool) (ticks : Int) : Option ((Int × Int × Bool × Bool) × Int) :=
 (qc3 (v.1, (v.2.1, (v.2.2.1, v.2.2.2)))).bind fun r =>
 bif !r then (
 some ((v.1, (v.2.1, (v.2.2.1, v.2.2.2))), 20))
 else (
 Option.bind (α := Bool) (
 bif decide (ticks < 0) then (
 some true)
 else (
 some (decide (400 < ticks)))) fun s =>
 bif s then (
 some ((v.1, (v.2.1, (v.2.2.1, v.2.2.2))), 1))
 else (
 (qig (v.1, (v.2.1, (v.2.2.1, v.2.2.2))) ticks).bind fun r2 =>
 some ((r2.1, (r2.2.1, (r2.2.2.1, r2.2.2.2))), 0)))
def qmi : Fun :=
 ⟨239, 2, 2,
 ⟨r69_, [], []⟩,
 ⟨r69_, [], []⟩,
 fun x => qkm x.1 x.2⟩
theorem qq4 : FO qmi := fi [] [qcP, qkS] 22 [] ((nn (mm (mm (nn (nn (mm (.mk [.join [⟨.n, ⟨[(1, kk), (2, pt 48 0), (4, pt 80 0), (11, bb)], [(48, 152, (kp 4)), (80, 152, (kp 4))], []⟩⟩]] none .nil .nil) .nil))) .nil) .nil))) func239 ⟨⟨qdx, qpP, trivial⟩, trivial⟩
def qc8 (s : yB5) (s2 : Bool × yB2 × List Int × List Int × List Bool) (v2 : Int) (d5 : yB2) (d6 : List Int) (d7 : List Int) (d8 : List Bool) : Option (yB8 ⊕ ((yB2 × List Int × List Int × List Bool) ⊕ yB8)) :=
 bif decide (v2 < (s2.2.1.length : Int)) then (
 gd (inB v2 d5.length) <|
 (qkm ((d5.getD v2.toNat (0, (0, (false, false)))).1, (((d5.getD v2.toNat (0, (0, (false, false)))).2).1, ((((d5.getD v2.toNat (0, (0, (false, false)))).2).2).1, (((d5.getD v2.toNat (0, (0, (false, false)))).2).2).2))) s.2.2.1).bind fun r =>
 bif !decide (r.2 = 0) then (
 some (.inr (.inr (r.2, d5, d6, d7, d8))))
 else (
 gd (inB v2 d5.length) <|
 some (.inl (wi64 (v2 + 1), d5.set v2.toNat (r.1.1, (r.1.2.1, (r.1.2.2.1, r.1.2.2.2))), d6, d7, d8))))
 else (
 some (.inr (.inl (d5, d6, d7, d8))))
def qmj (v : yB0) (s : yB5) (d : yB2) (d2 : List Int) (d3 : List Int) (d4 : List Bool) : Option yB8 :=
 Option.bind (α := Bool × yB2 × List Int × List Int × List Bool) (
 bif decide (s.2.2.1 < 1) then (
 some (true, d, d2, d3, d4))
 else (
 some (decide (100 < s.2.2.1), d, d2, d3, d4))) fun s2 =>
 bif s2.1 then (
 some (1, s2.2.1, s2.2.2.1, s2.2.2.2.1, s2.2.2.2.2))
 else (
 (iter (fun x => qc8 s s2 x.1 x.2.1 x.2.2.1 x.2.2.2.1 x.2.2.2.2) (0, s2.2.1, s2.2.2.1, s2.2.2.2.1, s2.2.2.2.2)).bind fun s3 =>
 s3.elim (fun s4 =>
 some (0, s4.1, s4.2.1, s4.2.2.1, s4.2.2.2))
 (fun s5 =>
 some (s5.1, s5.2.1, s5.2.2.1, s5.2.2.2.1, s5.2.2.2.2)))
def qnA : Fun :=
 ⟨217, 3, 1,
 ⟨r26_, v6_, a1_⟩,
 ⟨[(0, ii)], v6_, a1_⟩,
 fun x => qmj x.1 x.2.1 x.2.2.1 x.2.2.2.1 x.2.2.2.2.1 x.2.2.2.2.2⟩
theorem qsb : FO qnA := fi [] [qmi] 47 [] ((nn (mm (mm (.mk [.join [⟨.n, ⟨[(1, pt 0 0), (5, pt 96 0), (18, bb)], v44_, a1_⟩⟩]] none .nil .nil) .nil) (mm (nn (mm (.mk [] (some (⟨[(1, pt 0 0), (5, pt 96 0), (22, ow 1), (23, kk), (24, ii)], v44_, a1_⟩, [⟨.x 0, ⟨[], v6_, a1_⟩⟩, ⟨.r, ⟨[(6, ii)], v6_, a1_⟩⟩])) .nil .nil) .nil)) .nil)))) func217 ⟨⟨qq4, trivial⟩, trivial⟩
def qkn (n : yB0) (s : yB5) (d : yB2) (d2 : List Int) (d3 : List Int) (d4 : List Bool) : Option yB8 :=
 (qkh (s.1, (s.2.1, (s.2.2.1, (s.2.2.2.1, (s.2.2.2.2.1, (s.2.2.2.2.2.1, s.2.2.2.2.2.2))))))).bind fun r =>
 bif !r then (
 some (22, d, d2, d3, d4))
 else (
 bif decide (s.1 = 0) then (gd (inB 0 7) <|
 none)
 else (
 bif decide (s.1 = 1) then (gd (inB 1 7) <|
 (qjv (n.1, (n.2.1, (n.2.2.1, (n.2.2.2.1, (n.2.2.2.2.1, n.2.2.2.2.2))))) (s.1, (s.2.1, (s.2.2.1, (s.2.2.2.1, (s.2.2.2.2.1, (s.2.2.2.2.2.1, s.2.2.2.2.2.2)))))) d d2 d3 d4).bind fun r2 =>
 some (r2.1, r2.2.1, r2.2.2.1, r2.2.2.2.1, r2.2.2.2.2))
 else (
 bif decide (s.1 = 2) then (gd (inB 2 7) <|
 (qjv (n.1, (n.2.1, (n.2.2.1, (n.2.2.2.1, (n.2.2.2.2.1, n.2.2.2.2.2))))) (s.1, (s.2.1, (s.2.2.1, (s.2.2.2.1, (s.2.2.2.2.1, (s.2.2.2.2.2.1, s.2.2.2.2.2.2)))))) d d2 d3 d4).bind fun r3 =>
 some (r3.1, r3.2.1, r3.2.2.1, r3.2.2.2.1, r3.2.2.2.2))
 else (
 bif decide (s.1 = 3) then (gd (inB 3 7) <|
 (qmc (n.1, (n.2.1, (n.2.2.1, (n.2.2.2.1, (n.2.2.2.2.1, n.2.2.2.2.2))))) (s.1, (s.2.1, (s.2.2.1, (s.2.2.2.1, (s.2.2.2.2.1, (s.2.2.2.2.2.1, s.2.2.2.2.2.2)))))) d d2 d3 d4).bind fun r4 =>
 some (r4.1, r4.2.1, r4.2.2.1, r4.2.2.2.1, r4.2.2.2.2))
 else (
 bif decide (s.1 = 4) then (gd (inB 4 7) <|
 (qmc (n.1, (n.2.1, (n.2.2.1, (n.2.2.2.1, (n.2.2.2.2.1, n.2.2.2.2.2))))) (s.1, (s.2.1, (s.2.2.1, (s.2.2.2.1, (s.2.2.2.2.1, (s.2.2.2.2.2.1, s.2.2.2.2.2.2)))))) d d2 d3 d4).bind fun r5 =>
 some (r5.1, r5.2.1, r5.2.2.1, r5.2.2.2.1, r5.2.2.2.2))
 else (
 bif decide (s.1 = 5) then (gd (inB 5 7) <|
 (qif (n.1, (n.2.1, (n.2.2.1, (n.2.2.2.1, (n.2.2.2.2.1, n.2.2.2.2.2))))) (s.1, (s.2.1, (s.2.2.1, (s.2.2.2.1, (s.2.2.2.2.1, (s.2.2.2.2.2.1, s.2.2.2.2.2.2)))))) d d2 d3 d4).bind fun r6 =>
 some (r6.1, r6.2.1, r6.2.2.1, r6.2.2.2.1, r6.2.2.2.2))
 else (
 bif decide (s.1 = 6) then (gd (inB 6 7) <|
 (qmj (n.1, (n.2.1, (n.2.2.1, (n.2.2.2.1, (n.2.2.2.2.1, n.2.2.2.2.2))))) (s.1, (s.2.1, (s.2.2.1, (s.2.2.2.1, (s.2.2.2.2.1, (s.2.2.2.2.2.1, s.2.2.2.2.2.2)))))) d d2 d3 d4).bind fun r7 =>
 some (r7.1, r7.2.1, r7.2.2.1, r7.2.2.2.1, r7.2.2.2.2))
 else (
 none))))))))
def qmk : Fun :=
 ⟨169, 3, 1,
 ⟨r26_, v6_, a1_⟩,
 ⟨[(0, ii)], v6_, a1_⟩,
 fun x => qkn x.1 x.2.1 x.2.2.1 x.2.2.2.1 x.2.2.2.2.1 x.2.2.2.2.2⟩
theorem qq5 : FO qmk := fi [4000014] [qmb, qnz, qo9, qkR, qnA] 20 [] .nil func169 ⟨⟨qqY, qsa, qta, qpO, qsb, trivial⟩, trivial⟩
def qko (n : yB0) (d : yB3) (s : yB5) : Option yB8 :=
 (qkg (n.1, (n.2.1, (n.2.2.1, (n.2.2.2.1, (n.2.2.2.2.1, n.2.2.2.2.2))))) (d.1, (d.2.1, (d.2.2.1, d.2.2.2)))).bind fun r =>
 bif !decide (r = 0) then (
 (qgh (d.1, (d.2.1, (d.2.2.1, d.2.2.2)))).bind fun r2 =>
 some (r, r2.1, r2.2.1, r2.2.2.1, r2.2.2.2))
 else (
 (qgh (d.1, (d.2.1, (d.2.2.1, d.2.2.2)))).bind fun r3 =>
 (qkn (n.1, (n.2.1, (n.2.2.1, (n.2.2.2.1, (n.2.2.2.2.1, n.2.2.2.2.2))))) (s.1, (s.2.1, (s.2.2.1, (s.2.2.2.1, (s.2.2.2.2.1, (s.2.2.2.2.2.1, s.2.2.2.2.2.2)))))) r3.1 r3.2.1 r3.2.2.1 r3.2.2.2).bind fun r4 =>
 bif !decide (r4.1 = 0) then (
 (qgh (d.1, (d.2.1, (d.2.2.1, d.2.2.2)))).bind fun r5 =>
 some (r4.1, r5.1, r5.2.1, r5.2.2.1, r5.2.2.2))
 else (
 some (0, r4.2.1, r4.2.2.1, r4.2.2.2.1, r4.2.2.2.2)))
def qml : Fun :=
 ⟨124, 3, 2,
 ⟨r27_, [], []⟩,
 ⟨[(0, .agg [.own 0, .own 1, .own 2, .own 3]), (1, ii)], [], a52_⟩,
 fun x => qko x.1 x.2.1 x.2.2⟩
theorem qq6 : FO qml := fi [] [qma, qjo, qmk] 30 [] .nil func124 ⟨⟨qqX, qnw, qq5, trivial⟩, trivial⟩
def qe2 (n : yB0) (r : yB11) (c : Int) (c2 : yB2) (c3 : List Int) (c4 : List Int) (c5 : List Bool) (c6 : List yB4) (c7 : List yB1) : Option (Int × Int × yB2 × List Int × List Int × List Bool × (List yB4) × List yB1) :=
 Option.bind (α := Bool × yB2 × List Int × List Int × List Bool × (List yB4) × List yB1) (
 bif decide (0 < (r.2.1.length : Int)) then (
 some (true, c2, c3, c4, c5, c6, c7))
 else (
 some ((!(decide (r.2.2.2.1 = []) && (decide (r.2.2.2.2.1 = 0) && decide (r.2.2.2.2.2 = 0)))), c2, c3, c4, c5, c6, c7))) fun s =>
 bif s.1 then (
 some (28, c, s.2.1, s.2.2.1, s.2.2.2.1, s.2.2.2.2.1, s.2.2.2.2.2.1, s.2.2.2.2.2.2))
 else (
 (qko (n.1, (n.2.1, (n.2.2.1, (n.2.2.2.1, (n.2.2.2.2.1, n.2.2.2.2.2))))) (s.2.1, (s.2.2.1, (s.2.2.2.1, s.2.2.2.2.1))) (r.2.2.1.1, (r.2.2.1.2.1, (r.2.2.1.2.2.1, (r.2.2.1.2.2.2.1, (r.2.2.1.2.2.2.2.1, (r.2.2.1.2.2.2.2.2.1, r.2.2.1.2.2.2.2.2.2))))))).bind fun r2 =>
 some (r2.1, c, r2.2.1, r2.2.2.1, r2.2.2.2.1, r2.2.2.2.2, s.2.2.2.2.2.1, s.2.2.2.2.2.2))
def qhB : Fun :=
 ⟨77, 3, 1,
 ⟨r16_, v56_, a8_⟩,
 ⟨[(0, ii)], v53_, a31_⟩,
 fun x => qe2 x.1 x.2.1 x.2.2.1 x.2.2.2.1 x.2.2.2.2.1 x.2.2.2.2.2.1 x.2.2.2.2.2.2.1 x.2.2.2.2.2.2.2.1 x.2.2.2.2.2.2.2.2⟩
theorem qm9 : FO qhB := fi [] [qml] 35 [] ((nn (mm (mm (.mk [.join [⟨.n, ⟨[(1, pt 0 0), (3, pt 64 0), (5, pt 96 0), (18, bb)], [(0, 61, [.own 1, .own 2, .own 3, .own 4, .own 5, .own 6, .keep]), (64, 50, (kp 6)), (96, 32, (kp 12))], a8_⟩⟩]] none .nil .nil) .nil) .nil))) func77 ⟨⟨qq6, trivial⟩, trivial⟩
def qbY (n : Int) : Option (Bool) :=
 bif decide (0 ≤ n) then (
 some (decide (n ≤ 1099511627776)))
 else (
 some false)
def qex : Fun :=
 ⟨218, 1, 1,
 ⟨[(0, ii)], [], []⟩,
 ⟨[(0, bb)], [], []⟩,
 fun x => qbY x⟩
theorem qgZ : FO qex := fi [] [] 9 [] .nil func218 ⟨trivial, trivial⟩
def qc9 (n : Int) : Option (Bool) :=
 bif decide ((-1099511627776) ≤ n) then (
 some (decide (n ≤ 1099511627776)))
 else (
 some false)
def qey : Fun :=
 ⟨219, 1, 1,
 ⟨[(0, ii)], [], []⟩,
 ⟨[(0, bb)], [], []⟩,
 fun x => qc9 x⟩
theorem qg0 : FO qey := fi [] [] 9 [] .nil func219 ⟨trivial, trivial⟩
def qcd (a : yB1) : Option (Bool) :=
 (qbY a.2.1).bind fun r =>
 bif r then (
 (qbY a.2.2.1).bind fun r2 =>
 bif r2 then (
 (qbY a.2.2.2.1).bind fun r3 =>
 bif r3 then (
 (qc9 a.2.2.2.2).bind fun r4 =>
 some r4)
 else (
 some false))
 else (
 some false))
 else (
 some false)
def qfC : Fun :=
 ⟨174, 1, 1,
 ⟨[(0, dd tT2)], [], []⟩,
 ⟨[(0, bb)], [], []⟩,
 fun x => qcd x⟩
theorem qiT : FO qfC := fi [] [qex, qey] 21 [] .nil func174 ⟨⟨qgZ, qg0, trivial⟩, trivial⟩
def qcN (l : List yB1) (v : Int) : Option (Int ⊕ (Unit ⊕ Bool)) :=
 bif decide (v < (l.length : Int)) then (
 gd (inB v l.length) <|
 Option.bind (α := Bool) (
 (qcd ((l.getD v.toNat ([], (0, (0, (0, 0))))).1, (((l.getD v.toNat ([], (0, (0, (0, 0))))).2).1, ((((l.getD v.toNat ([], (0, (0, (0, 0))))).2).2).1, (((((l.getD v.toNat ([], (0, (0, (0, 0))))).2).2).2).1, ((((l.getD v.toNat ([], (0, (0, (0, 0))))).2).2).2).2))))).bind fun r =>
 bif !r then (
 some true)
 else (
 (qcr ((l.getD v.toNat ([], (0, (0, (0, 0))))).1)).bind fun r2 =>
 bif !r2 then (
 some true)
 else (
 bif decide (0 < v) then (
 gd (inB (wi64 (v - 1)) l.length) <|
 some (Op.bytesLess ((l.getD v.toNat ([], (0, (0, (0, 0))))).1) ((l.getD (wi64 (v - 1)).toNat ([], (0, (0, (0, 0))))).1) || decide ((l.getD v.toNat ([], (0, (0, (0, 0))))).1 = (l.getD (wi64 (v - 1)).toNat ([], (0, (0, (0, 0))))).1)))
 else (
 some false)))) fun s =>
 bif s then (
 some (.inr (.inr false)))
 else (
 some (.inl (wi64 (v + 1)))))
 else (
 some (.inr (.inl ())))
def qfT (l : List yB1) : Option (Bool) :=
 (iter (fun x => qcN l x) 0).bind fun s2 =>
 s2.elim (fun s3 =>
 some (decide ((l.length : Int) ≤ 64)))
 (fun s4 =>
 some s4)
def qiU : Fun :=
 ⟨170, 1, 1,
 ⟨[(0, dd (.sl tT2))], [], []⟩,
 ⟨[(0, bb)], [], []⟩,
 fun x => qfT x⟩
theorem qnT : FO qiU := fi [] [qfC, qfK] 40 [] ((nn (mm (nn (mm (.mk [] (some (⟨[(0, kk), (5, kk), (6, kk), (7, ii)], [], []⟩, [⟨.x 0, ⟨[(0, kk)], [], []⟩⟩, ⟨.r, ⟨[(2, bb)], [], []⟩⟩])) (nn (nn (mm (mm (nn (mm (.mk [.join [⟨.n, ⟨[(0, kk), (5, kk), (6, kk), (7, kk), (35, bb)], [], []⟩⟩]] none .nil .nil) .nil)) .nil) .nil))) .nil) .nil)) .nil))) func170 ⟨⟨qiT, qh3, trivial⟩, trivial⟩
def qdB (e : List UInt8 × Int × Int) : Option (Bool) :=
 Option.bind (α := Bool) (
 bif decide (e.2.1 = 1) then (
 some (decide (e.2.1 = 1)))
 else (
 Option.bind (α := Bool) (
 bif decide (e.2.1 = 2) then (
 some (decide (e.2.1 = 2)))
 else (
 some (decide (e.2.1 = 3)))) fun s =>
 some s)) fun s2 =>
 bif s2 then (
 (qbY e.2.2).bind fun r =>
 bif r then (
 (qcr e.1).bind fun r2 =>
 some r2)
 else (
 some false))
 else (
 bif decide (e.2.1 = 4) then (
 (qc9 e.2.2).bind fun r3 =>
 bif r3 then (
 (qcr e.1).bind fun r4 =>
 some r4)
 else (
 some false))
 else (
 some false))
def qhC : Fun :=
 ⟨171, 1, 1,
 ⟨r109_, [], []⟩,
 ⟨[(0, bb)], [], []⟩,
 fun x => qdB x⟩
theorem qna : FO qhC := fi [] [qex, qfK, qey] 27 [] ((nn (mm (nn (mm (mm (nn (.mk [.join [⟨.n, ⟨r81_, v97_, []⟩⟩]] none .nil (nn (.mk [.join [⟨.n, ⟨r81_, v97_, []⟩⟩]] none .nil .nil)))) .nil) .nil)) .nil))) func171 ⟨⟨qgZ, qh3, qg0, trivial⟩, trivial⟩
def qat (x : List yB1) (target : List UInt8) (cmp : yB1 × List UInt8 × Unit → Option Int) (i : Int) (j : Int) : Option ((Int × Int) ⊕ Int) :=
 bif decide (i < j) then (
 gd (inB (wi64 (Int.fdiv (wu64 (wi64 (i + j))) (2 ^ shAmt .u64 1))) x.length) <|
 (cmp (x.getD (wi64 (Int.fdiv (wu64 (wi64 (i + j))) (2 ^ shAmt .u64 1))).toNat ([], (0, (0, (0, 0)))), target, ())).bind fun r =>
 bif decide (r < 0) then (
 some (.inl (wi64 ((wi64 (Int.fdiv (wu64 (wi64 (i + j))) (2 ^ shAmt .u64 1))) + 1), j)))
 else (
 some (.inl (i, wi64 (Int.fdiv (wu64 (wi64 (i + j))) (2 ^ shAmt .u64 1))))))
 else (
 some (.inr i))
def qax (x : List yB1) (target : List UInt8) (cmp : yB1 × List UInt8 × Unit → Option Int) : Option (Int × Bool) :=
 (iter (fun x2 => qat x target cmp x2.1 x2.2) (0, (x.length : Int))).bind fun s =>
 bif decide (s < (x.length : Int)) then (
 gd (inB s x.length) <|
 (cmp (x.getD s.toNat ([], (0, (0, (0, 0)))), target, ())).bind fun r2 =>
 some (s, decide (r2 = 0)))
 else (
 some (s, false))
def qaL : Fun :=
 ⟨220, 3, 2,
 ⟨[(0, dd (.sl tT2)), (1, ss), (2, .one (.fn [.pair (.str) (.pair I6 (.pair I6 (.pair I6 I6))), .str] I6))], [], []⟩,
 ⟨[(0, ii), (1, bb)], [], []⟩,
 fun x => qax x.1 x.2.1 x.2.2⟩
theorem qbu : FO qaL := fi [] [] 49 [] ((nn (nn (nn (mm (mm (.mk [] (some (⟨r113_, [], []⟩, [⟨.x 0, ⟨[(0, kk), (1, kk), (2, kk), (8, kk), (9, ii)], [], []⟩⟩])) .nil .nil) .nil) .nil))))) func220 ⟨trivial, trivial⟩
def qcw (a : List UInt8) (b : List UInt8) : Option (Int) :=
 (qyb a b).bind fun r =>
 some r
def qce : Fun :=
 ⟨240, 2, 1,
 ⟨[(0, ss), (1, ss)], [], []⟩,
 ⟨[(0, ii)], [], []⟩,
 fun x => qcw x.1 x.2⟩
theorem qez : FO qce := fi [] [] 8 [xt251] .nil func240 ⟨trivial, ⟨xk251, trivial⟩⟩
def qjz (a : List UInt8) (b : List UInt8) : Option (Int) :=
 (qcw a b).bind fun r =>
 some r
def qg1 : Fun :=
 ⟨222, 2, 1,
 ⟨[(0, ss), (1, ss)], [], []⟩,
 ⟨[(0, ii)], [], []⟩,
 fun x => qjz x.1 x.2⟩
theorem qmm : FO qg1 := fi [] [qce] 8 [] .nil func222 ⟨⟨qez, trivial⟩, trivial⟩
def qdC (a : yB1) (s : List UInt8) : Option (Int) :=
 (qjz a.1 s).bind fun r =>
 some r
def qhD : Fun :=
 ⟨221, 2, 1,
 ⟨[(0, dd tT2), (1, ss)], [], []⟩,
 ⟨[(0, ii)], [], []⟩,
 fun x => qdC x.1 x.2⟩
theorem qnb : FO qhD := fi [] [qg1] 9 [] .nil func221 ⟨⟨qmm, trivial⟩, trivial⟩
def qg2 (l : List yB1) (shipper : List UInt8) : Option (Int × Bool) :=
 (qax l shipper (fun h => (qdC h.1 h.2.1).bind fun y => some y)).bind fun r =>
 some (r.1, r.2)
def qjA : Fun :=
 ⟨172, 2, 2,
 ⟨[(0, dd (.sl tT2)), (1, ss)], [], []⟩,
 ⟨[(0, ii), (1, bb)], [], []⟩,
 fun x => qg2 x.1 x.2⟩
theorem qpc : FO qjA := fi [] [qaL, qhD] 11 [] .nil func172 ⟨⟨qbu, qnb, trivial⟩, trivial⟩
def qcQ (a : yB1) (e : List UInt8 × Int × Int) : Option yB1 :=
 Option.bind (α := Int × Int × Int × Int) (
 bif decide (e.2.1 = 1) then (
 some (wi64 (a.2.1 + e.2.2), a.2.2.1, a.2.2.2.1, a.2.2.2.2))
 else (
 Option.bind (α := Int × Int × Int) (
 bif decide (e.2.1 = 2) then (
 some (wi64 (a.2.2.1 + e.2.2), a.2.2.2.1, a.2.2.2.2))
 else (
 Option.bind (α := Int × Int) (
 bif decide (e.2.1 = 3) then (
 some (wi64 (a.2.2.2.1 + e.2.2), a.2.2.2.2))
 else (
 Option.bind (α := Int) (
 bif decide (e.2.1 = 4) then (
 some (wi64 (a.2.2.2.2 + e.2.2)))
 else (
 some a.2.2.2.2)) fun s =>
 some (a.2.2.2.1, s))) fun s2 =>
 some (a.2.2.1, s2.1, s2.2))) fun s3 =>
 some (a.2.1, s3.1, s3.2.1, s3.2.2))) fun s4 =>
 some (a.1, (s4.1, (s4.2.1, (s4.2.2.1, s4.2.2.2))))
def qhE : Fun :=
 ⟨173, 2, 1,
 ⟨[(0, dd tT2), (1, dd (.pair (.str) (.pair I6 I6)))], [], []⟩,
 ⟨[(0, dd tT2)], [], []⟩,
 fun x => qcQ x.1 x.2⟩
theorem qnc : FO qhE := fi [] [] 40 [] ((nn (mm (nn (mm (nn (.mk [.join [⟨.n, ⟨r94_, [(48, 110, [.keep, .data I6, .data I6, .data I6, .data I6]), (80, 110, (kp 5))], []⟩⟩]] none .nil (nn (.mk [.join [⟨.n, ⟨r94_, [(48, 110, [.keep, .keep, .data I6, .data I6, .data I6]), (80, 110, (kp 5))], []⟩⟩]] none .nil (nn (.mk [.join [⟨.n, ⟨r94_, [(48, 110, [.keep, .keep, .keep, .data I6, .data I6]), (80, 110, (kp 5))], []⟩⟩]] none .nil (nn (.mk [.join [⟨.n, ⟨r94_, [(48, 110, [.keep, .keep, .keep, .keep, .data I6]), (80, 110, (kp 5))], []⟩⟩]] none .nil .nil)))))))) .nil)) .nil))) func173 ⟨trivial, trivial⟩
def qfu (l : List yB1) (e : List UInt8 × Int × Int) : Option (Int × List yB1) :=
 (qah l).bind fun r =>
 Option.bind (α := Bool × List yB1) (
 (qfT l).bind fun r2 =>
 bif !r2 then (
 some (true, r))
 else (
 (qdB (e.1, (e.2.1, e.2.2))).bind fun r3 =>
 some ((!r3), r))) fun s =>
 bif s.1 then (
 some (27, s.2))
 else (
 (qg2 l e.1).bind fun r4 =>
 Option.bind (α := List UInt8 × Int × Int × Int × Int × List yB1) (
 bif r4.2 then (
 gd (inB r4.1 l.length) <|
 some ((l.getD r4.1.toNat ([], (0, (0, (0, 0))))).1, ((l.getD r4.1.toNat ([], (0, (0, (0, 0))))).2).1, (((l.getD r4.1.toNat ([], (0, (0, (0, 0))))).2).2).1, ((((l.getD r4.1.toNat ([], (0, (0, (0, 0))))).2).2).2).1, ((((l.getD r4.1.toNat ([], (0, (0, (0, 0))))).2).2).2).2, s.2))
 else (
 some (e.1, 0, 0, 0, 0, s.2))) fun s2 =>
 (qcQ (s2.1, (s2.2.1, (s2.2.2.1, (s2.2.2.2.1, s2.2.2.2.2.1)))) (e.1, (e.2.1, e.2.2))).bind fun r5 =>
 Option.bind (α := Bool × List yB1) (
 (qcd (r5.1, (r5.2.1, (r5.2.2.1, (r5.2.2.2.1, r5.2.2.2.2))))).bind fun r6 =>
 bif !r6 then (
 some (true, s2.2.2.2.2.2))
 else (
 bif !r4.2 then (
 some (decide ((l.length : Int) = 64), s2.2.2.2.2.2))
 else (
 some (false, s2.2.2.2.2.2)))) fun s3 =>
 bif s3.1 then (
 some (4, s3.2))
 else (
 bif r4.2 then (
 gd (inB r4.1 s3.2.length) <|
 some (0, s3.2.set r4.1.toNat (r5.1, (r5.2.1, (r5.2.2.1, (r5.2.2.2.1, r5.2.2.2.2))))))
 else (
 gd (decide (r4.1 = r4.1) && cutG none (some (.i64, r4.1)) s3.2.length) <|
 gd (fits ((s3.2.take r4.1.toNat).length + 1) 48) <|
 gd (cutG (some (.i64, r4.1)) none l.length) <|
 gd (fits (((s3.2.take r4.1.toNat) ++ [(r5.1, (r5.2.1, (r5.2.2.1, (r5.2.2.2.1, r5.2.2.2.2))))]).length + (l.drop r4.1.toNat).length) 48) <|
 some (0, ((s3.2.take r4.1.toNat) ++ [(r5.1, (r5.2.1, (r5.2.2.1, (r5.2.2.2.1, r5.2.2.2.2))))]) ++ (l.drop r4.1.toNat)))))
def qjB : Fun :=
 ⟨125, 2, 2,
 ⟨r110_, [], []⟩,
 ⟨[(0, ow 0), (1, ii)], [], [(0, .arr 110 tT2)]⟩,
 fun x => qfu x.1 x.2⟩
theorem qpd : FO qjB := fi [61] [qaY, qiU, qhC, qjA, qhE, qfC] 69 [] ((nn (nn (mm (mm (.mk [.join [⟨.n, ⟨[(0, kk), (3, pt 64 0), (6, ow 192), (19, bb)], v49_, [(192, .arr 110 tT2)]⟩⟩]] none .nil .nil) .nil) (nn (nn (mm (nn (.mk [.join [⟨.n, ⟨[(0, kk), (3, pt 64 0), (6, ow 192), (7, kk), (8, kk), (9, pt 160 0)], [(64, 30, [.keep, .keep, .keep]), (160, 110, [.data (.str), .data I6, .data I6, .data I6, .data I6])], [(192, .arr 110 tT2)]⟩⟩]] none .nil .nil)) (mm (nn (mm (.mk [.join [⟨.n, ⟨[(0, kk), (6, ow 192), (7, kk), (8, kk), (9, pt 160 0), (50, bb)], [(160, 110, (kp 5))], [(192, .arr 110 tT2)]⟩⟩]] none .nil .nil) .nil)) (nn (mm (.mk [.fz [6]] none .nil .nil) .nil)))))))))) func125 ⟨⟨qbs, qnT, qna, qpc, qnc, qiT, trivial⟩, trivial⟩
def qih (v : yB0) (r : yB11) (c : Int) (c2 : yB2) (c3 : List Int) (c4 : List Int) (c5 : List Bool) (c6 : List yB4) (c7 : List yB1) : Option (Int × Int × yB2 × List Int × List Int × List Bool × (List yB4) × List yB1) :=
 Option.bind (α := Bool × yB2 × List Int × List Int × List Bool × (List yB4) × List yB1) (
 bif decide (0 < (r.2.1.length : Int)) then (
 some (true, c2, c3, c4, c5, c6, c7))
 else (
 (qet (r.2.2.1.1, (r.2.2.1.2.1, (r.2.2.1.2.2.1, (r.2.2.1.2.2.2.1, (r.2.2.1.2.2.2.2.1, (r.2.2.1.2.2.2.2.2.1, r.2.2.1.2.2.2.2.2.2))))))).bind fun r2 =>
 some ((!r2), c2, c3, c4, c5, c6, c7))) fun s =>
 bif s.1 then (
 some (28, c, s.2.1, s.2.2.1, s.2.2.2.1, s.2.2.2.2.1, s.2.2.2.2.2.1, s.2.2.2.2.2.2))
 else (
 (qfu s.2.2.2.2.2.2 (r.2.2.2.1, (r.2.2.2.2.1, r.2.2.2.2.2))).bind fun r3 =>
 some (r3.1, c, s.2.1, s.2.2.1, s.2.2.2.1, s.2.2.2.2.1, s.2.2.2.2.2.1, r3.2))
def qkT : Fun :=
 ⟨78, 3, 1,
 ⟨r16_, v56_, a8_⟩,
 ⟨[(0, ii)], v53_, a31_⟩,
 fun x => qih x.1 x.2.1 x.2.2.1 x.2.2.2.1 x.2.2.2.2.1 x.2.2.2.2.2.1 x.2.2.2.2.2.2.1 x.2.2.2.2.2.2.2.1 x.2.2.2.2.2.2.2.2⟩
theorem qpQ : FO qkT := fi [] [qfB, qjB] 34 [] ((nn (mm (mm (.mk [.join [⟨.n, ⟨[(1, pt 0 0), (5, pt 96 0), (18, bb)], v73_, a8_⟩⟩]] none .nil .nil) .nil) .nil))) func78 ⟨⟨qiN, qpd, trivial⟩, trivial⟩
def qcx (n : yB0) (c : yB13) (r : yB11) : Option (yB13 × Int) :=
 bif decide (c.2.2.2 = 1000) then (
 (qbA ((c.1.1, (c.1.2.1, (c.1.2.2.1, c.1.2.2.2))), (c.2.1, (c.2.2.1, c.2.2.2)))).bind fun r2 =>
 some (((r2.2.1, (r2.2.2.1, (r2.2.2.2.1, r2.2.2.2.2.1))), (r2.2.2.2.2.2.1, (r2.2.2.2.2.2.2, r2.1))), 4))
 else (
 bif !((mget keyI (mput keyI (mput keyI (mput keyI [] 1 1) 2 2) 3 3) r.1).isSome) then (
 (qbA ((c.1.1, (c.1.2.1, (c.1.2.2.1, c.1.2.2.2))), (c.2.1, (c.2.2.1, c.2.2.2)))).bind fun r3 =>
 some (((r3.2.1, (r3.2.2.1, (r3.2.2.2.1, r3.2.2.2.2.1))), (r3.2.2.2.2.2.1, (r3.2.2.2.2.2.2, r3.1))), 28))
 else (
 (qbA ((c.1.1, (c.1.2.1, (c.1.2.2.1, c.1.2.2.2))), (c.2.1, (c.2.2.1, c.2.2.2)))).bind fun r4 =>
 bif decide ((mget keyI (mput keyI (mput keyI (mput keyI [] 1 1) 2 2) 3 3) r.1).getD 0 = 1) then (
 (qfO (n.1, (n.2.1, (n.2.2.1, (n.2.2.2.1, (n.2.2.2.2.1, n.2.2.2.2.2))))) (r.1, (r.2.1, ((r.2.2.1.1, (r.2.2.1.2.1, (r.2.2.1.2.2.1, (r.2.2.1.2.2.2.1, (r.2.2.1.2.2.2.2.1, (r.2.2.1.2.2.2.2.2.1, r.2.2.1.2.2.2.2.2.2)))))), (r.2.2.2.1, (r.2.2.2.2.1, r.2.2.2.2.2))))) r4.1 r4.2.1 r4.2.2.1 r4.2.2.2.1 r4.2.2.2.2.1 r4.2.2.2.2.2.1 r4.2.2.2.2.2.2).bind fun r5 =>
 bif !decide (r5.1 = 0) then (
 (qbA ((c.1.1, (c.1.2.1, (c.1.2.2.1, c.1.2.2.2))), (c.2.1, (c.2.2.1, c.2.2.2)))).bind fun r6 =>
 some (((r6.2.1, (r6.2.2.1, (r6.2.2.2.1, r6.2.2.2.2.1))), (r6.2.2.2.2.2.1, (r6.2.2.2.2.2.2, r6.1))), r5.1))
 else (
 some (((r5.2.2.1, (r5.2.2.2.1, (r5.2.2.2.2.1, r5.2.2.2.2.2.1))), (r5.2.2.2.2.2.2.1, (r5.2.2.2.2.2.2.2, wi64 (r5.2.1 + 1)))), 0)))
 else (
 bif decide ((mget keyI (mput keyI (mput keyI (mput keyI [] 1 1) 2 2) 3 3) r.1).getD 0 = 2) then (
 (qe2 (n.1, (n.2.1, (n.2.2.1, (n.2.2.2.1, (n.2.2.2.2.1, n.2.2.2.2.2))))) (r.1, (r.2.1, ((r.2.2.1.1, (r.2.2.1.2.1, (r.2.2.1.2.2.1, (r.2.2.1.2.2.2.1, (r.2.2.1.2.2.2.2.1, (r.2.2.1.2.2.2.2.2.1, r.2.2.1.2.2.2.2.2.2)))))), (r.2.2.2.1, (r.2.2.2.2.1, r.2.2.2.2.2))))) r4.1 r4.2.1 r4.2.2.1 r4.2.2.2.1 r4.2.2.2.2.1 r4.2.2.2.2.2.1 r4.2.2.2.2.2.2).bind fun r7 =>
 bif !decide (r7.1 = 0) then (
 (qbA ((c.1.1, (c.1.2.1, (c.1.2.2.1, c.1.2.2.2))), (c.2.1, (c.2.2.1, c.2.2.2)))).bind fun r8 =>
 some (((r8.2.1, (r8.2.2.1, (r8.2.2.2.1, r8.2.2.2.2.1))), (r8.2.2.2.2.2.1, (r8.2.2.2.2.2.2, r8.1))), r7.1))
 else (
 some (((r7.2.2.1, (r7.2.2.2.1, (r7.2.2.2.2.1, r7.2.2.2.2.2.1))), (r7.2.2.2.2.2.2.1, (r7.2.2.2.2.2.2.2, wi64 (r7.2.1 + 1)))), 0)))
 else (
 bif decide ((mget keyI (mput keyI (mput keyI (mput keyI [] 1 1) 2 2) 3 3) r.1).getD 0 = 3) then (
 (qih (n.1, (n.2.1, (n.2.2.1, (n.2.2.2.1, (n.2.2.2.2.1, n.2.2.2.2.2))))) (r.1, (r.2.1, ((r.2.2.1.1, (r.2.2.1.2.1, (r.2.2.1.2.2.1, (r.2.2.1.2.2.2.1, (r.2.2.1.2.2.2.2.1, (r.2.2.1.2.2.2.2.2.1, r.2.2.1.2.2.2.2.2.2)))))), (r.2.2.2.1, (r.2.2.2.2.1, r.2.2.2.2.2))))) r4.1 r4.2.1 r4.2.2.1 r4.2.2.2.1 r4.2.2.2.2.1 r4.2.2.2.2.2.1 r4.2.2.2.2.2.2).bind fun r9 =>
 bif !decide (r9.1 = 0) then (
 (qbA ((c.1.1, (c.1.2.1, (c.1.2.2.1, c.1.2.2.2))), (c.2.1, (c.2.2.1, c.2.2.2)))).bind fun r10 =>
 some (((r10.2.1, (r10.2.2.1, (r10.2.2.2.1, r10.2.2.2.2.1))), (r10.2.2.2.2.2.1, (r10.2.2.2.2.2.2, r10.1))), r9.1))
 else (
 some (((r9.2.2.1, (r9.2.2.2.1, (r9.2.2.2.2.1, r9.2.2.2.2.2.1))), (r9.2.2.2.2.2.2.1, (r9.2.2.2.2.2.2.2, wi64 (r9.2.1 + 1)))), 0)))
 else (
 none)))))
def qeA : Fun :=
 ⟨32, 3, 2,
 ⟨[(0, dd tT0), (1, dd (.pair (.pair (.sl tT1) tT6) (.pair (.sl tT3) (.pair (.sl tT2) I6)))), (2, dd (.pair I6 (.pair (.sl I6) (.pair (.pair I6 (.pair I6 (.pair I6 tT4))) (.pair (.str) (.pair I6 I6))))))], [], []⟩,
 ⟨r70_, [], []⟩,
 fun x => qcx x.1 x.2.1 x.2.2⟩
theorem qgp : FO qeA := fi [4000036] [qhi, qiQ, qhB, qkT] 47 [] .nil func32 ⟨⟨qkK, qnQ, qm9, qpQ, trivial⟩, trivial⟩
def qpR (u : Int) (out : List Int) : Option ((Int × List Int) ⊕ (Int × List Int)) :=
 bif decide (128 ≤ u) then (
 gd (fits (out.length + 1) 1) <|
 some (.inl (Int.fdiv u (2 ^ shAmt .u64 7), out ++ [bitOr .u8 (wu8 u) 128])))
 else (
 some (.inr (u, out)))
def qpe (b : List Int) (n : Int) : Option (List Int) :=
 gd (fits (0 + b.length) 1) <|
 (iter (fun x => qpR x.1 x.2) (qv1 .u64 (wu64 ((wu64 n) * 2 ^ shAmt .u64 1)) (wu64 (Int.fdiv n (2 ^ shAmt .i64 63))), ([] ++ b))).bind fun s =>
 gd (fits (s.2.length + 1) 1) <|
 some (s.2 ++ [wu8 s.1])
def qkU : Fun :=
 ⟨45, 2, 1,
 ⟨r118_, [], []⟩,
 ⟨[(0, ow 0)], [], a123_⟩,
 fun x => qpe x.1 x.2⟩
theorem qpS : FO qkU := fi [] [] 31 [] ((nn (nn (nn (mm (mm (.mk [] (some (⟨r95_, [], a121_⟩, [⟨.x 0, ⟨r95_, [], a121_⟩⟩])) .nil .nil) .nil) .nil))))) func45 ⟨trivial, trivial⟩
def qmn (l : List Int) (v2 : Int) (v3 : List Int) : Option ((Int × List Int) ⊕ (List Int)) :=
 bif decide (v2 < (l.length : Int)) then (
 gd (inB v2 l.length) <|
 (qpe v3 (l.getD v2.toNat 0)).bind fun r =>
 some (.inl (wi64 (v2 + 1), r)))
 else (
 some (.inr v3))
def qct (l : List Int) (v : List Int) : Option (List Int) :=
 (iter (fun x => qmn l x.1 x.2) (0, v)).bind fun s =>
 some s
def qg3 : Fun :=
 ⟨44, 2, 0,
 ⟨[(0, dd (.sl I6)), (1, pt 0 0)], [(0, 22, [.own 1])], [(1, .arr 5 (.int .u8))]⟩,
 ⟨[], [(0, 22, [.own 2])], [(2, .arr 5 (.int .u8))]⟩,
 fun x => qct x.1 x.2⟩
theorem qmo : FO qg3 := fi [] [qkU] 15 [] ((nn (mm (.mk [] (some (⟨[(1, pt 0 0), (5, kk), (6, kk), (7, ii)], [(0, 22, [.own 25])], [(25, .arr 5 (.int .u8))]⟩, [⟨.x 0, ⟨[], [(0, 22, [.own 25])], [(25, .arr 5 (.int .u8))]⟩⟩])) .nil .nil) .nil))) func44 ⟨⟨qpS, trivial⟩, trivial⟩
def qnU (r : yB11) (v : Int) (out : List Int) : Option ((Int × List Int) ⊕ (List Int)) :=
 bif decide (v < (r.2.2.1.2.2.2.2.2.1.length : Int)) then (
 gd (inB v r.2.2.1.2.2.2.2.2.1.length) <|
 Option.bind (α := Int × List Int) (
 bif (r.2.2.1.2.2.2.2.2.1.getD v.toNat (0, false)).2 then (
 some (1, out))
 else (
 some (0, out))) fun s3 =>
 (qct [(r.2.2.1.2.2.2.2.2.1.getD v.toNat (0, false)).1, s3.1] s3.2).bind fun r5 =>
 some (.inl (wi64 (v + 1), r5)))
 else (
 some (.inr out))
def qmp (r : yB11) : Option (Int × List Int) :=
 Option.bind (α := Bool) (
 bif decide (21 < (r.2.1.length : Int)) then (
 some true)
 else (
 bif decide (32 < (r.2.2.1.2.2.2.2.2.1.length : Int)) then (
 some true)
 else (
 some (decide (12 < (r.2.2.2.1.length : Int)))))) fun s =>
 bif s then (
 some (4, []))
 else (
 Option.bind (α := List Int) (
 some []) fun s2 =>
 (qct [r.1, (r.2.1.length : Int)] s2).bind fun r2 =>
 (qct r.2.1 r2).bind fun r3 =>
 (qct [r.2.2.1.1, r.2.2.1.2.1, r.2.2.1.2.2.1, r.2.2.1.2.2.2.1, r.2.2.1.2.2.2.2.1, (r.2.2.1.2.2.2.2.2.1.length : Int)] r3).bind fun r4 =>
 (iter (fun x => qnU r x.1 x.2) (0, r4)).bind fun s4 =>
 (qct [r.2.2.1.2.2.2.2.2.2, r.2.2.2.2.1, r.2.2.2.2.2, (r.2.2.2.1.length : Int)] s4).bind fun r6 =>
 gd (Nat.blt 0 (r6.length + r.2.2.2.1.length) && fits (r6.length + r.2.2.2.1.length) 1) <|
 some (0, r6 ++ qvp r.2.2.2.1))
def qiV : Fun :=
 ⟨9, 1, 2,
 ⟨r50_, [], []⟩,
 ⟨[(0, ow 0), (1, ii)], [], a123_⟩,
 fun x => qmp x⟩
theorem qnV : FO qiV := fi [] [qg3] 100 [] ((nn (mm (mm (.mk [.join [⟨.n, ⟨[(1, pt 32 0), (29, bb)], [(32, 32, (kp 12))], []⟩⟩]] none .nil .nil) .nil) (mm (.mk [.join [⟨.n, ⟨[(1, pt 32 0), (4, pt 91 0)], [(32, 32, (kp 12)), (91, 22, [.own 1481])], a115_⟩⟩]] none .nil .nil) (nn (nn (nn (nn (nn (mm (nn (mm (.mk [] (some (⟨[(1, pt 32 0), (4, pt 91 0), (5, .one (.clp 44 91 0)), (7, pt 128 0), (65, kk), (66, kk), (67, ii)], v105_, a115_⟩, [⟨.x 0, ⟨[(1, pt 32 0), (4, pt 91 0), (5, .one (.clp 44 91 0)), (7, pt 128 0)], v105_, a115_⟩⟩])) (nn (nn (mm (mm (nn (nn (mm (nn (.mk [.join [⟨.n, ⟨[(1, pt 32 0), (4, pt 91 0), (5, .one (.clp 44 91 0)), (7, pt 128 0), (9, pt 160 0), (10, ii), (65, kk), (66, kk), (67, kk)], [(32, 32, (kp 12)), (91, 22, [.own 1481]), (128, 26, (kp 4)), (160, 114, [.keep, .keep])], a115_⟩⟩]] none .nil .nil)) .nil))) .nil) .nil))) .nil) .nil)) .nil)))))))))) func9 ⟨⟨qmo, trivial⟩, trivial⟩
def qnd (parts : List (List Int)) (v : Int) (out : List Int) : Option ((Int × List Int) ⊕ (List Int)) :=
 bif decide (v < (parts.length : Int)) then (
 gd (inB v parts.length) <|
 gd (fits (out.length + (parts.getD v.toNat []).length) 1) <|
 some (.inl (wi64 (v + 1), out ++ (parts.getD v.toNat []))))
 else (
 some (.inr out))
def qbN (parts : List (List Int)) : Option (List Int) :=
 (iter (fun x => qnd parts x.1 x.2) (0, [])).bind fun s =>
 some s
def qbR : Fun :=
 ⟨108, 1, 1,
 ⟨[(0, dd (.sl (.sl (.int .u8))))], [], []⟩,
 ⟨[(0, ow 0)], [], a123_⟩,
 fun x => qbN x⟩
theorem qcu : FO qbR := fi [] [] 17 [] ((nn (nn (mm (nn (mm (.mk [] (some (⟨[(3, ow 75), (6, kk), (7, kk), (8, ii)], [], [(75, .arr 5 (.int .u8))]⟩, [⟨.x 0, ⟨[(3, ow 75)], [], [(75, .arr 5 (.int .u8))]⟩⟩])) .nil .nil) .nil)) .nil)))) func108 ⟨trivial, trivial⟩
def qnW (u : Int) (out : List Int) : Option ((Int × List Int) ⊕ (Int × List Int)) :=
 bif decide (128 ≤ u) then (
 gd (fits (out.length + 1) 1) <|
 some (.inl (Int.fdiv u (2 ^ shAmt .u64 7), out ++ [bitOr .u8 (wu8 u) 128])))
 else (
 some (.inr (u, out)))
def qmq (b : List Int) (n : Int) : Option (List Int) :=
 gd (fits (0 + b.length) 1) <|
 (iter (fun x => qnW x.1 x.2) (qv1 .u64 (wu64 ((wu64 n) * 2 ^ shAmt .u64 1)) (wu64 (Int.fdiv n (2 ^ shAmt .i64 63))), ([] ++ b))).bind fun s =>
 gd (fits (s.2.length + 1) 1) <|
 some (s.2 ++ [wu8 s.1])
def qiW : Fun :=
 ⟨45, 2, 1,
 ⟨r118_, [], []⟩,
 ⟨r85_, [], []⟩,
 fun x => qmq x.1 x.2⟩
theorem qnX : FO qiW := fi [] [] 31 [] ((nn (nn (nn (mm (mm (.mk [] (some (⟨r95_, [], a121_⟩, [⟨.x 0, ⟨r95_, [], a121_⟩⟩])) .nil .nil) .nil) .nil))))) func45 ⟨trivial, trivial⟩
def qmr (b : List Int) : Option (Int × List Int) :=
 bif decide (4000 < (b.length : Int)) then (
 some (4, []))
 else (
 (qmq [] (b.length : Int)).bind fun r =>
 (qbN [r, b]).bind fun r2 =>
 some (0, r2))
def qiX : Fun :=
 ⟨105, 1, 2,
 ⟨r85_, [], []⟩,
 ⟨[(0, ow 0), (1, ii)], [], a123_⟩,
 fun x => qmr x⟩
theorem qnY : FO qiX := fi [] [qiW, qbR] 13 [] .nil func105 ⟨⟨qnX, qcu, trivial⟩, trivial⟩
def qe3 (f : List Int × List Int) : Option (List Int × List Int) :=
 (qbN [f.1]).bind fun r =>
 (qbN [f.2]).bind fun r2 =>
 some (r, r2)
def qhF : Fun :=
 ⟨106, 1, 1,
 ⟨r29_, [], []⟩,
 ⟨r29_, [], []⟩,
 fun x => qe3 x⟩
theorem qne : FO qhF := fi [] [qbR] 12 [] .nil func106 ⟨⟨qcu, trivial⟩, trivial⟩
def qtb (b : List Int) (vat : Int) (u : Int) (v : Int) : Option ((Int × Int) ⊕ (Unit ⊕ (Int × Int × Int))) :=
 bif decide (v < 10) then (
 bif decide ((b.length : Int) ≤ wi64 (vat + v)) then (
 some (.inr (.inr (0, 0, 2))))
 else (
 gd (inB (wi64 (vat + v)) b.length) <|
 gd (!decide (wi64 (7 * v) < 0)) <|
 bif decide (128 ≤ b.getD (wi64 (vat + v)).toNat 0) then (
 some (.inl (bitOr .u64 u (wu64 ((wu64 (qiH .u8 (b.getD (wi64 (vat + v)).toNat 0) 127)) * 2 ^ shAmt .u64 (wi64 (7 * v)))), wi64 (v + 1))))
 else (
 Option.bind (α := Bool) (
 bif decide (v = 9) then (
 bif decide (1 < b.getD (wi64 (vat + v)).toNat 0) then (
 some true)
 else (
 bif decide (0 < v) then (
 some (decide (b.getD (wi64 (vat + v)).toNat 0 = 0)))
 else (
 some false)))
 else (
 bif decide (0 < v) then (
 some (decide (b.getD (wi64 (vat + v)).toNat 0 = 0)))
 else (
 some false))) fun s2 =>
 bif s2 then (
 some (.inr (.inr (0, 0, 3))))
 else (
 some (.inr (.inr (qv1 .i64 (wi64 (Int.fdiv (bitOr .u64 u (wu64 ((wu64 (qiH .u8 (b.getD (wi64 (vat + v)).toNat 0) 127)) * 2 ^ shAmt .u64 (wi64 (7 * v))))) (2 ^ shAmt .u64 1))) (wi64 (0 - (wi64 (qiH .u64 (bitOr .u64 u (wu64 ((wu64 (qiH .u8 (b.getD (wi64 (vat + v)).toNat 0) 127)) * 2 ^ shAmt .u64 (wi64 (7 * v))))) 1)))), wi64 ((wi64 (vat + v)) + 1), 0)))))))
 else (
 some (.inr (.inl ())))
def qq7 (b : List Int) (vat : Int) : Option (Int × Int × Int) :=
 Option.bind (α := Bool) (
 bif decide (vat < 0) then (
 some true)
 else (
 some (decide ((b.length : Int) < vat)))) fun s =>
 bif s then (
 some (0, 0, 1))
 else (
 (iter (fun x => qtb b vat x.1 x.2) (0, 0)).bind fun s3 =>
 s3.elim (fun s4 =>
 some (0, 0, 3))
 (fun s5 =>
 some (s5.1, s5.2.1, s5.2.2)))
def qlp : Fun :=
 ⟨92, 2, 3,
 ⟨r118_, [], []⟩,
 ⟨[(0, ii), (1, ii), (2, ii)], [], []⟩,
 fun x => qq7 x.1 x.2⟩
theorem qpf : FO qlp := fi [] [] 70 [] ((nn (mm (mm (.mk [.join [⟨.n, ⟨[(0, kk), (1, kk), (17, bb)], [], []⟩⟩]] none .nil .nil) .nil) (nn (mm (nn (mm (.mk [] (some (⟨[(0, kk), (1, kk), (7, dd (.int .u64)), (18, ii)], [], []⟩, [⟨.x 0, ⟨[], [], []⟩⟩, ⟨.r, ⟨[(4, ii), (5, ii), (6, ii)], [], []⟩⟩])) (nn (nn (mm (mm (nn (nn (nn (nn (nn (mm (mm (.mk [.join [⟨.n, ⟨[(1, kk), (7, kk), (8, kk), (56, bb)], [], []⟩⟩]] none .nil .nil) .nil) .nil)))))) .nil) .nil))) .nil) .nil)) .nil))))) func92 ⟨trivial, trivial⟩
def qpg (b : List Int) (vat : Int) (out : List (List Int)) : Option ((Int × List (List Int)) ⊕ (Int × List (List Int))) :=
 bif decide (vat < (b.length : Int)) then (
 (qq7 b vat).bind fun r =>
 Option.bind (α := Bool × List (List Int)) (
 bif !decide (r.2.2 = 0) then (
 some (true, out))
 else (
 bif decide (r.1 < 0) then (
 some (true, out))
 else (
 bif decide (4000 < r.1) then (
 some (true, out))
 else (
 some (decide (wi64 ((b.length : Int) - r.2.1) < r.1), out))))) fun s =>
 bif s.1 then (
 some (.inr (vat, s.2)))
 else (
 gd (inR r.2.1 (wi64 (r.2.1 + r.1)) b.length) <|
 (qa7 ((b.take (wi64 (r.2.1 + r.1)).toNat).drop r.2.1.toNat)).bind fun r2 =>
 gd (fits (s.2.length + 1) 24) <|
 some (.inl (wi64 (r.2.1 + r.1), s.2 ++ [r2]))))
 else (
 some (.inr (vat, out)))
def qjC (b : List Int) : Option (Int × List (List Int)) :=
 (iter (fun x => qpg b x.1 x.2) (0, [])).bind fun s2 =>
 some (s2.1, s2.2)
def qgq : Fun :=
 ⟨107, 1, 2,
 ⟨r85_, [], []⟩,
 ⟨[(0, ow 0), (1, ii)], [], [(0, .arr 22 (.sl (.int .u8)))]⟩,
 fun x => qjC x⟩
theorem qjD : FO qgq := fi [] [qlp, qbl] 53 [] ((nn (nn (nn (mm (mm (.mk [] (some (⟨[(0, kk), (4, ow 91), (5, ii)], [], a124_⟩, [⟨.x 0, ⟨[(4, ow 91), (5, ii)], [], a124_⟩⟩])) (nn (mm (nn (mm (mm (.mk [.join [⟨.n, ⟨[(0, kk), (4, ow 91), (5, kk), (6, kk), (7, kk), (37, bb)], [], a124_⟩⟩]] none .nil .nil) .nil) .nil)) .nil)) .nil) .nil) .nil))))) func107 ⟨⟨qpf, qcg, trivial⟩, trivial⟩
def qkV (f : List Int × List Int) (b : List Int) : Option ((List Int × List Int) × Int) :=
 (qmr b).bind fun r =>
 bif !decide (r.1 = 0) then (
 (qe3 (f.1, f.2)).bind fun r2 =>
 some ((r2.1, r2.2), r.1))
 else (
 (qjC f.1).bind fun r3 =>
 bif !decide (r3.1 = (f.1.length : Int)) then (
 (qe3 (f.1, f.2)).bind fun r4 =>
 some ((r4.1, r4.2), 21))
 else (
 bif decide (65536 < wi64 ((wi64 ((f.1.length : Int) + (f.2.length : Int))) + (r.2.length : Int))) then (
 (qe3 (f.1, f.2)).bind fun r5 =>
 some ((r5.1, r5.2), 29))
 else (
 (qbN [f.1]).bind fun r6 =>
 (qbN [f.2, r.2]).bind fun r7 =>
 some ((r6, r7), 0))))
def qhG : Fun :=
 ⟨62, 2, 2,
 ⟨[(0, dd (.pair (.sl (.int .u8)) (.sl (.int .u8)))), (1, dd (.sl (.int .u8)))], [], []⟩,
 ⟨r67_, [], []⟩,
 fun x => qkV x.1 x.2⟩
theorem qnf : FO qhG := fi [] [qiX, qhF, qgq, qbR] 56 [] ((nn (nn (nn (nn (nn (mm (.mk [.fz [6]] none .nil .nil) .nil))))))) func62 ⟨⟨qnY, qne, qjD, qcu, trivial⟩, trivial⟩
def qms (f : List Int × List Int) (keep : Int) : Option (List Int × List Int) :=
 gd (cutG none (some (.i64, min (max 0 keep) (f.2.length : Int))) f.2.length) <|
 (qbN [f.1, f.2.take (min (max 0 keep) (f.2.length : Int)).toNat]).bind fun r =>
 some (r, [])
def qiY : Fun :=
 ⟨109, 2, 1,
 ⟨r67_, [], []⟩,
 ⟨r29_, [], []⟩,
 fun x => qms x.1 x.2⟩
theorem qnZ : FO qiY := fi [] [qbR] 19 [] .nil func109 ⟨⟨qcu, trivial⟩, trivial⟩
def qnB (f : List Int × List Int) : Option (List Int × List Int) :=
 (qms (f.1, f.2) (f.2.length : Int)).bind fun r =>
 some (r.1, r.2)
def qjE : Fun :=
 ⟨63, 1, 1,
 ⟨r29_, [], []⟩,
 ⟨r29_, [], []⟩,
 fun x => qnB x⟩
theorem qph : FO qjE := fi [] [qiY] 8 [] .nil func63 ⟨⟨qnZ, trivial⟩, trivial⟩
def qnC (n : yB0) (f : List Int × List Int) (c : yB13) (r : yB11) : Option ((List Int × List Int) × yB13 × Int) :=
 (qa7 f.1).bind fun r2 =>
 (qa7 f.2).bind fun r3 =>
 (qcx (n.1, (n.2.1, (n.2.2.1, (n.2.2.2.1, (n.2.2.2.2.1, n.2.2.2.2.2))))) ((c.1.1, (c.1.2.1, (c.1.2.2.1, c.1.2.2.2))), (c.2.1, (c.2.2.1, c.2.2.2))) (r.1, (r.2.1, ((r.2.2.1.1, (r.2.2.1.2.1, (r.2.2.1.2.2.1, (r.2.2.1.2.2.2.1, (r.2.2.1.2.2.2.2.1, (r.2.2.1.2.2.2.2.2.1, r.2.2.1.2.2.2.2.2.2)))))), (r.2.2.2.1, (r.2.2.2.2.1, r.2.2.2.2.2)))))).bind fun r4 =>
 bif !decide (r4.2 = 0) then (
 (qbA ((c.1.1, (c.1.2.1, (c.1.2.2.1, c.1.2.2.2))), (c.2.1, (c.2.2.1, c.2.2.2)))).bind fun r5 =>
 some ((r2, r3), ((r5.2.1, (r5.2.2.1, (r5.2.2.2.1, r5.2.2.2.2.1))), (r5.2.2.2.2.2.1, (r5.2.2.2.2.2.2, r5.1))), r4.2))
 else (
 (qmp (r.1, (r.2.1, ((r.2.2.1.1, (r.2.2.1.2.1, (r.2.2.1.2.2.1, (r.2.2.1.2.2.2.1, (r.2.2.1.2.2.2.2.1, (r.2.2.1.2.2.2.2.2.1, r.2.2.1.2.2.2.2.2.2)))))), (r.2.2.2.1, (r.2.2.2.2.1, r.2.2.2.2.2)))))).bind fun r6 =>
 bif !decide (r6.1 = 0) then (
 (qbA ((c.1.1, (c.1.2.1, (c.1.2.2.1, c.1.2.2.2))), (c.2.1, (c.2.2.1, c.2.2.2)))).bind fun r7 =>
 some ((r2, r3), ((r7.2.1, (r7.2.2.1, (r7.2.2.2.1, r7.2.2.2.2.1))), (r7.2.2.2.2.2.1, (r7.2.2.2.2.2.2, r7.1))), r6.1))
 else (
 (qkV (f.1, f.2) r6.2).bind fun r8 =>
 bif !decide (r8.2 = 0) then (
 (qbA ((c.1.1, (c.1.2.1, (c.1.2.2.1, c.1.2.2.2))), (c.2.1, (c.2.2.1, c.2.2.2)))).bind fun r9 =>
 some ((r2, r3), ((r9.2.1, (r9.2.2.1, (r9.2.2.2.1, r9.2.2.2.2.1))), (r9.2.2.2.2.2.1, (r9.2.2.2.2.2.2, r9.1))), r8.2))
 else (
 (qnB (r8.1.1, r8.1.2)).bind fun r10 =>
 some ((r10.1, r10.2), ((r4.1.1.1, (r4.1.1.2.1, (r4.1.1.2.2.1, r4.1.1.2.2.2))), (r4.1.2.1, (r4.1.2.2.1, r4.1.2.2.2))), 0))))
def qjF : Fun :=
 ⟨21, 4, 3,
 ⟨[(0, dd tT0), (1, dd (.pair (.sl (.int .u8)) (.sl (.int .u8)))), (2, dd (.pair (.pair (.sl tT1) tT6) (.pair (.sl tT3) (.pair (.sl tT2) I6)))), (3, dd (.pair I6 (.pair (.sl I6) (.pair (.pair I6 (.pair I6 (.pair I6 tT4))) (.pair (.str) (.pair I6 I6))))))], [], []⟩,
 ⟨r38_, [], []⟩,
 fun x => qnC x.1 x.2.1 x.2.2.1 x.2.2.2⟩
theorem qpi : FO qjF := fi [] [qbl, qeA, qhi, qiV, qhG, qjE] 62 [] ((nn (nn (nn (nn (nn (nn (mm (.mk [.fz [14]] none .nil .nil) .nil)))))))) func21 ⟨⟨qcg, qgp, qkK, qnV, qnf, qph, trivial⟩, trivial⟩
def qpj (f : List Int × List Int) (keep : Int) : Option (List Int × List Int) :=
 gd (fits (0 + f.1.length) 1) <|
 gd (cutG none (some (.i64, max 0 (min keep (f.2.length : Int)))) f.2.length) <|
 gd (fits (([] ++ f.1).length + (f.2.take (max 0 (min keep (f.2.length : Int))).toNat).length) 1) <|
 some (([] ++ f.1) ++ (f.2.take (max 0 (min keep (f.2.length : Int))).toNat), [])
def qkW : Fun :=
 ⟨29, 2, 1,
 ⟨r67_, [], []⟩,
 ⟨r29_, [], []⟩,
 fun x => qpj x.1 x.2⟩
theorem qpT : FO qkW := fi [12] [] 22 [] .nil func29 ⟨trivial, trivial⟩
def qjG (f : List Int × List Int) : Option ((List Int × List Int) × List (List Int)) :=
 (qjC f.1).bind fun r =>
 gd (cutG none (some (.i64, r.1)) f.1.length) <|
 (qbN [f.1.take r.1.toNat]).bind fun r2 =>
 some ((r2, []), r.2)
def qg4 : Fun :=
 ⟨67, 1, 2,
 ⟨r29_, [], []⟩,
 ⟨[(0, dd (.pair (.sl (.int .u8)) (.sl (.int .u8)))), (1, ow 0)], [], [(0, .arr 22 (.sl (.int .u8)))]⟩,
 fun x => qjG x⟩
theorem qmt : FO qg4 := fi [] [qgq, qbR] 20 [] .nil func67 ⟨⟨qjD, qcu, trivial⟩, trivial⟩
def qan (r : List Int) (r2 : Int) (r3 : Bool) : Option (Int × List Int × Int × Bool) :=
 (qq7 r r2).bind fun r4 =>
 Option.bind (α := Bool) (
 bif r3 then (
 some true)
 else (
 some (!decide (r4.2.2 = 0)))) fun s =>
 bif s then (
 some (0, r, r2, true))
 else (
 some (r4.1, r, r4.2.1, r3))
def qcC : Fun :=
 ⟨47, 1, 1,
 ⟨[(0, pt 0 0)], v45_, []⟩,
 ⟨[(0, ii)], v45_, []⟩,
 fun x => qan x.1 x.2.1 x.2.2⟩
theorem qeB : FO qcC := fi [] [qlp] 35 [] ((nn (nn (mm (mm (.mk [.join [⟨.n, ⟨[(0, pt 0 0), (3, kk), (4, kk), (26, bb)], [(0, 118, [.keep, .keep, .keep])], []⟩⟩]] none .nil .nil) .nil) .nil)))) func47 ⟨⟨qpf, trivial⟩, trivial⟩
def qbZ (most : Int) (r : List Int) (r2 : Int) (r3 : Bool) : Option (Int × List Int × Int × Bool) :=
 (qan r r2 r3).bind fun r4 =>
 Option.bind (α := Bool) (
 bif decide (r4.1 < 0) then (
 some true)
 else (
 some (decide (most < r4.1)))) fun s =>
 bif s then (
 some (0, r4.2.1, r4.2.2.1, true))
 else (
 some (r4.1, r4.2.1, r4.2.2.1, r4.2.2.2))
def qeK : Fun :=
 ⟨48, 2, 1,
 ⟨r127_, v45_, []⟩,
 ⟨[(0, ii)], v45_, []⟩,
 fun x => qbZ x.1 x.2.1 x.2.2.1 x.2.2.2⟩
theorem qi9 : FO qeK := fi [] [qcC] 19 [] ((nn (nn (mm (mm (.mk [.join [⟨.n, ⟨[(0, pt 0 0), (5, kk), (14, bb)], [(0, 118, [.keep, .keep, .keep])], []⟩⟩]] none .nil .nil) .nil) .nil)))) func48 ⟨⟨qeB, trivial⟩, trivial⟩
def qn0 (r2 : Int × List Int × Int × Bool) (v : Int) (r3 : List Int) (r4 : Int) (r5 : Bool) (out : List Int) : Option ((Int × List Int × Int × Bool × List Int) ⊕ (List Int × Int × Bool × List Int)) :=
 bif decide (v < r2.1) then (
 (qan r3 r4 r5).bind fun r6 =>
 gd (fits (out.length + 1) 8) <|
 some (.inl (wi64 (v + 1), r6.2.1, r6.2.2.1, r6.2.2.2, out ++ [r6.1])))
 else (
 some (.inr (r3, r4, r5, out)))
def qn1 (r12 : Int × List Int × Int × Bool) (v2 : Int) (r13 : List Int) (r14 : Int) (r15 : Bool) (p : List Int) (p2 : List (Int × Bool)) : Option ((Int × List Int × Int × Bool × List Int × List (Int × Bool)) ⊕ (List Int × Int × Bool × List Int × List (Int × Bool))) :=
 bif decide (v2 < r12.1) then (
 (qan r13 r14 r15).bind fun r16 =>
 (qbZ 1 r16.2.1 r16.2.2.1 r16.2.2.2).bind fun r17 =>
 gd (fits (p2.length + 1) 16) <|
 some (.inl (wi64 (v2 + 1), r17.2.1, r17.2.2.1, r17.2.2.2, p, p2 ++ [(r16.1, decide (r17.1 = 1))])))
 else (
 some (.inr (r13, r14, r15, p, p2)))
def qmu (b : List Int) : Option (yB11 × Int) :=
 (qan b 0 false).bind fun r =>
 (qbZ 21 r.2.1 r.2.2.1 r.2.2.2).bind fun r2 =>
 (iter (fun x => qn0 r2 x.1 x.2.1 x.2.2.1 x.2.2.2.1 x.2.2.2.2) (0, r2.2.1, r2.2.2.1, r2.2.2.2, [])).bind fun s =>
 (qan s.1 s.2.1 s.2.2.1).bind fun r7 =>
 (qan r7.2.1 r7.2.2.1 r7.2.2.2).bind fun r8 =>
 (qan r8.2.1 r8.2.2.1 r8.2.2.2).bind fun r9 =>
 (qan r9.2.1 r9.2.2.1 r9.2.2.2).bind fun r10 =>
 (qan r10.2.1 r10.2.2.1 r10.2.2.2).bind fun r11 =>
 (qbZ 32 r11.2.1 r11.2.2.1 r11.2.2.2).bind fun r12 =>
 (iter (fun x2 => qn1 r12 x2.1 x2.2.1 x2.2.2.1 x2.2.2.2.1 x2.2.2.2.2.1 x2.2.2.2.2.2) (0, r12.2.1, r12.2.2.1, r12.2.2.2, s.2.2.2, [])).bind fun s2 =>
 (qan s2.1 s2.2.1 s2.2.2.1).bind fun r18 =>
 (qan r18.2.1 r18.2.2.1 r18.2.2.2).bind fun r19 =>
 (qan r19.2.1 r19.2.2.1 r19.2.2.2).bind fun r20 =>
 (qbZ 12 r20.2.1 r20.2.2.1 r20.2.2.2).bind fun r21 =>
 Option.bind (α := Bool × List Int × List (Int × Bool)) (
 bif r21.2.2.2 then (
 some (true, s2.2.2.2.1, s2.2.2.2.2))
 else (
 some ((!decide (wi64 ((b.length : Int) - r21.2.2.1) = r21.1)), s2.2.2.2.1, s2.2.2.2.2))) fun s3 =>
 bif s3.1 then (
 some ((0, ([], ((0, (0, (0, (0, (0, ([], 0)))))), ([], (0, 0))))), 3))
 else (
 gd (cutG (some (.i64, r21.2.2.1)) none b.length) <|
 some ((r.1, (s3.2.1, ((r7.1, (r8.1, (r9.1, (r10.1, (r11.1, (s3.2.2, r18.1)))))), (qhf (b.drop r21.2.2.1.toNat), (r19.1, r20.1))))), 0))
def qiZ : Fun :=
 ⟨11, 1, 2,
 ⟨r85_, [], []⟩,
 ⟨[(0, dd (.pair I6 (.pair (.sl I6) (.pair (.pair I6 (.pair I6 (.pair I6 tT4))) (.pair (.str) (.pair I6 I6)))))), (1, ii)], [], []⟩,
 fun x => qmu x⟩
theorem qn2 : FO qiZ := fi [] [qcC, qeK] 113 [] ((nn (nn (nn (nn (mm (nn (mm (.mk [] (some (⟨[(0, kk), (2, pt 48 0), (4, pt 192 0), (5, pt 96 0), (16, kk), (17, ii)], v25_, [(1577, .arr 3 I6)]⟩, [⟨.x 0, ⟨[(0, kk), (2, pt 48 0), (4, pt 192 0), (5, pt 96 0)], v25_, [(1577, .arr 3 I6)]⟩⟩])) .nil .nil) .nil)) (nn (nn (mm (nn (mm (.mk [] (some (⟨[(0, kk), (2, pt 48 0), (4, pt 192 0), (5, pt 96 0), (6, pt 96 5), (52, kk), (53, ii)], v22_, a75_⟩, [⟨.x 2, ⟨[(0, kk), (2, pt 48 0), (4, pt 192 0), (5, pt 96 0), (6, pt 96 5)], v22_, a75_⟩⟩])) .nil .nil) .nil)) (nn (nn (mm (mm (.mk [.join [⟨.n, ⟨[(0, kk), (2, pt 48 0), (4, pt 192 0), (5, pt 96 0), (101, bb)], [(48, 32, (kp 12)), (192, 118, [.keep, .keep, .keep]), (96, 32, [.keep, .own 1577, .keep, .keep, .keep, .keep, .keep, .own 1673, .keep, .keep, .keep, .keep])], a75_⟩⟩]] none .nil .nil) .nil) .nil)))))))))))) func11 ⟨⟨qeB, qi9, trivial⟩, trivial⟩
def qng (n : yB0) (r : List Int) (r2 : List Int) (r4 : (List Int × List Int) × List (List Int)) (v : Int) (v2 : List Int) (v3 : List Int) (v4 : yB2) (v5 : List Int) (v6 : List Int) (v7 : List Bool) (v8 : List yB4) (v9 : List yB1) (v10 : Int) (c : yB2) (c2 : List Int) (c3 : List Int) (c4 : List Bool) (c5 : List yB4) (c6 : List yB1) (c7 : Int) (v11 : List (List Int)) : Option ((Int × List Int × List Int × yB2 × List Int × List Int × List Bool × (List yB4) × (List yB1) × Int × yB2 × List Int × List Int × List Bool × (List yB4) × (List yB1) × Int × List (List Int)) ⊕ ((List Int × List Int × yB2 × List Int × List Int × List Bool × (List yB4) × (List yB1) × Int × yB2 × List Int × List Int × List Bool × (List yB4) × (List yB1) × Int) ⊕ (Int × List Int × List Int × yB2 × List Int × List Int × List Bool × (List yB4) × (List yB1) × Int))) :=
 bif decide (v < (r4.2.length : Int)) then (
 gd (inB v v11.length) <|
 (qmu (v11.getD v.toNat [])).bind fun r5 =>
 bif !decide (r5.2 = 0) then (
 some (.inr (.inr (28, r, r2, [], [], [], [], [], [], 0))))
 else (
 (qcx (n.1, (n.2.1, (n.2.2.1, (n.2.2.2.1, (n.2.2.2.2.1, n.2.2.2.2.2))))) ((c, (c2, (c3, c4))), (c5, (c6, c7))) (r5.1.1, (r5.1.2.1, ((r5.1.2.2.1.1, (r5.1.2.2.1.2.1, (r5.1.2.2.1.2.2.1, (r5.1.2.2.1.2.2.2.1, (r5.1.2.2.1.2.2.2.2.1, (r5.1.2.2.1.2.2.2.2.2.1, r5.1.2.2.1.2.2.2.2.2.2)))))), (r5.1.2.2.2.1, (r5.1.2.2.2.2.1, r5.1.2.2.2.2.2)))))).bind fun r6 =>
 bif !decide (r6.2 = 0) then (
 some (.inr (.inr (28, r, r2, [], [], [], [], [], [], 0))))
 else (
 some (.inl (wi64 (v + 1), v2, v3, v4, v5, v6, v7, v8, v9, v10, r6.1.1.1, r6.1.1.2.1, r6.1.1.2.2.1, r6.1.1.2.2.2, r6.1.2.1, r6.1.2.2.1, r6.1.2.2.2, v11)))))
 else (
 some (.inr (.inl (v2, v3, v4, v5, v6, v7, v8, v9, v10, c, c2, c3, c4, c5, c6, c7))))
def qkX (n : yB0) (travel : Int) (f : List Int × List Int) : Option ((List Int × List Int) × yB13 × Int) :=
 (qa7 f.1).bind fun r =>
 (qa7 f.2).bind fun r2 =>
 (qf3 (n.1, (n.2.1, (n.2.2.1, (n.2.2.2.1, (n.2.2.2.2.1, n.2.2.2.2.2))))) travel).bind fun r3 =>
 bif !decide (r3.2 = 0) then (
 some ((r, r2), (([], ([], ([], []))), ([], ([], 0))), r3.2))
 else (
 (qjG (f.1, f.2)).bind fun r4 =>
 (iter (fun x => qng n r r2 r4 x.1 x.2.1 x.2.2.1 x.2.2.2.1 x.2.2.2.2.1 x.2.2.2.2.2.1 x.2.2.2.2.2.2.1 x.2.2.2.2.2.2.2.1 x.2.2.2.2.2.2.2.2.1 x.2.2.2.2.2.2.2.2.2.1 x.2.2.2.2.2.2.2.2.2.2.1 x.2.2.2.2.2.2.2.2.2.2.2.1 x.2.2.2.2.2.2.2.2.2.2.2.2.1 x.2.2.2.2.2.2.2.2.2.2.2.2.2.1 x.2.2.2.2.2.2.2.2.2.2.2.2.2.2.1 x.2.2.2.2.2.2.2.2.2.2.2.2.2.2.2.1 x.2.2.2.2.2.2.2.2.2.2.2.2.2.2.2.2.1 x.2.2.2.2.2.2.2.2.2.2.2.2.2.2.2.2.2) (0, [], [], [], [], [], [], [], [], 0, r3.1.1.1, r3.1.1.2.1, r3.1.1.2.2.1, r3.1.1.2.2.2, r3.1.2.1, r3.1.2.2.1, r3.1.2.2.2, r4.2)).bind fun s =>
 s.elim (fun s2 =>
 some ((r4.1.1, r4.1.2), ((s2.2.2.2.2.2.2.2.2.2.1, (s2.2.2.2.2.2.2.2.2.2.2.1, (s2.2.2.2.2.2.2.2.2.2.2.2.1, s2.2.2.2.2.2.2.2.2.2.2.2.2.1))), (s2.2.2.2.2.2.2.2.2.2.2.2.2.2.1, (s2.2.2.2.2.2.2.2.2.2.2.2.2.2.2.1, s2.2.2.2.2.2.2.2.2.2.2.2.2.2.2.2))), 0))
 (fun s3 =>
 some ((s3.2.1, s3.2.2.1), ((s3.2.2.2.1, (s3.2.2.2.2.1, (s3.2.2.2.2.2.1, s3.2.2.2.2.2.2.1))), (s3.2.2.2.2.2.2.2.1, (s3.2.2.2.2.2.2.2.2.1, s3.2.2.2.2.2.2.2.2.2))), s3.1)))
def qhH : Fun :=
 ⟨28, 3, 3,
 ⟨[(0, dd tT0), (1, ii), (2, dd (.pair (.sl (.int .u8)) (.sl (.int .u8))))], [], []⟩,
 ⟨r38_, [], []⟩,
 fun x => qkX x.1 x.2.1 x.2.2⟩
theorem qnh : FO qhH := fi [] [qbl, qfM, qg4, qiZ, qeA] 70 [] ((nn (nn (nn (nn (nn (mm (nn (mm (.mk [] (some (⟨[(3, pt 64 0), (6, pt 112 0), (7, pt 128 0), (9, pt 160 0), (10, pt 176 0), (12, pt 208 0), (41, ow 624), (42, kk), (43, ii)], [(64, 50, (kp 6)), (112, 65, [.data (.sl (.int .u8)), .data (.sl (.int .u8))]), (128, 61, [.data (.sl tT1), .data (.sl I6), .data (.sl I6), .data (.sl (.bool)), .data (.sl tT3), .data (.sl tT2), .data I6]), (160, 65, [.keep, .keep]), (176, 61, [.data (.sl tT1), .data (.sl I6), .data (.sl I6), .data (.sl (.bool)), .data (.sl tT3), .data (.sl tT2), .data I6]), (208, 65, [.keep, .keep])], [(624, .arr 22 (.sl (.int .u8)))]⟩, [⟨.x 0, ⟨[(6, pt 112 0), (7, pt 128 0), (10, pt 176 0), (12, pt 208 0)], [(112, 65, [.data (.sl (.int .u8)), .data (.sl (.int .u8))]), (128, 61, [.data (.sl tT1), .data (.sl I6), .data (.sl I6), .data (.sl (.bool)), .data (.sl tT3), .data (.sl tT2), .data I6]), (176, 61, [.data (.sl tT1), .data (.sl I6), .data (.sl I6), .data (.sl (.bool)), .data (.sl tT3), .data (.sl tT2), .data I6]), (208, 65, [.keep, .keep])], []⟩⟩, ⟨.r, ⟨[(6, pt 112 0), (7, pt 128 0), (8, ii)], [(112, 65, [.data (.sl (.int .u8)), .data (.sl (.int .u8))]), (128, 61, [.data (.sl tT1), .data (.sl I6), .data (.sl I6), .data (.sl (.bool)), .data (.sl tT3), .data (.sl tT2), .data I6])], []⟩⟩])) .nil .nil) .nil)) .nil))))))) func28 ⟨⟨qcg, qh5, qmt, qn2, qgp, trivial⟩, trivial⟩
def qeC (a : yB2) (b : yB2) (i : Int) : Option (Int ⊕ (Unit ⊕ Bool)) :=
 bif decide (i < (a.length : Int)) then (
 gd (inB i a.length) <|
 gd (inB i b.length) <|
 bif !(decide ((a.getD i.toNat (0, (0, (false, false)))).1 = (b.getD i.toNat (0, (0, (false, false)))).1) && (decide (((a.getD i.toNat (0, (0, (false, false)))).2).1 = ((b.getD i.toNat (0, (0, (false, false)))).2).1) && (((((a.getD i.toNat (0, (0, (false, false)))).2).2).1 == (((b.getD i.toNat (0, (0, (false, false)))).2).2).1) && ((((a.getD i.toNat (0, (0, (false, false)))).2).2).2 == (((b.getD i.toNat (0, (0, (false, false)))).2).2).2)))) then (
 some (.inr (.inr false)))
 else (
 some (.inl (wi64 (i + 1)))))
 else (
 some (.inr (.inl ())))
def qkp (a : yB2) (b : yB2) : Option (Bool) :=
 bif !decide ((a.length : Int) = (b.length : Int)) then (
 some false)
 else (
 (iter (fun x => qeC a b x) 0).bind fun s =>
 s.elim (fun s2 =>
 some true)
 (fun s3 =>
 some s3))
def qmv : Fun :=
 ⟨81, 2, 1,
 ⟨[(0, dd (.sl tT1)), (1, dd (.sl tT1))], [], []⟩,
 ⟨[(0, bb)], [], []⟩,
 fun x => qkp x.1 x.2⟩
theorem qq8 : FO qmv := fi [] [] 26 [] ((nn (nn (mm (nn (mm (.mk [] (some (⟨r116_, [], []⟩, [⟨.x 0, ⟨[], [], []⟩⟩, ⟨.r, ⟨[(4, bb)], [], []⟩⟩])) .nil .nil) .nil)) .nil)))) func81 ⟨trivial, trivial⟩
def qcv (a : List Int) (b : List Int) (i : Int) : Option (Int ⊕ (Unit ⊕ Bool)) :=
 bif decide (i < (a.length : Int)) then (
 gd (inB i a.length) <|
 gd (inB i b.length) <|
 bif !decide (a.getD i.toNat 0 = b.getD i.toNat 0) then (
 some (.inr (.inr false)))
 else (
 some (.inl (wi64 (i + 1)))))
 else (
 some (.inr (.inl ())))
def qcR (a : List Int) (b : List Int) : Option (Bool) :=
 bif !decide ((a.length : Int) = (b.length : Int)) then (
 some false)
 else (
 (iter (fun x => qcv a b x) 0).bind fun s =>
 s.elim (fun s2 =>
 some true)
 (fun s3 =>
 some s3))
def qeS : Fun :=
 ⟨51, 2, 1,
 ⟨[(0, dd (.sl I6)), (1, dd (.sl I6))], [], []⟩,
 ⟨[(0, bb)], [], []⟩,
 fun x => qcR x.1 x.2⟩
theorem qhI : FO qeS := fi [] [] 26 [] ((nn (nn (mm (nn (mm (.mk [] (some (⟨r116_, [], []⟩, [⟨.x 0, ⟨[], [], []⟩⟩, ⟨.r, ⟨[(4, bb)], [], []⟩⟩])) .nil .nil) .nil)) .nil)))) func51 ⟨trivial, trivial⟩
def qcf (a : List Bool) (b : List Bool) (i : Int) : Option (Int ⊕ (Unit ⊕ Bool)) :=
 bif decide (i < (a.length : Int)) then (
 gd (inB i a.length) <|
 gd (inB i b.length) <|
 bif !(a.getD i.toNat false == b.getD i.toNat false) then (
 some (.inr (.inr false)))
 else (
 some (.inl (wi64 (i + 1)))))
 else (
 some (.inr (.inl ())))
def qeD (a : List Bool) (b : List Bool) : Option (Bool) :=
 bif !decide ((a.length : Int) = (b.length : Int)) then (
 some false)
 else (
 (iter (fun x => qcf a b x) 0).bind fun s =>
 s.elim (fun s2 =>
 some true)
 (fun s3 =>
 some s3))
def qg5 : Fun :=
 ⟨135, 2, 1,
 ⟨[(0, dd (.sl (.bool))), (1, dd (.sl (.bool)))], [], []⟩,
 ⟨[(0, bb)], [], []⟩,
 fun x => qeD x.1 x.2⟩
theorem qmw : FO qg5 := fi [] [] 26 [] ((nn (nn (mm (nn (mm (.mk [] (some (⟨r116_, [], []⟩, [⟨.x 0, ⟨[], [], []⟩⟩, ⟨.r, ⟨[(4, bb)], [], []⟩⟩])) .nil .nil) .nil)) .nil)))) func135 ⟨trivial, trivial⟩
def qe4 (a : yB6) (b : yB6) : Option (Bool) :=
 (qcR a.1 b.1).bind fun r =>
 bif r then (
 (qcR a.2.1 b.2.1).bind fun r2 =>
 bif r2 then (
 (qeD a.2.2 b.2.2).bind fun r3 =>
 some r3)
 else (
 some false))
 else (
 some false)
def qhJ : Fun :=
 ⟨82, 2, 1,
 ⟨[(0, dd tT6), (1, dd tT6)], [], []⟩,
 ⟨[(0, bb)], [], []⟩,
 fun x => qe4 x.1 x.2⟩
theorem qni : FO qhJ := fi [] [qeS, qg5] 24 [] .nil func82 ⟨⟨qhI, qmw, trivial⟩, trivial⟩
def qhK (a : yB3) (b : yB3) : Option (Bool) :=
 (qkp a.1 b.1).bind fun r =>
 bif r then (
 (qe4 (a.2.1, (a.2.2.1, a.2.2.2)) (b.2.1, (b.2.2.1, b.2.2.2))).bind fun r2 =>
 some r2)
 else (
 some false)
def qii : Fun :=
 ⟨35, 2, 1,
 ⟨[(0, dd (.pair (.sl tT1) tT6)), (1, dd (.pair (.sl tT1) tT6))], [], []⟩,
 ⟨[(0, bb)], [], []⟩,
 fun x => qhK x.1 x.2⟩
theorem qmx : FO qii := fi [] [qmv, qhJ] 17 [] .nil func35 ⟨⟨qq8, qni, trivial⟩, trivial⟩
def qeE (a : List yB1) (b : List yB1) (i : Int) : Option (Int ⊕ (Unit ⊕ Bool)) :=
 bif decide (i < (a.length : Int)) then (
 gd (inB i a.length) <|
 gd (inB i b.length) <|
 bif !(decide ((a.getD i.toNat ([], (0, (0, (0, 0))))).1 = (b.getD i.toNat ([], (0, (0, (0, 0))))).1) && (decide (((a.getD i.toNat ([], (0, (0, (0, 0))))).2).1 = ((b.getD i.toNat ([], (0, (0, (0, 0))))).2).1) && (decide ((((a.getD i.toNat ([], (0, (0, (0, 0))))).2).2).1 = (((b.getD i.toNat ([], (0, (0, (0, 0))))).2).2).1) && (decide (((((a.getD i.toNat ([], (0, (0, (0, 0))))).2).2).2).1 = ((((b.getD i.toNat ([], (0, (0, (0, 0))))).2).2).2).1) && decide (((((a.getD i.toNat ([], (0, (0, (0, 0))))).2).2).2).2 = ((((b.getD i.toNat ([], (0, (0, (0, 0))))).2).2).2).2))))) then (
 some (.inr (.inr false)))
 else (
 some (.inl (wi64 (i + 1)))))
 else (
 some (.inr (.inl ())))
def qhL (a : List yB1) (b : List yB1) : Option (Bool) :=
 bif !decide ((a.length : Int) = (b.length : Int)) then (
 some false)
 else (
 (iter (fun x => qeE a b x) 0).bind fun s =>
 s.elim (fun s2 =>
 some true)
 (fun s3 =>
 some s3))
def qij : Fun :=
 ⟨36, 2, 1,
 ⟨[(0, dd (.sl tT2)), (1, dd (.sl tT2))], [], []⟩,
 ⟨[(0, bb)], [], []⟩,
 fun x => qhL x.1 x.2⟩
theorem qmy : FO qij := fi [] [] 26 [] ((nn (nn (mm (nn (mm (.mk [] (some (⟨r116_, [], []⟩, [⟨.x 0, ⟨[], [], []⟩⟩, ⟨.r, ⟨[(4, bb)], [], []⟩⟩])) .nil .nil) .nil)) .nil)))) func36 ⟨trivial, trivial⟩
def qcW (a : yB4) (b : yB4) : Option (Bool) :=
 bif decide (a.1 = b.1) then (
 bif decide (a.2.1 = b.2.1) then (
 bif decide (a.2.2.1 = b.2.2.1) then (
 bif decide (a.2.2.2.1 = b.2.2.2.1) then (
 bif decide (a.2.2.2.2.1 = b.2.2.2.2.1) then (
 (qcR a.2.2.2.2.2 b.2.2.2.2.2).bind fun r =>
 some r)
 else (
 some false))
 else (
 some false))
 else (
 some false))
 else (
 some false))
 else (
 some false)
def qfv : Fun :=
 ⟨43, 2, 1,
 ⟨[(0, dd tT3), (1, dd tT3)], [], []⟩,
 ⟨[(0, bb)], [], []⟩,
 fun x => qcW x.1 x.2⟩
theorem qjH : FO qfv := fi [] [qeS] 45 [] .nil func43 ⟨⟨qhI, trivial⟩, trivial⟩
def qeF (a : yB13) (b : yB13) (i : Int) : Option (Int ⊕ (Unit ⊕ Bool)) :=
 bif decide (i < (a.2.1.length : Int)) then (
 gd (inB i a.2.1.length) <|
 gd (inB i b.2.1.length) <|
 (qcW (a.2.1.getD i.toNat (0, (0, (0, (0, (0, [])))))) (b.2.1.getD i.toNat (0, (0, (0, (0, (0, []))))))).bind fun r3 =>
 bif !r3 then (
 some (.inr (.inr false)))
 else (
 some (.inl (wi64 (i + 1)))))
 else (
 some (.inr (.inl ())))
def qhM (a : yB13) (b : yB13) : Option (Bool) :=
 Option.bind (α := Bool) (
 bif !decide (a.2.2.2 = b.2.2.2) then (
 some true)
 else (
 (qhK (a.1.1, (a.1.2.1, (a.1.2.2.1, a.1.2.2.2))) (b.1.1, (b.1.2.1, (b.1.2.2.1, b.1.2.2.2)))).bind fun r =>
 bif !r then (
 some true)
 else (
 (qhL a.2.2.1 b.2.2.1).bind fun r2 =>
 bif !r2 then (
 some true)
 else (
 some (!decide ((a.2.1.length : Int) = (b.2.1.length : Int))))))) fun s =>
 bif s then (
 some false)
 else (
 (iter (fun x => qeF a b x) 0).bind fun s2 =>
 s2.elim (fun s3 =>
 some true)
 (fun s4 =>
 some s4))
def qik : Fun :=
 ⟨22, 2, 1,
 ⟨[(0, dd (.pair (.pair (.sl tT1) tT6) (.pair (.sl tT3) (.pair (.sl tT2) I6)))), (1, dd (.pair (.pair (.sl tT1) tT6) (.pair (.sl tT3) (.pair (.sl tT2) I6))))], [], []⟩,
 ⟨[(0, bb)], [], []⟩,
 fun x => qhM x.1 x.2⟩
theorem qmz : FO qik := fi [] [qii, qij, qfv] 55 [] ((nn (mm (mm (.mk [.join [⟨.n, ⟨[(2, pt 48 0), (3, pt 64 0), (35, bb)], [(48, 61, (kp 7)), (64, 61, (kp 7))], []⟩⟩]] none .nil .nil) .nil) (mm (nn (mm (.mk [] (some (⟨r111_, [(48, 61, (kp 7)), (64, 61, (kp 7))], []⟩, [⟨.x 0, ⟨[], [], []⟩⟩, ⟨.r, ⟨[(4, bb)], [], []⟩⟩])) .nil .nil) .nil)) .nil)))) func22 ⟨⟨qmx, qmy, qjH, trivial⟩, trivial⟩
def qgr : Option (Bool) :=
 (qf3 (([[97], [98]] : List (List UInt8)), ([([103], (0, (1, (10, (0, (0, [(0, (0, 1000)), (10, (0, 1000))]))))))], ([([112], (0, 0)), ([113], (1, 0))], ([], (0, 0))))) 2).bind fun r =>
 (qnC (([[97], [98]] : List (List UInt8)), ([([103], (0, (1, (10, (0, (0, [(0, (0, 1000)), (10, (0, 1000))]))))))], ([([112], (0, 0)), ([113], (1, 0))], ([], (0, 0))))) ([], []) ((r.1.1.1, (r.1.1.2.1, (r.1.1.2.2.1, r.1.1.2.2.2))), (r.1.2.1, (r.1.2.2.1, r.1.2.2.2))) (3, ([], ((0, (0, (0, (0, (0, ([], 0)))))), ([97], (1, 5)))))).bind fun r2 =>
 (qpj (r2.1.1, r2.1.2) 0).bind fun r3 =>
 (qkX (([[97], [98]] : List (List UInt8)), ([([103], (0, (1, (10, (0, (0, [(0, (0, 1000)), (10, (0, 1000))]))))))], ([([112], (0, 0)), ([113], (1, 0))], ([], (0, 0))))) 2 r3).bind fun r4 =>
 bif decide (r.2 = 0) then (
 bif decide (r2.2.2 = 0) then (
 bif decide (r4.2.2 = 0) then (
 bif decide (r2.2.1.2.2.2 = 1) then (
 bif decide ((r4.2.1.2.2.1.length : Int) = 1) then (
 gd (inB 0 r4.2.1.2.2.1.length) <|
 bif decide (((r4.2.1.2.2.1.getD 0 ([], (0, (0, (0, 0))))).2).1 = 5) then (
 (qhM ((r2.2.1.1.1, (r2.2.1.1.2.1, (r2.2.1.1.2.2.1, r2.2.1.1.2.2.2))), (r2.2.1.2.1, (r2.2.1.2.2.1, r2.2.1.2.2.2))) ((r4.2.1.1.1, (r4.2.1.1.2.1, (r4.2.1.1.2.2.1, r4.2.1.1.2.2.2))), (r4.2.1.2.1, (r4.2.1.2.2.1, r4.2.1.2.2.2)))).bind fun r5 =>
 some r5)
 else (
 some false))
 else (
 some false))
 else (
 some false))
 else (
 some false))
 else (
 some false))
 else (
 some false)
def qkY : Fun :=
 ⟨8, 0, 1,
 ⟨[], [], []⟩,
 ⟨[(0, bb)], [], []⟩,
 fun x => qgr⟩
theorem qpU : FO qkY := fi [] [qfM, qjF, qkW, qhH, qik] 76 [] .nil func8 ⟨⟨qh5, qpi, qpT, qnh, qmz, trivial⟩, trivial⟩
def qoi (l : List Int) : Option (List Int × Int) :=
 gd (cutG none (some (.i64, min (l.length : Int) 2000)) l.length) <|
 some (l.take (min (l.length : Int) 2000).toNat, 0)
def qpk : Fun :=
 ⟨16, 1, 1,
 ⟨r99_, [], []⟩,
 ⟨[(0, pt 0 0)], v3_, []⟩,
 fun x => qoi x⟩
theorem qtc : FO qpk := fi [] [] 10 [] .nil func16 ⟨trivial, trivial⟩
def qg6 (s : List Int) (s2 : Int) : Option (Int × List Int × Int) :=
 bif decide ((s.length : Int) ≤ s2) then (
 some (0, s, s2))
 else (
 gd (inB (wi64 ((wi64 (s2 + 1)) - 1)) s.length) <|
 some (s.getD (wi64 ((wi64 (s2 + 1)) - 1)).toNat 0, s, wi64 (s2 + 1)))
def qjI : Fun :=
 ⟨66, 1, 1,
 ⟨[(0, pt 0 0)], v3_, []⟩,
 ⟨[(0, ii)], v3_, []⟩,
 fun x => qg6 x.1 x.2⟩
theorem qpl : FO qjI := fi [] [] 31 [] .nil func66 ⟨trivial, trivial⟩
def qoj (x : Int) (n : Int) : Option (Int) :=
 bif decide (n < 1) then (
 some 0)
 else (
 gd (!decide (n = 0)) <|
 bif decide (Int.tmod x n < 0) then (
 some (wi64 ((Int.tmod x n) + n)))
 else (
 some (Int.tmod x n)))
def qpm : Fun :=
 ⟨53, 2, 1,
 ⟨r58_, [], []⟩,
 ⟨[(0, ii)], [], []⟩,
 fun x => qoj x.1 x.2⟩
theorem qtd : FO qpm := fi [] [] 16 [] .nil func53 ⟨trivial, trivial⟩
def qaa (n : Int) (s : List Int) (s2 : Int) : Option (Int × List Int × Int) :=
 (qg6 s s2).bind fun r =>
 (qoj r.1 n).bind fun r2 =>
 some (r2, r.2.1, r.2.2)
def qbe : Fun :=
 ⟨27, 2, 1,
 ⟨r127_, v3_, []⟩,
 ⟨[(0, ii)], v3_, []⟩,
 fun x => qaa x.1 x.2.1 x.2.2⟩
theorem qbm : FO qbe := fi [] [qjI, qpm] 9 [] .nil func27 ⟨⟨qpl, qtd, trivial⟩, trivial⟩
def qap (l : List Int) (s : List Int) (s2 : Int) : Option (Int × List Int × Int) :=
 (qaa (l.length : Int) s s2).bind fun r =>
 gd (inB r.1 l.length) <|
 some (l.getD r.1.toNat 0, r.2.1, r.2.2)
def qbB : Fun :=
 ⟨26, 2, 1,
 ⟨[(0, pt 0 0), (1, dd (.sl I6))], v3_, []⟩,
 ⟨[(0, ii)], v3_, []⟩,
 fun x => qap x.1 x.2.1 x.2.2⟩
theorem qb6 : FO qbB := fi [] [qbe] 12 [] .nil func26 ⟨⟨qbm, trivial⟩, trivial⟩
def qaZ (lo : Int) (hi : Int) (s : List Int) (s2 : Int) : Option (Int × List Int × Int) :=
 (qaa (wi64 ((wi64 (hi - lo)) + 1)) s s2).bind fun r =>
 some (wi64 (lo + r.1), r.2.1, r.2.2)
def qdk : Fun :=
 ⟨54, 3, 1,
 ⟨[(0, pt 0 0), (1, ii), (2, ii)], v3_, []⟩,
 ⟨[(0, ii)], v3_, []⟩,
 fun x => qaZ x.1 x.2.1 x.2.2.1 x.2.2.2⟩
theorem qeT : FO qdk := fi [] [qbe] 15 [] .nil func54 ⟨⟨qbm, trivial⟩, trivial⟩
def qgs (first : List UInt8) (n : Int) : Option (List UInt8) :=
 gd (Nat.ble (first.length + (qhf [wu8 (wi64 (97 + (Int.tmod n 26)))]).length) 9223372036854775807) <|
 some (first ++ (qhf [wu8 (wi64 (97 + (Int.tmod n 26)))]))
def qjJ : Fun :=
 ⟨55, 2, 1,
 ⟨[(0, ss), (1, ii)], [], []⟩,
 ⟨[(0, ss)], [], []⟩,
 fun x => qgs x.1 x.2⟩
theorem qnD : FO qjJ := fi [] [] 13 [] .nil func55 ⟨trivial, trivial⟩
def qgt (r3 : Int × List Int × Int) (r6 : Int × List Int × Int) (vat : Int) (s4 : List Int) (s5 : Int) (x : List (Int × Int × Int)) : Option ((Int × List Int × Int × List (Int × Int × Int)) ⊕ (List Int × Int × List (Int × Int × Int))) :=
 Option.bind (α := Bool × List Int × Int × List (Int × Int × Int)) (
 bif decide ((x.length : Int) < 7) then (
 (qaa 3 s4 s5).bind fun r8 =>
 some (decide (0 < r8.1), r8.2.1, r8.2.2, x))
 else (
 some (false, s4, s5, x))) fun s6 =>
 bif s6.1 then (
 (qaZ 1 40 s6.2.1 s6.2.2.1).bind fun r9 =>
 bif decide (r3.1 ≤ wi64 (vat + r9.1)) then (
 some (.inr (r9.2.1, r9.2.2, s6.2.2.2)))
 else (
 (qaZ (-5) 60 r9.2.1 r9.2.2).bind fun r10 =>
 (qap [1, 1, 10] r10.2.1 r10.2.2).bind fun r11 =>
 (qaa 3 r11.2.1 r11.2.2).bind fun r12 =>
 gd (fits (s6.2.2.2.length + 1) 24) <|
 some (.inl (wi64 (vat + r9.1), r12.2.1, r12.2.2, s6.2.2.2 ++ [(wi64 (vat + r9.1), (wi64 (r10.1 * r11.1), wi64 (r6.1 - (wi64 (r12.1 * 1000)))))]))))
 else (
 some (.inr (s6.2.1, s6.2.2.1, s6.2.2.2)))
def qcO (k : Int) (vfrom : Int) (to : Int) (s : List Int) (s2 : Int) : Option (yT0 × List Int × Int) :=
 (qaa 4 s s2).bind fun r =>
 Option.bind (α := Int × Int) (
 bif decide (r.1 = 0) then (
 some (to, vfrom))
 else (
 some (vfrom, to))) fun s3 =>
 (qgs [103] k).bind fun r2 =>
 (qap [1, 2, 7, 20, 60, 200, 1000] r.2.1 r.2.2).bind fun r3 =>
 (qap [0, 1, 5, 1000] r3.2.1 r3.2.2).bind fun r4 =>
 (qap [0, 50, 1000, 100000] r4.2.1 r4.2.2).bind fun r5 =>
 (qap [1000000, 6000000, 100000000] r5.2.1 r5.2.2).bind fun r6 =>
 (qaZ (-5) 30 r6.2.1 r6.2.2).bind fun r7 =>
 (iter (fun x2 => qgt r3 r6 x2.1 x2.2.1 x2.2.2.1 x2.2.2.2) (0, r7.2.1, r7.2.2, [(0, (r7.1, r6.1))])).bind fun s7 =>
 (qaZ (-5) 30 s7.1 s7.2.1).bind fun r13 =>
 gd (fits (s7.2.2.length + 1) 24) <|
 some ((r2, (s3.1, (s3.2, (r3.1, (r4.1, (r5.1, s7.2.2 ++ [(r3.1, (r13.1, r6.1))])))))), r13.2.1, r13.2.2)
def qgu : Fun :=
 ⟨56, 4, 1,
 ⟨[(0, pt 0 0), (1, ii), (2, ii), (3, ii)], v3_, []⟩,
 ⟨r92_, v3_, []⟩,
 fun x => qcO x.1 x.2.1 x.2.2.1 x.2.2.2.1 x.2.2.2.2⟩
theorem qlq : FO qgu := fi [] [qbe, qjJ, qbB, qdk] 90 [] ((nn (mm (nn (.mk [.join [⟨.n, ⟨[(0, pt 0 0), (1, kk), (2, ii), (3, ii), (8, pt 144 0)], [(0, 128, [.keep, .keep]), (144, 106, (kp 7))], []⟩⟩]] none .nil .nil)) (nn (nn (nn (mm (nn (mm (.mk [] (some (⟨[(0, pt 0 0), (8, pt 144 0), (9, pt 160 0), (10, kk), (11, ii)], v21_, a98_⟩, [⟨.x 0, ⟨[(0, pt 0 0), (8, pt 144 0), (9, pt 160 0), (10, kk)], v21_, a98_⟩⟩])) (mm (mm (.mk [.join [⟨.n, ⟨[(0, pt 0 0), (8, pt 144 0), (9, pt 160 0), (10, kk), (11, kk), (51, bb)], v21_, a98_⟩⟩]] none .nil .nil) .nil) .nil) .nil) .nil)) .nil))))))) func56 ⟨⟨qbm, qnD, qb6, qeT, trivial⟩, trivial⟩
def qgv (i : Int) (n : List (List UInt8)) : Option ((Int × List (List UInt8)) ⊕ (List (List UInt8))) :=
 bif decide (0 < i) then (
 (qgs [110] (n.length : Int)).bind fun r4 =>
 gd (fits (n.length + 1) 16) <|
 some (.inl (wi64 (i - 1), n ++ [r4])))
 else (
 some (.inr n))
def qgw (s3 : List (List UInt8)) (i2 : Int) (s4 : List Int) (s5 : Int) (n2 : List (List UInt8)) (n3 : List yT0) : Option ((Int × List Int × Int × List (List UInt8) × List yT0) ⊕ (List Int × Int × List (List UInt8) × List yT0)) :=
 bif decide (i2 < wi64 ((s3.length : Int) - 1)) then (
 (qcO (n3.length : Int) i2 (wi64 (i2 + 1)) s4 s5).bind fun r5 =>
 gd (fits (n3.length + 1) 80) <|
 some (.inl (wi64 (i2 + 1), r5.2.1, r5.2.2, n2, n3 ++ [(r5.1.1, (r5.1.2.1, (r5.1.2.2.1, (r5.1.2.2.2.1, (r5.1.2.2.2.2.1, (r5.1.2.2.2.2.2.1, r5.1.2.2.2.2.2.2))))))])))
 else (
 some (.inr (s4, s5, n2, n3)))
def qgx (s3 : List (List UInt8)) (i3 : Int) (s7 : List Int) (s8 : Int) (n4 : List (List UInt8)) (n5 : List yT0) : Option ((Int × List Int × Int × List (List UInt8) × List yT0) ⊕ (List Int × Int × List (List UInt8) × List yT0)) :=
 bif decide (0 < i3) then (
 (qaa (wi64 ((s3.length : Int) - 1)) s7 s8).bind fun r7 =>
 (qaZ (wi64 (r7.1 + 1)) (wi64 ((s3.length : Int) - 1)) r7.2.1 r7.2.2).bind fun r8 =>
 (qcO (n5.length : Int) r7.1 r8.1 r8.2.1 r8.2.2).bind fun r9 =>
 gd (fits (n5.length + 1) 80) <|
 some (.inl (wi64 (i3 - 1), r9.2.1, r9.2.2, n4, n5 ++ [(r9.1.1, (r9.1.2.1, (r9.1.2.2.1, (r9.1.2.2.2.1, (r9.1.2.2.2.2.1, (r9.1.2.2.2.2.2.1, r9.1.2.2.2.2.2.2))))))])))
 else (
 some (.inr (s7, s8, n4, n5)))
def qgy (s3 : List (List UInt8)) (i4 : Int) (s10 : List Int) (s11 : Int) (n6 : List (List UInt8)) (n7 : List yT0) (n8 : yB12) (n9 : List yB1) : Option ((Int × List Int × Int × List (List UInt8) × (List yT0) × yB12 × List yB1) ⊕ (List Int × Int × List (List UInt8) × (List yT0) × yB12 × List yB1)) :=
 bif decide (i4 ≤ wi64 ((s3.length : Int) - 1)) then (
 Option.bind (α := Bool × List Int × Int × List (List UInt8) × (List yT0) × yB12 × List yB1) (
 bif decide (i4 = 0) then (
 some (true, s10, s11, n6, n7, n8, n9))
 else (
 bif decide (i4 = wi64 ((s3.length : Int) - 1)) then (
 some (true, s10, s11, n6, n7, n8, n9))
 else (
 (qaa 2 s10 s11).bind fun r10 =>
 some (decide (r10.1 = 0), r10.2.1, r10.2.2, n6, n7, n8, n9)))) fun s12 =>
 Option.bind (α := List Int × Int × List (List UInt8) × (List yT0) × yB12 × List yB1) (
 bif s12.1 then (
 (qgs [113] (s12.2.2.2.2.2.1.length : Int)).bind fun r11 =>
 (qap [300000, 1000000, 0, 5000000] s12.2.1 s12.2.2.1).bind fun r12 =>
 gd (fits (s12.2.2.2.2.2.1.length + 1) 32) <|
 some (r12.2.1, r12.2.2, s12.2.2.2.1, s12.2.2.2.2.1, s12.2.2.2.2.2.1 ++ [(r11, (i4, r12.1))], s12.2.2.2.2.2.2))
 else (
 some (s12.2.1, s12.2.2.1, s12.2.2.2.1, s12.2.2.2.2.1, s12.2.2.2.2.2.1, s12.2.2.2.2.2.2))) fun s13 =>
 Option.bind (α := Bool × List Int × Int × List (List UInt8) × (List yT0) × yB12 × List yB1) (
 bif decide (i4 < wi64 ((s3.length : Int) - 1)) then (
 (qaa 3 s13.1 s13.2.1).bind fun r13 =>
 some (decide (r13.1 = 0), r13.2.1, r13.2.2, s13.2.2.1, s13.2.2.2.1, s13.2.2.2.2.1, s13.2.2.2.2.2))
 else (
 some (false, s13.1, s13.2.1, s13.2.2.1, s13.2.2.2.1, s13.2.2.2.2.1, s13.2.2.2.2.2))) fun s14 =>
 Option.bind (α := List Int × Int × List (List UInt8) × (List yT0) × yB12 × List yB1) (
 bif s14.1 then (
 (qgs [115] (s14.2.2.2.2.2.2.length : Int)).bind fun r14 =>
 (qap [500000, 2000000, 0] s14.2.1 s14.2.2.1).bind fun r15 =>
 (qap [0, 200, 100000] r15.2.1 r15.2.2).bind fun r16 =>
 (qap [0, 100000, 400000] r16.2.1 r16.2.2).bind fun r17 =>
 gd (fits (s14.2.2.2.2.2.2.length + 1) 48) <|
 some (r17.2.1, r17.2.2, s14.2.2.2.1, s14.2.2.2.2.1, s14.2.2.2.2.2.1, s14.2.2.2.2.2.2 ++ [(r14, (i4, (r15.1, (r16.1, r17.1))))]))
 else (
 some (s14.2.1, s14.2.2.1, s14.2.2.2.1, s14.2.2.2.2.1, s14.2.2.2.2.2.1, s14.2.2.2.2.2.2))) fun s15 =>
 some (.inl (wi64 (i4 + 1), s15.1, s15.2.1, s15.2.2.1, s15.2.2.2.1, s15.2.2.2.2.1, s15.2.2.2.2.2)))
 else (
 some (.inr (s10, s11, n6, n7, n8, n9)))
def qd0 (s : List Int) (s2 : Int) : Option (yB0 × List Int × Int) :=
 (qap [(-100000), 0, 50000] s s2).bind fun r =>
 (qap [0, 1, 5, 100] r.2.1 r.2.2).bind fun r2 =>
 (qaZ 2 6 r2.2.1 r2.2.2).bind fun r3 =>
 (iter (fun x => qgv x.1 x.2) (r3.1, [])).bind fun s3 =>
 (iter (fun x2 => qgw s3 x2.1 x2.2.1 x2.2.2.1 x2.2.2.2.1 x2.2.2.2.2) (0, r3.2.1, r3.2.2, s3, [])).bind fun s6 =>
 (qaa 4 s6.1 s6.2.1).bind fun r6 =>
 (iter (fun x3 => qgx s3 x3.1 x3.2.1 x3.2.2.1 x3.2.2.2.1 x3.2.2.2.2) (r6.1, r6.2.1, r6.2.2, s6.2.2.1, s6.2.2.2)).bind fun s9 =>
 (iter (fun x4 => qgy s3 x4.1 x4.2.1 x4.2.2.1 x4.2.2.2.1 x4.2.2.2.2.1 x4.2.2.2.2.2.1 x4.2.2.2.2.2.2) (0, s9.1, s9.2.1, s9.2.2.1, s9.2.2.2, [], [])).bind fun s16 =>
 some ((s16.2.2.1, (s16.2.2.2.1, (s16.2.2.2.2.1, (s16.2.2.2.2.2, (r.1, r2.1))))), s16.1, s16.2.1)
def qgz : Fun :=
 ⟨17, 1, 1,
 ⟨[(0, pt 0 0)], v3_, []⟩,
 ⟨[(0, dd tT0)], v3_, []⟩,
 fun x => qd0 x.1 x.2⟩
theorem qlr : FO qgz := fi [] [qbB, qdk, qjJ, qgu, qbe] 139 [] ((nn (nn (mm (nn (mm (.mk [] (some (⟨[(0, pt 0 0), (2, pt 48 0), (3, pt 64 0), (4, ii)], v57_, [(1049, .arr 9 (.str))]⟩, [⟨.x 0, ⟨[(0, pt 0 0), (2, pt 48 0), (3, pt 64 0)], v57_, [(1049, .arr 9 (.str))]⟩⟩])) .nil .nil) .nil)) (nn (mm (nn (mm (.mk [] (some (⟨[(0, pt 0 0), (2, pt 48 0), (3, pt 64 0), (5, kk), (6, ii)], v12_, a47_⟩, [⟨.x 2, ⟨[(0, pt 0 0), (2, pt 48 0), (3, pt 64 0), (5, kk)], v12_, a47_⟩⟩])) .nil .nil) .nil)) (mm (nn (mm (.mk [] (some (⟨[(0, pt 0 0), (2, pt 48 0), (3, pt 64 0), (5, kk), (7, ii)], v12_, a47_⟩, [⟨.x 4, ⟨[(0, pt 0 0), (2, pt 48 0), (3, pt 64 0), (5, kk)], v12_, a47_⟩⟩])) .nil .nil) .nil)) (mm (nn (mm (.mk [] (some (⟨[(0, pt 0 0), (2, pt 48 0), (3, pt 64 0), (5, kk), (9, ii)], v9_, a5_⟩, [⟨.x 6, ⟨r34_, [(48, 50, (kp 6)), (64, 50, [.own 1049, .own 1065, .own 1081, .own 1097, .keep, .keep]), (0, 128, [.data (.sl I6), .data I6])], a5_⟩⟩])) (nn (mm (mm (mm (mm (.mk [.join [⟨.n, ⟨[(0, pt 0 0), (2, pt 48 0), (3, pt 64 0), (5, kk), (9, kk), (95, bb)], v9_, a5_⟩⟩]] none .nil .nil) (.mk [.join [⟨.n, ⟨r107_, v9_, a5_⟩⟩]] none .nil .nil)) (mm (.mk [.join [⟨.n, ⟨[(0, pt 0 0), (2, pt 48 0), (3, pt 64 0), (5, kk), (9, kk), (117, bb)], v9_, a5_⟩⟩]] none .nil .nil) (.mk [.join [⟨.n, ⟨r107_, v9_, a5_⟩⟩]] none .nil .nil))) .nil) .nil)) .nil) .nil)) .nil)))))))) func17 ⟨⟨qb6, qeT, qnD, qlq, qbm, trivial⟩, trivial⟩
def qbi (n : Int) (low : Int) (high : Int) : Option (Bool) :=
 bif decide (low ≤ n) then (
 some (decide (n ≤ high)))
 else (
 some false)
def qls : Fun :=
 ⟨110, 3, 1,
 ⟨[(0, ii), (1, ii), (2, ii)], [], []⟩,
 ⟨[(0, bb)], [], []⟩,
 fun x => qbi x.1 x.2.1 x.2.2⟩
theorem qpn : FO qls := fi [] [] 15 [] .nil func110 ⟨trivial, trivial⟩
def qpV (n : yB0) (v : Int) (out : List (List UInt8)) : Option ((Int × List (List UInt8)) ⊕ (List (List UInt8))) :=
 bif decide (v < (n.2.1.length : Int)) then (
 gd (inB v n.2.1.length) <|
 gd (fits (out.length + 1) 16) <|
 some (.inl (wi64 (v + 1), out ++ [(n.2.1.getD v.toNat ([], (0, (0, (0, (0, (0, []))))))).1])))
 else (
 some (.inr out))
def qpW (n : yB0) (v2 : Int) (out2 : List (List UInt8)) (out3 : List (List UInt8)) : Option ((Int × List (List UInt8) × List (List UInt8)) ⊕ (List (List UInt8) × List (List UInt8))) :=
 bif decide (v2 < (n.2.2.1.length : Int)) then (
 gd (inB v2 n.2.2.1.length) <|
 gd (fits (out3.length + 1) 16) <|
 some (.inl (wi64 (v2 + 1), out2, out3 ++ [(n.2.2.1.getD v2.toNat ([], (0, 0))).1])))
 else (
 some (.inr (out2, out3)))
def qpX (n : yB0) (v3 : Int) (out4 : List (List UInt8)) (out5 : List (List UInt8)) (out6 : List (List UInt8)) : Option ((Int × List (List UInt8) × List (List UInt8) × List (List UInt8)) ⊕ (List (List UInt8) × List (List UInt8) × List (List UInt8))) :=
 bif decide (v3 < (n.2.2.2.1.length : Int)) then (
 gd (inB v3 n.2.2.2.1.length) <|
 gd (fits (out6.length + 1) 16) <|
 some (.inl (wi64 (v3 + 1), out4, out5, out6 ++ [(n.2.2.2.1.getD v3.toNat ([], (0, (0, (0, 0))))).1])))
 else (
 some (.inr (out4, out5, out6)))
def qlt (n : yB0) : Option yB10 :=
 (iter (fun x => qpV n x.1 x.2) (0, [])).bind fun s =>
 (iter (fun x2 => qpW n x2.1 x2.2.1 x2.2.2) (0, s, [])).bind fun s2 =>
 (iter (fun x3 => qpX n x3.1 x3.2.1 x3.2.2.1 x3.2.2.2) (0, s2.1, s2.2, [])).bind fun s3 =>
 some (n.1, (s3.1, (s3.2.1, s3.2.2)))
def qkZ : Fun :=
 ⟨111, 1, 1,
 ⟨[(0, dd tT0)], [], []⟩,
 ⟨r72_, [], []⟩,
 fun x => qlt x⟩
theorem qpY : FO qkZ := fi [] [] 59 [] ((nn (nn (nn (mm (nn (mm (.mk [] (some (⟨r89_, v32_, a126_⟩, [⟨.x 0, ⟨r40_, v32_, a126_⟩⟩])) .nil .nil) .nil)) (mm (nn (mm (.mk [] (some (⟨r90_, v30_, a63_⟩, [⟨.x 2, ⟨r40_, v30_, a63_⟩⟩])) .nil .nil) .nil)) (mm (nn (mm (.mk [] (some (⟨r108_, v36_, a37_⟩, [⟨.x 4, ⟨r34_, v36_, a37_⟩⟩])) .nil .nil) .nil)) .nil))))))) func111 ⟨trivial, trivial⟩
def qbJ (s : List UInt8) (i : Int) : Option (Int ⊕ (Unit ⊕ Bool)) :=
 bif decide (i < (s.length : Int)) then (
 Option.bind (α := Bool) (
 gd (inB i s.length) <|
 bif decide ((Int.ofNat (s.getD i.toNat 0).toNat) < 97) then (
 gd (inB i s.length) <|
 bif decide ((Int.ofNat (s.getD i.toNat 0).toNat) < 48) then (
 gd (inB i s.length) <|
 some (!decide ((Int.ofNat (s.getD i.toNat 0).toNat) = 45)))
 else (
 gd (inB i s.length) <|
 bif decide (57 < (Int.ofNat (s.getD i.toNat 0).toNat)) then (
 gd (inB i s.length) <|
 some (!decide ((Int.ofNat (s.getD i.toNat 0).toNat) = 45)))
 else (
 some false)))
 else (
 gd (inB i s.length) <|
 bif decide (122 < (Int.ofNat (s.getD i.toNat 0).toNat)) then (
 gd (inB i s.length) <|
 bif decide ((Int.ofNat (s.getD i.toNat 0).toNat) < 48) then (
 gd (inB i s.length) <|
 some (!decide ((Int.ofNat (s.getD i.toNat 0).toNat) = 45)))
 else (
 gd (inB i s.length) <|
 bif decide (57 < (Int.ofNat (s.getD i.toNat 0).toNat)) then (
 gd (inB i s.length) <|
 some (!decide ((Int.ofNat (s.getD i.toNat 0).toNat) = 45)))
 else (
 some false)))
 else (
 some false))) fun s3 =>
 bif s3 then (
 some (.inr (.inr false)))
 else (
 some (.inl (wi64 (i + 1)))))
 else (
 some (.inr (.inl ())))
def qb7 (s : List UInt8) : Option (Bool) :=
 Option.bind (α := Bool) (
 bif decide ((s.length : Int) < 1) then (
 some true)
 else (
 bif decide (12 < (s.length : Int)) then (
 some true)
 else (
 gd (inB 0 s.length) <|
 bif decide ((Int.ofNat (s.getD 0 0).toNat) < 97) then (
 some true)
 else (
 gd (inB 0 s.length) <|
 some (decide (122 < (Int.ofNat (s.getD 0 0).toNat))))))) fun s2 =>
 bif s2 then (
 some false)
 else (
 (iter (fun x => qbJ s x) 0).bind fun s4 =>
 s4.elim (fun s5 =>
 some true)
 (fun s6 =>
 some s6))
def qfU : Fun :=
 ⟨112, 1, 1,
 ⟨[(0, ss)], [], []⟩,
 ⟨[(0, bb)], [], []⟩,
 fun x => qb7 x⟩
theorem qil : FO qfU := fi [] [] 56 [] ((nn (mm (mm (.mk [.join [⟨.n, ⟨[(0, kk), (21, bb)], [], []⟩⟩]] none .nil .nil) .nil) (mm (nn (mm (.mk [] (some (⟨[(0, kk), (3, ii)], [], []⟩, [⟨.x 0, ⟨[], [], []⟩⟩, ⟨.r, ⟨[(2, bb)], [], []⟩⟩])) (nn (mm (mm (mm (.mk [.join [⟨.n, ⟨[(0, kk), (3, kk), (55, bb)], [], []⟩⟩]] none .nil .nil) .nil) .nil) .nil)) .nil) .nil)) .nil)))) func112 ⟨trivial, trivial⟩
def qe5 (l : List (List UInt8)) (v : Int) (k : Int) : Option (Int ⊕ (Unit ⊕ Bool)) :=
 bif decide (k < v) then (
 gd (inB v l.length) <|
 gd (inB k l.length) <|
 bif decide (l.getD v.toNat [] = l.getD k.toNat []) then (
 some (.inr (.inr true)))
 else (
 some (.inl (wi64 (k + 1)))))
 else (
 some (.inr (.inl ())))
def qhm (l : List (List UInt8)) (v : Int) : Option (Int ⊕ (Unit ⊕ Bool)) :=
 bif decide (v < (l.length : Int)) then (
 (iter (fun x => qe5 l v x) 0).bind fun s =>
 s.elim (fun s2 =>
 some (.inl (wi64 (v + 1))))
 (fun s3 =>
 some (.inr (.inr s3))))
 else (
 some (.inr (.inl ())))
def qim (l : List (List UInt8)) : Option (Bool) :=
 (iter (fun x2 => qhm l x2) 0).bind fun s4 =>
 s4.elim (fun s5 =>
 some false)
 (fun s6 =>
 some s6)
def qk0 : Fun :=
 ⟨113, 1, 1,
 ⟨[(0, dd (.sl (.str)))], [], []⟩,
 ⟨[(0, bb)], [], []⟩,
 fun x => qim x⟩
theorem qpZ : FO qk0 := fi [] [] 25 [] ((nn (mm (nn (mm (.mk [] (some (⟨[(0, kk), (6, kk), (7, ii)], [], []⟩, [⟨.x 0, ⟨[], [], []⟩⟩, ⟨.r, ⟨[(2, bb)], [], []⟩⟩])) (nn (nn (mm (mm (nn (nn (mm (.mk [] (some (⟨[(0, kk), (3, kk), (4, ii), (6, kk), (7, kk)], [], []⟩, [⟨.x 2, ⟨[(0, kk), (6, kk), (7, kk)], [], []⟩⟩, ⟨.r, ⟨[(2, bb)], [], []⟩⟩])) .nil .nil) .nil))) .nil) .nil))) .nil) .nil)) .nil))) func113 ⟨trivial, trivial⟩
def qeG (s : yB9) (v : Int) : Option (Int ⊕ (Unit ⊕ Bool)) :=
 bif decide (v < (s.2.2.2.2.2.2.length : Int)) then (
 gd (inB v s.2.2.2.2.2.2.length) <|
 Option.bind (α := Bool) (
 bif decide (0 < v) then (
 gd (inB (wi64 (v - 1)) s.2.2.2.2.2.2.length) <|
 bif decide ((s.2.2.2.2.2.2.getD v.toNat (0, (0, 0))).1 ≤ (s.2.2.2.2.2.2.getD (wi64 (v - 1)).toNat (0, (0, 0))).1) then (
 some true)
 else (
 (qbi (((s.2.2.2.2.2.2.getD v.toNat (0, (0, 0))).2).1) (-500) 5000).bind fun r4 =>
 bif !r4 then (
 some true)
 else (
 (qbi (((s.2.2.2.2.2.2.getD v.toNat (0, (0, 0))).2).2) 0 100000000).bind fun r5 =>
 some (!r5))))
 else (
 (qbi (((s.2.2.2.2.2.2.getD v.toNat (0, (0, 0))).2).1) (-500) 5000).bind fun r6 =>
 bif !r6 then (
 some true)
 else (
 (qbi (((s.2.2.2.2.2.2.getD v.toNat (0, (0, 0))).2).2) 0 100000000).bind fun r7 =>
 some (!r7)))) fun s3 =>
 bif s3 then (
 some (.inr (.inr false)))
 else (
 some (.inl (wi64 (v + 1)))))
 else (
 some (.inr (.inl ())))
def qeg (s : yB9) : Option (Bool) :=
 Option.bind (α := Bool) (
 bif decide (s.2.1 = s.2.2.1) then (
 some true)
 else (
 (qbi s.2.2.2.1 1 1000000).bind fun r =>
 bif !r then (
 some true)
 else (
 (qbi s.2.2.2.2.1 0 1000).bind fun r2 =>
 bif !r2 then (
 some true)
 else (
 (qbi s.2.2.2.2.2.1 0 100000).bind fun r3 =>
 bif !r3 then (
 some true)
 else (
 gd (inB 0 s.2.2.2.2.2.2.length) <|
 bif !decide ((s.2.2.2.2.2.2.getD 0 (0, (0, 0))).1 = 0) then (
 some true)
 else (
 gd (inB (wi64 ((s.2.2.2.2.2.2.length : Int) - 1)) s.2.2.2.2.2.2.length) <|
 some (!decide ((s.2.2.2.2.2.2.getD (wi64 ((s.2.2.2.2.2.2.length : Int) - 1)).toNat (0, (0, 0))).1 = s.2.2.2.1)))))))) fun s2 =>
 bif s2 then (
 some false)
 else (
 (iter (fun x => qeG s x) 0).bind fun s4 =>
 s4.elim (fun s5 =>
 some true)
 (fun s6 =>
 some s6))
def qjK : Fun :=
 ⟨114, 1, 1,
 ⟨r92_, [], []⟩,
 ⟨[(0, bb)], [], []⟩,
 fun x => qeg x⟩
theorem qpo : FO qjK := fi [] [qls] 85 [] ((nn (mm (mm (.mk [.join [⟨.n, ⟨[(1, pt 32 0), (49, bb)], v96_, []⟩⟩]] none .nil .nil) .nil) (mm (nn (mm (.mk [] (some (⟨[(1, pt 32 0), (51, kk), (52, kk), (53, ii)], v96_, []⟩, [⟨.x 0, ⟨[], [], []⟩⟩, ⟨.r, ⟨[(2, bb)], [], []⟩⟩])) (nn (nn (mm (mm (nn (mm (.mk [.join [⟨.n, ⟨[(1, pt 32 0), (51, kk), (52, kk), (53, kk), (83, bb)], v96_, []⟩⟩]] none .nil .nil) .nil)) .nil) .nil))) .nil) .nil)) .nil)))) func114 ⟨⟨qpn, trivial⟩, trivial⟩
def qdD (n : yB0) (v : Int) : Option (Int ⊕ (Unit ⊕ Int)) :=
 bif decide (v < (n.2.1.length : Int)) then (
 gd (inB v n.2.1.length) <|
 (qbi ((((((((n.2.1.getD v.toNat ([], (0, (0, (0, (0, (0, []))))))).2).2).2).2).2).2).length : Int) 2 8).bind fun r2 =>
 bif !r2 then (
 some (.inr (.inr 4)))
 else (
 some (.inl (wi64 (v + 1)))))
 else (
 some (.inr (.inl ())))
def qcS (v2 : List (List UInt8)) (v3 : List (List UInt8)) (v4 : List (List UInt8)) (v5 : List (List UInt8)) (v6 : Int) (v7 : List (List UInt8)) (v8 : List (List UInt8)) (v9 : List (List UInt8)) (v10 : List (List UInt8)) (v11 : Int) : Option ((List (List UInt8) × List (List UInt8) × List (List UInt8) × List (List UInt8) × Int) ⊕ (yB10 ⊕ Int)) :=
 bif decide (v11 < (([v2, v3, v4, v5].getD v6.toNat []).length : Int)) then (
 gd (inB v11 ([v2, v3, v4, v5].getD v6.toNat []).length) <|
 (qb7 (([v2, v3, v4, v5].getD v6.toNat []).getD v11.toNat [])).bind fun r4 =>
 bif !r4 then (
 some (.inr (.inr 3)))
 else (
 some (.inl (v7, v8, v9, v10, wi64 (v11 + 1)))))
 else (
 some (.inr (.inl (v7, v8, v9, v10))))
def qe6 (v2 : List (List UInt8)) (v3 : List (List UInt8)) (v4 : List (List UInt8)) (v5 : List (List UInt8)) (v6 : Int) : Option ((List (List UInt8) × List (List UInt8) × List (List UInt8) × List (List UInt8) × Int) ⊕ (Unit ⊕ Int)) :=
 bif decide (v6 < 4) then (
 gd (inB v6 4) <|
 (iter (fun x2 => qcS v2 v3 v4 v5 v6 x2.1 x2.2.1 x2.2.2.1 x2.2.2.2.1 x2.2.2.2.2) (v2, v3, v4, v5, 0)).bind fun s5 =>
 s5.elim (fun s6 =>
 some (.inl (s6.1, s6.2.1, s6.2.2.1, s6.2.2.2, wi64 (v6 + 1))))
 (fun s7 =>
 some (.inr (.inr s7))))
 else (
 some (.inr (.inl ())))
def qe7 (v12 : List (List UInt8)) (v13 : List (List UInt8)) (v14 : List (List UInt8)) (v15 : List (List UInt8)) (v16 : Int) : Option ((List (List UInt8) × List (List UInt8) × List (List UInt8) × List (List UInt8) × Int) ⊕ (Unit ⊕ Int)) :=
 bif decide (v16 < 4) then (
 gd (inB v16 4) <|
 (qim ([v12, v13, v14, v15].getD v16.toNat [])).bind fun r5 =>
 bif r5 then (
 some (.inr (.inr 7)))
 else (
 some (.inl (v12, v13, v14, v15, wi64 (v16 + 1)))))
 else (
 some (.inr (.inl ())))
def qe8 (n : yB0) (v17 : Int) (k : Int) : Option (Int ⊕ (Unit ⊕ Int)) :=
 bif decide (k < v17) then (
 gd (inB v17 n.2.2.2.1.length) <|
 gd (inB k n.2.2.2.1.length) <|
 bif decide (((n.2.2.2.1.getD v17.toNat ([], (0, (0, (0, 0))))).2).1 = ((n.2.2.2.1.getD k.toNat ([], (0, (0, (0, 0))))).2).1) then (
 some (.inr (.inr 7)))
 else (
 some (.inl (wi64 (k + 1)))))
 else (
 some (.inr (.inl ())))
def qe9 (n : yB0) (v17 : Int) : Option (Int ⊕ (Unit ⊕ Int)) :=
 bif decide (v17 < (n.2.2.2.1.length : Int)) then (
 (iter (fun x5 => qe8 n v17 x5) 0).bind fun s14 =>
 s14.elim (fun s15 =>
 some (.inl (wi64 (v17 + 1))))
 (fun s16 =>
 some (.inr (.inr s16))))
 else (
 some (.inr (.inl ())))
def qdE (n : yB0) (v18 : Int) : Option (Int ⊕ (Unit ⊕ Int)) :=
 bif decide (v18 < (n.2.1.length : Int)) then (
 gd (inB v18 n.2.1.length) <|
 Option.bind (α := Bool) (
 (qbi (((n.2.1.getD v18.toNat ([], (0, (0, (0, (0, (0, []))))))).2).1) 0 (wi64 ((n.1.length : Int) - 1))).bind fun r6 =>
 bif !r6 then (
 some true)
 else (
 (qbi ((((n.2.1.getD v18.toNat ([], (0, (0, (0, (0, (0, []))))))).2).2).1) 0 (wi64 ((n.1.length : Int) - 1))).bind fun r7 =>
 some (!r7))) fun s20 =>
 bif s20 then (
 some (.inr (.inr 8)))
 else (
 some (.inl (wi64 (v18 + 1)))))
 else (
 some (.inr (.inl ())))
def qdF (n : yB0) (v19 : Int) : Option (Int ⊕ (Unit ⊕ Int)) :=
 bif decide (v19 < (n.2.2.1.length : Int)) then (
 gd (inB v19 n.2.2.1.length) <|
 (qbi (((n.2.2.1.getD v19.toNat ([], (0, 0))).2).1) 0 (wi64 ((n.1.length : Int) - 1))).bind fun r8 =>
 bif !r8 then (
 some (.inr (.inr 8)))
 else (
 some (.inl (wi64 (v19 + 1)))))
 else (
 some (.inr (.inl ())))
def qdG (n : yB0) (v20 : Int) : Option (Int ⊕ (Unit ⊕ Int)) :=
 bif decide (v20 < (n.2.2.2.1.length : Int)) then (
 gd (inB v20 n.2.2.2.1.length) <|
 (qbi (((n.2.2.2.1.getD v20.toNat ([], (0, (0, (0, 0))))).2).1) 0 (wi64 ((n.1.length : Int) - 1))).bind fun r9 =>
 bif !r9 then (
 some (.inr (.inr 8)))
 else (
 some (.inl (wi64 (v20 + 1)))))
 else (
 some (.inr (.inl ())))
def qdH (n : yB0) (v21 : Int) : Option (Int ⊕ (Unit ⊕ Int)) :=
 bif decide (v21 < (n.2.1.length : Int)) then (
 gd (inB v21 n.2.1.length) <|
 (qeg ((n.2.1.getD v21.toNat ([], (0, (0, (0, (0, (0, []))))))).1, (((n.2.1.getD v21.toNat ([], (0, (0, (0, (0, (0, []))))))).2).1, ((((n.2.1.getD v21.toNat ([], (0, (0, (0, (0, (0, []))))))).2).2).1, (((((n.2.1.getD v21.toNat ([], (0, (0, (0, (0, (0, []))))))).2).2).2).1, ((((((n.2.1.getD v21.toNat ([], (0, (0, (0, (0, (0, []))))))).2).2).2).2).1, (((((((n.2.1.getD v21.toNat ([], (0, (0, (0, (0, (0, []))))))).2).2).2).2).2).1, ((((((n.2.1.getD v21.toNat ([], (0, (0, (0, (0, (0, []))))))).2).2).2).2).2).2))))))).bind fun r10 =>
 bif !r10 then (
 some (.inr (.inr 9)))
 else (
 some (.inl (wi64 (v21 + 1)))))
 else (
 some (.inr (.inl ())))
def qda (n : yB0) (v22 : Int) : Option (Int ⊕ (Unit ⊕ Int)) :=
 bif decide (v22 < (n.2.2.1.length : Int)) then (
 gd (inB v22 n.2.2.1.length) <|
 (qbi (((n.2.2.1.getD v22.toNat ([], (0, 0))).2).2) 0 100000000).bind fun r11 =>
 bif !r11 then (
 some (.inr (.inr 9)))
 else (
 some (.inl (wi64 (v22 + 1)))))
 else (
 some (.inr (.inl ())))
def qdb (n : yB0) (v23 : Int) : Option (Int ⊕ (Unit ⊕ Int)) :=
 bif decide (v23 < (n.2.2.2.1.length : Int)) then (
 gd (inB v23 n.2.2.2.1.length) <|
 Option.bind (α := Bool) (
 (qbi ((((n.2.2.2.1.getD v23.toNat ([], (0, (0, (0, 0))))).2).2).1) 0 100000000).bind fun r12 =>
 bif !r12 then (
 some true)
 else (
 (qbi (((((n.2.2.2.1.getD v23.toNat ([], (0, (0, (0, 0))))).2).2).2).1) 0 100000).bind fun r13 =>
 bif !r13 then (
 some true)
 else (
 (qbi (((((n.2.2.2.1.getD v23.toNat ([], (0, (0, (0, 0))))).2).2).2).2) 0 100000000).bind fun r14 =>
 some (!r14)))) fun s36 =>
 bif s36 then (
 some (.inr (.inr 9)))
 else (
 some (.inl (wi64 (v23 + 1)))))
 else (
 some (.inr (.inl ())))
def qd9 (n : yB0) : Option (Int) :=
 Option.bind (α := Bool) (
 (qbi (n.1.length : Int) 1 24).bind fun r =>
 bif !r then (
 some true)
 else (
 bif decide (32 < (n.2.1.length : Int)) then (
 some true)
 else (
 bif decide (24 < (n.2.2.1.length : Int)) then (
 some true)
 else (
 some (decide (12 < (n.2.2.2.1.length : Int))))))) fun s =>
 bif s then (
 some 4)
 else (
 (iter (fun x => qdD n x) 0).bind fun s2 =>
 s2.elim (fun s3 =>
 (qlt (n.1, (n.2.1, (n.2.2.1, (n.2.2.2.1, (n.2.2.2.2.1, n.2.2.2.2.2)))))).bind fun r3 =>
 (iter (fun x3 => qe6 x3.1 x3.2.1 x3.2.2.1 x3.2.2.2.1 x3.2.2.2.2) (r3.1, r3.2.1, r3.2.2.1, r3.2.2.2, 0)).bind fun s8 =>
 s8.elim (fun s9 =>
 (iter (fun x4 => qe7 x4.1 x4.2.1 x4.2.2.1 x4.2.2.2.1 x4.2.2.2.2) (r3.1, r3.2.1, r3.2.2.1, r3.2.2.2, 0)).bind fun s11 =>
 s11.elim (fun s12 =>
 (iter (fun x6 => qe9 n x6) 0).bind fun s17 =>
 s17.elim (fun s18 =>
 (iter (fun x7 => qdE n x7) 0).bind fun s21 =>
 s21.elim (fun s22 =>
 (iter (fun x8 => qdF n x8) 0).bind fun s24 =>
 s24.elim (fun s25 =>
 (iter (fun x9 => qdG n x9) 0).bind fun s27 =>
 s27.elim (fun s28 =>
 (iter (fun x10 => qdH n x10) 0).bind fun s30 =>
 s30.elim (fun s31 =>
 (iter (fun x11 => qda n x11) 0).bind fun s33 =>
 s33.elim (fun s34 =>
 (iter (fun x12 => qdb n x12) 0).bind fun s37 =>
 s37.elim (fun s38 =>
 Option.bind (α := Bool) (
 (qbi n.2.2.2.2.1 (-100000) 100000000).bind fun r15 =>
 bif !r15 then (
 some true)
 else (
 (qbi n.2.2.2.2.2 0 100).bind fun r16 =>
 some (!r16))) fun s40 =>
 bif s40 then (
 some 9)
 else (
 some 0))
 (fun s39 =>
 some s39))
 (fun s35 =>
 some s35))
 (fun s32 =>
 some s32))
 (fun s29 =>
 some s29))
 (fun s26 =>
 some s26))
 (fun s23 =>
 some s23))
 (fun s19 =>
 some s19))
 (fun s13 =>
 some s13))
 (fun s10 =>
 some s10))
 (fun s4 =>
 some s4))
def qdI : Fun :=
 ⟨68, 1, 1,
 ⟨[(0, dd tT0)], [], []⟩,
 ⟨[(0, ii)], [], []⟩,
 fun x => qd9 x⟩
theorem qfa : FO qdI := fi [] [qls, qkZ, qfU, qk0, qjK] 219 [] ((nn (mm (mm (.mk [.join [⟨.n, ⟨[(1, pt 32 0), (49, bb)], v7_, []⟩⟩]] none .nil .nil) .nil) (mm (nn (mm (.mk [] (some (⟨[(1, pt 32 0), (51, kk), (52, kk), (53, ii)], v7_, []⟩, [⟨.x 0, ⟨[(1, pt 32 0)], v7_, []⟩⟩, ⟨.r, ⟨[(2, ii)], [], []⟩⟩])) .nil .nil) .nil)) (nn (mm (nn (mm (.mk [] (some (⟨[(1, pt 32 0), (5, pt 96 0), (65, .agg [.data (.sl (.str)), .data (.sl (.str)), .data (.sl (.str)), .data (.sl (.str))]), (66, ii)], v87_, []⟩, [⟨.x 2, ⟨[(1, pt 32 0), (5, pt 96 0)], v87_, []⟩⟩, ⟨.r, ⟨[(2, ii)], [], []⟩⟩])) (nn (nn (mm (mm (nn (nn (mm (.mk [] (some (⟨[(1, pt 32 0), (5, pt 96 0), (65, .agg [.data (.sl (.str)), .data (.sl (.str)), .data (.sl (.str)), .data (.sl (.str))]), (66, kk), (69, kk), (70, kk), (71, ii)], v87_, []⟩, [⟨.x 4, ⟨[(1, pt 32 0), (5, pt 96 0), (65, .agg [.data (.sl (.str)), .data (.sl (.str)), .data (.sl (.str)), .data (.sl (.str))]), (66, kk)], v87_, []⟩⟩, ⟨.r, ⟨[(2, ii)], [], []⟩⟩])) .nil .nil) .nil))) .nil) .nil))) .nil) .nil)) (mm (nn (mm (.mk [] (some (⟨[(1, pt 32 0), (80, .agg [.data (.sl (.str)), .data (.sl (.str)), .data (.sl (.str)), .data (.sl (.str))]), (81, ii)], v7_, []⟩, [⟨.x 6, ⟨[(1, pt 32 0)], v7_, []⟩⟩, ⟨.r, ⟨[(2, ii)], [], []⟩⟩])) .nil .nil) .nil)) (mm (nn (mm (.mk [] (some (⟨[(1, pt 32 0), (89, kk), (90, ii)], v7_, []⟩, [⟨.x 8, ⟨[(1, pt 32 0)], v7_, []⟩⟩, ⟨.r, ⟨[(2, ii)], [], []⟩⟩])) (nn (nn (mm (mm (nn (nn (mm (.mk [] (some (⟨[(1, pt 32 0), (12, kk), (13, ii), (89, kk), (90, kk)], v7_, []⟩, [⟨.x 10, ⟨[(1, pt 32 0), (89, kk), (90, kk)], v7_, []⟩⟩, ⟨.r, ⟨[(2, ii)], [], []⟩⟩])) .nil .nil) .nil))) .nil) .nil))) .nil) .nil)) (nn (mm (nn (mm (.mk [] (some (⟨[(1, pt 32 0), (14, kk), (117, kk), (118, kk), (119, ii)], v7_, []⟩, [⟨.x 12, ⟨[(1, pt 32 0), (14, kk)], v7_, []⟩⟩, ⟨.r, ⟨[(2, ii)], [], []⟩⟩])) (nn (nn (mm (mm (nn (mm (.mk [.join [⟨.n, ⟨[(1, pt 32 0), (14, kk), (117, kk), (118, kk), (119, kk), (134, bb)], v7_, []⟩⟩]] none .nil .nil) .nil)) .nil) .nil))) .nil) .nil)) (mm (nn (mm (.mk [] (some (⟨[(1, pt 32 0), (14, kk), (137, kk), (138, kk), (139, ii)], v7_, []⟩, [⟨.x 14, ⟨[(1, pt 32 0), (14, kk)], v7_, []⟩⟩, ⟨.r, ⟨[(2, ii)], [], []⟩⟩])) .nil .nil) .nil)) (mm (nn (mm (.mk [] (some (⟨[(1, pt 32 0), (14, kk), (150, kk), (151, kk), (152, ii)], v7_, []⟩, [⟨.x 16, ⟨[(1, pt 32 0)], v7_, []⟩⟩, ⟨.r, ⟨[(2, ii)], [], []⟩⟩])) .nil .nil) .nil)) (mm (nn (mm (.mk [] (some (⟨[(1, pt 32 0), (163, kk), (164, kk), (165, ii)], v7_, []⟩, [⟨.x 18, ⟨[(1, pt 32 0)], v7_, []⟩⟩, ⟨.r, ⟨[(2, ii)], [], []⟩⟩])) .nil .nil) .nil)) (mm (nn (mm (.mk [] (some (⟨[(1, pt 32 0), (174, kk), (175, kk), (176, ii)], v7_, []⟩, [⟨.x 20, ⟨[(1, pt 32 0)], v7_, []⟩⟩, ⟨.r, ⟨[(2, ii)], [], []⟩⟩])) .nil .nil) .nil)) (mm (nn (mm (.mk [] (some (⟨[(1, pt 32 0), (186, kk), (187, kk), (188, ii)], v7_, []⟩, [⟨.x 22, ⟨[(1, pt 32 0)], v7_, []⟩⟩, ⟨.r, ⟨[(2, ii)], [], []⟩⟩])) (nn (nn (mm (mm (nn (mm (.mk [.join [⟨.n, ⟨[(1, pt 32 0), (186, kk), (187, kk), (188, kk), (207, bb)], v7_, []⟩⟩]] none .nil .nil) .nil)) .nil) .nil))) .nil) .nil)) (mm (mm (.mk [.join [⟨.n, ⟨[(218, bb)], [], []⟩⟩]] none .nil .nil) .nil) .nil)))))))))))))))) func68 ⟨⟨qpn, qpY, qil, qpZ, qpo, trivial⟩, trivial⟩
def qdl (n : yB0) : Option (Int) :=
 some (wi64 ((n.2.1.length : Int) + (n.2.2.1.length : Int)))
def qfD : Fun :=
 ⟨75, 1, 1,
 ⟨[(0, dd tT0)], [], []⟩,
 ⟨[(0, ii)], [], []⟩,
 fun x => qdl x⟩
theorem qi0 : FO qfD := fi [] [] 10 [] .nil func75 ⟨trivial, trivial⟩
def qfV (n : yB0) (travel : Int) (i : Int) (d : yB2) (d2 : List Int) (d3 : List Int) (d4 : List Bool) : Option (yB8 ⊕ (yB2 × List Int × List Int × List Bool)) :=
 (qdl (n.1, (n.2.1, (n.2.2.1, (n.2.2.2.1, (n.2.2.2.2.1, n.2.2.2.2.2)))))).bind fun r2 =>
 bif decide (i < r2) then (
 gd (fits (d.length + 1) 24) <|
 some (.inl (wi64 (i + 1), d ++ [(travel, (0, (false, false)))], d2, d3, d4)))
 else (
 some (.inr (d, d2, d3, d4)))
def qkq (n : yB0) (travel : Int) : Option (yB3 × Int) :=
 (qd9 (n.1, (n.2.1, (n.2.2.1, (n.2.2.2.1, (n.2.2.2.2.1, n.2.2.2.2.2)))))).bind fun r =>
 bif !decide (r = 0) then (
 some (([], ([], ([], []))), r))
 else (
 Option.bind (α := Bool) (
 bif decide (travel < 1) then (
 some true)
 else (
 some (decide (60 < travel)))) fun s =>
 bif s then (
 some (([], ([], ([], []))), 20))
 else (
 gd (makeG 8 (n.2.1.length : Int)) <|
 gd (makeG 8 (n.2.2.1.length : Int)) <|
 gd (makeG 1 (n.2.2.2.1.length : Int)) <|
 (iter (fun x => qfV n travel x.1 x.2.1 x.2.2.1 x.2.2.2.1 x.2.2.2.2) (0, [], List.replicate (n.2.1.length : Int).toNat (0 : Int), List.replicate (n.2.2.1.length : Int).toNat (0 : Int), List.replicate (n.2.2.2.1.length : Int).toNat (false : Bool))).bind fun s2 =>
 some ((s2.1, (s2.2.1, (s2.2.2.1, s2.2.2.2))), 0)))
def qmA : Fun :=
 ⟨31, 2, 2,
 ⟨[(0, dd tT0), (1, ii)], [], []⟩,
 ⟨r46_, [], []⟩,
 fun x => qkq x.1 x.2⟩
theorem qq9 : FO qmA := fi [] [qdI, qfD] 50 [] ((nn (nn (mm (mm (.mk [.join [⟨.n, ⟨[(1, kk), (2, pt 48 0), (4, pt 80 0), (20, bb)], [(48, 50, (kp 6)), (80, 57, (kp 4))], []⟩⟩]] none .nil .nil) .nil) (nn (mm (nn (mm (.mk [] (some (⟨[(1, kk), (2, pt 48 0), (4, pt 80 0), (7, pt 128 0), (8, ii)], [(48, 50, (kp 6)), (80, 57, (kp 4)), (128, 57, [.own 2073, .own 416, .own 480, .own 544])], a80_⟩, [⟨.x 0, ⟨[(4, pt 80 0), (7, pt 128 0)], [(80, 57, (kp 4)), (128, 57, [.own 2073, .own 416, .own 480, .own 544])], a80_⟩⟩])) .nil .nil) .nil)) .nil)))))) func31 ⟨⟨qfa, qi0, trivial⟩, trivial⟩
def qin (s : List Int) (s2 : Int) : Option (Bool × List Int × Int) :=
 some (decide (s2 < (s.length : Int)), s, s2)
def qi1 : Fun :=
 ⟨19, 1, 1,
 ⟨[(0, pt 0 0)], v3_, []⟩,
 ⟨[(0, bb)], v3_, []⟩,
 fun x => qin x.1 x.2⟩
theorem qn3 : FO qi1 := fi [] [] 13 [] .nil func19 ⟨trivial, trivial⟩
def qds (i : Int) (s3 : List Int) (s4 : Int) (t : List Int) : Option ((Int × List Int × Int × List Int) ⊕ (List Int × Int × List Int)) :=
 bif decide (0 < i) then (
 (qap [0, (-1), 62, 63, (-63), (-62), 9007199254740992, (-9007199254740992), 126, 1000] s3 s4).bind fun r6 =>
 gd (fits (t.length + 1) 8) <|
 some (.inl (wi64 (i - 1), r6.2.1, r6.2.2, t ++ [r6.1])))
 else (
 some (.inr (s3, s4, t)))
def qdm (station : Int) (s : List Int) (s2 : Int) : Option (yB4 × List Int × Int) :=
 (qaa 3 s s2).bind fun r =>
 (qaa 6 r.2.1 r.2.2).bind fun r2 =>
 (qap [0, 125, 63, 62, 1099511627776] r2.2.1 r2.2.2).bind fun r3 =>
 (qaa 64 r3.2.1 r3.2.2).bind fun r4 =>
 (qaa 4 r4.2.1 r4.2.2).bind fun r5 =>
 (iter (fun x => qds x.1 x.2.1 x.2.2.1 x.2.2.2) (r5.1, r5.2.1, r5.2.2, [])).bind fun s5 =>
 some ((station, (r.1, (r2.1, (r3.1, (r4.1, s5.2.2))))), s5.1, s5.2.1)
def qfG : Fun :=
 ⟨41, 2, 1,
 ⟨r127_, v3_, []⟩,
 ⟨[(0, dd tT3)], v3_, []⟩,
 fun x => qdm x.1 x.2.1 x.2.2⟩
theorem qkC : FO qfG := fi [] [qbe, qbB] 33 [] ((nn (nn (mm (nn (mm (.mk [] (some (⟨[(0, pt 0 0), (4, pt 80 0), (5, pt 96 0), (6, ii)], [(0, 128, [.data (.sl I6), .data I6]), (80, 97, (kp 6)), (96, 97, [.keep, .keep, .keep, .keep, .keep, .own 1641])], [(1641, .arr 3 I6)]⟩, [⟨.x 0, ⟨[(4, pt 80 0), (5, pt 96 0)], [(80, 97, (kp 6)), (96, 97, [.keep, .keep, .keep, .keep, .keep, .own 1641]), (0, 128, [.data (.sl I6), .data I6])], [(1641, .arr 3 I6)]⟩⟩])) .nil .nil) .nil)) .nil)))) func41 ⟨⟨qbm, qb6, trivial⟩, trivial⟩
def qfW (l : List (List UInt8)) (s : List Int) (s2 : Int) : Option (List UInt8 × List Int × Int) :=
 (qaa (l.length : Int) s s2).bind fun r =>
 gd (inB r.1 l.length) <|
 some (l.getD r.1.toNat [], r.2.1, r.2.2)
def qi2 : Fun :=
 ⟨84, 2, 1,
 ⟨[(0, pt 0 0), (1, dd (.sl (.str)))], v3_, []⟩,
 ⟨[(0, ss)], v3_, []⟩,
 fun x => qfW x.1 x.2.1 x.2.2⟩
theorem qn4 : FO qi2 := fi [] [qbe] 12 [] .nil func84 ⟨⟨qbm, trivial⟩, trivial⟩
def qeU (i : Int) (s3 : List Int) (s4 : Int) (l : yB12) : Option ((Int × List Int × Int × List (List UInt8 × Int × Int)) ⊕ (List Int × Int × List (List UInt8 × Int × Int))) :=
 bif decide (0 < i) then (
 (qfW ([[97], [98, 111], [99, 51], [100, 101, 108, 116, 97], [101]] : List (List UInt8)) s3 s4).bind fun r2 =>
 (qaa 4 r2.2.1 r2.2.2).bind fun r3 =>
 (qaa 1000 r3.2.1 r3.2.2).bind fun r4 =>
 (qap [0, 1, 50, r4.1, 1073741824] r4.2.1 r4.2.2).bind fun r5 =>
 Option.bind (α := Bool × List Int × Int × List (List UInt8 × Int × Int)) (
 bif decide (wi64 (1 + r3.1) = 4) then (
 (qaa 2 r5.2.1 r5.2.2).bind fun r6 =>
 some (decide (r6.1 = 0), r6.2.1, r6.2.2, l))
 else (
 some (false, r5.2.1, r5.2.2, l))) fun s5 =>
 Option.bind (α := Int × List (List UInt8 × Int × Int)) (
 bif s5.1 then (
 some (wi64 (0 - r5.1), s5.2.2.2))
 else (
 some (r5.1, s5.2.2.2))) fun s6 =>
 gd (fits (s6.2.length + 1) 32) <|
 some (.inl (wi64 (i - 1), s5.2.1, s5.2.2.1, s6.2 ++ [(r2.1, (wi64 (1 + r3.1), s6.1))])))
 else (
 some (.inr (s3, s4, l)))
def qfb (most : Int) (s : List Int) (s2 : Int) : Option (List Int × Int × List (List UInt8 × Int × Int)) :=
 (qaa (wi64 (most + 1)) s s2).bind fun r =>
 (iter (fun x => qeU x.1 x.2.1 x.2.2.1 x.2.2.2) (r.1, r.2.1, r.2.2, [])).bind fun s7 =>
 some (s7.1, s7.2.1, s7.2.2)
def qhN : Fun :=
 ⟨58, 2, 1,
 ⟨r127_, v3_, []⟩,
 ⟨[(0, ow 1)], v3_, [(1, .arr 30 (.pair (.str) (.pair I6 I6)))]⟩,
 fun x => qfb x.1 x.2.1 x.2.2⟩
theorem qnj : FO qhN := fi [] [qbe, qi2, qbB] 45 [] ((nn (nn (mm (nn (mm (.mk [] (some (⟨[(0, pt 0 0), (5, ow 107), (6, ii)], v3_, a68_⟩, [⟨.x 0, ⟨[(5, ow 107)], v3_, a68_⟩⟩])) (nn (mm (mm (nn (mm (mm (.mk [.join [⟨.n, ⟨[(0, pt 0 0), (5, ow 107), (6, kk), (7, pt 128 0), (35, bb)], [(0, 128, [.data (.sl I6), .data I6]), (128, 30, [.keep, .keep, .keep])], a68_⟩⟩]] none .nil .nil) (.mk [.join [⟨.n, ⟨[(0, pt 0 0), (5, ow 107), (6, kk), (7, pt 128 0)], [(0, 128, [.keep, .keep]), (128, 30, [.keep, .keep, .data I6])], a68_⟩⟩]] none .nil .nil)) .nil)) .nil) .nil)) .nil) .nil)) .nil)))) func58 ⟨⟨qbm, qn4, qb6, trivial⟩, trivial⟩
def qra (n : Int) : Option (Int) :=
 some (max n (wi64 (0 - n)))
def qpp : Fun :=
 ⟨153, 1, 1,
 ⟨[(0, ii)], [], []⟩,
 ⟨[(0, ii)], [], []⟩,
 fun x => qra x⟩
theorem qte : FO qpp := fi [] [] 7 [] .nil func153 ⟨trivial, trivial⟩
def qjL (p : yB6) (v : Int) (out : List Int) (out2 : List Bool) : Option ((Int × List Int × List Bool) ⊕ (List Int × List Bool)) :=
 bif decide (v < (p.1.length : Int)) then (
 gd (inB v p.1.length) <|
 gd (fits (out.length + 1) 8) <|
 some (.inl (wi64 (v + 1), out ++ [wi64 (0 - (p.1.getD v.toNat 0))], out2)))
 else (
 some (.inr (out, out2)))
def qjM (p : yB6) (v2 : Int) (out3 : List Int) (out4 : List Int) (out5 : List Bool) : Option ((Int × List Int × List Int × List Bool) ⊕ yB6) :=
 bif decide (v2 < (p.2.1.length : Int)) then (
 gd (inB v2 p.2.1.length) <|
 gd (fits (out4.length + 1) 8) <|
 some (.inl (wi64 (v2 + 1), out3, out4 ++ [wi64 (0 - (p.2.1.getD v2.toNat 0))], out5)))
 else (
 some (.inr (out3, out4, out5)))
def qg7 (p : yB6) : Option yB6 :=
 gd (fits (0 + p.2.2.length) 1) <|
 (iter (fun x => qjL p x.1 x.2.1 x.2.2) (0, [], ([] ++ p.2.2))).bind fun s =>
 (iter (fun x2 => qjM p x2.1 x2.2.1 x2.2.2.1 x2.2.2.2) (0, s.1, [], s.2)).bind fun s2 =>
 some (s2.1, (s2.2.1, s2.2.2))
def qjN : Fun :=
 ⟨154, 1, 1,
 ⟨[(0, dd tT6)], [], []⟩,
 ⟨[(0, dd tT6)], [], []⟩,
 fun x => qg7 x⟩
theorem qpq : FO qjN := fi [6] [] 48 [] ((nn (nn (mm (nn (mm (.mk [] (some (⟨[(1, pt 32 0), (2, pt 48 0), (3, pt 64 0), (13, kk), (14, ii)], v55_, [(1049, .arr 3 I6), (160, .arr 4 (.bool))]⟩, [⟨.x 0, ⟨r40_, v55_, [(1049, .arr 3 I6), (160, .arr 4 (.bool))]⟩⟩])) .nil .nil) .nil)) (mm (nn (mm (.mk [] (some (⟨[(1, pt 32 0), (2, pt 48 0), (3, pt 64 0), (31, kk), (32, ii)], [(32, 55, [.keep, .keep, .keep]), (48, 55, [.keep, .keep, .keep]), (64, 55, [.own 1049, .own 1065, .own 160])], a106_⟩, [⟨.x 2, ⟨r34_, [(48, 55, [.keep, .keep, .keep]), (64, 55, [.own 1049, .own 1065, .own 160])], a106_⟩⟩])) .nil .nil) .nil)) .nil))))) func154 ⟨trivial, trivial⟩
def qi3 (n : yB0) (i : Int) (s3 : List Int) (s4 : Int) (p : List Int) (p2 : List Int) (p3 : List Bool) : Option ((Int × List Int × Int × List Int × List Int × List Bool) ⊕ (List Int × Int × List Int × List Int × List Bool)) :=
 bif decide (i < (n.2.2.2.1.length : Int)) then (
 (qaa 2 s3 s4).bind fun r =>
 gd (fits (p3.length + 1) 1) <|
 some (.inl (wi64 (i + 1), r.2.1, r.2.2, p, p2, p3 ++ [decide (r.1 = 0)])))
 else (
 some (.inr (s3, s4, p, p2, p3)))
def qd1 (n : yB0) (r4 : Int × List Int × Int) (r6 : Int × List Int × Int) (vat : Int) (vend2 : Int) (v : Int) (s11 : List Int) (s12 : Int) (way2 : List Int) (p10 : List Int) (p11 : List Int) (p12 : List Bool) : Option ((Int × Int × List Int × Int × List Int × List Int × List Int × List Bool) ⊕ (Int × List Int × Int × List Int × List Int × List Int × List Bool)) :=
 bif decide (v < (n.2.2.1.length : Int)) then (
 gd (inB v n.2.2.1.length) <|
 Option.bind (α := Bool × List Int × Int × List Int × List Int × List Int × List Bool) (
 bif decide (((n.2.2.1.getD v.toNat ([], (0, 0))).2).1 = vat) then (
 bif !decide (v = r4.1) then (
 gd (inB v p11.length) <|
 bif decide (p11.getD v.toNat 0 ≤ 0) then (
 gd (inB v p11.length) <|
 bif decide ((-1000) ≤ wi64 ((p11.getD v.toNat 0) - r6.1)) then (
 bif decide (0 < (way2.length : Int)) then (
 (qaa 2 s11 s12).bind fun r7 =>
 some (decide (r7.1 = 0), r7.2.1, r7.2.2, way2, p10, p11, p12))
 else (
 some (false, s11, s12, way2, p10, p11, p12)))
 else (
 some (false, s11, s12, way2, p10, p11, p12)))
 else (
 some (false, s11, s12, way2, p10, p11, p12)))
 else (
 some (false, s11, s12, way2, p10, p11, p12)))
 else (
 some (false, s11, s12, way2, p10, p11, p12))) fun s13 =>
 Option.bind (α := Int × List Int × List Int × List Int × List Bool) (
 bif s13.1 then (
 some (v, s13.2.2.2.1, s13.2.2.2.2.1, s13.2.2.2.2.2.1, s13.2.2.2.2.2.2))
 else (
 some (vend2, s13.2.2.2.1, s13.2.2.2.2.1, s13.2.2.2.2.2.1, s13.2.2.2.2.2.2))) fun s14 =>
 some (.inl (s14.1, wi64 (v + 1), s13.2.1, s13.2.2.1, s14.2.1, s14.2.2.1, s14.2.2.2.1, s14.2.2.2.2)))
 else (
 some (.inr (vend2, s11, s12, way2, p10, p11, p12)))
def qd2 (n : yB0) (r6 : Int × List Int × Int) (vat : Int) (v2 : Int) (way3 : List Int) (out : List Int) (p13 : List Int) (p14 : List Int) (p15 : List Bool) : Option ((Int × List Int × List Int × List Int × List Int × List Bool) ⊕ (List Int × List Int × List Int × List Int × List Bool)) :=
 bif decide (v2 < (n.2.1.length : Int)) then (
 gd (inB v2 n.2.1.length) <|
 Option.bind (α := Bool × List Int × List Int × List Int × List Int × List Bool) (
 bif decide (((n.2.1.getD v2.toNat ([], (0, (0, (0, (0, (0, []))))))).2).1 = vat) then (
 bif decide (vat < wi64 ((wi64 ((((n.2.1.getD v2.toNat ([], (0, (0, (0, (0, (0, []))))))).2).1) + ((((n.2.1.getD v2.toNat ([], (0, (0, (0, (0, (0, []))))))).2).2).1))) - vat)) then (
 gd (inB v2 p13.length) <|
 (qra (p13.getD v2.toNat 0)).bind fun r8 =>
 some (decide (wi64 (r8 + r6.1) ≤ min 1000 (((((n.2.1.getD v2.toNat ([], (0, (0, (0, (0, (0, []))))))).2).2).2).1)), way3, out, p13, p14, p15))
 else (
 some (false, way3, out, p13, p14, p15)))
 else (
 bif decide ((((n.2.1.getD v2.toNat ([], (0, (0, (0, (0, (0, []))))))).2).2).1 = vat) then (
 bif decide (vat < wi64 ((wi64 ((((n.2.1.getD v2.toNat ([], (0, (0, (0, (0, (0, []))))))).2).1) + ((((n.2.1.getD v2.toNat ([], (0, (0, (0, (0, (0, []))))))).2).2).1))) - vat)) then (
 gd (inB v2 p13.length) <|
 (qra (p13.getD v2.toNat 0)).bind fun r9 =>
 some (decide (wi64 (r9 + r6.1) ≤ min 1000 (((((n.2.1.getD v2.toNat ([], (0, (0, (0, (0, (0, []))))))).2).2).2).1)), way3, out, p13, p14, p15))
 else (
 some (false, way3, out, p13, p14, p15)))
 else (
 some (false, way3, out, p13, p14, p15)))) fun s16 =>
 Option.bind (α := List Int × List Int × List Int × List Int × List Bool) (
 bif s16.1 then (
 gd (fits (s16.2.2.1.length + 1) 8) <|
 some (s16.2.1, s16.2.2.1 ++ [v2], s16.2.2.2.1, s16.2.2.2.2.1, s16.2.2.2.2.2))
 else (
 some (s16.2.1, s16.2.2.1, s16.2.2.2.1, s16.2.2.2.2.1, s16.2.2.2.2.2))) fun s17 =>
 some (.inl (wi64 (v2 + 1), s17.1, s17.2.1, s17.2.2.1, s17.2.2.2.1, s17.2.2.2.2)))
 else (
 some (.inr (way3, out, p13, p14, p15)))
def qd3 (n : yB0) (r4 : Int × List Int × Int) (r6 : Int × List Int × Int) (vat : Int) (vend : Int) (s9 : List Int) (s10 : Int) (way : List Int) (p7 : List Int) (p8 : List Int) (p9 : List Bool) : Option ((Int × Int × List Int × Int × List Int × List Int × List Int × List Bool) ⊕ (Int × List Int × Int × List Int × List Int × List Int × List Bool)) :=
 bif decide (vend < 0) then (
 (iter (fun x2 => qd1 n r4 r6 vat x2.1 x2.2.1 x2.2.2.1 x2.2.2.2.1 x2.2.2.2.2.1 x2.2.2.2.2.2.1 x2.2.2.2.2.2.2.1 x2.2.2.2.2.2.2.2) (vend, 0, s9, s10, way, p7, p8, p9)).bind fun s15 =>
 bif decide (0 ≤ s15.1) then (
 some (.inr (s15.1, s15.2.1, s15.2.2.1, s15.2.2.2.1, s15.2.2.2.2.1, s15.2.2.2.2.2.1, s15.2.2.2.2.2.2)))
 else (
 (iter (fun x3 => qd2 n r6 vat x3.1 x3.2.1 x3.2.2.1 x3.2.2.2.1 x3.2.2.2.2.1 x3.2.2.2.2.2) (0, s15.2.2.2.1, [], s15.2.2.2.2.1, s15.2.2.2.2.2.1, s15.2.2.2.2.2.2)).bind fun s18 =>
 bif decide ((s18.2.1.length : Int) = 0) then (
 some (.inr (s15.1, s15.2.1, s15.2.2.1, s18.1, s18.2.2.1, s18.2.2.2.1, s18.2.2.2.2)))
 else (
 (qaa (s18.2.1.length : Int) s15.2.1 s15.2.2.1).bind fun r10 =>
 gd (inB r10.1 s18.2.1.length) <|
 gd (fits (s18.1.length + 1) 8) <|
 gd (inB (s18.2.1.getD r10.1.toNat 0) n.2.1.length) <|
 gd (inB (s18.2.1.getD r10.1.toNat 0) n.2.1.length) <|
 some (.inl (wi64 ((wi64 ((((n.2.1.getD (s18.2.1.getD r10.1.toNat 0).toNat ([], (0, (0, (0, (0, (0, []))))))).2).1) + ((((n.2.1.getD (s18.2.1.getD r10.1.toNat 0).toNat ([], (0, (0, (0, (0, (0, []))))))).2).2).1))) - vat), s15.1, r10.2.1, r10.2.2, s18.1 ++ [s18.2.1.getD r10.1.toNat 0], s18.2.2.1, s18.2.2.2.1, s18.2.2.2.2)))))
 else (
 some (.inr (vend, s9, s10, way, p7, p8, p9)))
def qd4 (n : yB0) (r6 : Int × List Int × Int) (s19 : Int × List Int × Int × List Int × List Int × List Int × List Bool) (v3 : Int) (v4 : List Int) (p16 : List Int) (p17 : List Int) (p18 : List Bool) : Option ((Int × List Int × List Int × List Int × List Bool) ⊕ yB6) :=
 bif decide (v3 < (s19.2.2.2.1.length : Int)) then (
 gd (inB v3 v4.length) <|
 gd (inB (v4.getD v3.toNat 0) n.2.1.length) <|
 gd (inB (v4.getD v3.toNat 0) n.2.1.length) <|
 Option.bind (α := List Int × List Int × List Int × List Bool) (
 bif decide (((n.2.1.getD (v4.getD v3.toNat 0).toNat ([], (0, (0, (0, (0, (0, []))))))).2).1 < (((n.2.1.getD (v4.getD v3.toNat 0).toNat ([], (0, (0, (0, (0, (0, []))))))).2).2).1) then (
 gd (inB (v4.getD v3.toNat 0) p16.length) <|
 gd (inB (v4.getD v3.toNat 0) p16.length) <|
 some (v4, p16.set ((v4.getD v3.toNat 0).toNat) (wi64 ((p16.getD ((v4.getD v3.toNat 0).toNat) 0) + r6.1)), p17, p18))
 else (
 gd (inB (v4.getD v3.toNat 0) p16.length) <|
 gd (inB (v4.getD v3.toNat 0) p16.length) <|
 some (v4, p16.set ((v4.getD v3.toNat 0).toNat) (wi64 ((p16.getD ((v4.getD v3.toNat 0).toNat) 0) - r6.1)), p17, p18))) fun s20 =>
 some (.inl (wi64 (v3 + 1), s20.1, s20.2.1, s20.2.2.1, s20.2.2.2)))
 else (
 some (.inr (p16, p17, p18)))
def qfE (n : yB0) (streams : Int) (s6 : List Int) (s7 : Int) (p4 : List Int) (p5 : List Int) (p6 : List Bool) : Option ((Int × List Int × Int × List Int × List Int × List Bool) ⊕ (List Int × Int × List Int × List Int × List Bool)) :=
 bif decide (0 < streams) then (
 Option.bind (α := List Int × Int × List Int × List Int × List Bool) (
 (qaa (n.2.2.1.length : Int) s6 s7).bind fun r4 =>
 gd (inB r4.1 n.2.2.1.length) <|
 (qap [1, 5, 30, 300] r4.2.1 r4.2.2).bind fun r5 =>
 (qaZ 1 r5.1 r5.2.1 r5.2.2).bind fun r6 =>
 Option.bind (α := Bool × List Int × List Int × List Bool) (
 gd (inB r4.1 p5.length) <|
 bif decide (p5.getD r4.1.toNat 0 < 0) then (
 some (true, p4, p5, p6))
 else (
 gd (inB r4.1 p5.length) <|
 some (decide (1000 < wi64 ((p5.getD r4.1.toNat 0) + r6.1)), p4, p5, p6))) fun s8 =>
 bif s8.1 then (
 some (r6.2.1, r6.2.2, s8.2.1, s8.2.2.1, s8.2.2.2))
 else (
 (iter (fun x4 => qd3 n r4 r6 x4.1 x4.2.1 x4.2.2.1 x4.2.2.2.1 x4.2.2.2.2.1 x4.2.2.2.2.2.1 x4.2.2.2.2.2.2.1 x4.2.2.2.2.2.2.2) (((n.2.2.1.getD r4.1.toNat ([], (0, 0))).2).1, (-1), r6.2.1, r6.2.2, [], s8.2.1, s8.2.2.1, s8.2.2.2)).bind fun s19 =>
 bif decide (s19.1 < 0) then (
 some (s19.2.1, s19.2.2.1, s19.2.2.2.2.1, s19.2.2.2.2.2.1, s19.2.2.2.2.2.2))
 else (
 gd (inB r4.1 s19.2.2.2.2.2.1.length) <|
 gd (inB s19.1 s19.2.2.2.2.2.1.length) <|
 gd (inB r4.1 s19.2.2.2.2.2.1.length) <|
 gd (inB s19.1 (s19.2.2.2.2.2.1.set r4.1.toNat (wi64 ((s19.2.2.2.2.2.1.getD r4.1.toNat 0) + r6.1))).length) <|
 (iter (fun x5 => qd4 n r6 s19 x5.1 x5.2.1 x5.2.2.1 x5.2.2.2.1 x5.2.2.2.2) (0, s19.2.2.2.1, s19.2.2.2.2.1, (s19.2.2.2.2.2.1.set r4.1.toNat (wi64 ((s19.2.2.2.2.2.1.getD r4.1.toNat 0) + r6.1))).set s19.1.toNat (wi64 ((s19.2.2.2.2.2.1.getD s19.1.toNat 0) - r6.1)), s19.2.2.2.2.2.2)).bind fun s21 =>
 some (s19.2.1, s19.2.2.1, s21.1, s21.2.1, s21.2.2)))) fun s22 =>
 some (.inl (wi64 (streams - 1), s22.1, s22.2.1, s22.2.2.1, s22.2.2.2.1, s22.2.2.2.2)))
 else (
 some (.inr (s6, s7, p4, p5, p6)))
def qfX (n : yB0) (s : List Int) (s2 : Int) : Option (yB6 × List Int × Int) :=
 gd (makeG 8 (n.2.1.length : Int)) <|
 gd (makeG 8 (n.2.2.1.length : Int)) <|
 (iter (fun x => qi3 n x.1 x.2.1 x.2.2.1 x.2.2.2.1 x.2.2.2.2.1 x.2.2.2.2.2) (0, s, s2, List.replicate (n.2.1.length : Int).toNat (0 : Int), List.replicate (n.2.2.1.length : Int).toNat (0 : Int), [])).bind fun s5 =>
 (qaa 3 s5.1 s5.2.1).bind fun r2 =>
 (qaa 5 r2.2.1 r2.2.2).bind fun r3 =>
 (iter (fun x6 => qfE n x6.1 x6.2.1 x6.2.2.1 x6.2.2.2.1 x6.2.2.2.2.1 x6.2.2.2.2.2) (r3.1, r3.2.1, r3.2.2, s5.2.2.1, s5.2.2.2.1, s5.2.2.2.2)).bind fun s23 =>
 bif decide (r2.1 = 0) then (
 (qg7 (s23.2.2.1, (s23.2.2.2.1, s23.2.2.2.2))).bind fun r11 =>
 some ((r11.1, (r11.2.1, r11.2.2)), s23.1, s23.2.1))
 else (
 some ((s23.2.2.1, (s23.2.2.2.1, s23.2.2.2.2)), s23.1, s23.2.1))
def qi4 : Fun :=
 ⟨99, 2, 1,
 ⟨[(0, pt 0 0), (1, dd tT0)], v3_, []⟩,
 ⟨[(0, dd tT6)], v3_, []⟩,
 fun x => qfX x.1 x.2.1 x.2.2⟩
theorem qn5 : FO qi4 := fi [] [qbe, qbB, qdk, qpp, qjN] 279 [] ((nn (nn (mm (nn (mm (.mk [] (some (⟨[(0, pt 0 0), (3, pt 64 0), (4, pt 80 0), (5, pt 96 0), (6, ii)], v2_, a15_⟩, [⟨.x 0, ⟨[(0, pt 0 0), (3, pt 64 0), (4, pt 80 0), (5, pt 96 0)], v2_, a15_⟩⟩])) .nil .nil) .nil)) (nn (mm (nn (mm (.mk [] (some (⟨[(0, pt 0 0), (3, pt 64 0), (4, pt 80 0), (5, pt 96 0), (7, kk), (8, ii)], v2_, a15_⟩, [⟨.x 2, ⟨[(4, pt 80 0), (5, pt 96 0), (7, kk)], [(80, 55, [.keep, .keep, .keep]), (96, 55, [.own 416, .own 480, .own 1593]), (0, 128, [.data (.sl I6), .data I6])], a15_⟩⟩])) (nn (mm (.mk [.join [⟨.n, ⟨r88_, v2_, a15_⟩⟩]] none (nn (nn (mm (mm (.mk [.join [⟨.n, ⟨[(0, pt 0 0), (3, pt 64 0), (4, pt 80 0), (5, pt 96 0), (7, kk), (8, kk), (9, kk), (10, kk), (11, kk), (86, bb)], v4_, a15_⟩⟩]] none .nil .nil) .nil) (nn (nn (mm (mm (.mk [] (some (⟨[(0, pt 0 0), (3, pt 64 0), (4, pt 80 0), (5, pt 96 0), (7, kk), (8, kk), (9, kk), (10, ii), (11, kk), (12, ow 219), (13, ii)], v2_, a10_⟩, [⟨.x 4, ⟨[(0, pt 0 0), (3, pt 64 0), (4, pt 80 0), (5, pt 96 0), (7, kk), (8, kk), (9, kk), (11, kk), (12, ow 219), (13, ii)], v2_, a10_⟩⟩])) (nn (mm (mm (nn (mm (.mk [] (some (⟨[(0, pt 0 0), (3, pt 64 0), (4, pt 80 0), (5, pt 96 0), (7, kk), (8, kk), (9, kk), (10, kk), (11, kk), (12, ow 219), (13, ii), (90, kk), (91, kk), (92, ii)], v2_, a10_⟩, [⟨.x 6, ⟨[(0, pt 0 0), (3, pt 64 0), (4, pt 80 0), (5, pt 96 0), (7, kk), (8, kk), (9, kk), (10, kk), (11, kk), (12, ow 219), (13, ii)], v2_, a10_⟩⟩])) (nn (nn (mm (mm (nn (mm (.mk [.join [⟨.n, ⟨[(0, pt 0 0), (3, pt 64 0), (4, pt 80 0), (5, pt 96 0), (7, kk), (8, kk), (9, kk), (10, kk), (11, kk), (12, ow 219), (13, kk), (14, kk), (90, kk), (91, kk), (92, kk), (133, bb)], v2_, a10_⟩⟩]] none .nil .nil) (.mk [.join [⟨.n, ⟨[(0, pt 0 0), (3, pt 64 0), (4, pt 80 0), (5, pt 96 0), (7, kk), (8, kk), (9, kk), (10, kk), (11, kk), (12, ow 219), (13, ii), (90, kk), (91, kk), (92, kk)], v4_, a10_⟩⟩]] none .nil .nil))) .nil) .nil))) .nil) .nil)) (nn (nn (mm (nn (mm (.mk [] (some (⟨[(0, pt 0 0), (3, pt 64 0), (4, pt 80 0), (5, pt 96 0), (7, kk), (8, kk), (9, kk), (10, kk), (11, kk), (12, ow 219), (13, kk), (16, ow 283), (139, kk), (140, kk), (141, ii)], v4_, a20_⟩, [⟨.x 8, ⟨[(0, pt 0 0), (3, pt 64 0), (4, pt 80 0), (5, pt 96 0), (7, kk), (8, kk), (9, kk), (10, kk), (11, kk), (12, ow 219), (13, kk), (16, ow 283)], v4_, a20_⟩⟩])) (nn (nn (mm (mm (nn (mm (.mk [.join [⟨.n, ⟨[(0, pt 0 0), (3, pt 64 0), (4, pt 80 0), (5, pt 96 0), (7, kk), (8, kk), (9, kk), (10, kk), (11, kk), (12, ow 219), (13, kk), (16, ow 283), (17, kk), (139, kk), (140, kk), (141, kk), (180, bb)], v4_, a20_⟩⟩]] none .nil .nil) (.mk [.join [⟨.n, ⟨[(0, pt 0 0), (3, pt 64 0), (4, pt 80 0), (5, pt 96 0), (7, kk), (8, kk), (9, kk), (10, kk), (11, kk), (12, ow 219), (13, kk), (16, ow 283), (139, kk), (140, kk), (141, kk)], v4_, a20_⟩⟩]] none .nil .nil))) .nil) .nil))) .nil) .nil)) .nil)))) .nil)) .nil) .nil) (nn (nn (nn (mm (.mk [] (some (⟨[(0, pt 0 0), (3, pt 64 0), (4, pt 80 0), (5, pt 96 0), (7, kk), (8, kk), (11, kk), (239, ow 219), (240, kk), (241, ii)], v4_, a10_⟩, [⟨.x 10, ⟨r88_, v4_, a15_⟩⟩])) (nn (nn (mm (mm (nn (nn (.mk [.join [⟨.n, ⟨[(0, pt 0 0), (3, pt 64 0), (4, pt 80 0), (5, pt 96 0), (7, kk), (8, kk), (11, kk), (239, ow 219), (240, kk), (241, kk)], v4_, a10_⟩⟩]] none .nil .nil))) .nil) .nil))) .nil) .nil)))))))))) .nil) .nil)) .nil) .nil)) (mm (nn (mm (mm (.mk [.fz [5]] none .nil .nil) .nil) .nil)) .nil))))))) func99 ⟨⟨qbm, qb6, qeT, qte, qpq, trivial⟩, trivial⟩
def qkr (s : yB9) (rate : Int) : Option (Int × Int) :=
 bif decide (rate < 0) then (
 some (s.2.2.1, s.2.1))
 else (
 some (s.2.1, s.2.2.1))
def qio : Fun :=
 ⟨158, 2, 2,
 ⟨[(0, dd (.pair (.str) tT5)), (1, ii)], [], []⟩,
 ⟨r58_, [], []⟩,
 fun x => qkr x.1 x.2⟩
theorem qmB : FO qio := fi [] [] 16 [] .nil func158 ⟨trivial, trivial⟩
def qjO (n : Int) : Option (Int) :=
 some (max n (wi64 (0 - n)))
def qnE : Fun :=
 ⟨159, 1, 1,
 ⟨[(0, ii)], [], []⟩,
 ⟨[(0, ii)], [], []⟩,
 fun x => qjO x⟩
theorem qsc : FO qnE := fi [] [] 7 [] .nil func159 ⟨trivial, trivial⟩
def qcD (n : yB0) (p : yB6) (node : Int) (vin : Int) (out : Int) (v : Int) : Option ((Int × Int × Int) ⊕ (Int × Int)) :=
 bif decide (v < (n.2.1.length : Int)) then (
 Option.bind (α := Int × Int) (
 gd (inB v n.2.1.length) <|
 gd (inB v p.1.length) <|
 bif decide (p.1.getD v.toNat 0 = 0) then (
 some (vin, out))
 else (
 gd (inB v p.1.length) <|
 (qkr ((n.2.1.getD v.toNat ([], (0, (0, (0, (0, (0, []))))))).1, (((n.2.1.getD v.toNat ([], (0, (0, (0, (0, (0, []))))))).2).1, ((((n.2.1.getD v.toNat ([], (0, (0, (0, (0, (0, []))))))).2).2).1, (((((n.2.1.getD v.toNat ([], (0, (0, (0, (0, (0, []))))))).2).2).2).1, ((((((n.2.1.getD v.toNat ([], (0, (0, (0, (0, (0, []))))))).2).2).2).2).1, (((((((n.2.1.getD v.toNat ([], (0, (0, (0, (0, (0, []))))))).2).2).2).2).2).1, ((((((n.2.1.getD v.toNat ([], (0, (0, (0, (0, (0, []))))))).2).2).2).2).2).2)))))) (p.1.getD v.toNat 0)).bind fun r =>
 Option.bind (α := Int) (
 bif decide (r.1 = node) then (
 gd (inB v p.1.length) <|
 (qjO (p.1.getD v.toNat 0)).bind fun r2 =>
 some (wi64 (out + r2)))
 else (
 some out)) fun s =>
 Option.bind (α := Int) (
 bif decide (r.2 = node) then (
 gd (inB v p.1.length) <|
 (qjO (p.1.getD v.toNat 0)).bind fun r3 =>
 some (wi64 (vin + r3)))
 else (
 some vin)) fun s2 =>
 some (s2, s))) fun s3 =>
 some (.inl (s3.1, s3.2, wi64 (v + 1))))
 else (
 some (.inr (vin, out)))
def qcE (n : yB0) (p : yB6) (node : Int) (vin2 : Int) (out2 : Int) (v2 : Int) : Option ((Int × Int × Int) ⊕ (Int × Int)) :=
 bif decide (v2 < (n.2.2.1.length : Int)) then (
 gd (inB v2 n.2.2.1.length) <|
 Option.bind (α := Int × Int) (
 bif decide (((n.2.2.1.getD v2.toNat ([], (0, 0))).2).1 = node) then (
 gd (inB v2 p.2.1.length) <|
 gd (inB v2 p.2.1.length) <|
 some (wi64 (vin2 + (max 0 (p.2.1.getD v2.toNat 0))), wi64 (out2 + (max 0 (wi64 (0 - (p.2.1.getD v2.toNat 0)))))))
 else (
 some (vin2, out2))) fun s5 =>
 some (.inl (s5.1, s5.2, wi64 (v2 + 1))))
 else (
 some (.inr (vin2, out2)))
def qhO (n : yB0) (p : yB6) (node : Int) : Option (Int × Int) :=
 (iter (fun x => qcD n p node x.1 x.2.1 x.2.2) (0, 0, 0)).bind fun s4 =>
 (iter (fun x2 => qcE n p node x2.1 x2.2.1 x2.2.2) (s4.1, s4.2, 0)).bind fun s6 =>
 some (s6.1, s6.2)
def qip : Fun :=
 ⟨116, 3, 2,
 ⟨r93_, [], []⟩,
 ⟨r58_, [], []⟩,
 fun x => qhO x.1 x.2.1 x.2.2⟩
theorem qmC : FO qip := fi [] [qio, qnE] 95 [] ((nn (nn (mm (nn (mm (.mk [] (some (⟨[(2, kk), (3, pt 64 0), (4, pt 80 0), (8, ii), (9, ii), (17, kk), (18, kk), (19, ii)], v28_, []⟩, [⟨.x 0, ⟨[(2, kk), (3, pt 64 0), (4, pt 80 0), (8, ii), (9, ii)], v28_, []⟩⟩])) (nn (nn (mm (.mk [.join [⟨.n, ⟨[(2, kk), (3, pt 64 0), (4, pt 80 0), (8, ii), (9, ii), (17, kk), (18, kk), (19, kk)], v28_, []⟩⟩]] none (nn (nn (nn (mm (nn (.mk [.join [⟨.n, ⟨[(2, kk), (3, pt 64 0), (4, pt 80 0), (8, kk), (9, ii), (10, kk), (13, kk), (17, kk), (18, kk), (19, kk)], v28_, []⟩⟩]] none .nil .nil)) (nn (.mk [.join [⟨.n, ⟨[(2, kk), (3, pt 64 0), (4, pt 80 0), (8, ii), (9, kk), (17, kk), (18, kk), (19, kk)], v28_, []⟩⟩]] none .nil .nil)))))) .nil) .nil))) .nil) .nil)) (mm (nn (mm (.mk [] (some (⟨[(2, kk), (4, pt 80 0), (8, ii), (9, ii), (64, kk), (65, kk), (66, ii)], [(80, 55, [.keep, .keep, .keep])], []⟩, [⟨.x 2, ⟨[(8, ii), (9, ii)], [], []⟩⟩])) (nn (nn (mm (mm (nn (nn (.mk [.join [⟨.n, ⟨[(2, kk), (4, pt 80 0), (8, ii), (9, ii), (64, kk), (65, kk), (66, kk)], [(80, 55, [.keep, .keep, .keep])], []⟩⟩]] none .nil .nil))) .nil) .nil))) .nil) .nil)) .nil))))) func116 ⟨⟨qmB, qsc, trivial⟩, trivial⟩
def qci (n : yB0) (p : yB6) (v : Int) (free : Bool) (v2 : Int) (out3 : List Int) (there3 : List Bool) : Option ((Bool × Int × List Int × List Bool) ⊕ (Bool × List Int × List Bool)) :=
 bif decide (v2 < (n.2.1.length : Int)) then (
 gd (inB v2 n.2.1.length) <|
 gd (inB v2 p.1.length) <|
 Option.bind (α := Bool × List Int × List Bool) (
 bif !decide (p.1.getD v2.toNat 0 = 0) then (
 gd (inB v2 p.1.length) <|
 (qkr ((n.2.1.getD v2.toNat ([], (0, (0, (0, (0, (0, []))))))).1, (((n.2.1.getD v2.toNat ([], (0, (0, (0, (0, (0, []))))))).2).1, ((((n.2.1.getD v2.toNat ([], (0, (0, (0, (0, (0, []))))))).2).2).1, (((((n.2.1.getD v2.toNat ([], (0, (0, (0, (0, (0, []))))))).2).2).2).1, ((((((n.2.1.getD v2.toNat ([], (0, (0, (0, (0, (0, []))))))).2).2).2).2).1, (((((((n.2.1.getD v2.toNat ([], (0, (0, (0, (0, (0, []))))))).2).2).2).2).2).1, ((((((n.2.1.getD v2.toNat ([], (0, (0, (0, (0, (0, []))))))).2).2).2).2).2).2)))))) (p.1.getD v2.toNat 0)).bind fun r =>
 Option.bind (α := Bool × List Int × List Bool) (
 bif free then (
 bif !decide (r.2 = v) then (
 some (true, out3, there3))
 else (
 gd (inB r.1 there3.length) <|
 some (there3.getD r.1.toNat false, out3, there3)))
 else (
 some (false, out3, there3))) fun s =>
 some (s.1, s.2.1, s.2.2))
 else (
 some (free, out3, there3))) fun s2 =>
 some (.inl (s2.1, wi64 (v2 + 1), s2.2.1, s2.2.2)))
 else (
 some (.inr (free, out3, there3)))
def qcj (n : yB0) (p : yB6) (next : Int) (v : Int) (out2 : List Int) (there2 : List Bool) : Option ((Int × Int × List Int × List Bool) ⊕ (Int × List Int × List Bool)) :=
 bif decide (v < (n.1.length : Int)) then (
 gd (inB v there2.length) <|
 (iter (fun x => qci n p v x.1 x.2.1 x.2.2.1 x.2.2.2) ((!(there2.getD v.toNat false)), 0, out2, there2)).bind fun s3 =>
 Option.bind (α := Bool × List Int × List Bool) (
 bif s3.1 then (
 some (decide (next < 0), s3.2.1, s3.2.2))
 else (
 some (false, s3.2.1, s3.2.2))) fun s4 =>
 Option.bind (α := Int × List Int × List Bool) (
 bif s4.1 then (
 some (v, s4.2.1, s4.2.2))
 else (
 some (next, s4.2.1, s4.2.2))) fun s5 =>
 some (.inl (s5.1, wi64 (v + 1), s5.2.1, s5.2.2)))
 else (
 some (.inr (next, out2, there2)))
def qbO (n : yB0) (p : yB6) (out : List Int) (there : List Bool) : Option ((List Int × List Bool) ⊕ (List Int)) :=
 (iter (fun x2 => qcj n p x2.1 x2.2.1 x2.2.2.1 x2.2.2.2) ((-1), 0, out, there)).bind fun s6 =>
 bif decide (s6.1 < 0) then (
 some (.inr s6.2.1))
 else (
 gd (fits (s6.2.1.length + 1) 8) <|
 gd (inB s6.1 s6.2.2.length) <|
 some (.inl (s6.2.1 ++ [s6.1], s6.2.2.set s6.1.toNat true)))
def qiq (n : yB0) (p : yB6) : Option (List Int) :=
 gd (makeG 1 (n.1.length : Int)) <|
 (iter (fun x3 => qbO n p x3.1 x3.2) ([], List.replicate (n.1.length : Int).toNat (false : Bool))).bind fun s7 =>
 some s7
def qk1 : Fun :=
 ⟨117, 2, 1,
 ⟨r48_, [], []⟩,
 ⟨[(0, ow 0)], [], [(0, .arr 3 I6)]⟩,
 fun x => qiq x.1 x.2⟩
theorem qp0 : FO qk1 := fi [] [qio] 83 [] ((nn (nn (nn (mm (.mk [] (some (⟨[(2, pt 48 0), (3, pt 64 0), (5, ow 107), (6, ow 288)], v0_, a23_⟩, [⟨.r, ⟨[(4, ow 91)], [], [(91, .arr 3 I6)]⟩⟩])) (mm (nn (mm (nn (mm (.mk [] (some (⟨[(2, pt 48 0), (3, pt 64 0), (5, ow 107), (6, ow 288), (7, ii), (20, kk), (21, ii)], v0_, a23_⟩, [⟨.x 2, ⟨[(2, pt 48 0), (3, pt 64 0), (5, ow 107), (6, ow 288), (7, ii)], v0_, a23_⟩⟩])) (nn (nn (mm (mm (nn (nn (mm (nn (mm (.mk [] (some (⟨[(2, pt 48 0), (3, pt 64 0), (5, ow 107), (6, ow 288), (7, kk), (8, kk), (9, bb), (20, kk), (21, kk), (30, kk), (31, kk), (32, ii)], v0_, a23_⟩, [⟨.x 4, ⟨[(2, pt 48 0), (3, pt 64 0), (5, ow 107), (6, ow 288), (7, kk), (8, kk), (9, bb), (20, kk), (21, kk)], v0_, a23_⟩⟩])) (nn (nn (mm (mm (nn (nn (.mk [.join [⟨.n, ⟨r39_, v0_, a23_⟩⟩]] none (nn (.mk [.join [⟨.n, ⟨r39_, v0_, a23_⟩⟩]] none .nil .nil)) .nil))) .nil) .nil))) .nil) .nil)) (mm (.mk [.join [⟨.n, ⟨[(2, pt 48 0), (3, pt 64 0), (5, ow 107), (6, ow 288), (7, kk), (8, kk), (20, kk), (21, kk), (70, bb)], v0_, a23_⟩⟩]] none .nil .nil) (.mk [.join [⟨.n, ⟨[(2, pt 48 0), (3, pt 64 0), (5, ow 107), (6, ow 288), (7, ii), (20, kk), (21, kk)], v0_, a23_⟩⟩]] none .nil .nil))))) .nil) .nil))) .nil) .nil)) .nil)) .nil) .nil) .nil))))) func117 ⟨⟨qmB, trivial⟩, trivial⟩
def qfc (n : yB0) (p : yB6) (v : Int) : Option (Int ⊕ (Unit ⊕ Int)) :=
 bif decide (v < (p.1.length : Int)) then (
 gd (inB v p.1.length) <|
 gd (inB v n.2.1.length) <|
 Option.bind (α := Bool) (
 bif decide (p.1.getD v.toNat 0 < wi64 (0 - (min 1000 (((((n.2.1.getD v.toNat ([], (0, (0, (0, (0, (0, []))))))).2).2).2).1)))) then (
 some true)
 else (
 some (decide (min 1000 (((((n.2.1.getD v.toNat ([], (0, (0, (0, (0, (0, []))))))).2).2).2).1) < p.1.getD v.toNat 0)))) fun s2 =>
 bif s2 then (
 some (.inr (.inr 1)))
 else (
 some (.inl (wi64 (v + 1)))))
 else (
 some (.inr (.inl ())))
def qfd (p : yB6) (v2 : Int) : Option (Int ⊕ (Unit ⊕ Int)) :=
 bif decide (v2 < (p.2.1.length : Int)) then (
 gd (inB v2 p.2.1.length) <|
 Option.bind (α := Bool) (
 bif decide (p.2.1.getD v2.toNat 0 < (-1000)) then (
 some true)
 else (
 some (decide (1000 < p.2.1.getD v2.toNat 0)))) fun s6 =>
 bif s6 then (
 some (.inr (.inr 1)))
 else (
 some (.inl (wi64 (v2 + 1)))))
 else (
 some (.inr (.inl ())))
def qfe (n : yB0) (p : yB6) (v3 : Int) : Option (Int ⊕ (Unit ⊕ Int)) :=
 bif decide (v3 < (n.1.length : Int)) then (
 (qhO (n.1, (n.2.1, (n.2.2.1, (n.2.2.2.1, (n.2.2.2.2.1, n.2.2.2.2.2))))) (p.1, (p.2.1, p.2.2)) v3).bind fun r2 =>
 bif !decide (r2.1 = r2.2) then (
 some (.inr (.inr 12)))
 else (
 some (.inl (wi64 (v3 + 1)))))
 else (
 some (.inr (.inl ())))
def qea (n : yB0) (p : yB6) : Option (Int) :=
 (qd9 (n.1, (n.2.1, (n.2.2.1, (n.2.2.2.1, (n.2.2.2.2.1, n.2.2.2.2.2)))))).bind fun r =>
 bif !decide (r = 0) then (
 some r)
 else (
 Option.bind (α := Bool) (
 bif !decide ((p.1.length : Int) = (n.2.1.length : Int)) then (
 some true)
 else (
 bif !decide ((p.2.1.length : Int) = (n.2.2.1.length : Int)) then (
 some true)
 else (
 some (!decide ((p.2.2.length : Int) = (n.2.2.2.1.length : Int)))))) fun s =>
 bif s then (
 some 9)
 else (
 (iter (fun x => qfc n p x) 0).bind fun s3 =>
 s3.elim (fun s4 =>
 (iter (fun x2 => qfd p x2) 0).bind fun s7 =>
 s7.elim (fun s8 =>
 (iter (fun x3 => qfe n p x3) 0).bind fun s10 =>
 s10.elim (fun s11 =>
 (qiq (n.1, (n.2.1, (n.2.2.1, (n.2.2.2.1, (n.2.2.2.2.1, n.2.2.2.2.2))))) (p.1, (p.2.1, p.2.2))).bind fun r3 =>
 bif !decide ((r3.length : Int) = (n.1.length : Int)) then (
 some 13)
 else (
 some 0))
 (fun s12 =>
 some s12))
 (fun s9 =>
 some s9))
 (fun s5 =>
 some s5)))
def qdJ : Fun :=
 ⟨70, 2, 1,
 ⟨r48_, [], []⟩,
 ⟨[(0, ii)], [], []⟩,
 fun x => qea x.1 x.2⟩
theorem qff : FO qdJ := fi [] [qdI, qip, qk1] 108 [] ((nn (nn (mm (mm (.mk [.join [⟨.n, ⟨[(2, pt 48 0), (3, pt 64 0), (43, bb)], v0_, []⟩⟩]] none .nil .nil) .nil) (mm (nn (mm (.mk [] (some (⟨[(2, pt 48 0), (3, pt 64 0), (45, kk), (46, kk), (47, ii)], v0_, []⟩, [⟨.x 0, ⟨r34_, v0_, []⟩⟩, ⟨.r, ⟨[(4, ii)], [], []⟩⟩])) (nn (nn (mm (mm (nn (nn (mm (.mk [.join [⟨.n, ⟨[(2, pt 48 0), (3, pt 64 0), (45, kk), (46, kk), (47, kk), (67, bb)], v0_, []⟩⟩]] none .nil .nil) .nil))) .nil) .nil))) .nil) .nil)) (mm (nn (mm (.mk [] (some (⟨[(2, pt 48 0), (3, pt 64 0), (70, kk), (71, kk), (72, ii)], v0_, []⟩, [⟨.x 2, ⟨r34_, v0_, []⟩⟩, ⟨.r, ⟨[(4, ii)], [], []⟩⟩])) (nn (nn (mm (mm (nn (mm (.mk [.join [⟨.n, ⟨[(2, pt 48 0), (3, pt 64 0), (70, kk), (71, kk), (72, kk), (81, bb)], v0_, []⟩⟩]] none .nil .nil) .nil)) .nil) .nil))) .nil) .nil)) (mm (nn (mm (.mk [] (some (⟨[(2, pt 48 0), (3, pt 64 0), (85, kk), (86, ii)], v0_, []⟩, [⟨.x 4, ⟨r34_, v0_, []⟩⟩, ⟨.r, ⟨[(4, ii)], [], []⟩⟩])) .nil .nil) .nil)) .nil))))))) func70 ⟨⟨qfa, qmC, qp0, trivial⟩, trivial⟩
def qgA (n : yB0) (rates : List Int) (vat : Int) (i : Int) (v : Int) (v2 : Bool) : Option ((Int × Int × Bool) ⊕ ((Int × Bool) ⊕ (Bool × Int × Bool))) :=
 bif decide (i < (rates.length : Int)) then (
 Option.bind (α := Bool) (
 gd (inB i rates.length) <|
 bif decide (0 < rates.getD i.toNat 0) then (
 gd (inB i n.2.1.length) <|
 bif decide (((n.2.1.getD i.toNat ([], (0, (0, (0, (0, (0, []))))))).2).1 = vat) then (
 some true)
 else (
 gd (inB i rates.length) <|
 bif decide (rates.getD i.toNat 0 < 0) then (
 gd (inB i n.2.1.length) <|
 some (decide ((((n.2.1.getD i.toNat ([], (0, (0, (0, (0, (0, []))))))).2).2).1 = vat)))
 else (
 some false)))
 else (
 gd (inB i rates.length) <|
 bif decide (rates.getD i.toNat 0 < 0) then (
 gd (inB i n.2.1.length) <|
 some (decide ((((n.2.1.getD i.toNat ([], (0, (0, (0, (0, (0, []))))))).2).2).1 = vat)))
 else (
 some false))) fun s =>
 bif s then (
 gd (inB i rates.length) <|
 some (.inr (.inr (true, i, decide (rates.getD i.toNat 0 < 0)))))
 else (
 some (.inl (wi64 (i + 1), v, v2))))
 else (
 some (.inr (.inl (v, v2))))
def qg8 (n : yB0) (rates : List Int) (vat : Int) : Option ((Int × Bool) × Bool) :=
 (iter (fun x => qgA n rates vat x.1 x.2.1 x.2.2) (0, 0, false)).bind fun s2 =>
 s2.elim (fun s3 =>
 some ((0, false), false))
 (fun s4 =>
 some ((s4.2.1, s4.2.2), s4.1))
def qjP : Fun :=
 ⟨200, 3, 2,
 ⟨[(0, dd tT0), (1, dd (.sl I6)), (2, ii)], [], []⟩,
 ⟨[(0, dd (.pair I6 (.bool))), (1, bb)], [], []⟩,
 fun x => qg8 x.1 x.2.1 x.2.2⟩
theorem qpr : FO qjP := fi [] [] 55 [] ((nn (mm (nn (mm (.mk [] (some (⟨[(1, kk), (2, kk), (3, pt 64 0), (6, pt 112 0), (8, ii)], [(64, 50, (kp 6)), (112, 114, [.data I6, .data (.bool)])], []⟩, [⟨.x 0, ⟨[(6, pt 112 0)], [(112, 114, [.data I6, .data (.bool)])], []⟩⟩, ⟨.r, ⟨[(6, pt 112 0), (7, bb)], [(112, 114, [.data I6, .data (.bool)])], []⟩⟩])) (nn (mm (mm (mm (.mk [.join [⟨.n, ⟨[(1, kk), (2, kk), (3, pt 64 0), (6, pt 112 0), (8, kk), (46, bb)], [(64, 50, (kp 6)), (112, 114, [.keep, .keep])], []⟩⟩]] none .nil .nil) .nil) .nil) .nil)) .nil) .nil)) .nil))) func200 ⟨trivial, trivial⟩
def qnF (n : Int) : Option (Int) :=
 some (max n (wi64 (0 - n)))
def qjQ : Fun :=
 ⟨201, 1, 1,
 ⟨[(0, ii)], [], []⟩,
 ⟨[(0, ii)], [], []⟩,
 fun x => qnF x⟩
theorem qps : FO qjQ := fi [] [] 7 [] .nil func201 ⟨trivial, trivial⟩
def qks (n : yB0) (h : Int × Bool) : Option (Int × Int) :=
 gd (inB h.1 n.2.1.length) <|
 bif h.2 then (
 some ((((n.2.1.getD h.1.toNat ([], (0, (0, (0, (0, (0, []))))))).2).2).1, ((n.2.1.getD h.1.toNat ([], (0, (0, (0, (0, (0, []))))))).2).1))
 else (
 some (((n.2.1.getD h.1.toNat ([], (0, (0, (0, (0, (0, []))))))).2).1, (((n.2.1.getD h.1.toNat ([], (0, (0, (0, (0, (0, []))))))).2).2).1))
def qir : Fun :=
 ⟨202, 2, 2,
 ⟨[(0, dd tT0), (1, dd (.pair I6 (.bool)))], [], []⟩,
 ⟨r58_, [], []⟩,
 fun x => qks x.1 x.2⟩
theorem qmD : FO qir := fi [] [] 23 [] .nil func202 ⟨trivial, trivial⟩
def qgB (n : yB0) (ports : List Int) (vin : Int) (vat : Int) (i : Int) (v5 : Int) (v6 : Int) (v7 : List (Int × Bool)) (v8 : Int) (x4 : Int) (x5 : Int) (x6 : List (Int × Bool)) : Option ((Int × Int × Int × (List (Int × Bool)) × Int × Int × Int × List (Int × Bool)) ⊕ ((Int × Int × (List (Int × Bool)) × Int × Int × Int × List (Int × Bool)) ⊕ (Bool × Int × Int × Int × List (Int × Bool)))) :=
 bif decide (i < (ports.length : Int)) then (
 Option.bind (α := Bool × List (Int × Bool)) (
 gd (inB i n.2.2.1.length) <|
 bif decide (((n.2.2.1.getD i.toNat ([], (0, 0))).2).1 = vat) then (
 gd (inB i ports.length) <|
 some (decide (ports.getD i.toNat 0 < 0), x6))
 else (
 some (false, x6))) fun s =>
 bif s.1 then (
 gd (inB i ports.length) <|
 some (.inr (.inr (true, vin, i, min x5 (wi64 (0 - (ports.getD i.toNat 0))), s.2))))
 else (
 some (.inl (wi64 (i + 1), v5, v6, v7, v8, x4, x5, s.2))))
 else (
 some (.inr (.inl (v5, v6, v7, v8, x4, x5, x6))))
def qgC (n : yB0) (rates : List Int) (ports : List Int) (vin : Int) (vat : Int) (k : Int) (v : Int) (v2 : Int) (v3 : List (Int × Bool)) (v4 : Int) (x : Int) (x2 : Int) (x3 : List (Int × Bool)) : Option ((Int × Int × Int × Int × (List (Int × Bool)) × Int × Int × Int × List (Int × Bool)) ⊕ ((Int × Int × (List (Int × Bool)) × Int × Int × Int × List (Int × Bool)) ⊕ (Bool × Int × Int × Int × List (Int × Bool)))) :=
 bif decide (k ≤ (n.1.length : Int)) then (
 (iter (fun x7 => qgB n ports vin vat x7.1 x7.2.1 x7.2.2.1 x7.2.2.2.1 x7.2.2.2.2.1 x7.2.2.2.2.2.1 x7.2.2.2.2.2.2.1 x7.2.2.2.2.2.2.2) (0, v, v2, v3, v4, x, x2, x3)).bind fun s2 =>
 s2.elim (fun s3 =>
 (qg8 (n.1, (n.2.1, (n.2.2.1, (n.2.2.2.1, (n.2.2.2.2.1, n.2.2.2.2.2))))) rates vat).bind fun r =>
 bif !r.2 then (
 some (.inr (.inr (false, vin, s3.2.2.2.2.1, s3.2.2.2.2.2.1, s3.2.2.2.2.2.2))))
 else (
 gd (fits (s3.2.2.2.2.2.2.length + 1) 16) <|
 gd (inB r.1.1 rates.length) <|
 (qnF (rates.getD r.1.1.toNat 0)).bind fun r2 =>
 (qks (n.1, (n.2.1, (n.2.2.1, (n.2.2.2.1, (n.2.2.2.2.1, n.2.2.2.2.2))))) (r.1.1, r.1.2)).bind fun r3 =>
 some (.inl (r3.2, wi64 (k + 1), s3.1, s3.2.1, s3.2.2.1, s3.2.2.2.1, s3.2.2.2.2.1, min s3.2.2.2.2.2.1 r2, s3.2.2.2.2.2.2 ++ [(r.1.1, r.1.2)]))))
 (fun s4 =>
 some (.inr (.inr (s4.1, s4.2.1, s4.2.2.1, s4.2.2.2.1, s4.2.2.2.2)))))
 else (
 some (.inr (.inl (v, v2, v3, v4, x, x2, x3))))
def qg9 (n : yB0) (rates : List Int) (ports : List Int) (vin : Int) : Option (Int × Int × Int × Bool × List (Int × Bool)) :=
 gd (inB vin ports.length) <|
 gd (inB vin n.2.2.1.length) <|
 (iter (fun x8 => qgC n rates ports vin x8.1 x8.2.1 x8.2.2.1 x8.2.2.2.1 x8.2.2.2.2.1 x8.2.2.2.2.2.1 x8.2.2.2.2.2.2.1 x8.2.2.2.2.2.2.2.1 x8.2.2.2.2.2.2.2.2) (((n.2.2.1.getD vin.toNat ([], (0, 0))).2).1, 0, 0, 0, [], 0, 0, ports.getD vin.toNat 0, [])).bind fun s5 =>
 s5.elim (fun s6 =>
 some (vin, s6.2.2.2.2.1, s6.2.2.2.2.2.1, false, s6.2.2.2.2.2.2))
 (fun s7 =>
 some (s7.2.1, s7.2.2.1, s7.2.2.2.1, s7.1, s7.2.2.2.2))
def qjR : Fun :=
 ⟨155, 4, 2,
 ⟨[(0, dd tT0), (1, dd (.sl I6)), (2, dd (.sl I6)), (3, ii)], [], []⟩,
 ⟨[(0, .agg [.data I6, .data I6, .own 0, .data I6]), (1, bb)], [], [(0, .arr 114 (.pair I6 (.bool)))]⟩,
 fun x => qg9 x.1 x.2.1 x.2.2.1 x.2.2.2⟩
theorem qpt : FO qjR := fi [] [qjP, qjQ, qir] 101 [] ((nn (nn (nn (mm (nn (mm (.mk [] (some (⟨[(1, kk), (2, kk), (4, pt 80 0), (8, pt 144 0), (10, pt 176 0), (11, ii), (12, ii)], v14_, a51_⟩, [⟨.x 0, ⟨[(8, pt 144 0), (10, pt 176 0)], [(144, 26, [.data I6, .data I6, .data (.sl (.pair I6 (.bool))), .data I6]), (176, 26, [.keep, .data I6, .own 2873, .data I6])], a51_⟩⟩, ⟨.r, ⟨[(8, pt 144 0), (9, bb)], [(144, 26, [.data I6, .data I6, .own 2361, .data I6])], [(2361, .arr 114 (.pair I6 (.bool)))]⟩⟩])) (nn (mm (mm (mm (nn (mm (.mk [] (some (⟨[(1, kk), (2, kk), (4, pt 80 0), (8, pt 144 0), (10, pt 176 0), (11, kk), (12, kk), (13, ii)], v14_, a51_⟩, [⟨.x 2, ⟨[(1, kk), (2, kk), (4, pt 80 0), (8, pt 144 0), (10, pt 176 0), (11, kk), (12, kk)], v14_, a51_⟩⟩, ⟨.r, ⟨[(8, pt 144 0), (9, bb)], [(144, 26, [.data I6, .data I6, .own 2873, .data I6])], a51_⟩⟩])) (nn (mm (mm (mm (.mk [.join [⟨.n, ⟨[(1, kk), (2, kk), (4, pt 80 0), (8, pt 144 0), (10, pt 176 0), (11, kk), (12, kk), (13, kk), (55, bb)], [(80, 50, (kp 6)), (144, 26, (kp 4)), (176, 26, [.keep, .keep, .own 2873, .keep])], a51_⟩⟩]] none .nil .nil) .nil) .nil) .nil)) .nil) .nil)) .nil) .nil) .nil)) .nil) .nil)) .nil))))) func155 ⟨⟨qpr, qps, qmD, trivial⟩, trivial⟩
def qjS (r2 : Int × Int × Int × Bool × List (Int × Bool)) (k : Int) (rates3 : List Int) (ports3 : List Int) (out3 : List yB7) (x : List (Int × Bool)) : Option ((Int × List Int × List Int × (List yB7) × List (Int × Bool)) ⊕ (List Int × List Int × (List yB7) × List (Int × Bool))) :=
 bif decide (k < (x.length : Int)) then (
 gd (inB k x.length) <|
 Option.bind (α := List Int × List Int × (List yB7) × List (Int × Bool)) (
 bif (x.getD k.toNat (0, false)).2 then (
 gd (inB ((x.getD k.toNat (0, false)).1) rates3.length) <|
 gd (inB ((x.getD k.toNat (0, false)).1) rates3.length) <|
 some (rates3.set (((x.getD k.toNat (0, false)).1).toNat) (wi64 ((rates3.getD (((x.getD k.toNat (0, false)).1).toNat) 0) + r2.2.2.1)), ports3, out3, x))
 else (
 gd (inB ((x.getD k.toNat (0, false)).1) rates3.length) <|
 gd (inB ((x.getD k.toNat (0, false)).1) rates3.length) <|
 some (rates3.set (((x.getD k.toNat (0, false)).1).toNat) (wi64 ((rates3.getD (((x.getD k.toNat (0, false)).1).toNat) 0) - r2.2.2.1)), ports3, out3, x))) fun s2 =>
 some (.inl (wi64 (k + 1), s2.1, s2.2.1, s2.2.2.1, s2.2.2.2)))
 else (
 some (.inr (rates3, ports3, out3, x)))
def qgD (n : yB0) (i : Int) (rates2 : List Int) (ports2 : List Int) (out2 : List yB7) : Option ((List Int × List Int × List yB7) ⊕ ((List Int × List Int × List yB7) ⊕ ((List yB7) × Int))) :=
 gd (inB i ports2.length) <|
 bif decide (0 < ports2.getD i.toNat 0) then (
 (qg9 (n.1, (n.2.1, (n.2.2.1, (n.2.2.2.1, (n.2.2.2.2.1, n.2.2.2.2.2))))) rates2 ports2 i).bind fun r2 =>
 Option.bind (α := Bool × List Int × List Int × (List yB7) × List (Int × Bool)) (
 bif !r2.2.2.2.1 then (
 some (true, rates2, ports2, out2, r2.2.2.2.2))
 else (
 bif decide ((out2.length : Int) = 64) then (
 some (true, rates2, ports2, out2, r2.2.2.2.2))
 else (
 some (decide (32 < (r2.2.2.2.2.length : Int)), rates2, ports2, out2, r2.2.2.2.2)))) fun s =>
 bif s.1 then (
 some (.inr (.inr ([], 23))))
 else (
 gd (inB r2.1 s.2.2.1.length) <|
 gd (inB r2.1 s.2.2.1.length) <|
 gd (inB r2.2.1 (s.2.2.1.set r2.1.toNat (wi64 ((s.2.2.1.getD r2.1.toNat 0) - r2.2.2.1))).length) <|
 gd (inB r2.2.1 (s.2.2.1.set r2.1.toNat (wi64 ((s.2.2.1.getD r2.1.toNat 0) - r2.2.2.1))).length) <|
 (iter (fun x2 => qjS r2 x2.1 x2.2.1 x2.2.2.1 x2.2.2.2.1 x2.2.2.2.2) (0, s.2.1, (s.2.2.1.set r2.1.toNat (wi64 ((s.2.2.1.getD r2.1.toNat 0) - r2.2.2.1))).set r2.2.1.toNat (wi64 (((s.2.2.1.set r2.1.toNat (wi64 ((s.2.2.1.getD r2.1.toNat 0) - r2.2.2.1))).getD r2.2.1.toNat 0) + r2.2.2.1)), s.2.2.2.1, s.2.2.2.2)).bind fun s3 =>
 gd (fits (s3.2.2.1.length + 1) 48) <|
 some (.inl (s3.1, s3.2.1, s3.2.2.1 ++ [(r2.1, (r2.2.1, (s3.2.2.2, r2.2.2.1)))]))))
 else (
 some (.inr (.inl (rates2, ports2, out2))))
def qgE (n : yB0) (i : Int) (rates : List Int) (ports : List Int) (out : List yB7) : Option ((Int × List Int × List Int × List yB7) ⊕ ((List yB7) ⊕ ((List yB7) × Int))) :=
 bif decide (i < (ports.length : Int)) then (
 (iter (fun x3 => qgD n i x3.1 x3.2.1 x3.2.2) (rates, ports, out)).bind fun s4 =>
 s4.elim (fun s5 =>
 some (.inl (wi64 (i + 1), s5.1, s5.2.1, s5.2.2)))
 (fun s6 =>
 some (.inr (.inr (s6.1, s6.2)))))
 else (
 some (.inr (.inl out)))
def qha (n : yB0) (p : yB6) : Option ((List yB7) × Int) :=
 (qea (n.1, (n.2.1, (n.2.2.1, (n.2.2.2.1, (n.2.2.2.2.1, n.2.2.2.2.2))))) (p.1, (p.2.1, p.2.2))).bind fun r =>
 bif !decide (r = 0) then (
 some ([], r))
 else (
 gd (fits (0 + p.1.length) 8) <|
 gd (fits (0 + p.2.1.length) 8) <|
 (iter (fun x4 => qgE n x4.1 x4.2.1 x4.2.2.1 x4.2.2.2) (0, ([] ++ p.1), ([] ++ p.2.1), [])).bind fun s7 =>
 s7.elim (fun s8 =>
 some (s8, 0))
 (fun s9 =>
 some (s9.1, s9.2)))
def qjT : Fun :=
 ⟨100, 2, 2,
 ⟨r48_, [], []⟩,
 ⟨[(0, dd (.sl tT4)), (1, ii)], [], []⟩,
 fun x => qha x.1 x.2⟩
theorem qpu : FO qjT := fi [21, 25] [qdJ, qjR] 128 [] ((nn (nn (nn (nn (nn (mm (nn (mm (.mk [] (some (⟨[(2, pt 48 0), (7, ow 400), (8, ow 464), (9, ow 171), (10, ii)], [(48, 50, (kp 6))], a76_⟩, [⟨.x 0, ⟨[(9, ow 171)], [], [(171, .arr 26 tT4)]⟩⟩, ⟨.r, ⟨[(4, dd (.sl tT4)), (5, ii)], [], []⟩⟩])) (nn (mm (mm (mm (.mk [] (some (⟨r103_, [(48, 50, (kp 6))], a76_⟩, [⟨.x 2, ⟨r103_, [(48, 50, (kp 6))], a76_⟩⟩, ⟨.r, ⟨[(4, dd (.sl tT4)), (5, ii)], [], []⟩⟩])) (nn (mm (nn (mm (mm (.mk [.join [⟨.n, ⟨[(2, pt 48 0), (7, ow 400), (8, ow 464), (9, ow 171), (10, kk), (11, pt 192 0), (60, bb)], v42_, a24_⟩⟩]] none .nil .nil) .nil) (nn (nn (mm (nn (mm (.mk [] (some (⟨[(2, pt 48 0), (7, ow 400), (8, ow 464), (9, ow 171), (10, kk), (11, pt 192 0), (13, ii)], v42_, a24_⟩, [⟨.x 4, ⟨[(2, pt 48 0), (7, ow 400), (8, ow 464), (9, ow 171), (10, kk), (11, pt 192 0)], v42_, a24_⟩⟩])) (nn (mm (mm (nn (nn (.mk [.join [⟨.n, ⟨[(2, pt 48 0), (7, ow 400), (8, ow 464), (9, ow 171), (10, kk), (11, pt 192 0), (13, kk)], v42_, a24_⟩⟩]] none .nil .nil))) .nil) .nil)) .nil) .nil)) (.mk [.fz [11]] none .nil .nil)))))) .nil)) .nil) .nil) .nil) .nil)) .nil) .nil)) .nil))))))) func100 ⟨⟨qff, qpt, trivial⟩, trivial⟩
end
end Go.Proofs.YtnkfkceghbkkkaaGreat
