/- Functions, evaluated. No condition. -/
import Derived.Test.YtnkfkceghbkkkaaGreatProg
import Derived.Test.YtnkfkceghbkkkaaGreatSqLI
import Derived.Test.YtnkfkceghbkkkaaGreatIn4
namespace Go.Proofs.YtnkfkceghbkkkaaGreat
open Go Go.Sq
open Go.Proofs.Tryz
noncomputable section
abbrev I6 : Ty := .int .i64
abbrev dd (τ : Ty) : Sh := .one (.data τ)
abbrev pt (b o : Nat) : Sh := .one (.ptr b o)
abbrev ow (b : Nat) : Sh := .one (.own b)
abbrev FO (e : Fun) : Prop := FunOk Tryz.prog e
abbrev yT0 : Type := List UInt8 × Int × Int × Int × Int × Int × List (Int × Int × Int)
abbrev tT0 : Ty := .pair (.sl (.pair (.str) (.pair I6 (.pair I6 (.pair I6 (.pair I6 (.pair I6 (.sl (.pair I6 (.pair I6 I6)))))))))) (.pair (.sl (.pair (.str) (.pair I6 I6))) (.pair (.sl (.pair (.str) (.pair I6 (.pair I6 (.pair I6 I6))))) (.pair I6 I6)))
abbrev tT1 : Ty := .pair I6 (.pair I6 (.pair (.bool) (.bool)))
abbrev tT2 : Ty := .pair (.str) (.pair I6 (.pair I6 (.pair I6 I6)))
abbrev tT3 : Ty := .pair I6 (.pair I6 (.pair I6 (.pair I6 (.pair I6 (.sl I6)))))
abbrev tT4 : Ty := .pair I6 (.pair I6 (.pair I6 (.pair I6 (.pair I6 (.sl (.pair I6 (.pair I6 I6)))))))
abbrev tT5 : Ty := .pair I6 (.pair I6 (.pair (.sl (.pair I6 (.bool))) I6))
abbrev tT6 : Ty := .pair (.sl I6) (.pair (.sl I6) (.sl (.bool)))
abbrev yB0 : Type := List (List UInt8) × List yT0 × List (List UInt8 × Int × Int) × List (List UInt8 × Int × Int × Int × Int) × Int × Int
abbrev yB1 : Type := List UInt8 × Int × Int × Int × Int
abbrev yB2 : Type := Int × Int × Int × Int × Int × List Int
abbrev yB3 : Type := List (Int × Int × Bool × Bool)
abbrev yB4 : Type := List (Int × Int × Bool × Bool) × List Int × List Int × List Bool
abbrev yB5 : Type := List Int × List Int × List Bool
abbrev yB6 : Type := Int × Int × Int × Int × Int × List (Int × Bool) × Int
abbrev yB7 : Type := Int × Int × List (Int × Bool) × Int
abbrev yB8 : Type := List UInt8 × Int × Int × Int × Int × Int × List (Int × Int × Int)
abbrev yB9 : Type := Int × yB3 × List Int × List Int × List Bool
abbrev yB10 : Type := List (List UInt8) × List (List UInt8) × List (List UInt8) × List (List UInt8)
abbrev yB11 : Type := Int × List Int × yB6 × List UInt8 × Int × Int
abbrev yB12 : Type := yB4 × List yB2 × List yB1 × Int
abbrev fd (n : String) (t o : Nat) (p : String) (b : Nat) : Field := { name := n, type := t, offset := o, embedded := false, tag := "", pkgPath := p, byteOffset := b }
def ti3 : TI := ⟨3, .int .i64, 1, 8, .int .i64 0, .int .i64, false⟩
theorem tk3 : ti3.ok prog := ⟨underlying3, by kernel_rfl, fun h => by cases h⟩
def ti4 : TI := ⟨4, .bool, 1, 1, .bool false, .bool, false⟩
theorem tk4 : ti4.ok prog := ⟨underlying4, by kernel_rfl, fun h => by cases h⟩
def ti5 : TI := ⟨5, .int .u8, 1, 1, .int .u8 0, .int .u8, false⟩
theorem tk5 : ti5.ok prog := ⟨underlying5, by kernel_rfl, fun h => by cases h⟩
def ti9 : TI := ⟨9, .string, 1, 16, .string ⟨#[]⟩, .str, false⟩
theorem tk9 : ti9.ok prog := ⟨underlying9, by kernel_rfl, fun h => by cases h⟩
def ti22 : TI := ⟨22, .slice 5, 1, 24, .slice none 0 0, .sl (.int .u8), false⟩
theorem tk22 : ti22.ok prog := ⟨underlying22, by kernel_rfl, fun h => by cases h⟩
def ti23 : TI := ⟨23, .slice 3, 1, 24, .slice none 0 0, .sl I6, false⟩
theorem tk23 : ti23.ok prog := ⟨underlying23, by kernel_rfl, fun h => by cases h⟩
def ti24 : TI := ⟨24, .slice 114, 1, 24, .slice none 0 0, .sl (.pair I6 (.bool)), false⟩
theorem tk24 : ti24.ok prog := ⟨underlying24, by kernel_rfl, fun h => by cases h⟩
def ti26 : TI := ⟨26, .struct #[fd "In" 3 0 "" 0, fd "Out" 3 1 "" 8, fd "Hops" 24 2 "" 16, fd "Rate" 3 3 "" 40], 4, 48, .agg #[.int .i64 0, .int .i64 0, .slice none 0 0, .int .i64 0], .pair I6 (.pair I6 (.pair (.sl (.pair I6 (.bool))) I6)), true⟩
theorem tk26 : ti26.ok prog := ⟨underlying26, by kernel_rfl, fun _ => ⟨eqGuardType26, stoodInHeld26⟩⟩
def ti28 : TI := ⟨28, .struct #[fd "Kind" 3 0 "" 0, fd "Index" 3 1 "" 8, fd "Value" 3 2 "" 16, fd "Path" 26 3 "" 24], 7, 72, .agg #[.int .i64 0, .int .i64 0, .int .i64 0, .int .i64 0, .int .i64 0, .slice none 0 0, .int .i64 0], .pair I6 (.pair I6 (.pair I6 tT5)), true⟩
theorem tk28 : ti28.ok prog := ⟨underlying28, by kernel_rfl, fun _ => ⟨eqGuardType28, stoodInHeld28⟩⟩
def ti30 : TI := ⟨30, .struct #[fd "Shipper" 9 0 "" 0, fd "Kind" 3 1 "" 16, fd "Volume" 3 2 "" 24], 3, 32, .agg #[.string ⟨#[]⟩, .int .i64 0, .int .i64 0], .pair (.str) (.pair I6 I6), true⟩
theorem tk30 : ti30.ok prog := ⟨underlying30, by kernel_rfl, fun _ => ⟨eqGuardType30, stoodInHeld30⟩⟩
def ti32 : TI := ⟨32, .struct #[fd "Kind" 3 0 "" 0, fd "Values" 23 1 "" 8, fd "Step" 28 2 "" 32, fd "Entry" 30 9 "" 104], 12, 136, .agg #[.int .i64 0, .slice none 0 0, .int .i64 0, .int .i64 0, .int .i64 0, .int .i64 0, .int .i64 0, .slice none 0 0, .int .i64 0, .string ⟨#[]⟩, .int .i64 0, .int .i64 0], .pair I6 (.pair (.sl I6) (.pair (.pair I6 (.pair I6 (.pair I6 tT5))) (.pair (.str) (.pair I6 I6)))), true⟩
theorem tk32 : ti32.ok prog := ⟨underlying32, by kernel_rfl, fun _ => ⟨eqGuardType32, stoodInHeld32⟩⟩
def ti45 : TI := ⟨45, .slice 9, 1, 24, .slice none 0 0, .sl (.str), false⟩
theorem tk45 : ti45.ok prog := ⟨underlying45, by kernel_rfl, fun h => by cases h⟩
def ti46 : TI := ⟨46, .slice 106, 1, 24, .slice none 0 0, .sl (.pair (.str) tT4), false⟩
theorem tk46 : ti46.ok prog := ⟨underlying46, by kernel_rfl, fun h => by cases h⟩
def ti47 : TI := ⟨47, .slice 108, 1, 24, .slice none 0 0, .sl (.pair (.str) (.pair I6 I6)), false⟩
theorem tk47 : ti47.ok prog := ⟨underlying47, by kernel_rfl, fun h => by cases h⟩
def ti48 : TI := ⟨48, .slice 132, 1, 24, .slice none 0 0, .sl tT2, false⟩
theorem tk48 : ti48.ok prog := ⟨underlying48, by kernel_rfl, fun h => by cases h⟩
def ti50 : TI := ⟨50, .struct #[fd "Nodes" 45 0 "" 0, fd "Segments" 46 1 "" 24, fd "Ports" 47 2 "" 48, fd "Stations" 48 3 "" 72, fd "Vapour" 3 4 "" 96, fd "Settle" 3 5 "" 104], 6, 112, .agg #[.slice none 0 0, .slice none 0 0, .slice none 0 0, .slice none 0 0, .int .i64 0, .int .i64 0], .pair (.sl (.str)) tT0, true⟩
theorem tk50 : ti50.ok prog := ⟨underlying50, by kernel_rfl, fun _ => ⟨eqGuardType50, stoodInHeld50⟩⟩
def ti52 : TI := ⟨52, .slice 152, 1, 24, .slice none 0 0, .sl tT1, false⟩
theorem tk52 : ti52.ok prog := ⟨underlying52, by kernel_rfl, fun h => by cases h⟩
def ti53 : TI := ⟨53, .slice 4, 1, 24, .slice none 0 0, .sl (.bool), false⟩
theorem tk53 : ti53.ok prog := ⟨underlying53, by kernel_rfl, fun h => by cases h⟩
def ti55 : TI := ⟨55, .struct #[fd "Rates" 23 0 "" 0, fd "Ports" 23 1 "" 24, fd "Pumps" 53 2 "" 48], 3, 72, .agg #[.slice none 0 0, .slice none 0 0, .slice none 0 0], .pair (.sl I6) (.pair (.sl I6) (.sl (.bool))), true⟩
theorem tk55 : ti55.ok prog := ⟨underlying55, by kernel_rfl, fun _ => ⟨eqGuardType55, stoodInHeld55⟩⟩
def ti57 : TI := ⟨57, .struct #[fd "Valves" 52 0 "" 0, fd "Plan" 55 1 "" 24], 4, 96, .agg #[.slice none 0 0, .slice none 0 0, .slice none 0 0, .slice none 0 0], .pair (.sl tT1) tT6, true⟩
theorem tk57 : ti57.ok prog := ⟨underlying57, by kernel_rfl, fun _ => ⟨eqGuardType57, stoodInHeld57⟩⟩
def ti58 : TI := ⟨58, .slice 97, 1, 24, .slice none 0 0, .sl tT3, false⟩
theorem tk58 : ti58.ok prog := ⟨underlying58, by kernel_rfl, fun h => by cases h⟩
def ti59 : TI := ⟨59, .slice 110, 1, 24, .slice none 0 0, .sl tT2, false⟩
theorem tk59 : ti59.ok prog := ⟨underlying59, by kernel_rfl, fun h => by cases h⟩
def ti61 : TI := ⟨61, .struct #[fd "Desk" 57 0 "" 0, fd "Stations" 58 4 "" 96, fd "Accounts" 59 5 "" 120, fd "Count" 3 6 "" 144], 7, 152, .agg #[.slice none 0 0, .slice none 0 0, .slice none 0 0, .slice none 0 0, .slice none 0 0, .slice none 0 0, .int .i64 0], .pair (.pair (.sl tT1) tT6) (.pair (.sl tT3) (.pair (.sl tT2) I6)), true⟩
theorem tk61 : ti61.ok prog := ⟨underlying61, by kernel_rfl, fun _ => ⟨eqGuardType61, stoodInHeld61⟩⟩
def ti65 : TI := ⟨65, .struct #[fd "Bytes" 22 0 "" 0, fd "Pending" 22 1 "" 24], 2, 48, .agg #[.slice none 0 0, .slice none 0 0], .pair (.sl (.int .u8)) (.sl (.int .u8)), true⟩
theorem tk65 : ti65.ok prog := ⟨underlying65, by kernel_rfl, fun _ => ⟨eqGuardType65, stoodInHeld65⟩⟩
def ti82 : TI := ⟨82, .slice 30, 1, 24, .slice none 0 0, .sl (.pair (.str) (.pair I6 I6)), false⟩
theorem tk82 : ti82.ok prog := ⟨underlying82, by kernel_rfl, fun h => by cases h⟩
def ti97 : TI := ⟨97, .struct #[fd "Station" 3 0 "" 0, fd "Epoch" 3 1 "" 8, fd "Seq" 3 2 "" 16, fd "Time" 3 3 "" 24, fd "Kind" 3 4 "" 32, fd "Values" 23 5 "" 40], 6, 64, .agg #[.int .i64 0, .int .i64 0, .int .i64 0, .int .i64 0, .int .i64 0, .slice none 0 0], .pair I6 (.pair I6 (.pair I6 (.pair I6 (.pair I6 (.sl I6))))), true⟩
theorem tk97 : ti97.ok prog := ⟨underlying97, by kernel_rfl, fun _ => ⟨eqGuardType97, stoodInHeld97⟩⟩
def ti103 : TI := ⟨103, .struct #[fd "At" 3 0 "" 0, fd "Height" 3 1 "" 8, fd "Limit" 3 2 "" 16], 3, 24, .agg #[.int .i64 0, .int .i64 0, .int .i64 0], .pair I6 (.pair I6 I6), true⟩
theorem tk103 : ti103.ok prog := ⟨underlying103, by kernel_rfl, fun _ => ⟨eqGuardType103, stoodInHeld103⟩⟩
def ti104 : TI := ⟨104, .slice 103, 1, 24, .slice none 0 0, .sl (.pair I6 (.pair I6 I6)), false⟩
theorem tk104 : ti104.ok prog := ⟨underlying104, by kernel_rfl, fun h => by cases h⟩
def ti106 : TI := ⟨106, .struct #[fd "Name" 9 0 "" 0, fd "From" 3 1 "" 16, fd "To" 3 2 "" 24, fd "Capacity" 3 3 "" 32, fd "Resist" 3 4 "" 40, fd "Wave" 3 5 "" 48, fd "Points" 104 6 "" 56], 7, 80, .agg #[.string ⟨#[]⟩, .int .i64 0, .int .i64 0, .int .i64 0, .int .i64 0, .int .i64 0, .slice none 0 0], .pair (.str) tT4, true⟩
theorem tk106 : ti106.ok prog := ⟨underlying106, by kernel_rfl, fun _ => ⟨eqGuardType106, stoodInHeld106⟩⟩
def ti108 : TI := ⟨108, .struct #[fd "Name" 9 0 "" 0, fd "Node" 3 1 "" 16, fd "Pressure" 3 2 "" 24], 3, 32, .agg #[.string ⟨#[]⟩, .int .i64 0, .int .i64 0], .pair (.str) (.pair I6 I6), true⟩
theorem tk108 : ti108.ok prog := ⟨underlying108, by kernel_rfl, fun _ => ⟨eqGuardType108, stoodInHeld108⟩⟩
def ti110 : TI := ⟨110, .struct #[fd "Shipper" 9 0 "" 0, fd "Received" 3 1 "" 16, fd "Delivered" 3 2 "" 24, fd "Slop" 3 3 "" 32, fd "Shared" 3 4 "" 40], 5, 48, .agg #[.string ⟨#[]⟩, .int .i64 0, .int .i64 0, .int .i64 0, .int .i64 0], .pair (.str) (.pair I6 (.pair I6 (.pair I6 I6))), true⟩
theorem tk110 : ti110.ok prog := ⟨underlying110, by kernel_rfl, fun _ => ⟨eqGuardType110, stoodInHeld110⟩⟩
def ti114 : TI := ⟨114, .struct #[fd "Segment" 3 0 "" 0, fd "Back" 4 1 "" 8], 2, 16, .agg #[.int .i64 0, .bool false], .pair I6 (.bool), true⟩
theorem tk114 : ti114.ok prog := ⟨underlying114, by kernel_rfl, fun _ => ⟨eqGuardType114, stoodInHeld114⟩⟩
def ti118 : TI := ⟨118, .struct #[fd "b" 22 0 "batchline/centre" 0, fd "at" 3 1 "batchline/centre" 24, fd "failed" 4 2 "batchline/centre" 32], 3, 40, .agg #[.slice none 0 0, .int .i64 0, .bool false], .pair (.sl (.int .u8)) (.pair I6 (.bool)), true⟩
theorem tk118 : ti118.ok prog := ⟨underlying118, by kernel_rfl, fun _ => ⟨eqGuardType118, stoodInHeld118⟩⟩
def ti128 : TI := ⟨128, .struct #[fd "L" 23 0 "" 0, fd "At" 3 1 "" 24], 2, 32, .agg #[.slice none 0 0, .int .i64 0], .pair (.sl I6) I6, true⟩
theorem tk128 : ti128.ok prog := ⟨underlying128, by kernel_rfl, fun _ => ⟨eqGuardType128, stoodInHeld128⟩⟩
def ti132 : TI := ⟨132, .struct #[fd "Name" 9 0 "" 0, fd "Node" 3 1 "" 16, fd "Head" 3 2 "" 24, fd "Fall" 3 3 "" 32, fd "Suction" 3 4 "" 40], 5, 48, .agg #[.string ⟨#[]⟩, .int .i64 0, .int .i64 0, .int .i64 0, .int .i64 0], .pair (.str) (.pair I6 (.pair I6 (.pair I6 I6))), true⟩
theorem tk132 : ti132.ok prog := ⟨underlying132, by kernel_rfl, fun _ => ⟨eqGuardType132, stoodInHeld132⟩⟩
def ti138 : TI := ⟨138, .slice 22, 1, 24, .slice none 0 0, .sl (.sl (.int .u8)), false⟩
theorem tk138 : ti138.ok prog := ⟨underlying138, by kernel_rfl, fun h => by cases h⟩
def ti148 : TI := ⟨148, .struct #[fd "Segments" 53 0 "" 0, fd "Ports" 53 1 "" 24], 2, 48, .agg #[.slice none 0 0, .slice none 0 0], .pair (.sl (.bool)) (.sl (.bool)), true⟩
theorem tk148 : ti148.ok prog := ⟨underlying148, by kernel_rfl, fun _ => ⟨eqGuardType148, stoodInHeld148⟩⟩
def ti152 : TI := ⟨152, .struct #[fd "Travel" 3 0 "" 0, fd "Open" 3 1 "" 8, fd "Want" 4 2 "" 16, fd "Stuck" 4 3 "" 17], 4, 24, .agg #[.int .i64 0, .int .i64 0, .bool false, .bool false], .pair I6 (.pair I6 (.pair (.bool) (.bool))), true⟩
theorem tk152 : ti152.ok prog := ⟨underlying152, by kernel_rfl, fun _ => ⟨eqGuardType152, stoodInHeld152⟩⟩
def ti155 : TI := ⟨155, .func #[50, 158, 32] #[34] false, 1, 8, .nilFunc, .fnl [76, 77, 78], false⟩
theorem tk155 : ti155.ok prog := ⟨underlying155, by kernel_rfl, fun h => by cases h⟩
def ti156 : TI := ⟨156, .map 3 155, 1, 8, .map none, .unit, false⟩
theorem tk156 : ti156.ok prog := ⟨underlying156, by kernel_rfl, fun h => by cases h⟩
def ti167 : TI := ⟨167, .int .u64, 1, 8, .int .u64 0, .int .u64, false⟩
theorem tk167 : ti167.ok prog := ⟨underlying167, by kernel_rfl, fun h => by cases h⟩
def ti168 : TI := ⟨168, .int .u64, 1, 8, .int .u64 0, .int .u64, false⟩
theorem tk168 : ti168.ok prog := ⟨underlying168, by kernel_rfl, fun h => by cases h⟩
def ti174 : TI := ⟨174, .slice 26, 1, 24, .slice none 0 0, .sl tT5, false⟩
theorem tk174 : ti174.ok prog := ⟨underlying174, by kernel_rfl, fun h => by cases h⟩
def ti183 : TI := ⟨183, .array 4 45, 4, 96, .agg #[.slice none 0 0, .slice none 0 0, .slice none 0 0, .slice none 0 0], .pair (.sl (.str)) (.pair (.sl (.str)) (.pair (.sl (.str)) (.sl (.str)))), false⟩
theorem tk183 : ti183.ok prog := ⟨underlying183, by kernel_rfl, fun h => by cases h⟩
def ti222 : TI := ⟨222, .func #[3] #[4] false, 1, 8, .nilFunc, .clo 245 (.pair (.sl tT1) tT6), false⟩
theorem tk222 : ti222.ok prog := ⟨underlying222, by kernel_rfl, fun h => by cases h⟩
def ti227 : TI := ⟨227, .func #[50, 228, 28] #[34] false, 1, 8, .nilFunc, .unit, false⟩
theorem tk227 : ti227.ok prog := ⟨underlying227, by kernel_rfl, fun h => by cases h⟩
def ti245 : TI := ⟨245, .int .u32, 1, 4, .int .u32 0, .int .u32, false⟩
theorem tk245 : ti245.ok prog := ⟨underlying245, by kernel_rfl, fun h => by cases h⟩
def ti257 : TI := ⟨257, .array 7 227, 7, 56, .agg #[.nilFunc, .nilFunc, .nilFunc, .nilFunc, .nilFunc, .nilFunc, .nilFunc], .unit, false⟩
theorem tk257 : ti257.ok prog := ⟨underlying257, by kernel_rfl, fun h => by cases h⟩
def ti266 : TI := ⟨266, .array 24 3, 24, 192, .agg #[.int .i64 0, .int .i64 0, .int .i64 0, .int .i64 0, .int .i64 0, .int .i64 0, .int .i64 0, .int .i64 0, .int .i64 0, .int .i64 0, .int .i64 0, .int .i64 0, .int .i64 0, .int .i64 0, .int .i64 0, .int .i64 0, .int .i64 0, .int .i64 0, .int .i64 0, .int .i64 0, .int .i64 0, .int .i64 0, .int .i64 0, .int .i64 0], .arr 24 I6, true⟩
theorem tk266 : ti266.ok prog := ⟨underlying266, by kernel_rfl, fun _ => ⟨by kernel_rfl, by kernel_rfl⟩⟩
def ti268 : TI := ⟨268, .struct #[fd "come" 266 0 "batchline/flow" 0, fd "leave" 266 24 "batchline/flow" 192], 48, 384, .agg #[.int .i64 0, .int .i64 0, .int .i64 0, .int .i64 0, .int .i64 0, .int .i64 0, .int .i64 0, .int .i64 0, .int .i64 0, .int .i64 0, .int .i64 0, .int .i64 0, .int .i64 0, .int .i64 0, .int .i64 0, .int .i64 0, .int .i64 0, .int .i64 0, .int .i64 0, .int .i64 0, .int .i64 0, .int .i64 0, .int .i64 0, .int .i64 0, .int .i64 0, .int .i64 0, .int .i64 0, .int .i64 0, .int .i64 0, .int .i64 0, .int .i64 0, .int .i64 0, .int .i64 0, .int .i64 0, .int .i64 0, .int .i64 0, .int .i64 0, .int .i64 0, .int .i64 0, .int .i64 0, .int .i64 0, .int .i64 0, .int .i64 0, .int .i64 0, .int .i64 0, .int .i64 0, .int .i64 0, .int .i64 0], .pair (.arr 24 I6) (.arr 24 I6), true⟩
theorem tk268 : ti268.ok prog := ⟨underlying268, by kernel_rfl, fun _ => ⟨eqGuardType268, stoodInHeld268⟩⟩
def types : List TI := [ti3, ti4, ti5, ti9, ti22, ti23, ti24, ti26, ti28, ti30, ti32, ti45, ti46, ti47, ti48, ti50, ti52, ti53, ti55, ti57, ti58, ti59, ti61, ti65, ti82, ti97, ti103, ti104, ti106, ti108, ti110, ti114, ti118, ti128, ti132, ti138, ti148, ti152, ti155, ti156, ti167, ti168, ti174, ti183, ti222, ti227, ti245, ti257, ti266, ti268]
theorem qxC : Tys prog types := ⟨tk3, tk4, tk5, tk9, tk22, tk23, tk24, tk26, tk28, tk30, tk32, tk45, tk46, tk47, tk48, tk50, tk52, tk53, tk55, tk57, tk58, tk59, tk61, tk65, tk82, tk97, tk103, tk104, tk106, tk108, tk110, tk114, tk118, tk128, tk132, tk138, tk148, tk152, tk155, tk156, tk167, tk168, tk174, tk183, tk222, tk227, tk245, tk257, tk266, tk268, trivial⟩
def xt251 : Ext := qyv 251
theorem xk251 : ExtOk prog xt251 := qv8 func251 (by kernel_rfl) (by kernel_rfl) (by kernel_rfl) (by kernel_rfl)
theorem mx : prog.follows .mixedOrders = true := by kernel_rfl
abbrev kk : Sh := .one .keep
abbrev ii : Sh := .one (.data (.int .i64))
abbrev bb : Sh := .one (.data .bool)
abbrev ss : Sh := .one (.data .str)
abbrev nn (r : Plan) : Plan := .mk [] none .nil r
abbrev mm (l r : Plan) : Plan := .mk [] none l r
abbrev kp (n : Nat) : List Sh1 := List.replicate n .keep
theorem fi {e : Fun} {fn : Func} {c : Code} (ow : List Nat) (fs : List Fun) (N : Nat) (xs : List Ext) (p : Plan) (hf : Tryz.prog.funcs[e.f]? = some fn) (hfs : CxOk Tryz.prog ⟨types, ow, fs, N, xs⟩) (hb : fn.body = some c := by exact rfl) (hname : (fn.name == "runtime.NumGoroutine") = false := by kernel_rfl) (hN : fn.ntmps = N := by exact rfl) (hnp : Nat.ble e.np N = true := by exact rfl) (hnr : fn.results.toList.length = e.nr := by exact rfl) (hregs : e.ji.regs.all (fun q => Nat.blt q.1 e.np) = true := by exact rfl) (h : ∀ x, e.tw x = evFun ⟨types, ow, fs, N, xs⟩ e.ji e.jo fn.results.toList c p x := by intro x; kernel_rfl) : FunOk Tryz.prog e :=
 FunOk.intro (C := ⟨types, ow, fs, N, xs⟩) hf hb hname hN hnp hnr hregs qxC hfs mx h
abbrev v0_ : List (Nat × TypeId × List Sh1) := [(48, 50, (kp 6)), (64, 55, [.keep, .keep, .keep])]
abbrev a1_ : List (Nat × ObSh) := [(1, .arr 152 tT1), (2, .arr 3 I6), (3, .arr 3 I6), (4, .arr 4 (.bool))]
abbrev v2_ : List (Nat × TypeId × List Sh1) := [(0, 128, [.data (.sl I6), .data I6]), (64, 50, (kp 6)), (80, 55, [.keep, .keep, .keep]), (96, 55, [.own 416, .own 480, .own 1593])]
abbrev v3_ : List (Nat × TypeId × List Sh1) := [(0, 128, [.data (.sl I6), .data I6])]
abbrev v4_ : List (Nat × TypeId × List Sh1) := [(0, 128, [.keep, .keep]), (64, 50, (kp 6)), (80, 55, [.keep, .keep, .keep]), (96, 55, [.own 416, .own 480, .own 1593])]
abbrev a5_ : List (Nat × ObSh) := [(1049, .arr 9 (.str)), (1065, .arr 106 (.pair (.str) tT4)), (1081, .arr 108 (.pair (.str) (.pair I6 I6))), (1097, .arr 132 tT2)]
abbrev v6_ : List (Nat × TypeId × List Sh1) := [(0, 57, [.own 1, .own 2, .own 3, .own 4])]
abbrev v7_ : List (Nat × TypeId × List Sh1) := [(32, 50, (kp 6))]
abbrev a8_ : List (Nat × ObSh) := [(1, .arr 152 tT1), (2, .arr 3 I6), (3, .arr 3 I6), (4, .arr 4 (.bool)), (5, .arr 97 tT3), (6, .arr 110 tT2)]
abbrev v9_ : List (Nat × TypeId × List Sh1) := [(0, 128, [.data (.sl I6), .data I6]), (48, 50, (kp 6)), (64, 50, [.own 1049, .own 1065, .own 1081, .own 1097, .keep, .keep])]
abbrev a10_ : List (Nat × ObSh) := [(219, .arr 3 I6), (416, .arr 3 I6), (480, .arr 3 I6), (1593, .arr 4 (.bool))]
abbrev v11_ : List (Nat × TypeId × List Sh1) := [(480, 128, [.data (.sl I6), .data I6]), (80, 50, (kp 6)), (96, 61, [.data (.sl tT1), .data (.sl I6), .data (.sl I6), .data (.sl (.bool)), .data (.sl tT3), .data (.sl tT2), .data I6]), (128, 65, [.data (.sl (.int .u8)), .data (.sl (.int .u8))])]
abbrev r12_ : List (Nat × Sh) := [(0, dd (.pair (.sl (.str)) tT0)), (1, pt 0 0), (2, dd (.pair I6 (.pair (.sl I6) (.pair (.pair I6 (.pair I6 (.pair I6 tT5))) (.pair (.str) (.pair I6 I6))))))]
abbrev v13_ : List (Nat × TypeId × List Sh1) := [(0, 128, [.data (.sl I6), .data I6]), (48, 50, (kp 6)), (64, 50, [.own 1049, .own 1065, .keep, .keep, .keep, .keep])]
abbrev r14_ : List (Nat × Sh) := [(0, dd (.pair (.sl (.str)) tT0)), (1, pt 0 0), (2, dd (.pair I6 (.pair I6 (.pair I6 tT5))))]
abbrev r15_ : List (Nat × Sh) := [(0, dd (.pair (.sl (.int .u8)) (.sl (.int .u8))))]
abbrev v16_ : List (Nat × TypeId × List Sh1) := [(80, 50, (kp 6)), (144, 26, [.data I6, .data I6, .data (.sl (.pair I6 (.bool))), .data I6]), (176, 26, [.keep, .data I6, .own 2873, .data I6])]
abbrev r17_ : List (Nat × Sh) := [(0, dd (.pair (.sl (.str)) tT0)), (1, dd tT6)]
abbrev a18_ : List (Nat × ObSh) := [(416, .arr 3 I6), (480, .arr 3 I6), (1593, .arr 4 (.bool))]
abbrev a19_ : List (Nat × ObSh) := [(80, .one 268 (.pair (.arr 24 I6) (.arr 24 I6))), (96, .one 268 (.pair (.arr 24 I6) (.arr 24 I6)))]
abbrev a20_ : List (Nat × ObSh) := [(219, .arr 3 I6), (283, .arr 3 I6), (416, .arr 3 I6), (480, .arr 3 I6), (1593, .arr 4 (.bool))]
abbrev v21_ : List (Nat × TypeId × List Sh1) := [(0, 128, [.data (.sl I6), .data I6]), (144, 106, (kp 7)), (160, 106, [.keep, .keep, .keep, .keep, .keep, .keep, .own 2681])]
abbrev r22_ : List (Nat × Sh) := [(0, dd (.pair (.sl (.str)) tT0))]
abbrev v23_ : List (Nat × TypeId × List Sh1) := [(48, 32, (kp 12)), (192, 118, [.data (.sl (.int .u8)), .data I6, .data (.bool)]), (96, 32, [.keep, .own 1577, .keep, .keep, .keep, .keep, .keep, .own 1673, .keep, .keep, .keep, .keep])]
abbrev a24_ : List (Nat × ObSh) := [(107, .arr 3 I6), (288, .arr 4 (.bool))]
abbrev a25_ : List (Nat × ObSh) := [(400, .arr 3 I6), (464, .arr 3 I6), (171, .arr 26 tT5), (736, .arr 114 (.pair I6 (.bool)))]
abbrev v26_ : List (Nat × TypeId × List Sh1) := [(48, 32, (kp 12)), (192, 118, [.data (.sl (.int .u8)), .data I6, .data (.bool)]), (96, 32, [.keep, .own 1577, .keep, .keep, .keep, .keep, .keep, .keep, .keep, .keep, .keep, .keep])]
abbrev v27_ : List (Nat × TypeId × List Sh1) := [(64, 50, (kp 6)), (80, 55, [.keep, .keep, .keep])]
abbrev v28_ : List (Nat × TypeId × List Sh1) := [(32, 50, (kp 6)), (48, 183, (kp 4)), (64, 183, [.keep, .own 1065, .own 1081, .keep])]
abbrev a29_ : List (Nat × ObSh) := [(7, .arr 152 tT1), (8, .arr 3 I6), (9, .arr 3 I6), (10, .arr 4 (.bool)), (11, .arr 97 tT3), (12, .arr 110 tT2)]
abbrev v30_ : List (Nat × TypeId × List Sh1) := [(32, 50, (kp 6)), (48, 183, (kp 4)), (64, 183, [.keep, .own 1065, .keep, .keep])]
abbrev r31_ : List (Nat × Sh) := [(0, kk), (1, kk), (7, kk), (8, ii)]
abbrev r32_ : List (Nat × Sh) := [(2, pt 48 0), (3, pt 64 0)]
abbrev v33_ : List (Nat × TypeId × List Sh1) := [(48, 183, (kp 4)), (64, 183, [.keep, .own 1065, .own 1081, .own 1097])]
abbrev a34_ : List (Nat × ObSh) := [(1065, .arr 9 (.str)), (1081, .arr 9 (.str)), (1097, .arr 9 (.str))]
abbrev r35_ : List (Nat × Sh) := [(0, dd (.pair (.sl (.int .u8)) (.sl (.int .u8)))), (1, dd (.pair (.pair (.sl tT1) tT6) (.pair (.sl tT3) (.pair (.sl tT2) I6)))), (2, ii)]
abbrev r36_ : List (Nat × Sh) := [(2, pt 48 0), (3, pt 64 0), (5, ow 107), (6, ow 288), (7, kk), (8, kk), (9, bb), (20, kk), (21, kk), (30, kk), (31, kk), (32, kk)]
abbrev r37_ : List (Nat × Sh) := [(1, pt 32 0), (2, pt 48 0), (3, pt 64 0)]
abbrev v38_ : List (Nat × TypeId × List Sh1) := [(48, 50, (kp 6)), (64, 57, (kp 4))]
abbrev v39_ : List (Nat × TypeId × List Sh1) := [(48, 50, (kp 6)), (192, 26, [.keep, .keep, .own 736, .keep])]
abbrev a40_ : List (Nat × ObSh) := [(107, .arr 3 I6), (256, .arr 4 (.bool))]
abbrev v41_ : List (Nat × TypeId × List Sh1) := [(0, 57, [.own 1, .own 2, .own 3, .own 4]), (96, 28, (kp 7))]
abbrev v42_ : List (Nat × TypeId × List Sh1) := [(0, 118, [.data (.sl (.int .u8)), .data I6, .data (.bool)])]
abbrev r43_ : List (Nat × Sh) := [(0, dd (.pair (.sl (.int .u8)) (.sl (.int .u8)))), (1, ii)]
abbrev a44_ : List (Nat × ObSh) := [(1049, .arr 9 (.str)), (1065, .arr 106 (.pair (.str) tT4))]
abbrev r45_ : List (Nat × Sh) := [(0, dd (.pair (.sl (.str)) tT0)), (1, dd tT6), (2, ii)]
abbrev r46_ : List (Nat × Sh) := [(0, dd (.pair I6 (.pair (.sl I6) (.pair (.pair I6 (.pair I6 (.pair I6 tT5))) (.pair (.str) (.pair I6 I6))))))]
abbrev a47_ : List (Nat × ObSh) := [(2873, .arr 114 (.pair I6 (.bool)))]
abbrev v48_ : List (Nat × TypeId × List Sh1) := [(0, 61, [.own 7, .own 8, .own 9, .own 10, .own 11, .own 12, .data I6])]
abbrev v49_ : List (Nat × TypeId × List Sh1) := [(32, 55, [.keep, .keep, .keep]), (48, 55, [.keep, .keep, .keep]), (64, 55, [.own 1049, .keep, .own 160])]
abbrev r50_ : List (Nat × Sh) := [(0, dd (.sl (.int .u8)))]
abbrev v51_ : List (Nat × TypeId × List Sh1) := [(0, 61, [.own 1, .own 2, .own 3, .own 4, .own 5, .own 6, .data I6])]
abbrev v52_ : List (Nat × TypeId × List Sh1) := [(0, 128, [.keep, .keep]), (48, 50, (kp 6)), (64, 50, [.own 1049, .keep, .keep, .keep, .keep, .keep])]
abbrev r53_ : List (Nat × Sh) := [(0, ii), (1, ii)]
abbrev r54_ : List (Nat × Sh) := [(0, dd (.sl (.pair (.str) (.pair I6 I6)))), (1, .one (.fn [.pair (.str) (.pair I6 I6)] (.bool)))]
abbrev a55_ : List (Nat × ObSh) := [(0, .one 268 (.pair (.arr 24 I6) (.arr 24 I6)))]
abbrev v56_ : List (Nat × TypeId × List Sh1) := [(32, 61, [.own 128, .own 129, .own 130, .own 131, .own 176, .own 224, .keep]), (48, 61, (kp 7))]
abbrev a57_ : List (Nat × ObSh) := [(91, .arr 22 (.sl (.int .u8)))]
abbrev r58_ : List (Nat × Sh) := [(0, dd (.sl tT2)), (1, .one (.fn [.pair (.str) (.pair I6 (.pair I6 (.pair I6 I6)))] (.bool)))]
abbrev a59_ : List (Nat × ObSh) := [(1065, .arr 9 (.str)), (1081, .arr 9 (.str))]
abbrev v60_ : List (Nat × TypeId × List Sh1) := [(32, 55, [.keep, .keep, .keep]), (48, 148, [.keep, .keep]), (64, 148, [.own 1049, .keep])]
abbrev r61_ : List (Nat × Sh) := [(0, dd (.sl tT1)), (1, .one (.fn [.pair I6 (.pair I6 (.pair (.bool) (.bool)))] (.bool)))]
abbrev a62_ : List (Nat × ObSh) := [(107, .arr 30 (.pair (.str) (.pair I6 I6)))]
abbrev r63_ : List (Nat × Sh) := [(0, dd (.sl (.int .u8))), (1, ii)]
abbrev r64_ : List (Nat × Sh) := [(0, dd (.pair (.pair (.sl tT1) tT6) (.pair (.sl tT3) (.pair (.sl tT2) I6)))), (1, ii)]
abbrev r65_ : List (Nat × Sh) := [(1, pt 32 0), (3, pt 64 0), (4, kk), (27, kk), (28, bb)]
abbrev r66_ : List (Nat × Sh) := [(0, dd (.pair (.sl (.str)) (.pair (.sl (.str)) (.pair (.sl (.str)) (.sl (.str))))))]
abbrev v67_ : List (Nat × TypeId × List Sh1) := [(0, 61, [.own 1, .own 2, .own 3, .own 4, .own 5, .own 6, .keep]), (96, 32, (kp 12))]
abbrev r68_ : List (Nat × Sh) := [(0, dd (.int .u64)), (1, dd (.int .u64))]
abbrev a69_ : List (Nat × ObSh) := [(1577, .arr 3 I6), (1673, .arr 114 (.pair I6 (.bool)))]
abbrev a70_ : List (Nat × ObSh) := [(400, .arr 3 I6), (464, .arr 3 I6), (171, .arr 26 tT5)]
abbrev v71_ : List (Nat × TypeId × List Sh1) := [(48, 152, [.keep, .data I6, .keep, .keep]), (80, 152, (kp 4)), (96, 152, (kp 4))]
abbrev v72_ : List (Nat × TypeId × List Sh1) := [(0, 57, [.own 1, .own 2, .own 3, .own 4]), (64, 50, (kp 6)), (96, 28, (kp 7))]
abbrev r73_ : List (Nat × Sh) := [(0, dd (.sl (.pair (.str) tT4))), (1, .one (.fn [.pair (.str) tT4] (.bool)))]
abbrev r74_ : List (Nat × Sh) := [(0, dd (.sl (.pair I6 (.bool)))), (1, .one (.fn [.pair I6 (.bool)] (.bool)))]
abbrev r75_ : List (Nat × Sh) := [(0, dd (.pair (.sl (.int .u8)) (.sl (.int .u8)))), (1, dd (.sl (.int .u8)))]
abbrev v76_ : List (Nat × TypeId × List Sh1) := [(32, 50, (kp 6)), (96, 183, (kp 4))]
abbrev r77_ : List (Nat × Sh) := [(0, pt 0 0), (3, pt 64 0), (4, pt 80 0), (5, pt 96 0), (7, kk), (8, kk)]
abbrev r78_ : List (Nat × Sh) := [(1, pt 32 0), (2, pt 48 0), (3, pt 64 0), (14, kk), (15, kk), (16, ii)]
abbrev r79_ : List (Nat × Sh) := [(1, pt 32 0), (2, pt 48 0), (3, pt 64 0), (29, kk), (30, kk), (31, ii)]
abbrev a80_ : List (Nat × ObSh) := [(0, .arr 152 tT1), (1, .arr 3 I6), (2, .arr 3 I6), (3, .arr 4 (.bool))]
abbrev v81_ : List (Nat × TypeId × List Sh1) := [(32, 28, (kp 7)), (64, 26, (kp 4))]
abbrev a82_ : List (Nat × ObSh) := [(0, .arr 5 (.int .u8))]
abbrev r83_ : List (Nat × Sh) := [(0, dd (.pair (.str) tT4))]
abbrev r84_ : List (Nat × Sh) := [(0, dd (.pair I6 (.pair I6 (.pair I6 tT5))))]
abbrev r85_ : List (Nat × Sh) := [(5, dd (.int .u64)), (6, ow 123)]
abbrev v86_ : List (Nat × TypeId × List Sh1) := [(32, 106, (kp 7))]
abbrev r87_ : List (Nat × Sh) := [(0, dd (.pair (.sl (.str)) tT0)), (1, dd (.pair (.sl tT1) tT6))]
abbrev a88_ : List (Nat × ObSh) := [(2681, .arr 103 (.pair I6 (.pair I6 I6)))]
abbrev r89_ : List (Nat × Sh) := [(0, dd (.sl I6))]
abbrev r90_ : List (Nat × Sh) := [(2, pt 48 0), (3, pt 64 0), (5, ow 107), (6, ow 256), (7, ii)]
abbrev r91_ : List (Nat × Sh) := [(2, pt 48 0), (3, pt 64 0), (5, ow 107), (6, ow 256), (7, kk)]
abbrev r92_ : List (Nat × Sh) := [(2, pt 48 0), (7, ow 400), (8, ow 464), (9, ow 171), (10, kk)]
abbrev r93_ : List (Nat × Sh) := [(0, dd (.pair (.sl (.str)) tT0)), (1, dd (.pair I6 (.bool)))]
abbrev v94_ : List (Nat × TypeId × List Sh1) := [(32, 32, (kp 12)), (91, 22, [.own 1481]), (128, 26, (kp 4))]
abbrev a95_ : List (Nat × ObSh) := [(1049, .arr 3 I6), (1065, .arr 3 I6), (160, .arr 4 (.bool))]
abbrev r96_ : List (Nat × Sh) := [(0, ow 0), (1, ii)]
abbrev r97_ : List (Nat × Sh) := [(0, pt 0 0), (2, pt 48 0), (3, pt 64 0), (5, kk), (9, kk)]
abbrev r98_ : List (Nat × Sh) := [(2, pt 48 0), (3, pt 64 0), (44, kk), (45, kk), (46, ii)]
abbrev r99_ : List (Nat × Sh) := [(0, kk), (4, ow 91), (5, kk), (6, kk), (7, kk), (37, bb)]
abbrev r100_ : List (Nat × Sh) := [(2, pt 48 0), (4, pt 80 0)]
abbrev r101_ : List (Nat × Sh) := [(0, dd (.sl I6)), (1, .one (.fn [.int .i64] (.bool)))]
abbrev r102_ : List (Nat × Sh) := [(0, kk), (1, kk), (2, kk), (8, kk), (9, ii), (10, ii)]
abbrev r103_ : List (Nat × Sh) := [(0, dd (.sl (.str))), (1, .one (.fn [.str] (.bool)))]
abbrev r104_ : List (Nat × Sh) := [(0, ii), (1, ii), (2, ii)]
abbrev a105_ : List (Nat × ObSh) := [(1481, .arr 5 (.int .u8))]
abbrev r106_ : List (Nat × Sh) := [(0, kk), (1, kk), (5, ii)]
abbrev a107_ : List (Nat × ObSh) := [(123, .arr 5 (.int .u8))]
abbrev a108_ : List (Nat × ObSh) := [(75, .arr 3 I6)]
abbrev a109_ : List (Nat × ObSh) := [(0, .arr 22 (.sl (.int .u8)))]
abbrev a110_ : List (Nat × ObSh) := [(1065, .arr 9 (.str))]
abbrev r111_ : List (Nat × Sh) := [(0, dd tT1), (1, ii)]
abbrev r112_ : List (Nat × Sh) := [(0, pt 0 0), (1, ii)]
abbrev a113_ : List (Nat × ObSh) := [(0, .arr 4 (.bool))]
def qmQ (l : List Int) : Option (Bool) :=
 some (decide ((l.length : Int) ≤ 400))
def qlO : Fun :=
 ⟨15, 1, 1,
 ⟨r89_, [], []⟩,
 ⟨[(0, bb)], [], []⟩,
 fun x => qmQ x⟩
theorem qqB : FO qlO := fi [] [] 6 [] .nil func15 ⟨trivial, trivial⟩
def qae (s : List yT0) (f : yT0 × Unit → Option Bool) (v : Int) : Option (Int ⊕ (Unit ⊕ Int)) :=
 bif decide (v < (s.length : Int)) then (
 gd (inB v s.length) <|
 (f (s.getD v.toNat ([], (0, (0, (0, (0, (0, [])))))), ())).bind fun r =>
 bif r then (
 some (.inr (.inr v)))
 else (
 some (.inl (wi64 (v + 1)))))
 else (
 some (.inr (.inl ())))
def qaD (s : List yT0) (f : yT0 × Unit → Option Bool) : Option (Int) :=
 (iter (fun x => qae s f x) 0).bind fun s2 =>
 s2.elim (fun s3 =>
 some (-1))
 (fun s4 =>
 some s4)
def qbg : Fun :=
 ⟨224, 2, 1,
 ⟨r73_, [], []⟩,
 ⟨[(0, ii)], [], []⟩,
 fun x => qaD x.1 x.2⟩
theorem qcC : FO qbg := fi [] [] 19 [] ((nn (mm (nn (mm (.mk [] (some (⟨r31_, [], []⟩, [⟨.x 0, ⟨[], [], []⟩⟩, ⟨.r, ⟨[(4, ii)], [], []⟩⟩])) .nil .nil) .nil)) .nil))) func224 ⟨trivial, trivial⟩
def qal (s : List yT0) (f : yT0 × Unit → Option Bool) : Option (Bool) :=
 (qaD s f).bind fun r =>
 some (decide (0 ≤ r))
def qaH : Fun :=
 ⟨183, 2, 1,
 ⟨r73_, [], []⟩,
 ⟨[(0, bb)], [], []⟩,
 fun x => qal x.1 x.2⟩
theorem qa9 : FO qaH := fi [] [qbg] 9 [] .nil func183 ⟨⟨qcC, trivial⟩, trivial⟩
def qfH (s : yB8) : Option (Bool) :=
 bif decide ((s.2.2.2.2.2.2.length : Int) < 2) then (
 some true)
 else (
 some (decide (8 < (s.2.2.2.2.2.2.length : Int))))
def qge : Fun :=
 ⟨184, 1, 1,
 ⟨r83_, [], []⟩,
 ⟨[(0, bb)], [], []⟩,
 fun x => qfH x⟩
theorem qla : FO qge := fi [] [] 13 [] .nil func184 ⟨trivial, trivial⟩
def qdG (n : yB0) : Option (Bool) :=
 Option.bind (α := Bool) (
 bif decide ((n.1.length : Int) < 1) then (
 some true)
 else (
 bif decide (24 < (n.1.length : Int)) then (
 some true)
 else (
 bif decide (32 < (n.2.1.length : Int)) then (
 some true)
 else (
 bif decide (24 < (n.2.2.1.length : Int)) then (
 some true)
 else (
 some (decide (12 < (n.2.2.2.1.length : Int)))))))) fun s =>
 bif s then (
 some false)
 else (
 (qal n.2.1 (fun h => (qfH h.1).bind fun y => some y)).bind fun r =>
 some (!r))
def qhH : Fun :=
 ⟨144, 1, 1,
 ⟨r22_, [], []⟩,
 ⟨[(0, bb)], [], []⟩,
 fun x => qdG x⟩
theorem qmR : FO qhH := fi [] [qaH, qge] 35 [] ((nn (mm (mm (.mk [.join [⟨.n, ⟨[(1, pt 32 0), (30, bb)], v7_, []⟩⟩]] none .nil .nil) .nil) .nil))) func144 ⟨⟨qa9, qla, trivial⟩, trivial⟩
def qdY (n : yB0) (v : Int) (out : List (List UInt8)) : Option ((Int × List (List UInt8)) ⊕ (List (List UInt8))) :=
 bif decide (v < (n.2.1.length : Int)) then (
 gd (inB v n.2.1.length) <|
 gd (fits (out.length + 1) 16) <|
 some (.inl (wi64 (v + 1), out ++ [(n.2.1.getD v.toNat ([], (0, (0, (0, (0, (0, []))))))).1])))
 else (
 some (.inr out))
def qdZ (n : yB0) (v2 : Int) (out2 : List (List UInt8)) (out3 : List (List UInt8)) : Option ((Int × List (List UInt8) × List (List UInt8)) ⊕ (List (List UInt8) × List (List UInt8))) :=
 bif decide (v2 < (n.2.2.1.length : Int)) then (
 gd (inB v2 n.2.2.1.length) <|
 gd (fits (out3.length + 1) 16) <|
 some (.inl (wi64 (v2 + 1), out2, out3 ++ [(n.2.2.1.getD v2.toNat ([], (0, 0))).1])))
 else (
 some (.inr (out2, out3)))
def qd0 (n : yB0) (v3 : Int) (out4 : List (List UInt8)) (out5 : List (List UInt8)) (out6 : List (List UInt8)) : Option ((Int × List (List UInt8) × List (List UInt8) × List (List UInt8)) ⊕ (List (List UInt8) × List (List UInt8) × List (List UInt8))) :=
 bif decide (v3 < (n.2.2.2.1.length : Int)) then (
 gd (inB v3 n.2.2.2.1.length) <|
 gd (fits (out6.length + 1) 16) <|
 some (.inl (wi64 (v3 + 1), out4, out5, out6 ++ [(n.2.2.2.1.getD v3.toNat ([], (0, (0, (0, 0))))).1])))
 else (
 some (.inr (out4, out5, out6)))
def qbO (n : yB0) : Option yB10 :=
 (iter (fun x => qdY n x.1 x.2) (0, [])).bind fun s =>
 (iter (fun x2 => qdZ n x2.1 x2.2.1 x2.2.2) (0, s, [])).bind fun s2 =>
 (iter (fun x3 => qd0 n x3.1 x3.2.1 x3.2.2.1 x3.2.2.2) (0, s2.1, s2.2, [])).bind fun s3 =>
 some (n.1, (s3.1, (s3.2.1, s3.2.2)))
def qfI : Fun :=
 ⟨145, 1, 1,
 ⟨r22_, [], []⟩,
 ⟨r66_, [], []⟩,
 fun x => qbO x⟩
theorem qiJ : FO qfI := fi [] [] 59 [] ((nn (nn (nn (mm (nn (mm (.mk [] (some (⟨r78_, v30_, a110_⟩, [⟨.x 0, ⟨r37_, v30_, a110_⟩⟩])) .nil .nil) .nil)) (mm (nn (mm (.mk [] (some (⟨r79_, v28_, a59_⟩, [⟨.x 2, ⟨r37_, v28_, a59_⟩⟩])) .nil .nil) .nil)) (mm (nn (mm (.mk [] (some (⟨r98_, v33_, a34_⟩, [⟨.x 4, ⟨r32_, v33_, a34_⟩⟩])) .nil .nil) .nil)) .nil))))))) func145 ⟨trivial, trivial⟩
def qau (s : List (List UInt8)) (f : List UInt8 × Unit → Option Bool) (v : Int) : Option (Int ⊕ (Unit ⊕ Int)) :=
 bif decide (v < (s.length : Int)) then (
 gd (inB v s.length) <|
 (f (s.getD v.toNat [], ())).bind fun r =>
 bif r then (
 some (.inr (.inr v)))
 else (
 some (.inl (wi64 (v + 1)))))
 else (
 some (.inr (.inl ())))
def qa5 (s : List (List UInt8)) (f : List UInt8 × Unit → Option Bool) : Option (Int) :=
 (iter (fun x => qau s f x) 0).bind fun s2 =>
 s2.elim (fun s3 =>
 some (-1))
 (fun s4 =>
 some s4)
def qce : Fun :=
 ⟨185, 2, 1,
 ⟨r103_, [], []⟩,
 ⟨[(0, ii)], [], []⟩,
 fun x => qa5 x.1 x.2⟩
theorem qeu : FO qce := fi [] [] 19 [] ((nn (mm (nn (mm (.mk [] (some (⟨r31_, [], []⟩, [⟨.x 0, ⟨[], [], []⟩⟩, ⟨.r, ⟨[(4, ii)], [], []⟩⟩])) .nil .nil) .nil)) .nil))) func185 ⟨trivial, trivial⟩
def qav (s : List (List UInt8)) (f : List UInt8 × Unit → Option Bool) : Option (Bool) :=
 (qa5 s f).bind fun r =>
 some (decide (0 ≤ r))
def qbU : Fun :=
 ⟨146, 2, 1,
 ⟨r103_, [], []⟩,
 ⟨[(0, bb)], [], []⟩,
 fun x => qav x.1 x.2⟩
theorem qdH : FO qbU := fi [] [qce] 9 [] .nil func146 ⟨⟨qeu, trivial⟩, trivial⟩
def qej (c : Int) : Option (Int) :=
 Option.bind (α := Unit ⊕ Unit ⊕ Int) (
 Option.bind (α := Bool) (
 bif decide (97 ≤ c) then (
 some (decide (c ≤ 122)))
 else (
 some false)) fun s =>
 bif s then (
 some (.inr (.inr 1)))
 else (
 Option.bind (α := Bool) (
 bif decide (48 ≤ c) then (
 some (decide (c ≤ 57)))
 else (
 some false)) fun s2 =>
 bif s2 then (
 some (.inl ()))
 else (
 bif decide (c = 45) then (
 some (.inl ()))
 else (
 some (.inr (.inl ())))))) fun s3 =>
 s3.elim (fun s4 =>
 some 2)
 (fun s5 =>
 s5.elim (fun s6 =>
 some 0)
 (fun s7 =>
 some s7))
def qkF : Fun :=
 ⟨186, 1, 1,
 ⟨[(0, dd (.int .u8))], [], []⟩,
 ⟨[(0, ii)], [], []⟩,
 fun x => qej x⟩
theorem qps : FO qkF := fi [] [] 20 [] ((nn (mm (mm (mm (.mk [.join [⟨.n, ⟨[], [], []⟩⟩, ⟨.x 0, ⟨[], [], []⟩⟩, ⟨.r, ⟨[(2, ii)], [], []⟩⟩]] none (mm (mm (mm (mm (mm (mm (.mk [.join [⟨.n, ⟨[(0, kk), (3, bb)], [], []⟩⟩]] none .nil .nil) .nil) (mm (mm (.mk [.join [⟨.n, ⟨[(0, kk), (10, bb)], [], []⟩⟩]] none .nil .nil) .nil) .nil)) .nil) .nil) .nil) .nil) .nil) .nil) .nil) .nil))) func186 ⟨trivial, trivial⟩
def qbP (s : List UInt8) (v : Int) : Option (Int ⊕ (Unit ⊕ Bool)) :=
 bif decide (v < (s.length : Int)) then (
 gd (inB v s.length) <|
 (qej (Int.ofNat (s.getD v.toNat 0).toNat)).bind fun r2 =>
 bif decide (r2 = 0) then (
 some (.inr (.inr false)))
 else (
 some (.inl (wi64 (v + 1)))))
 else (
 some (.inr (.inl ())))
def qct (s : List UInt8) : Option (Bool) :=
 Option.bind (α := Bool) (
 bif decide ((s.length : Int) < 1) then (
 some true)
 else (
 bif decide (12 < (s.length : Int)) then (
 some true)
 else (
 gd (inB 0 s.length) <|
 (qej (Int.ofNat (s.getD 0 0).toNat)).bind fun r =>
 some (!decide (r = 1))))) fun s2 =>
 bif s2 then (
 some false)
 else (
 (iter (fun x => qbP s x) 0).bind fun s3 =>
 s3.elim (fun s4 =>
 some true)
 (fun s5 =>
 some s5))
def qfS : Fun :=
 ⟨148, 1, 1,
 ⟨[(0, ss)], [], []⟩,
 ⟨[(0, bb)], [], []⟩,
 fun x => qct x⟩
theorem qib : FO qfS := fi [] [qkF] 29 [] ((nn (mm (mm (.mk [.join [⟨.n, ⟨[(0, kk), (17, bb)], [], []⟩⟩]] none .nil .nil) .nil) (mm (nn (mm (.mk [] (some (⟨[(0, kk), (19, kk), (20, ii)], [], []⟩, [⟨.x 0, ⟨[], [], []⟩⟩, ⟨.r, ⟨[(2, bb)], [], []⟩⟩])) .nil .nil) .nil)) .nil)))) func148 ⟨⟨qps, trivial⟩, trivial⟩
def qcu (s : List UInt8) : Option (Bool) :=
 (qct s).bind fun r =>
 some (!r)
def qgV : Fun :=
 ⟨147, 1, 1,
 ⟨[(0, ss)], [], []⟩,
 ⟨[(0, bb)], [], []⟩,
 fun x => qcu x⟩
theorem qlP : FO qgV := fi [] [qfS] 6 [] .nil func147 ⟨⟨qib, trivial⟩, trivial⟩
def qaE (s : List (List UInt8)) (v : List UInt8) (v2 : Int) : Option (Int ⊕ (Unit ⊕ Int)) :=
 bif decide (v2 < (s.length : Int)) then (
 gd (inB v2 s.length) <|
 bif decide (v = s.getD v2.toNat []) then (
 some (.inr (.inr v2)))
 else (
 some (.inl (wi64 (v2 + 1)))))
 else (
 some (.inr (.inl ())))
def qaP (s : List (List UInt8)) (v : List UInt8) : Option (Int) :=
 (iter (fun x => qaE s v x) 0).bind fun s2 =>
 s2.elim (fun s3 =>
 some (-1))
 (fun s4 =>
 some s4)
def qcM : Fun :=
 ⟨187, 2, 1,
 ⟨[(0, dd (.sl (.str))), (1, ss)], [], []⟩,
 ⟨[(0, ii)], [], []⟩,
 fun x => qaP x.1 x.2⟩
theorem qfJ : FO qcM := fi [] [] 19 [] ((nn (mm (nn (mm (.mk [] (some (⟨r31_, [], []⟩, [⟨.x 0, ⟨[], [], []⟩⟩, ⟨.r, ⟨[(4, ii)], [], []⟩⟩])) .nil .nil) .nil)) .nil))) func187 ⟨trivial, trivial⟩
def qjn (x : yB1) (v : yB1) : Option (Bool) :=
 some (decide (x.2.1 = v.2.1))
def qgW : Fun :=
 ⟨189, 2, 1,
 ⟨[(0, dd tT2), (1, .one (.sel tT2))], [], []⟩,
 ⟨[(0, bb)], [], []⟩,
 fun x => qjn x.1 x.2⟩
theorem qlQ : FO qgW := fi [] [] 9 [] .nil func189 ⟨trivial, trivial⟩
def qaf (s : List yB1) (f : yB1 × Unit → Option Bool) (v : Int) : Option (Int ⊕ (Unit ⊕ Int)) :=
 bif decide (v < (s.length : Int)) then (
 gd (inB v s.length) <|
 (f (s.getD v.toNat ([], (0, (0, (0, 0)))), ())).bind fun r =>
 bif r then (
 some (.inr (.inr v)))
 else (
 some (.inl (wi64 (v + 1)))))
 else (
 some (.inr (.inl ())))
def qaj (s : List yB1) (f : yB1 × Unit → Option Bool) : Option (Int) :=
 (iter (fun x => qaf s f x) 0).bind fun s2 =>
 s2.elim (fun s3 =>
 some (-1))
 (fun s4 =>
 some s4)
def qaQ : Fun :=
 ⟨188, 2, 1,
 ⟨r58_, [], []⟩,
 ⟨[(0, ii)], [], []⟩,
 fun x => qaj x.1 x.2⟩
theorem qbh : FO qaQ := fi [] [] 19 [] ((nn (mm (nn (mm (.mk [] (some (⟨r31_, [], []⟩, [⟨.x 0, ⟨[], [], []⟩⟩, ⟨.r, ⟨[(4, ii)], [], []⟩⟩])) .nil .nil) .nil)) .nil))) func188 ⟨trivial, trivial⟩
def qd1 (r : yB10) (v : Int) (v2 : Int) : Option (Int ⊕ (Unit ⊕ Bool)) :=
 bif decide (v2 < (([r.1, r.2.1, r.2.2.1, r.2.2.2].getD v.toNat []).length : Int)) then (
 gd (inB v2 ([r.1, r.2.1, r.2.2.1, r.2.2.2].getD v.toNat []).length) <|
 (qaP ([r.1, r.2.1, r.2.2.1, r.2.2.2].getD v.toNat []) (([r.1, r.2.1, r.2.2.1, r.2.2.2].getD v.toNat []).getD v2.toNat [])).bind fun r2 =>
 bif decide (r2 < v2) then (
 some (.inr (.inr true)))
 else (
 some (.inl (wi64 (v2 + 1)))))
 else (
 some (.inr (.inl ())))
def qd2 (r : yB10) (v : Int) : Option (Int ⊕ (Unit ⊕ Bool)) :=
 bif decide (v < 4) then (
 gd (inB v 4) <|
 (iter (fun x => qd1 r v x) 0).bind fun s =>
 s.elim (fun s2 =>
 some (.inl (wi64 (v + 1))))
 (fun s3 =>
 some (.inr (.inr s3))))
 else (
 some (.inr (.inl ())))
def qd3 (n : yB0) (v3 : Int) : Option (Int ⊕ (Unit ⊕ Bool)) :=
 bif decide (v3 < (n.2.2.2.1.length : Int)) then (
 gd (inB v3 n.2.2.2.1.length) <|
 (qaj n.2.2.2.1 (fun h => (qjn h.1 ((n.2.2.2.1.getD v3.toNat ([], (0, (0, (0, 0))))).1, (((n.2.2.2.1.getD v3.toNat ([], (0, (0, (0, 0))))).2).1, ((((n.2.2.2.1.getD v3.toNat ([], (0, (0, (0, 0))))).2).2).1, (((((n.2.2.2.1.getD v3.toNat ([], (0, (0, (0, 0))))).2).2).2).1, ((((n.2.2.2.1.getD v3.toNat ([], (0, (0, (0, 0))))).2).2).2).2))))).bind fun y => some y)).bind fun r3 =>
 bif decide (r3 < v3) then (
 some (.inr (.inr true)))
 else (
 some (.inl (wi64 (v3 + 1)))))
 else (
 some (.inr (.inl ())))
def qev (n : yB0) : Option (Bool) :=
 (qbO (n.1, (n.2.1, (n.2.2.1, (n.2.2.2.1, (n.2.2.2.2.1, n.2.2.2.2.2)))))).bind fun r =>
 (iter (fun x2 => qd2 r x2) 0).bind fun s4 =>
 s4.elim (fun s5 =>
 (iter (fun x3 => qd3 n x3) 0).bind fun s7 =>
 s7.elim (fun s8 =>
 some false)
 (fun s9 =>
 some s9))
 (fun s6 =>
 some s6)
def qiK : Fun :=
 ⟨149, 1, 1,
 ⟨r22_, [], []⟩,
 ⟨[(0, bb)], [], []⟩,
 fun x => qev x⟩
theorem qnz : FO qiK := fi [] [qfI, qcM, qaQ, qgW] 43 [] ((nn (mm (nn (mm (.mk [] (some (⟨[(1, pt 32 0), (10, kk), (11, ii)], v7_, []⟩, [⟨.x 0, ⟨[(1, pt 32 0)], v7_, []⟩⟩, ⟨.r, ⟨[(2, bb)], [], []⟩⟩])) (nn (nn (mm (mm (nn (nn (mm (.mk [] (some (⟨[(1, pt 32 0), (4, kk), (10, kk), (11, kk), (14, kk), (15, kk), (16, ii)], v7_, []⟩, [⟨.x 2, ⟨[(1, pt 32 0), (10, kk), (11, kk)], v7_, []⟩⟩, ⟨.r, ⟨[(2, bb)], [], []⟩⟩])) .nil .nil) .nil))) .nil) .nil))) .nil) .nil)) (mm (nn (mm (.mk [] (some (⟨[(1, pt 32 0), (29, kk), (30, kk), (31, ii)], v7_, []⟩, [⟨.x 4, ⟨[], [], []⟩⟩, ⟨.r, ⟨[(2, bb)], [], []⟩⟩])) (nn (nn (mm (mm (nn (mm (.mk [.fv [(8, .pair (.str) (.pair I6 (.pair I6 (.pair I6 I6))))]] none .nil .nil) .nil)) .nil) .nil))) .nil) .nil)) .nil)))) func149 ⟨⟨qiJ, qfJ, qbh, qlQ, trivial⟩, trivial⟩
def qew (k : Int) (v : yB0) : Option (Bool) :=
 bif decide (k < 0) then (
 some true)
 else (
 some (decide ((v.1.length : Int) ≤ k)))
def qgX : Fun :=
 ⟨190, 2, 1,
 ⟨[(0, ii), (1, .one (.sel (.pair (.sl (.str)) tT0)))], [], []⟩,
 ⟨[(0, bb)], [], []⟩,
 fun x => qew x.1 x.2⟩
theorem qlR : FO qgX := fi [] [] 13 [] .nil func190 ⟨trivial, trivial⟩
def qaK (s : List Int) (f : Int × Unit → Option Bool) (v : Int) : Option (Int ⊕ (Unit ⊕ Int)) :=
 bif decide (v < (s.length : Int)) then (
 gd (inB v s.length) <|
 (f (s.getD v.toNat 0, ())).bind fun r =>
 bif r then (
 some (.inr (.inr v)))
 else (
 some (.inl (wi64 (v + 1)))))
 else (
 some (.inr (.inl ())))
def qbD (s : List Int) (f : Int × Unit → Option Bool) : Option (Int) :=
 (iter (fun x => qaK s f x) 0).bind fun s2 =>
 s2.elim (fun s3 =>
 some (-1))
 (fun s4 =>
 some s4)
def qc8 : Fun :=
 ⟨203, 2, 1,
 ⟨r101_, [], []⟩,
 ⟨[(0, ii)], [], []⟩,
 fun x => qbD x.1 x.2⟩
theorem qgf : FO qc8 := fi [] [] 19 [] ((nn (mm (nn (mm (.mk [] (some (⟨r31_, [], []⟩, [⟨.x 0, ⟨[], [], []⟩⟩, ⟨.r, ⟨[(4, ii)], [], []⟩⟩])) .nil .nil) .nil)) .nil))) func203 ⟨trivial, trivial⟩
def qaB (s : List Int) (f : Int × Unit → Option Bool) : Option (Bool) :=
 (qbD s f).bind fun r =>
 some (decide (0 ≤ r))
def qa6 : Fun :=
 ⟨161, 2, 1,
 ⟨r101_, [], []⟩,
 ⟨[(0, bb)], [], []⟩,
 fun x => qaB x.1 x.2⟩
theorem qbx : FO qa6 := fi [] [qc8] 9 [] .nil func161 ⟨⟨qgf, trivial⟩, trivial⟩
def qd4 (n : yB0) (v : Int) (all : List Int) : Option ((Int × List Int) ⊕ (List Int)) :=
 bif decide (v < (n.2.1.length : Int)) then (
 gd (inB v n.2.1.length) <|
 gd (fits (all.length + 2) 8) <|
 some (.inl (wi64 (v + 1), all ++ [((n.2.1.getD v.toNat ([], (0, (0, (0, (0, (0, []))))))).2).1, (((n.2.1.getD v.toNat ([], (0, (0, (0, (0, (0, []))))))).2).2).1])))
 else (
 some (.inr all))
def qd5 (n : yB0) (v2 : Int) (all2 : List Int) : Option ((Int × List Int) ⊕ (List Int)) :=
 bif decide (v2 < (n.2.2.1.length : Int)) then (
 gd (inB v2 n.2.2.1.length) <|
 gd (fits (all2.length + 1) 8) <|
 some (.inl (wi64 (v2 + 1), all2 ++ [((n.2.2.1.getD v2.toNat ([], (0, 0))).2).1])))
 else (
 some (.inr all2))
def qd6 (n : yB0) (v3 : Int) (all3 : List Int) : Option ((Int × List Int) ⊕ (List Int)) :=
 bif decide (v3 < (n.2.2.2.1.length : Int)) then (
 gd (inB v3 n.2.2.2.1.length) <|
 gd (fits (all3.length + 1) 8) <|
 some (.inl (wi64 (v3 + 1), all3 ++ [((n.2.2.2.1.getD v3.toNat ([], (0, (0, (0, 0))))).2).1])))
 else (
 some (.inr all3))
def qex (n : yB0) : Option (Bool) :=
 (iter (fun x => qd4 n x.1 x.2) (0, [])).bind fun s =>
 (iter (fun x2 => qd5 n x2.1 x2.2) (0, s)).bind fun s2 =>
 (iter (fun x3 => qd6 n x3.1 x3.2) (0, s2)).bind fun s3 =>
 (qaB s3 (fun h => (qew h.1 (n.1, (n.2.1, (n.2.2.1, (n.2.2.2.1, (n.2.2.2.2.1, n.2.2.2.2.2)))))).bind fun y => some y)).bind fun r =>
 some (!r)
def qiL : Fun :=
 ⟨150, 1, 1,
 ⟨r22_, [], []⟩,
 ⟨[(0, bb)], [], []⟩,
 fun x => qex x⟩
theorem qnA : FO qiL := fi [] [qa6, qgX] 55 [] ((nn (nn (mm (nn (mm (.mk [] (some (⟨[(1, pt 32 0), (3, ow 75), (11, kk), (12, kk), (13, ii)], v7_, a108_⟩, [⟨.x 0, ⟨[(1, pt 32 0), (3, ow 75)], v7_, a108_⟩⟩])) .nil .nil) .nil)) (mm (nn (mm (.mk [] (some (⟨[(1, pt 32 0), (3, ow 75), (26, kk), (27, kk), (28, ii)], v7_, a108_⟩, [⟨.x 2, ⟨[(1, pt 32 0), (3, ow 75)], v7_, a108_⟩⟩])) .nil .nil) .nil)) (mm (nn (mm (.mk [] (some (⟨[(1, pt 32 0), (3, ow 75), (39, kk), (40, kk), (41, ii)], v7_, a108_⟩, [⟨.x 4, ⟨[(1, pt 32 0), (3, ow 75)], v7_, a108_⟩⟩])) .nil .nil) .nil)) (mm (.mk [.fv [(1, .pair (.sl (.str)) tT0)]] none .nil .nil) .nil))))))) func150 ⟨⟨qbx, qlR, trivial⟩, trivial⟩
def qbE (n : Int) (least : Int) (most : Int) : Option (Bool) :=
 bif decide (least ≤ n) then (
 some (decide (n ≤ most)))
 else (
 some false)
def qey : Fun :=
 ⟨195, 3, 1,
 ⟨r104_, [], []⟩,
 ⟨[(0, bb)], [], []⟩,
 fun x => qbE x.1 x.2.1 x.2.2⟩
theorem qfT : FO qey := fi [] [] 15 [] .nil func195 ⟨trivial, trivial⟩
def qez (s : yB8) (v : Int) : Option (Int ⊕ (Unit ⊕ Bool)) :=
 bif decide (v < (s.2.2.2.2.2.2.length : Int)) then (
 gd (inB v s.2.2.2.2.2.2.length) <|
 Option.bind (α := Bool) (
 (qbE (((s.2.2.2.2.2.2.getD v.toNat (0, (0, 0))).2).1) (-500) 5000).bind fun r4 =>
 bif !r4 then (
 some true)
 else (
 (qbE (((s.2.2.2.2.2.2.getD v.toNat (0, (0, 0))).2).2) 0 100000000).bind fun r5 =>
 bif !r5 then (
 some true)
 else (
 bif decide (0 < v) then (
 gd (inB (wi64 (v - 1)) s.2.2.2.2.2.2.length) <|
 some (decide ((s.2.2.2.2.2.2.getD v.toNat (0, (0, 0))).1 ≤ (s.2.2.2.2.2.2.getD (wi64 (v - 1)).toNat (0, (0, 0))).1)))
 else (
 some false)))) fun s3 =>
 bif s3 then (
 some (.inr (.inr false)))
 else (
 some (.inl (wi64 (v + 1)))))
 else (
 some (.inr (.inl ())))
def qfx (s : yB8) : Option (Bool) :=
 Option.bind (α := Bool) (
 bif decide (s.2.1 = s.2.2.1) then (
 some true)
 else (
 (qbE s.2.2.2.1 1 1000000).bind fun r =>
 bif !r then (
 some true)
 else (
 (qbE s.2.2.2.2.1 0 1000).bind fun r2 =>
 bif !r2 then (
 some true)
 else (
 (qbE s.2.2.2.2.2.1 0 100000).bind fun r3 =>
 some (!r3))))) fun s2 =>
 bif s2 then (
 some false)
 else (
 (iter (fun x => qez s x) 0).bind fun s4 =>
 s4.elim (fun s5 =>
 gd (inB 0 s.2.2.2.2.2.2.length) <|
 bif decide ((s.2.2.2.2.2.2.getD 0 (0, (0, 0))).1 = 0) then (
 gd (inB (wi64 ((s.2.2.2.2.2.2.length : Int) - 1)) s.2.2.2.2.2.2.length) <|
 some (decide ((s.2.2.2.2.2.2.getD (wi64 ((s.2.2.2.2.2.2.length : Int) - 1)).toNat (0, (0, 0))).1 = s.2.2.2.1)))
 else (
 some false))
 (fun s6 =>
 some s6))
def qjo : Fun :=
 ⟨192, 1, 1,
 ⟨r83_, [], []⟩,
 ⟨[(0, bb)], [], []⟩,
 fun x => qfx x⟩
theorem qoN : FO qjo := fi [] [qey] 83 [] ((nn (mm (mm (.mk [.join [⟨.n, ⟨[(1, pt 32 0), (27, bb)], v86_, []⟩⟩]] none .nil .nil) .nil) (mm (nn (mm (.mk [] (some (⟨[(1, pt 32 0), (29, kk), (30, kk), (31, ii)], v86_, []⟩, [⟨.x 0, ⟨[(1, pt 32 0)], v86_, []⟩⟩, ⟨.r, ⟨[(2, bb)], [], []⟩⟩])) (nn (nn (mm (mm (nn (mm (.mk [.join [⟨.n, ⟨[(1, pt 32 0), (29, kk), (30, kk), (31, kk), (61, bb)], v86_, []⟩⟩]] none .nil .nil) .nil)) .nil) .nil))) .nil) .nil)) .nil)))) func192 ⟨⟨qfT, trivial⟩, trivial⟩
def qd7 (s : yB8) : Option (Bool) :=
 (qfx (s.1, (s.2.1, (s.2.2.1, (s.2.2.2.1, (s.2.2.2.2.1, (s.2.2.2.2.2.1, s.2.2.2.2.2.2))))))).bind fun r =>
 some (!r)
def qgg : Fun :=
 ⟨191, 1, 1,
 ⟨r83_, [], []⟩,
 ⟨[(0, bb)], [], []⟩,
 fun x => qd7 x⟩
theorem qlb : FO qgg := fi [] [qjo] 6 [] .nil func191 ⟨⟨qoN, trivial⟩, trivial⟩
def qan (s : List (List UInt8 × Int × Int)) (f : (List UInt8 × Int × Int) × Unit → Option Bool) (v : Int) : Option (Int ⊕ (Unit ⊕ Int)) :=
 bif decide (v < (s.length : Int)) then (
 gd (inB v s.length) <|
 (f (s.getD v.toNat ([], (0, 0)), ())).bind fun r =>
 bif r then (
 some (.inr (.inr v)))
 else (
 some (.inl (wi64 (v + 1)))))
 else (
 some (.inr (.inl ())))
def qaV (s : List (List UInt8 × Int × Int)) (f : (List UInt8 × Int × Int) × Unit → Option Bool) : Option (Int) :=
 (iter (fun x => qan s f x) 0).bind fun s2 =>
 s2.elim (fun s3 =>
 some (-1))
 (fun s4 =>
 some s4)
def qbM : Fun :=
 ⟨225, 2, 1,
 ⟨r54_, [], []⟩,
 ⟨[(0, ii)], [], []⟩,
 fun x => qaV x.1 x.2⟩
theorem qdA : FO qbM := fi [] [] 19 [] ((nn (mm (nn (mm (.mk [] (some (⟨r31_, [], []⟩, [⟨.x 0, ⟨[], [], []⟩⟩, ⟨.r, ⟨[(4, ii)], [], []⟩⟩])) .nil .nil) .nil)) .nil))) func225 ⟨trivial, trivial⟩
def qaJ (s : List (List UInt8 × Int × Int)) (f : (List UInt8 × Int × Int) × Unit → Option Bool) : Option (Bool) :=
 (qaV s f).bind fun r =>
 some (decide (0 ≤ r))
def qbt : Fun :=
 ⟨193, 2, 1,
 ⟨r54_, [], []⟩,
 ⟨[(0, bb)], [], []⟩,
 fun x => qaJ x.1 x.2⟩
theorem qc4 : FO qbt := fi [] [qbM] 9 [] .nil func193 ⟨⟨qdA, trivial⟩, trivial⟩
def qd8 (p : List UInt8 × Int × Int) : Option (Bool) :=
 (qbE p.2.2 0 100000000).bind fun r =>
 some (!r)
def qgh : Fun :=
 ⟨194, 1, 1,
 ⟨[(0, dd (.pair (.str) (.pair I6 I6)))], [], []⟩,
 ⟨[(0, bb)], [], []⟩,
 fun x => qd8 x⟩
theorem qlc : FO qgh := fi [] [qey] 7 [] .nil func194 ⟨⟨qfT, trivial⟩, trivial⟩
def qax (s : List yB1) (f : yB1 × Unit → Option Bool) : Option (Bool) :=
 (qaj s f).bind fun r =>
 some (decide (0 ≤ r))
def qba : Fun :=
 ⟨196, 2, 1,
 ⟨r58_, [], []⟩,
 ⟨[(0, bb)], [], []⟩,
 fun x => qax x.1 x.2⟩
theorem qcq : FO qba := fi [] [qaQ] 9 [] .nil func196 ⟨⟨qbh, trivial⟩, trivial⟩
def qd9 (s : yB1) : Option (Bool) :=
 (qbE s.2.2.1 0 100000000).bind fun r =>
 bif !r then (
 some true)
 else (
 (qbE s.2.2.2.1 0 100000).bind fun r2 =>
 bif !r2 then (
 some true)
 else (
 (qbE s.2.2.2.2 0 100000000).bind fun r3 =>
 some (!r3)))
def qgi : Fun :=
 ⟨197, 1, 1,
 ⟨[(0, dd tT2)], [], []⟩,
 ⟨[(0, bb)], [], []⟩,
 fun x => qd9 x⟩
theorem qld : FO qgi := fi [] [qey] 19 [] .nil func197 ⟨⟨qfT, trivial⟩, trivial⟩
def qdI (n : yB0) : Option (Bool) :=
 (qal n.2.1 (fun h => (qd7 h.1).bind fun y => some y)).bind fun r =>
 bif r then (
 some false)
 else (
 (qaJ n.2.2.1 (fun h2 => (qd8 h2.1).bind fun y => some y)).bind fun r2 =>
 bif r2 then (
 some false)
 else (
 (qax n.2.2.2.1 (fun h3 => (qd9 h3.1).bind fun y => some y)).bind fun r3 =>
 bif r3 then (
 some false)
 else (
 (qbE n.2.2.2.2.1 (-100000) 100000000).bind fun r4 =>
 bif r4 then (
 (qbE n.2.2.2.2.2 0 100).bind fun r5 =>
 some r5)
 else (
 some false))))
def qhI : Fun :=
 ⟨151, 1, 1,
 ⟨r22_, [], []⟩,
 ⟨[(0, bb)], [], []⟩,
 fun x => qdI x⟩
theorem qmS : FO qhI := fi [] [qaH, qgg, qbt, qgh, qba, qgi, qey] 20 [] .nil func151 ⟨⟨qa9, qlb, qc4, qlc, qcq, qld, qfT, trivial⟩, trivial⟩
def qea (r2 : yB10) (v : Int) : Option (Int ⊕ (Unit ⊕ Int)) :=
 bif decide (v < 4) then (
 gd (inB v 4) <|
 (qav ([r2.1, r2.2.1, r2.2.2.1, r2.2.2.2].getD v.toNat []) (fun h => (qcu h.1).bind fun y => some y)).bind fun r3 =>
 bif r3 then (
 some (.inr (.inr 3)))
 else (
 some (.inl (wi64 (v + 1)))))
 else (
 some (.inr (.inl ())))
def qcf (n : yB0) : Option (Int) :=
 (qdG (n.1, (n.2.1, (n.2.2.1, (n.2.2.2.1, (n.2.2.2.2.1, n.2.2.2.2.2)))))).bind fun r =>
 bif !r then (
 some 4)
 else (
 (qbO (n.1, (n.2.1, (n.2.2.1, (n.2.2.2.1, (n.2.2.2.2.1, n.2.2.2.2.2)))))).bind fun r2 =>
 (iter (fun x => qea r2 x) 0).bind fun s =>
 s.elim (fun s2 =>
 (qev (n.1, (n.2.1, (n.2.2.1, (n.2.2.2.1, (n.2.2.2.2.1, n.2.2.2.2.2)))))).bind fun r4 =>
 bif r4 then (
 some 7)
 else (
 (qex (n.1, (n.2.1, (n.2.2.1, (n.2.2.2.1, (n.2.2.2.2.1, n.2.2.2.2.2)))))).bind fun r5 =>
 bif !r5 then (
 some 8)
 else (
 (qdI (n.1, (n.2.1, (n.2.2.1, (n.2.2.2.1, (n.2.2.2.2.1, n.2.2.2.2.2)))))).bind fun r6 =>
 bif !r6 then (
 some 9)
 else (
 some 0))))
 (fun s3 =>
 some s3))
def qcb : Fun :=
 ⟨95, 1, 1,
 ⟨r22_, [], []⟩,
 ⟨[(0, ii)], [], []⟩,
 fun x => qcf x⟩
theorem qcN : FO qcb := fi [] [qhH, qfI, qbU, qgV, qiK, qiL, qhI] 27 [] ((nn (nn (mm (nn (mm (.mk [] (some (⟨[(1, pt 32 0), (9, kk), (10, ii)], v7_, []⟩, [⟨.x 0, ⟨[(1, pt 32 0)], v7_, []⟩⟩, ⟨.r, ⟨[(2, ii)], [], []⟩⟩])) .nil .nil) .nil)) .nil)))) func95 ⟨⟨qmR, qiJ, qdH, qlP, qnz, qnA, qmS, trivial⟩, trivial⟩
def qc9 (v : Int × Int × Bool × Bool) : Option (Bool) :=
 bif decide (1 ≤ v.1) then (
 bif decide (v.1 ≤ 60) then (
 bif decide (0 ≤ v.2.1) then (
 some (decide (v.2.1 ≤ v.1)))
 else (
 some false))
 else (
 some false))
 else (
 some false)
def qcT : Fun :=
 ⟨96, 1, 1,
 ⟨[(0, dd tT1)], [], []⟩,
 ⟨[(0, bb)], [], []⟩,
 fun x => qc9 x⟩
theorem qdJ : FO qcT := fi [] [] 23 [] .nil func96 ⟨trivial, trivial⟩
def qfy (n : yB0) : Option (Int) :=
 some (wi64 ((n.2.1.length : Int) + (n.2.2.1.length : Int)))
def qgj : Fun :=
 ⟨98, 1, 1,
 ⟨r22_, [], []⟩,
 ⟨[(0, ii)], [], []⟩,
 fun x => qfy x⟩
theorem qjp : FO qgj := fi [] [] 10 [] .nil func98 ⟨trivial, trivial⟩
def qoO (x : Int) (y : Int) : Option (Int × Int) :=
 some (wu32 (Int.fdiv (wu64 ((wu64 x) * (wu64 y))) (2 ^ shAmt .u64 32)), wu32 (wu64 ((wu64 x) * (wu64 y))))
def qlS : Fun :=
 ⟨198, 2, 2,
 ⟨[(0, dd (.int .u32)), (1, dd (.int .u32))], [], []⟩,
 ⟨[(0, dd (.int .u32)), (1, dd (.int .u32))], [], []⟩,
 fun x => qoO x.1 x.2⟩
theorem qtY : FO qlS := fi [] [] 17 [] .nil func198 ⟨trivial, trivial⟩
def qjq (x : Int) (y : Int) : Option (Int × Int) :=
 some (wu64 ((wu64 ((wu64 ((Int.fdiv x (2 ^ shAmt .u64 32)) * (Int.fdiv y (2 ^ shAmt .u64 32)))) + (Int.fdiv (wu64 ((wu64 ((Int.fdiv x (2 ^ shAmt .u64 32)) * (qft .u64 y 4294967295))) + (Int.fdiv (wu64 ((qft .u64 x 4294967295) * (qft .u64 y 4294967295))) (2 ^ shAmt .u64 32)))) (2 ^ shAmt .u64 32)))) + (Int.fdiv (wu64 ((qft .u64 (wu64 ((wu64 ((Int.fdiv x (2 ^ shAmt .u64 32)) * (qft .u64 y 4294967295))) + (Int.fdiv (wu64 ((qft .u64 x 4294967295) * (qft .u64 y 4294967295))) (2 ^ shAmt .u64 32)))) 4294967295) + (wu64 ((qft .u64 x 4294967295) * (Int.fdiv y (2 ^ shAmt .u64 32)))))) (2 ^ shAmt .u64 32))), wu64 (x * y))
def qgY : Fun :=
 ⟨199, 2, 2,
 ⟨r68_, [], []⟩,
 ⟨r68_, [], []⟩,
 fun x => qjq x.1 x.2⟩
theorem qlT : FO qgY := fi [] [] 51 [] .nil func199 ⟨trivial, trivial⟩
def qic (x : Int) (y : Int) : Option (Int × Int) :=
 (qjq x y).bind fun r =>
 some (r.1, r.2)
def qiM : Fun :=
 ⟨152, 2, 2,
 ⟨r68_, [], []⟩,
 ⟨r68_, [], []⟩,
 fun x => qic x.1 x.2⟩
theorem qnB : FO qiM := fi [] [qgY] 30 [] .nil func152 ⟨⟨qlT, trivial⟩, trivial⟩
def qad (n : Int) (newslice : yB3) : Option ((Int × List (Int × Int × Bool × Bool)) ⊕ yB3) :=
 bif decide (n < (newslice.length : Int)) then (
 gd (decide (0 < newslice.length) && inR n (newslice.length : Int) newslice.length) <|
 gd (decide (0 < newslice.length) && inR 0 n newslice.length) <|
 gd ((decide (newslice.length = newslice.length) && (decide (newslice.length = newslice.length) && decide (n.toNat ≤ newslice.length))) && decide (0 < newslice.length)) <|
 some (.inl (wi64 (n + (Int.ofNat (min (newslice.take n.toNat).length (newslice.length - n.toNat)))), cpyD newslice n.toNat (newslice.take n.toNat))))
 else (
 some (.inr newslice))
def qaX (x : yB3) (count : Int) : Option yB3 :=
 Option.bind (α := Unit) (
 bif decide (count < 0) then (
 none)
 else (
 some ())) fun s =>
 (qic (wu64 (x.length : Int)) (wu64 count)).bind fun r =>
 Option.bind (α := Bool) (
 bif decide (0 < r.1) then (
 some true)
 else (
 some (decide (9223372036854775807 < r.2)))) fun s2 =>
 Option.bind (α := Unit) (
 bif s2 then (
 none)
 else (
 some ())) fun s3 =>
 gd (makeG 24 (wi64 r.2)) <|
 gd ((true && true) && decide (0 < (List.replicate (wi64 r.2).toNat ((0, (0, (false, false))) : Int × Int × Bool × Bool)).length)) <|
 (iter (fun x2 => qad x2.1 x2.2) (Int.ofNat (min x.length ((List.replicate (wi64 r.2).toNat ((0, (0, (false, false))) : Int × Int × Bool × Bool)).length - 0)), cpyD (List.replicate (wi64 r.2).toNat ((0, (0, (false, false))) : Int × Int × Bool × Bool)) 0 x)).bind fun s4 =>
 some s4
def qbV : Fun :=
 ⟨97, 2, 1,
 ⟨[(0, dd (.sl tT1)), (1, ii)], [], []⟩,
 ⟨[(0, ow 0)], [], [(0, .arr 152 tT1)]⟩,
 fun x => qaX x.1 x.2⟩
theorem qdK : FO qbV := fi [5000044] [qiM] 48 [] ((nn (mm (nn (.mk [.join [⟨.n, ⟨[(0, kk), (1, kk)], [], []⟩⟩]] none .nil .nil)) (nn (mm (mm (.mk [.join [⟨.n, ⟨[(0, kk), (6, kk), (26, bb)], [], []⟩⟩]] none .nil .nil) (.mk [.join [⟨.n, ⟨[(0, kk), (6, kk)], [], []⟩⟩]] none .nil .nil)) (nn (nn (mm (mm (.mk [] (some (⟨[(7, ow 496), (8, ii)], [], [(496, .arr 152 tT1)]⟩, [⟨.x 0, ⟨[(7, ow 496)], [], [(496, .arr 152 tT1)]⟩⟩])) .nil .nil) .nil) .nil)))))))) func97 ⟨⟨qnB, trivial⟩, trivial⟩
def qlU (n : yB0) (travel : Int) : Option (yB4 × Int) :=
 (qcf (n.1, (n.2.1, (n.2.2.1, (n.2.2.2.1, (n.2.2.2.2.1, n.2.2.2.2.2)))))).bind fun r =>
 bif !decide (r = 0) then (
 some (([], ([], ([], []))), r))
 else (
 (qc9 (travel, (0, (false, false)))).bind fun r2 =>
 bif !r2 then (
 some (([], ([], ([], []))), 20))
 else (
 gd (makeG 8 (n.2.1.length : Int)) <|
 gd (makeG 8 (n.2.2.1.length : Int)) <|
 gd (makeG 1 (n.2.2.2.1.length : Int)) <|
 (qfy (n.1, (n.2.1, (n.2.2.1, (n.2.2.2.1, (n.2.2.2.2.1, n.2.2.2.2.2)))))).bind fun r3 =>
 (qaX [(travel, (0, (false, false)))] r3).bind fun r4 =>
 some ((r4, (List.replicate (n.2.1.length : Int).toNat (0 : Int), (List.replicate (n.2.2.1.length : Int).toNat (0 : Int), List.replicate (n.2.2.2.1.length : Int).toNat (false : Bool)))), 0)))
def qnk : Fun :=
 ⟨57, 2, 2,
 ⟨[(0, dd (.pair (.sl (.str)) tT0)), (1, ii)], [], []⟩,
 ⟨[(0, dd (.pair (.sl tT1) tT6)), (1, ii)], [], []⟩,
 fun x => qlU x.1 x.2⟩
theorem qrQ : FO qnk := fi [] [qcb, qcT, qgj, qbV] 41 [] .nil func57 ⟨⟨qcN, qdJ, qjp, qdK, trivial⟩, trivial⟩
def qeV (n : yB0) (travel : Int) : Option (yB12 × Int) :=
 (qlU (n.1, (n.2.1, (n.2.2.1, (n.2.2.2.1, (n.2.2.2.2.1, n.2.2.2.2.2))))) travel).bind fun r =>
 bif !decide (r.2 = 0) then (
 some ((([], ([], ([], []))), ([], ([], 0))), r.2))
 else (
 some (((r.1.1, (r.1.2.1, (r.1.2.2.1, r.1.2.2.2))), ([], ([], 0))), 0))
def qfU : Fun :=
 ⟨18, 2, 2,
 ⟨[(0, dd (.pair (.sl (.str)) tT0)), (1, ii)], [], []⟩,
 ⟨r64_, [], []⟩,
 fun x => qeV x.1 x.2⟩
theorem qid : FO qfU := fi [] [qnk] 20 [] .nil func18 ⟨⟨qrQ, trivial⟩, trivial⟩
def qhJ (s : List Int) : Option (List Int) :=
 bif Nat.beq s.length 0 then (bothO (
 some []) (
 gd (fits (0 + s.length) 1) <|
 some ([] ++ s)))
 else (
 gd (fits (0 + s.length) 1) <|
 some ([] ++ s))
def qaL : Fun :=
 ⟨60, 1, 1,
 ⟨r50_, [], []⟩,
 ⟨r50_, [], []⟩,
 fun x => qhJ x⟩
theorem qgk : FO qaL := fi [5] [] 8 [] .nil func60 ⟨trivial, trivial⟩
def qaI (s : List Int) : Option (List Int) := gd (fits (0 + s.length) 1) (some ([] ++ s))
def qbu : Fun := { f := qaL.f, np := qaL.np, nr := qaL.nr, ji := qaL.ji, jo := qaL.jo, tw := fun x => qaI x }
theorem qcj : FO qbu := qgk.le fun x => qia x _
def qer (s : yB3) : Option yB3 :=
 bif Nat.beq s.length 0 then (bothO (
 some []) (
 gd (fits (0 + s.length) 24) <|
 some ([] ++ s)))
 else (
 gd (fits (0 + s.length) 24) <|
 some ([] ++ s))
def qao : Fun :=
 ⟨156, 1, 1,
 ⟨[(0, dd (.sl tT1))], [], []⟩,
 ⟨[(0, ow 0)], [], [(0, .arr 152 tT1)]⟩,
 fun x => qer x⟩
theorem qdB : FO qao := fi [5] [] 8 [] .nil func156 ⟨trivial, trivial⟩
def qaZ (s : yB3) : Option yB3 := gd (fits (0 + s.length) 24) (some ([] ++ s))
def qb5 : Fun := { f := qao.f, np := qao.np, nr := qao.nr, ji := qao.ji, jo := qao.jo, tw := fun x => qaZ x }
theorem qek : FO qb5 := qdB.le fun x => qia x _
def qja (s : List Int) : Option (List Int) :=
 bif Nat.beq s.length 0 then (bothO (
 some []) (
 gd (fits (0 + s.length) 8) <|
 some ([] ++ s)))
 else (
 gd (fits (0 + s.length) 8) <|
 some ([] ++ s))
def qaW : Fun :=
 ⟨90, 1, 1,
 ⟨r89_, [], []⟩,
 ⟨[(0, ow 0)], [], [(0, .arr 3 I6)]⟩,
 fun x => qja x⟩
theorem qhq : FO qaW := fi [5] [] 8 [] .nil func90 ⟨trivial, trivial⟩
def qbN (s : List Int) : Option (List Int) := gd (fits (0 + s.length) 8) (some ([] ++ s))
def qeA : Fun := { f := qaW.f, np := qaW.np, nr := qaW.nr, ji := qaW.ji, jo := qaW.jo, tw := fun x => qbN x }
theorem qie : FO qeA := qhq.le fun x => qia x _
def qhK (s : List Bool) : Option (List Bool) :=
 bif Nat.beq s.length 0 then (bothO (
 some []) (
 gd (fits (0 + s.length) 1) <|
 some ([] ++ s)))
 else (
 gd (fits (0 + s.length) 1) <|
 some ([] ++ s))
def qaM : Fun :=
 ⟨157, 1, 1,
 ⟨[(0, dd (.sl (.bool)))], [], []⟩,
 ⟨[(0, ow 0)], [], a113_⟩,
 fun x => qhK x⟩
theorem qgl : FO qaM := fi [5] [] 8 [] .nil func157 ⟨trivial, trivial⟩
def qb9 (s : List Bool) : Option (List Bool) := gd (fits (0 + s.length) 1) (some ([] ++ s))
def qdL : Fun := { f := qaM.f, np := qaM.np, nr := qaM.nr, ji := qaM.ji, jo := qaM.jo, tw := fun x => qb9 x }
theorem qhr : FO qdL := qgl.le fun x => qia x _
def qgm (d : yB4) : Option (yB3 × List Int × List Int × List Bool) :=
 (qaZ d.1).bind fun r =>
 (qbN d.2.1).bind fun r2 =>
 (qbN d.2.2.1).bind fun r3 =>
 (qb9 d.2.2.2).bind fun r4 =>
 some (r, r2, r3, r4)
def qjr : Fun :=
 ⟨102, 1, 1,
 ⟨[(0, dd (.pair (.sl tT1) tT6))], [], []⟩,
 ⟨[(0, .agg [.own 0, .own 1, .own 2, .own 3])], [], a80_⟩,
 fun x => qgm x⟩
theorem qnl : FO qjr := fi [] [qb5, qeA, qdL] 34 [] .nil func102 ⟨⟨qek, qie, qhr, trivial⟩, trivial⟩
def qc5 (s : List yB2) : Option (List yB2) :=
 bif Nat.beq s.length 0 then (bothO (
 some []) (
 gd (fits (0 + s.length) 64) <|
 some ([] ++ s)))
 else (
 gd (fits (0 + s.length) 64) <|
 some ([] ++ s))
def qag : Fun :=
 ⟨103, 1, 1,
 ⟨[(0, dd (.sl tT3))], [], []⟩,
 ⟨[(0, ow 0)], [], [(0, .arr 97 tT3)]⟩,
 fun x => qc5 x⟩
theorem qcD : FO qag := fi [5] [] 8 [] .nil func103 ⟨trivial, trivial⟩
def qaG (s : List yB2) : Option (List yB2) := gd (fits (0 + s.length) 64) (some ([] ++ s))
def qbs : Fun := { f := qag.f, np := qag.np, nr := qag.nr, ji := qag.ji, jo := qag.jo, tw := fun x => qaG x }
theorem qc0 : FO qbs := qcD.le fun x => qia x _
def qdm (s : List yB1) : Option (List yB1) :=
 bif Nat.beq s.length 0 then (bothO (
 some []) (
 gd (fits (0 + s.length) 48) <|
 some ([] ++ s)))
 else (
 gd (fits (0 + s.length) 48) <|
 some ([] ++ s))
def qah : Fun :=
 ⟨104, 1, 1,
 ⟨[(0, dd (.sl tT2))], [], []⟩,
 ⟨[(0, ow 0)], [], [(0, .arr 110 tT2)]⟩,
 fun x => qdm x⟩
theorem qc1 : FO qah := fi [5] [] 8 [] .nil func104 ⟨trivial, trivial⟩
def qai (s : List yB1) : Option (List yB1) := gd (fits (0 + s.length) 48) (some ([] ++ s))
def qa1 : Fun := { f := qah.f, np := qah.np, nr := qah.nr, ji := qah.ji, jo := qah.jo, tw := fun x => qai x }
theorem qby : FO qa1 := qc1.le fun x => qia x _
def qkw (s : List Int) : Option (List Int) :=
 bif Nat.beq s.length 0 then (bothO (
 some []) (
 gd (fits (0 + s.length) 8) <|
 some ([] ++ s)))
 else (
 gd (fits (0 + s.length) 8) <|
 some ([] ++ s))
def qa3 : Fun :=
 ⟨90, 1, 1,
 ⟨r89_, [], []⟩,
 ⟨r89_, [], []⟩,
 fun x => qkw x⟩
theorem qif : FO qa3 := fi [5] [] 8 [] .nil func90 ⟨trivial, trivial⟩
def qcg (s : List Int) : Option (List Int) := gd (fits (0 + s.length) 8) (some ([] ++ s))
def qda : Fun := { f := qa3.f, np := qa3.np, nr := qa3.nr, ji := qa3.ji, jo := qa3.jo, tw := fun x => qcg x }
theorem qfz : FO qda := qif.le fun x => qia x _
def qe7 (r2 : List yB2) (v : Int) (c2 : List yB2) (c3 : yB3) (c4 : List Int) (c5 : List Int) (c6 : List Bool) (c7 : List yB1) : Option ((Int × (List yB2) × yB3 × List Int × List Int × List Bool × List yB1) ⊕ (yB3 × List Int × List Int × List Bool × (List yB2) × List yB1)) :=
 bif decide (v < (r2.length : Int)) then (
 gd (inB v c2.length) <|
 (qcg ((((((c2.getD v.toNat (0, (0, (0, (0, (0, [])))))).2).2).2).2).2)).bind fun r4 =>
 gd (inB v c2.length) <|
 some (.inl (wi64 (v + 1), c2.set v.toNat ((c2.getD v.toNat (0, (0, (0, (0, (0, [])))))).1, (((c2.getD v.toNat (0, (0, (0, (0, (0, [])))))).2).1, ((((c2.getD v.toNat (0, (0, (0, (0, (0, [])))))).2).2).1, (((((c2.getD v.toNat (0, (0, (0, (0, (0, [])))))).2).2).2).1, ((((((c2.getD v.toNat (0, (0, (0, (0, (0, [])))))).2).2).2).2).1, r4))))), c3, c4, c5, c6, c7)))
 else (
 some (.inr (c3, c4, c5, c6, c2, c7)))
def qbJ (c : yB12) : Option (Int × yB3 × List Int × List Int × List Bool × (List yB2) × List yB1) :=
 (qgm (c.1.1, (c.1.2.1, (c.1.2.2.1, c.1.2.2.2)))).bind fun r =>
 (qaG c.2.1).bind fun r2 =>
 (qai c.2.2.1).bind fun r3 =>
 (iter (fun x => qe7 r2 x.1 x.2.1 x.2.2.1 x.2.2.2.1 x.2.2.2.2.1 x.2.2.2.2.2.1 x.2.2.2.2.2.2) (0, r2, r.1, r.2.1, r.2.2.1, r.2.2.2, r3)).bind fun s =>
 some (c.2.2.2, s.1, s.2.1, s.2.2.1, s.2.2.2.1, s.2.2.2.2.1, s.2.2.2.2.2)
def qhs : Fun :=
 ⟨61, 1, 1,
 ⟨[(0, dd (.pair (.pair (.sl tT1) tT6) (.pair (.sl tT3) (.pair (.sl tT2) I6))))], [], []⟩,
 ⟨[(0, .agg [.own 0, .own 1, .own 2, .own 3, .own 4, .own 5, .data I6])], [], [(0, .arr 152 tT1), (1, .arr 3 I6), (2, .arr 3 I6), (3, .arr 4 (.bool)), (4, .arr 97 tT3), (5, .arr 110 tT2)]⟩,
 fun x => qbJ x⟩
theorem qkG : FO qhs := fi [] [qjr, qbs, qa1, qda] 35 [] ((nn (nn (mm (nn (mm (.mk [] (some (⟨[(1, pt 32 0), (2, pt 48 0), (18, ow 176), (19, kk), (20, ii)], v56_, [(176, .arr 97 tT3), (128, .arr 152 tT1), (129, .arr 3 I6), (130, .arr 3 I6), (131, .arr 4 (.bool)), (224, .arr 110 tT2)]⟩, [⟨.x 0, ⟨[(1, pt 32 0), (2, pt 48 0)], v56_, [(128, .arr 152 tT1), (129, .arr 3 I6), (130, .arr 3 I6), (131, .arr 4 (.bool)), (176, .arr 97 tT3), (224, .arr 110 tT2)]⟩⟩])) .nil .nil) .nil)) .nil)))) func61 ⟨⟨qnl, qc0, qby, qfz, trivial⟩, trivial⟩
def qeB (s : yB6) : Option (Bool) :=
 bif decide (s.1 = 0) then (
 bif decide (s.2.1 = 0) then (
 bif decide (s.2.2.1 = 0) then (
 bif decide (s.2.2.2.1 = 0) then (
 bif decide (s.2.2.2.2.1 = 0) then (
 bif decide (s.2.2.2.2.2.2 = 0) then (
 some (decide ((s.2.2.2.2.2.1.length : Int) = 0)))
 else (
 some false))
 else (
 some false))
 else (
 some false))
 else (
 some false))
 else (
 some false))
 else (
 some false)
def qfK : Fun :=
 ⟨119, 1, 1,
 ⟨r84_, [], []⟩,
 ⟨[(0, bb)], [], []⟩,
 fun x => qeB x⟩
theorem qiN : FO qfK := fi [] [] 40 [] .nil func119 ⟨trivial, trivial⟩
def qbk (n : Int) (most : Int) : Option (Bool) :=
 bif decide (0 ≤ n) then (
 some (decide (n ≤ most)))
 else (
 some false)
def qgn : Fun :=
 ⟨160, 2, 1,
 ⟨r53_, [], []⟩,
 ⟨[(0, bb)], [], []⟩,
 fun x => qbk x.1 x.2⟩
theorem qle : FO qgn := fi [] [] 12 [] .nil func160 ⟨trivial, trivial⟩
def qcc (v : Int) : Option (Bool) :=
 bif decide (v < (-9007199254740992)) then (
 some true)
 else (
 some (decide (9007199254740992 < v)))
def qgo : Fun :=
 ⟨162, 1, 1,
 ⟨[(0, ii)], [], []⟩,
 ⟨[(0, bb)], [], []⟩,
 fun x => qcc x⟩
theorem qlf : FO qgo := fi [] [] 9 [] .nil func162 ⟨trivial, trivial⟩
def qe8 (t : yB2) : Option (Bool) :=
 Option.bind (α := Bool) (
 (qbk t.1 255).bind fun r =>
 bif !r then (
 some true)
 else (
 (qbk t.2.1 255).bind fun r2 =>
 bif !r2 then (
 some true)
 else (
 (qbk t.2.2.1 2147483648).bind fun r3 =>
 bif !r3 then (
 some true)
 else (
 (qbk t.2.2.2.1 1099511627776).bind fun r4 =>
 bif !r4 then (
 some true)
 else (
 (qbk t.2.2.2.2.1 63).bind fun r5 =>
 some (!r5)))))) fun s =>
 bif s then (
 some false)
 else (
 bif decide ((t.2.2.2.2.2.length : Int) ≤ 16) then (
 (qaB t.2.2.2.2.2 (fun h => (qcc h.1).bind fun y => some y)).bind fun r6 =>
 some (!r6))
 else (
 some false))
def qhL : Fun :=
 ⟨120, 1, 1,
 ⟨[(0, dd tT3)], [], []⟩,
 ⟨[(0, bb)], [], []⟩,
 fun x => qe8 x⟩
theorem qmT : FO qhL := fi [] [qgn, qa6, qgo] 47 [] ((nn (nn (mm (mm (.mk [.join [⟨.n, ⟨[(1, pt 32 0), (36, bb)], [(32, 97, (kp 6))], []⟩⟩]] none .nil .nil) .nil) .nil)))) func120 ⟨⟨qle, qbx, qlf, trivial⟩, trivial⟩
def qat (x : List yB2) (target : Int) (cmp : yB2 × Int × Unit → Option Int) (i : Int) (j : Int) : Option ((Int × Int) ⊕ Int) :=
 bif decide (i < j) then (
 gd (inB (wi64 (Int.fdiv (wu64 (wi64 (i + j))) (2 ^ shAmt .u64 1))) x.length) <|
 (cmp (x.getD (wi64 (Int.fdiv (wu64 (wi64 (i + j))) (2 ^ shAmt .u64 1))).toNat (0, (0, (0, (0, (0, []))))), target, ())).bind fun r =>
 bif decide (r < 0) then (
 some (.inl (wi64 ((wi64 (Int.fdiv (wu64 (wi64 (i + j))) (2 ^ shAmt .u64 1))) + 1), j)))
 else (
 some (.inl (i, wi64 (Int.fdiv (wu64 (wi64 (i + j))) (2 ^ shAmt .u64 1))))))
 else (
 some (.inr i))
def qay (x : List yB2) (target : Int) (cmp : yB2 × Int × Unit → Option Int) : Option (Int × Bool) :=
 (iter (fun x2 => qat x target cmp x2.1 x2.2) (0, (x.length : Int))).bind fun s =>
 bif decide (s < (x.length : Int)) then (
 gd (inB s x.length) <|
 (cmp (x.getD s.toNat (0, (0, (0, (0, (0, []))))), target, ())).bind fun r2 =>
 some (s, decide (r2 = 0)))
 else (
 some (s, false))
def qaT : Fun :=
 ⟨163, 3, 2,
 ⟨[(0, dd (.sl tT3)), (1, ii), (2, .one (.fn [.pair I6 (.pair I6 (.pair I6 (.pair I6 (.pair I6 (.sl I6))))), .int .i64] I6))], [], []⟩,
 ⟨[(0, ii), (1, bb)], [], []⟩,
 fun x => qay x.1 x.2.1 x.2.2⟩
theorem qbB : FO qaT := fi [] [] 49 [] ((nn (nn (nn (mm (mm (.mk [] (some (⟨r102_, [], []⟩, [⟨.x 0, ⟨[(0, kk), (1, kk), (2, kk), (8, kk), (9, ii)], [], []⟩⟩])) .nil .nil) .nil) .nil))))) func163 ⟨trivial, trivial⟩
def qfV (x : Int) : Option (Bool) :=
 some (!decide (x = x))
def qiO : Fun :=
 ⟨204, 1, 1,
 ⟨[(0, ii)], [], []⟩,
 ⟨[(0, bb)], [], []⟩,
 fun x => qfV x⟩
theorem qnC : FO qiO := fi [] [] 6 [] .nil func204 ⟨trivial, trivial⟩
def qgp (x : Int) (y : Int) : Option (Int) :=
 (qfV x).bind fun r =>
 (qfV y).bind fun r2 =>
 bif r then (
 bif r2 then (
 some 0)
 else (
 some (-1)))
 else (
 bif r2 then (
 some 1)
 else (
 bif decide (x < y) then (
 some (-1))
 else (
 bif decide (y < x) then (
 some 1)
 else (
 some 0))))
def qgZ : Fun :=
 ⟨165, 2, 1,
 ⟨r53_, [], []⟩,
 ⟨[(0, ii)], [], []⟩,
 fun x => qgp x.1 x.2⟩
theorem qlV : FO qgZ := fi [] [qiO] 20 [] .nil func165 ⟨⟨qnC, trivial⟩, trivial⟩
def qcE (t : yB2) (s : Int) : Option (Int) :=
 (qgp t.1 s).bind fun r =>
 some r
def qiP : Fun :=
 ⟨164, 2, 1,
 ⟨[(0, dd tT3), (1, ii)], [], []⟩,
 ⟨[(0, ii)], [], []⟩,
 fun x => qcE x.1 x.2⟩
theorem qnD : FO qiP := fi [] [qgZ] 9 [] .nil func164 ⟨⟨qlV, trivial⟩, trivial⟩
def qig (l : List yB2) (station : Int) : Option (Int × Bool) :=
 (qay l station (fun h => (qcE h.1 h.2.1).bind fun y => some y)).bind fun r =>
 some (r.1, r.2)
def qkH : Fun :=
 ⟨121, 2, 2,
 ⟨[(0, dd (.sl tT3)), (1, ii)], [], []⟩,
 ⟨[(0, ii), (1, bb)], [], []⟩,
 fun x => qig x.1 x.2⟩
theorem qpt : FO qkH := fi [] [qaT, qiP] 11 [] .nil func121 ⟨⟨qbB, qnD, trivial⟩, trivial⟩
def qbl : Fun := qfw 122 97 tT3 64
theorem qcO : FO qbl := qzT ⟨_, func122, (by kernel_rfl), rfl⟩ underlying58 tk97.info rfl (by decide) (by decide) qy5 (ins_grow' tk97.info rfl (by decide)) qwc
def qeC (a : yB2) (b : yB2) : Option (Bool) :=
 bif decide (a.1 = b.1) then (
 bif decide (a.2.1 < b.2.1) then (
 some true)
 else (
 bif decide (a.2.1 = b.2.1) then (
 some (decide (a.2.2.1 < b.2.2.1)))
 else (
 some false)))
 else (
 some false)
def qg0 : Fun :=
 ⟨123, 2, 1,
 ⟨[(0, dd tT3), (1, dd tT3)], [], []⟩,
 ⟨[(0, bb)], [], []⟩,
 fun x => qeC x.1 x.2⟩
theorem qlW : FO qg0 := fi [] [] 31 [] .nil func123 ⟨trivial, trivial⟩
def qfW (v : yB0) (r : yB11) (c : Int) (c2 : yB3) (c3 : List Int) (c4 : List Int) (c5 : List Bool) (c6 : List yB2) (c7 : List yB1) : Option (Int × Int × yB3 × List Int × List Int × List Bool × (List yB2) × List yB1) :=
 Option.bind (α := Bool × yB3 × List Int × List Int × List Bool × (List yB2) × List yB1) (
 bif decide ((r.2.1.length : Int) < 5) then (
 some (true, c2, c3, c4, c5, c6, c7))
 else (
 (qeB (r.2.2.1.1, (r.2.2.1.2.1, (r.2.2.1.2.2.1, (r.2.2.1.2.2.2.1, (r.2.2.1.2.2.2.2.1, (r.2.2.1.2.2.2.2.2.1, r.2.2.1.2.2.2.2.2.2))))))).bind fun r2 =>
 bif !r2 then (
 some (true, c2, c3, c4, c5, c6, c7))
 else (
 some ((!(decide (r.2.2.2.1 = []) && (decide (r.2.2.2.2.1 = 0) && decide (r.2.2.2.2.2 = 0)))), c2, c3, c4, c5, c6, c7)))) fun s =>
 bif s.1 then (
 some (28, c, s.2.1, s.2.2.1, s.2.2.2.1, s.2.2.2.2.1, s.2.2.2.2.2.1, s.2.2.2.2.2.2))
 else (
 gd (inB 0 r.2.1.length) <|
 gd (inB 1 r.2.1.length) <|
 gd (inB 2 r.2.1.length) <|
 gd (inB 3 r.2.1.length) <|
 gd (inB 4 r.2.1.length) <|
 gd (cutG (some (.i64, 5)) none r.2.1.length) <|
 (qcg (r.2.1.drop 5)).bind fun r3 =>
 (qe8 (r.2.1.getD 0 0, (r.2.1.getD 1 0, (r.2.1.getD 2 0, (r.2.1.getD 3 0, (r.2.1.getD 4 0, r3)))))).bind fun r4 =>
 bif !r4 then (
 some (28, c, s.2.1, s.2.2.1, s.2.2.2.1, s.2.2.2.2.1, s.2.2.2.2.2.1, s.2.2.2.2.2.2))
 else (
 (qig s.2.2.2.2.2.1 (r.2.1.getD 0 0)).bind fun r5 =>
 bif !r5.2 then (
 (insT 64 r5.1 s.2.2.2.2.2.1 [(r.2.1.getD 0 0, (r.2.1.getD 1 0, (r.2.1.getD 2 0, (r.2.1.getD 3 0, (r.2.1.getD 4 0, r3)))))]).bind fun r6 =>
 some (0, c, s.2.1, s.2.2.1, s.2.2.2.1, s.2.2.2.2.1, r6, s.2.2.2.2.2.2))
 else (
 gd (inB r5.1 s.2.2.2.2.2.1.length) <|
 (qeC (s.2.2.2.2.2.1.getD r5.1.toNat (0, (0, (0, (0, (0, [])))))) (r.2.1.getD 0 0, (r.2.1.getD 1 0, (r.2.1.getD 2 0, (r.2.1.getD 3 0, (r.2.1.getD 4 0, r3)))))).bind fun r7 =>
 bif !r7 then (
 some (6, c, s.2.1, s.2.2.1, s.2.2.2.1, s.2.2.2.2.1, s.2.2.2.2.2.1, s.2.2.2.2.2.2))
 else (
 gd (inB r5.1 s.2.2.2.2.2.1.length) <|
 some (0, c, s.2.1, s.2.2.1, s.2.2.2.1, s.2.2.2.2.1, s.2.2.2.2.2.1.set r5.1.toNat (r.2.1.getD 0 0, (r.2.1.getD 1 0, (r.2.1.getD 2 0, (r.2.1.getD 3 0, (r.2.1.getD 4 0, r3))))), s.2.2.2.2.2.2)))))
def qiQ : Fun :=
 ⟨76, 3, 1,
 ⟨r12_, v51_, a8_⟩,
 ⟨[(0, ii)], v48_, a29_⟩,
 fun x => qfW x.1 x.2.1 x.2.2.1 x.2.2.2.1 x.2.2.2.2.1 x.2.2.2.2.2.1 x.2.2.2.2.2.2.1 x.2.2.2.2.2.2.2.1 x.2.2.2.2.2.2.2.2⟩
theorem qnE : FO qiQ := fi [78] [qfK, qda, qhL, qkH, qbl, qg0] 93 [] ((nn (mm (mm (.mk [.join [⟨.n, ⟨[(1, pt 0 0), (5, pt 96 0), (26, bb)], v67_, a8_⟩⟩]] none .nil .nil) .nil) .nil))) func76 ⟨⟨qiN, qfz, qmT, qpt, qcO, qlW, trivial⟩, trivial⟩
def qak (s : yB3) (f : (Int × Int × Bool × Bool) × Unit → Option Bool) (v : Int) : Option (Int ⊕ (Unit ⊕ Int)) :=
 bif decide (v < (s.length : Int)) then (
 gd (inB v s.length) <|
 (f (s.getD v.toNat (0, (0, (false, false))), ())).bind fun r =>
 bif r then (
 some (.inr (.inr v)))
 else (
 some (.inl (wi64 (v + 1)))))
 else (
 some (.inr (.inl ())))
def qaN (s : yB3) (f : (Int × Int × Bool × Bool) × Unit → Option Bool) : Option (Int) :=
 (iter (fun x => qak s f x) 0).bind fun s2 =>
 s2.elim (fun s3 =>
 some (-1))
 (fun s4 =>
 some s4)
def qbz : Fun :=
 ⟨227, 2, 1,
 ⟨r61_, [], []⟩,
 ⟨[(0, ii)], [], []⟩,
 fun x => qaN x.1 x.2⟩
theorem qdb : FO qbz := fi [] [] 19 [] ((nn (mm (nn (mm (.mk [] (some (⟨r31_, [], []⟩, [⟨.x 0, ⟨[], [], []⟩⟩, ⟨.r, ⟨[(4, ii)], [], []⟩⟩])) .nil .nil) .nil)) .nil))) func227 ⟨trivial, trivial⟩
def qaq (s : yB3) (f : (Int × Int × Bool × Bool) × Unit → Option Bool) : Option (Bool) :=
 (qaN s f).bind fun r =>
 some (decide (0 ≤ r))
def qbm : Fun :=
 ⟨206, 2, 1,
 ⟨r61_, [], []⟩,
 ⟨[(0, bb)], [], []⟩,
 fun x => qaq x.1 x.2⟩
theorem qcP : FO qbm := fi [] [qbz] 9 [] .nil func206 ⟨⟨qdb, trivial⟩, trivial⟩
def qfA (v : Int × Int × Bool × Bool) : Option (Bool) :=
 (qc9 (v.1, (v.2.1, (v.2.2.1, v.2.2.2)))).bind fun r =>
 some (!r)
def qjs : Fun :=
 ⟨207, 1, 1,
 ⟨[(0, dd tT1)], [], []⟩,
 ⟨[(0, bb)], [], []⟩,
 fun x => qfA x⟩
theorem qoP : FO qjs := fi [] [qcT] 6 [] .nil func207 ⟨⟨qdJ, trivial⟩, trivial⟩
def qgq (rate : Int) (most : Int) : Option (Bool) :=
 bif decide (wi64 (0 - most) ≤ rate) then (
 some (decide (rate ≤ most)))
 else (
 some false)
def qht : Fun :=
 ⟨228, 2, 1,
 ⟨r53_, [], []⟩,
 ⟨[(0, bb)], [], []⟩,
 fun x => qgq x.1 x.2⟩
theorem qkI : FO qht := fi [] [] 14 [] .nil func228 ⟨trivial, trivial⟩
def qg1 (rate : Int) : Option (Bool) :=
 (qgq rate 1000).bind fun r =>
 some (!r)
def qjt : Fun :=
 ⟨229, 1, 1,
 ⟨[(0, ii)], [], []⟩,
 ⟨[(0, bb)], [], []⟩,
 fun x => qg1 x⟩
theorem qoQ : FO qjt := fi [] [qht] 6 [] .nil func229 ⟨⟨qkI, trivial⟩, trivial⟩
def qcQ (vfrom : Int) (to : Int) (rate : Int) (s : List Int × List Int) : Option (List Int × List Int) :=
 Option.bind (α := Int × Int × Int × List Int × List Int) (
 bif decide (rate < 0) then (
 some (to, vfrom, wi64 (0 - rate), s))
 else (
 some (vfrom, to, rate, s))) fun s2 =>
 Option.bind (α := List Int × List Int) (
 bif decide (0 ≤ s2.1) then (
 gd (inB s2.1 24) <|
 gd (inB s2.1 24) <|
 some (s2.2.2.2.1, s2.2.2.2.2.set s2.1.toNat (wi64 ((s2.2.2.2.2.getD s2.1.toNat 0) + s2.2.2.1))))
 else (
 some s2.2.2.2)) fun s3 =>
 bif decide (0 ≤ s2.2.1) then (
 gd (inB s2.2.1 24) <|
 gd (inB s2.2.1 24) <|
 some (s3.1.set s2.2.1.toNat (wi64 ((s3.1.getD s2.2.1.toNat 0) + s2.2.2.1)), s3.2))
 else (
 some s3)
def qgr : Fun :=
 ⟨241, 4, 0,
 ⟨[(0, .one (.ael 0 48)), (1, ii), (2, ii), (3, ii)], [], a55_⟩,
 ⟨[], [], a55_⟩,
 fun x => qcQ x.1 x.2.1 x.2.2.1 x.2.2.2⟩
theorem qlg : FO qgr := fi [] [] 40 [] ((mm (nn (.mk [.join [⟨.n, ⟨[(0, .one (.ael 0 48)), (1, ii), (2, ii), (3, ii)], [], a55_⟩⟩]] none .nil .nil)) (mm (nn (.mk [.join [⟨.n, ⟨[(0, .one (.ael 0 48)), (2, kk), (3, kk)], [], a55_⟩⟩]] none .nil .nil)) .nil))) func241 ⟨trivial, trivial⟩
def qdc (n : yB0) (p : yB5) (v : Int) (v2 : List Int × List Int) (out : List Int × List Int) : Option ((Int × (List Int × List Int) × List Int × List Int) ⊕ ((List Int × List Int) × List Int × List Int)) :=
 bif decide (v < (n.2.1.length : Int)) then (
 gd (inB v n.2.1.length) <|
 gd (inB v p.1.length) <|
 (qcQ (((n.2.1.getD v.toNat ([], (0, (0, (0, (0, (0, []))))))).2).1) ((((n.2.1.getD v.toNat ([], (0, (0, (0, (0, (0, []))))))).2).2).1) (p.1.getD v.toNat 0) out).bind fun r =>
 some (.inl (wi64 (v + 1), v2, r)))
 else (
 some (.inr (v2, out)))
def qdd (n : yB0) (p : yB5) (v3 : Int) (v4 : List Int × List Int) (out2 : List Int × List Int) : Option ((Int × (List Int × List Int) × List Int × List Int) ⊕ ((List Int × List Int) × List Int × List Int)) :=
 bif decide (v3 < (n.2.2.1.length : Int)) then (
 gd (inB v3 n.2.2.1.length) <|
 gd (inB v3 p.2.1.length) <|
 (qcQ (-1) (((n.2.2.1.getD v3.toNat ([], (0, 0))).2).1) (p.2.1.getD v3.toNat 0) out2).bind fun r2 =>
 some (.inl (wi64 (v3 + 1), v4, r2)))
 else (
 some (.inr (v4, out2)))
def qju (n : yB0) (p : yB5) : Option (List Int × List Int) :=
 (iter (fun x => qdc n p x.1 x.2.1 x.2.2) (0, ((List.replicate 24 0), (List.replicate 24 0)), ((List.replicate 24 0), (List.replicate 24 0)))).bind fun s =>
 (iter (fun x2 => qdd n p x2.1 x2.2.1 x2.2.2) (0, s.1, s.2)).bind fun s2 =>
 some s2.2
def qjv : Fun :=
 ⟨230, 2, 1,
 ⟨r17_, [], []⟩,
 ⟨[(0, dd (.pair (.arr 24 I6) (.arr 24 I6)))], [], []⟩,
 fun x => qju x.1 x.2⟩
theorem qnm : FO qjv := fi [3000004, 3000005] [qgr] 47 [] ((nn (nn (mm (nn (mm (.mk [] (some (⟨[(2, pt 48 0), (3, pt 64 0), (4, .one (.ael 80 48)), (5, .one (.ael 96 48)), (11, kk), (12, kk), (13, ii)], v0_, a19_⟩, [⟨.x 0, ⟨[(2, pt 48 0), (3, pt 64 0), (4, .one (.ael 80 48)), (5, .one (.ael 96 48))], v0_, a19_⟩⟩])) .nil .nil) .nil)) (mm (nn (mm (.mk [] (some (⟨[(3, pt 64 0), (4, .one (.ael 80 48)), (5, .one (.ael 96 48)), (30, kk), (31, kk), (32, ii)], [(64, 55, [.keep, .keep, .keep])], a19_⟩, [⟨.x 2, ⟨[(4, .one (.ael 80 48)), (5, .one (.ael 96 48))], [], a19_⟩⟩])) .nil .nil) .nil)) .nil))))) func230 ⟨⟨qlg, trivial⟩, trivial⟩
def qlX (s : yB8) (rate : Int) : Option (Int × Int) :=
 bif decide (rate < 0) then (
 some (s.2.2.1, s.2.1))
 else (
 some (s.2.1, s.2.2.1))
def qnn : Fun :=
 ⟨242, 2, 2,
 ⟨[(0, dd (.pair (.str) tT4)), (1, ii)], [], []⟩,
 ⟨r53_, [], []⟩,
 fun x => qlX x.1 x.2⟩
theorem qrR : FO qnn := fi [] [] 16 [] .nil func242 ⟨trivial, trivial⟩
def qbQ (n : yB0) (p : yB5) (k : Int) (v : Int) (out2 : List Int) (there2 : List Bool) : Option ((Int × List Int × List Bool) ⊕ ((List Int × List Bool) ⊕ (List Int × List Bool))) :=
 bif decide (v < (n.2.1.length : Int)) then (
 gd (inB v n.2.1.length) <|
 gd (inB v p.1.length) <|
 (qlX ((n.2.1.getD v.toNat ([], (0, (0, (0, (0, (0, []))))))).1, (((n.2.1.getD v.toNat ([], (0, (0, (0, (0, (0, []))))))).2).1, ((((n.2.1.getD v.toNat ([], (0, (0, (0, (0, (0, []))))))).2).2).1, (((((n.2.1.getD v.toNat ([], (0, (0, (0, (0, (0, []))))))).2).2).2).1, ((((((n.2.1.getD v.toNat ([], (0, (0, (0, (0, (0, []))))))).2).2).2).2).1, (((((((n.2.1.getD v.toNat ([], (0, (0, (0, (0, (0, []))))))).2).2).2).2).2).1, ((((((n.2.1.getD v.toNat ([], (0, (0, (0, (0, (0, []))))))).2).2).2).2).2).2)))))) (p.1.getD v.toNat 0)).bind fun r =>
 Option.bind (α := Bool × List Int × List Bool) (
 gd (inB v p.1.length) <|
 bif !decide (p.1.getD v.toNat 0 = 0) then (
 bif decide (r.2 = k) then (
 gd (inB r.1 there2.length) <|
 some ((!(there2.getD r.1.toNat false)), out2, there2))
 else (
 some (false, out2, there2)))
 else (
 some (false, out2, there2))) fun s =>
 bif s.1 then (
 some (.inr (.inl (s.2.1, s.2.2))))
 else (
 some (.inl (wi64 (v + 1), s.2.1, s.2.2))))
 else (
 some (.inr (.inr (out2, there2))))
def qaR (n : yB0) (p : yB5) (k : Int) (out : List Int) (there : List Bool) : Option ((Int × List Int × List Bool) ⊕ (List Int)) :=
 bif decide (k < (n.1.length : Int)) then (
 Option.bind (α := Int × List Int × List Bool) (
 gd (inB k there.length) <|
 bif there.getD k.toNat false then (
 some (k, out, there))
 else (
 (iter (fun x => qbQ n p k x.1 x.2.1 x.2.2) (0, out, there)).bind fun s2 =>
 s2.elim (fun s3 =>
 some (k, s3.1, s3.2))
 (fun s4 =>
 gd (inB k s4.2.length) <|
 gd (fits (s4.1.length + 1) 8) <|
 some ((-1), s4.1 ++ [k], s4.2.set k.toNat true)))) fun s5 =>
 some (.inl (wi64 (s5.1 + 1), s5.2.1, s5.2.2)))
 else (
 some (.inr out))
def qkf (n : yB0) (p : yB5) : Option (List Int) :=
 gd (makeG 1 (n.1.length : Int)) <|
 (iter (fun x2 => qaR n p x2.1 x2.2.1 x2.2.2) (0, [], List.replicate (n.1.length : Int).toNat (false : Bool))).bind fun s6 =>
 some s6
def qlY : Fun :=
 ⟨231, 2, 1,
 ⟨r17_, [], []⟩,
 ⟨[(0, ow 0)], [], [(0, .arr 3 I6)]⟩,
 fun x => qkf x.1 x.2⟩
theorem qqC : FO qlY := fi [] [qnn] 72 [] ((nn (mm (nn (nn (nn (mm (nn (mm (.mk [] (some (⟨r90_, v0_, a40_⟩, [⟨.x 0, ⟨[(5, ow 107)], [], [(107, .arr 3 I6)]⟩⟩])) (nn (mm (.mk [.join [⟨.n, ⟨r90_, v0_, a40_⟩⟩]] none (nn (mm (nn (mm (.mk [] (some (⟨[(2, pt 48 0), (3, pt 64 0), (5, ow 107), (6, ow 256), (7, kk), (28, kk), (29, kk), (30, ii)], v0_, a40_⟩, [⟨.x 1, ⟨r91_, v0_, a40_⟩⟩, ⟨.x 2, ⟨r91_, v0_, a40_⟩⟩])) (nn (nn (mm (mm (nn (nn (mm (.mk [.join [⟨.n, ⟨[(2, pt 48 0), (3, pt 64 0), (5, ow 107), (6, ow 256), (7, kk), (28, kk), (29, kk), (30, kk), (62, bb)], v0_, a40_⟩⟩]] none .nil .nil) .nil))) .nil) .nil))) .nil) .nil)) .nil)) .nil) .nil)) .nil) .nil)) .nil)))) .nil))) func231 ⟨⟨qrR, trivial⟩, trivial⟩
def qfX (n : yB0) (p : yB5) (v : Int) : Option (Int ⊕ (Unit ⊕ Int)) :=
 bif decide (v < (n.2.1.length : Int)) then (
 gd (inB v n.2.1.length) <|
 gd (inB v p.1.length) <|
 (qgq (p.1.getD v.toNat 0) (min 1000 (((((n.2.1.getD v.toNat ([], (0, (0, (0, (0, (0, []))))))).2).2).2).1))).bind fun r2 =>
 bif !r2 then (
 some (.inr (.inr 1)))
 else (
 some (.inl (wi64 (v + 1)))))
 else (
 some (.inr (.inl ())))
def qeW (n : yB0) (p : yB5) : Option (Int) :=
 (qcf (n.1, (n.2.1, (n.2.2.1, (n.2.2.2.1, (n.2.2.2.2.1, n.2.2.2.2.2)))))).bind fun r =>
 bif !decide (r = 0) then (
 some r)
 else (
 Option.bind (α := Bool) (
 bif !decide ((p.1.length : Int) = (n.2.1.length : Int)) then (
 some true)
 else (
 bif !decide ((p.2.1.length : Int) = (n.2.2.1.length : Int)) then (
 some true)
 else (
 some (!decide ((p.2.2.length : Int) = (n.2.2.2.1.length : Int)))))) fun s =>
 bif s then (
 some 9)
 else (
 (iter (fun x => qfX n p x) 0).bind fun s2 =>
 s2.elim (fun s3 =>
 (qaB p.2.1 (fun h => (qg1 h.1).bind fun y => some y)).bind fun r3 =>
 bif r3 then (
 some 1)
 else (
 (qju (n.1, (n.2.1, (n.2.2.1, (n.2.2.2.1, (n.2.2.2.2.1, n.2.2.2.2.2))))) (p.1, (p.2.1, p.2.2))).bind fun r4 =>
 bif !((List.range 24).all fun i => decide ((r4.1.getD i 0) = (r4.2.getD i 0))) then (
 some 12)
 else (
 (qkf (n.1, (n.2.1, (n.2.2.1, (n.2.2.2.1, (n.2.2.2.2.1, n.2.2.2.2.2))))) (p.1, (p.2.1, p.2.2))).bind fun r5 =>
 bif decide ((r5.length : Int) < (n.1.length : Int)) then (
 some 13)
 else (
 some 0))))
 (fun s4 =>
 some s4)))
def qeD : Fun :=
 ⟨208, 2, 1,
 ⟨r17_, [], []⟩,
 ⟨[(0, ii)], [], []⟩,
 fun x => qeW x.1 x.2⟩
theorem qfY : FO qeD := fi [3000008] [qcb, qht, qa6, qjt, qjv, qlY] 77 [] ((nn (nn (mm (mm (.mk [.join [⟨.n, ⟨[(2, pt 48 0), (3, pt 64 0), (38, bb)], v0_, []⟩⟩]] none .nil .nil) .nil) (mm (nn (mm (.mk [] (some (⟨[(2, pt 48 0), (3, pt 64 0), (40, kk), (41, kk), (42, ii)], v0_, []⟩, [⟨.x 0, ⟨r32_, v0_, []⟩⟩, ⟨.r, ⟨[(4, ii)], [], []⟩⟩])) .nil .nil) .nil)) .nil))))) func208 ⟨⟨qcN, qkI, qbx, qoQ, qnm, qqC, trivial⟩, trivial⟩
def qb6 (rates : List Int) (v : Int) (out : List Bool) : Option ((Int × List Bool) ⊕ (List Bool)) :=
 bif decide (v < (rates.length : Int)) then (
 gd (inB v rates.length) <|
 gd (fits (out.length + 1) 1) <|
 some (.inl (wi64 (v + 1), out ++ [(!decide (rates.getD v.toNat 0 = 0))])))
 else (
 some (.inr out))
def qfB (rates : List Int) : Option (List Bool) :=
 (iter (fun x => qb6 rates x.1 x.2) (0, [])).bind fun s =>
 some s
def qjw : Fun :=
 ⟨232, 1, 1,
 ⟨r89_, [], []⟩,
 ⟨[(0, ow 0)], [], a113_⟩,
 fun x => qfB x⟩
theorem qoR : FO qjw := fi [] [] 19 [] ((nn (nn (mm (nn (mm (.mk [] (some (⟨[(3, ow 75), (6, kk), (7, kk), (8, ii)], [], [(75, .arr 4 (.bool))]⟩, [⟨.x 0, ⟨[(3, ow 75)], [], [(75, .arr 4 (.bool))]⟩⟩])) .nil .nil) .nil)) .nil)))) func232 ⟨trivial, trivial⟩
def qeX (n : yB0) (p : yB5) : Option (Int × List Bool × List Bool) :=
 (qcf (n.1, (n.2.1, (n.2.2.1, (n.2.2.2.1, (n.2.2.2.2.1, n.2.2.2.2.2)))))).bind fun r =>
 bif !decide (r = 0) then (
 some (r, [], []))
 else (
 (qeW (n.1, (n.2.1, (n.2.2.1, (n.2.2.2.1, (n.2.2.2.2.1, n.2.2.2.2.2))))) (p.1, (p.2.1, p.2.2))).bind fun r2 =>
 bif !decide (r2 = 0) then (
 some (r2, [], []))
 else (
 (qfB p.1).bind fun r3 =>
 (qfB p.2.1).bind fun r4 =>
 some (0, r3, r4)))
def qhu : Fun :=
 ⟨209, 2, 2,
 ⟨r17_, [], []⟩,
 ⟨[(0, .agg [.own 0, .own 1]), (1, ii)], [], [(0, .arr 4 (.bool)), (1, .arr 4 (.bool))]⟩,
 fun x => qeX x.1 x.2⟩
theorem qkJ : FO qhu := fi [] [qcb, qeD, qjw] 28 [] .nil func209 ⟨⟨qcN, qfY, qoR, trivial⟩, trivial⟩
def qdM (l : List Bool × List Bool) : Option (List Bool) :=
 gd (fits (0 + l.1.length) 1) <|
 gd (fits (([] ++ l.1).length + l.2.length) 1) <|
 some (([] ++ l.1) ++ l.2)
def qeY : Fun :=
 ⟨210, 1, 1,
 ⟨[(0, dd (.pair (.sl (.bool)) (.sl (.bool))))], [], []⟩,
 ⟨[(0, ow 0)], [], a113_⟩,
 fun x => qdM x⟩
theorem qhM : FO qeY := fi [] [] 11 [] .nil func210 ⟨trivial, trivial⟩
def qkg (v : Int × Int × Bool × Bool) : Option (Bool) :=
 (qc9 (v.1, (v.2.1, (v.2.2.1, v.2.2.2)))).bind fun r =>
 bif r then (
 some (decide (v.2.1 = v.1)))
 else (
 some false)
def qlZ : Fun :=
 ⟨233, 1, 1,
 ⟨[(0, dd tT1)], [], []⟩,
 ⟨[(0, bb)], [], []⟩,
 fun x => qkg x⟩
theorem qqD : FO qlZ := fi [] [qcT] 12 [] .nil func233 ⟨⟨qdJ, trivial⟩, trivial⟩
def qhN (v : Int × Int × Bool × Bool) : Option (Bool) :=
 (qkg (v.1, (v.2.1, (v.2.2.1, v.2.2.2)))).bind fun r =>
 bif r then (
 some v.2.2.1)
 else (
 some false)
def qih : Fun :=
 ⟨211, 1, 1,
 ⟨[(0, dd tT1)], [], []⟩,
 ⟨[(0, bb)], [], []⟩,
 fun x => qhN x⟩
theorem ql0 : FO qih := fi [] [qlZ] 9 [] .nil func211 ⟨⟨qqD, trivial⟩, trivial⟩
def qg2 (n : yB0) (p : yB5) (node : Int) : Option (Int × Int) :=
 (qeW (n.1, (n.2.1, (n.2.2.1, (n.2.2.2.1, (n.2.2.2.2.1, n.2.2.2.2.2))))) (p.1, (p.2.1, p.2.2))).bind fun r =>
 bif !decide (r = 0) then (
 some (0, r))
 else (
 Option.bind (α := Bool) (
 bif decide (node < 0) then (
 some true)
 else (
 some (decide ((n.1.length : Int) ≤ node)))) fun s =>
 bif s then (
 some (0, 8))
 else (
 (qju (n.1, (n.2.1, (n.2.2.1, (n.2.2.2.1, (n.2.2.2.2.1, n.2.2.2.2.2))))) (p.1, (p.2.1, p.2.2))).bind fun r2 =>
 gd (inB node 24) <|
 some (r2.1.getD node.toNat 0, 0)))
def qjx : Fun :=
 ⟨243, 3, 2,
 ⟨r45_, [], []⟩,
 ⟨r53_, [], []⟩,
 fun x => qg2 x.1 x.2.1 x.2.2⟩
theorem qoS : FO qjx := fi [] [qeD, qjv] 30 [] ((nn (nn (mm (mm (.mk [.join [⟨.n, ⟨[(2, kk), (3, pt 64 0), (4, pt 80 0), (23, bb)], v27_, []⟩⟩]] none .nil .nil) .nil) .nil)))) func243 ⟨⟨qfY, qnm, trivial⟩, trivial⟩
def qgs (n : yB0) (p : yB5) (station : Int) : Option (Bool) :=
 gd (inB station n.2.2.2.1.length) <|
 (qg2 (n.1, (n.2.1, (n.2.2.1, (n.2.2.2.1, (n.2.2.2.2.1, n.2.2.2.2.2))))) (p.1, (p.2.1, p.2.2)) (((n.2.2.2.1.getD station.toNat ([], (0, (0, (0, 0))))).2).1)).bind fun r =>
 bif decide (r.2 = 0) then (
 some (!decide (r.1 = 0)))
 else (
 some false)
def qhv : Fun :=
 ⟨234, 3, 1,
 ⟨r45_, [], []⟩,
 ⟨[(0, bb)], [], []⟩,
 fun x => qgs x.1 x.2.1 x.2.2⟩
theorem qkK : FO qhv := fi [] [qjx] 27 [] .nil func234 ⟨⟨qoS, trivial⟩, trivial⟩
def qii (n : yB0) (p : yB5) (v : Int) : Option (Int ⊕ (Unit ⊕ Bool)) :=
 bif decide (v < (p.2.2.length : Int)) then (
 gd (inB v p.2.2.length) <|
 Option.bind (α := Bool) (
 bif p.2.2.getD v.toNat false then (
 bif decide (v < (n.2.2.2.1.length : Int)) then (
 (qgs (n.1, (n.2.1, (n.2.2.1, (n.2.2.2.1, (n.2.2.2.2.1, n.2.2.2.2.2))))) (p.1, (p.2.1, p.2.2)) v).bind fun r =>
 some (!r))
 else (
 some false))
 else (
 some false)) fun s =>
 bif s then (
 some (.inr (.inr true)))
 else (
 some (.inl (wi64 (v + 1)))))
 else (
 some (.inr (.inl ())))
def qhO (n : yB0) (p : yB5) : Option (Bool) :=
 (iter (fun x => qii n p x) 0).bind fun s2 =>
 s2.elim (fun s3 =>
 some false)
 (fun s4 =>
 some s4)
def qij : Fun :=
 ⟨212, 2, 1,
 ⟨r17_, [], []⟩,
 ⟨[(0, bb)], [], []⟩,
 fun x => qhO x.1 x.2⟩
theorem ql1 : FO qij := fi [] [qhv] 31 [] ((nn (mm (nn (mm (.mk [] (some (⟨[(2, pt 48 0), (3, pt 64 0), (8, kk), (9, kk), (10, ii)], v0_, []⟩, [⟨.x 0, ⟨[], [], []⟩⟩, ⟨.r, ⟨[(4, bb)], [], []⟩⟩])) (nn (nn (mm (mm (nn (mm (.mk [.join [⟨.n, ⟨[(2, pt 48 0), (3, pt 64 0), (8, kk), (9, kk), (10, kk), (29, bb)], v0_, []⟩⟩]] none .nil .nil) .nil)) .nil) .nil))) .nil) .nil)) .nil))) func212 ⟨⟨qkK, trivial⟩, trivial⟩
def qbR (d : yB4) (r6 : List Bool) (v : Int) (v2 : List Bool) : Option ((Int × List Bool) ⊕ (Unit ⊕ Int)) :=
 bif decide (v < (r6.length : Int)) then (
 gd (inB v v2.length) <|
 Option.bind (α := Bool × List Bool) (
 bif v2.getD v.toNat false then (
 gd (inB v d.1.length) <|
 (qhN (d.1.getD v.toNat (0, (0, (false, false))))).bind fun r7 =>
 some ((!r7), v2))
 else (
 some (false, v2))) fun s2 =>
 bif s2.1 then (
 some (.inr (.inr 21)))
 else (
 some (.inl (wi64 (v + 1), s2.2))))
 else (
 some (.inr (.inl ())))
def qkh (n : yB0) (d : yB4) : Option (Int) :=
 (qcf (n.1, (n.2.1, (n.2.2.1, (n.2.2.2.1, (n.2.2.2.2.1, n.2.2.2.2.2)))))).bind fun r =>
 bif !decide (r = 0) then (
 some r)
 else (
 Option.bind (α := Bool) (
 (qfy (n.1, (n.2.1, (n.2.2.1, (n.2.2.2.1, (n.2.2.2.2.1, n.2.2.2.2.2)))))).bind fun r2 =>
 bif !decide ((d.1.length : Int) = r2) then (
 some true)
 else (
 (qaq d.1 (fun h => (qfA h.1).bind fun y => some y)).bind fun r3 =>
 some r3)) fun s =>
 bif s then (
 some 20)
 else (
 (qeW (n.1, (n.2.1, (n.2.2.1, (n.2.2.2.1, (n.2.2.2.2.1, n.2.2.2.2.2))))) (d.2.1, (d.2.2.1, d.2.2.2))).bind fun r4 =>
 bif !decide (r4 = 0) then (
 some r4)
 else (
 (qeX (n.1, (n.2.1, (n.2.2.1, (n.2.2.2.1, (n.2.2.2.2.1, n.2.2.2.2.2))))) (d.2.1, (d.2.2.1, d.2.2.2))).bind fun r5 =>
 bif !decide (r5.1 = 0) then (
 some r5.1)
 else (
 (qdM (r5.2.1, r5.2.2)).bind fun r6 =>
 (iter (fun x => qbR d r6 x.1 x.2) (0, r6)).bind fun s3 =>
 s3.elim (fun s4 =>
 (qhO (n.1, (n.2.1, (n.2.2.1, (n.2.2.2.1, (n.2.2.2.2.1, n.2.2.2.2.2))))) (d.2.1, (d.2.2.1, d.2.2.2))).bind fun r8 =>
 bif r8 then (
 some 21)
 else (
 some 0))
 (fun s5 =>
 some s5)))))
def ql2 : Fun :=
 ⟨168, 2, 1,
 ⟨r87_, [], []⟩,
 ⟨[(0, ii)], [], []⟩,
 fun x => qkh x.1 x.2⟩
theorem qqE : FO ql2 := fi [] [qcb, qgj, qbm, qjs, qeD, qhu, qeY, qih, qij] 67 [] ((nn (nn (mm (mm (.mk [.join [⟨.n, ⟨[(2, pt 48 0), (3, pt 64 0), (26, bb)], v38_, []⟩⟩]] none .nil .nil) .nil) (nn (nn (nn (mm (nn (mm (.mk [] (some (⟨[(2, pt 48 0), (3, pt 64 0), (45, ow 736), (46, kk), (47, ii)], v38_, [(736, .arr 4 (.bool))]⟩, [⟨.x 0, ⟨r32_, v38_, []⟩⟩, ⟨.r, ⟨[(4, ii)], [], []⟩⟩])) (nn (nn (mm (mm (nn (mm (.mk [.join [⟨.n, ⟨[(2, pt 48 0), (3, pt 64 0), (45, ow 736), (46, kk), (47, kk), (61, bb)], v38_, [(736, .arr 4 (.bool))]⟩⟩]] none .nil .nil) .nil)) .nil) .nil))) .nil) .nil)) .nil)))))))) func168 ⟨⟨qcN, qjp, qcP, qoP, qfY, qkJ, qhM, ql0, ql1, trivial⟩, trivial⟩
def qki (s : yB6) : Option (Bool) :=
 Option.bind (α := Bool) (
 bif decide (s.2.2.2.1 = 0) then (
 bif decide (s.2.2.2.2.1 = 0) then (
 bif decide ((s.2.2.2.2.2.1.length : Int) = 0) then (
 some (decide (s.2.2.2.2.2.2 = 0)))
 else (
 some false))
 else (
 some false))
 else (
 some false)) fun s2 =>
 Option.bind (α := Bool) (
 bif decide (s.1 = 1) then (
 some (decide (s.1 = 1)))
 else (
 Option.bind (α := Bool) (
 bif decide (s.1 = 2) then (
 some (decide (s.1 = 2)))
 else (
 Option.bind (α := Bool) (
 bif decide (s.1 = 3) then (
 some (decide (s.1 = 3)))
 else (
 some (decide (s.1 = 4)))) fun s3 =>
 some s3)) fun s4 =>
 some s4)) fun s5 =>
 bif s5 then (
 bif decide (s.2.2.1 = 0) then (
 some s2)
 else (
 some false))
 else (
 bif decide (s.1 = 5) then (
 bif decide (s.2.1 = 0) then (
 some (decide (s.2.2.2.2.2.2 = 0)))
 else (
 some false))
 else (
 bif decide (s.1 = 6) then (
 bif decide (s.2.1 = 0) then (
 some s2)
 else (
 some false))
 else (
 some false)))
def ql3 : Fun :=
 ⟨213, 1, 1,
 ⟨r84_, [], []⟩,
 ⟨[(0, bb)], [], []⟩,
 fun x => qki x⟩
theorem qqF : FO ql3 := fi [] [] 57 [] ((nn (nn (mm (.mk [.join [⟨.n, ⟨[(1, pt 32 0), (3, pt 64 0), (4, bb)], v81_, []⟩⟩]] none .nil .nil) (mm (nn (mm (mm (nn (.mk [.join [⟨.n, ⟨r65_, v81_, []⟩⟩]] none .nil (nn (.mk [.join [⟨.n, ⟨r65_, v81_, []⟩⟩]] none .nil (nn (.mk [.join [⟨.n, ⟨r65_, v81_, []⟩⟩]] none .nil .nil)))))) .nil) .nil)) .nil))))) func213 ⟨trivial, trivial⟩
def qfZ (v : Int × Int × Bool × Bool) (vopen : Bool) : Option ((Int × Int × Bool × Bool) × Int) :=
 (qc9 (v.1, (v.2.1, (v.2.2.1, v.2.2.2)))).bind fun r =>
 bif !r then (
 some ((v.1, (v.2.1, (v.2.2.1, v.2.2.2))), 20))
 else (
 some ((v.1, (v.2.1, (vopen, v.2.2.2))), 0))
def qiR : Fun :=
 ⟨235, 2, 2,
 ⟨[(0, dd tT1), (1, bb)], [], []⟩,
 ⟨r111_, [], []⟩,
 fun x => qfZ x.1 x.2⟩
theorem qnF : FO qiR := fi [] [qcT] 13 [] .nil func235 ⟨⟨qdJ, trivial⟩, trivial⟩
def qjy (n : yB0) (s : yB6) (d : yB3) (d2 : List Int) (d3 : List Int) (d4 : List Bool) : Option yB9 :=
 Option.bind (α := Bool × yB3 × List Int × List Int × List Bool) (
 bif decide (s.2.1 < 0) then (
 some (true, d, d2, d3, d4))
 else (
 some (decide ((d.length : Int) ≤ s.2.1), d, d2, d3, d4))) fun s2 =>
 bif s2.1 then (
 some (8, s2.2.1, s2.2.2.1, s2.2.2.2.1, s2.2.2.2.2))
 else (
 Option.bind (α := (yB3 × List Int × List Int × List Bool) ⊕ yB9) (
 bif decide (s.1 = 2) then (
 (qeX (n.1, (n.2.1, (n.2.2.1, (n.2.2.2.1, (n.2.2.2.2.1, n.2.2.2.2.2))))) (s2.2.2.1, (s2.2.2.2.1, s2.2.2.2.2))).bind fun r =>
 bif !decide (r.1 = 0) then (
 some (.inr (r.1, s2.2.1, s2.2.2.1, s2.2.2.2.1, s2.2.2.2.2)))
 else (
 (qdM (r.2.1, r.2.2)).bind fun r2 =>
 gd (inB s.2.1 r2.length) <|
 bif r2.getD s.2.1.toNat false then (
 some (.inr (22, s2.2.1, s2.2.2.1, s2.2.2.2.1, s2.2.2.2.2)))
 else (
 some (.inl (s2.2.1, s2.2.2.1, s2.2.2.2.1, s2.2.2.2.2)))))
 else (
 some (.inl (s2.2.1, s2.2.2.1, s2.2.2.2.1, s2.2.2.2.2)))) fun s3 =>
 s3.elim (fun s4 =>
 gd (inB s.2.1 s4.1.length) <|
 (qfZ (s4.1.getD s.2.1.toNat (0, (0, (false, false)))) (decide (s.1 = 1))).bind fun r3 =>
 gd (inB s.2.1 s4.1.length) <|
 some (r3.2, s4.1.set s.2.1.toNat (r3.1.1, (r3.1.2.1, (r3.1.2.2.1, r3.1.2.2.2))), s4.2.1, s4.2.2.1, s4.2.2.2))
 (fun s5 =>
 some (s5.1, s5.2.1, s5.2.2.1, s5.2.2.2.1, s5.2.2.2.2)))
def qno : Fun :=
 ⟨214, 3, 1,
 ⟨r14_, v6_, a1_⟩,
 ⟨[(0, ii)], v6_, a1_⟩,
 fun x => qjy x.1 x.2.1 x.2.2.1 x.2.2.2.1 x.2.2.2.2.1 x.2.2.2.2.2⟩
theorem qrS : FO qno := fi [] [qhu, qeY, qiR] 69 [] ((nn (mm (mm (.mk [.join [⟨.n, ⟨[(1, pt 0 0), (3, pt 64 0), (5, pt 96 0), (23, bb)], v72_, a1_⟩⟩]] none .nil .nil) .nil) (mm (nn (.mk [.join [⟨.n, ⟨[(1, pt 0 0), (5, pt 96 0)], v41_, a1_⟩⟩, ⟨.r, ⟨[(6, ii)], v6_, a1_⟩⟩]] none .nil .nil)) .nil)))) func214 ⟨⟨qkJ, qhM, qnF, trivial⟩, trivial⟩
def ql4 (n : yB0) (s : yB6) (d : yB3) (d2 : List Int) (d3 : List Int) (d4 : List Bool) : Option yB9 :=
 Option.bind (α := Bool × yB3 × List Int × List Int × List Bool) (
 bif decide (s.2.1 < 0) then (
 some (true, d, d2, d3, d4))
 else (
 some (decide ((n.2.2.2.1.length : Int) ≤ s.2.1), d, d2, d3, d4))) fun s2 =>
 bif s2.1 then (
 some (8, s2.2.1, s2.2.2.1, s2.2.2.2.1, s2.2.2.2.2))
 else (
 Option.bind (α := Bool × yB3 × List Int × List Int × List Bool) (
 bif decide (s.1 = 3) then (
 (qgs (n.1, (n.2.1, (n.2.2.1, (n.2.2.2.1, (n.2.2.2.2.1, n.2.2.2.2.2))))) (s2.2.2.1, (s2.2.2.2.1, s2.2.2.2.2)) s.2.1).bind fun r =>
 some ((!r), s2.2.1, s2.2.2.1, s2.2.2.2.1, s2.2.2.2.2))
 else (
 some (false, s2.2.1, s2.2.2.1, s2.2.2.2.1, s2.2.2.2.2))) fun s3 =>
 bif s3.1 then (
 some (22, s3.2.1, s3.2.2.1, s3.2.2.2.1, s3.2.2.2.2))
 else (
 gd (inB s.2.1 s3.2.2.2.2.length) <|
 some (0, s3.2.1, s3.2.2.1, s3.2.2.2.1, s3.2.2.2.2.set s.2.1.toNat (decide (s.1 = 3)))))
def qoT : Fun :=
 ⟨215, 3, 1,
 ⟨r14_, v6_, a1_⟩,
 ⟨[(0, ii)], v6_, a1_⟩,
 fun x => ql4 x.1 x.2.1 x.2.2.1 x.2.2.2.1 x.2.2.2.2.1 x.2.2.2.2.2⟩
theorem qs9 : FO qoT := fi [] [qhv] 43 [] ((nn (mm (mm (.mk [.join [⟨.n, ⟨[(1, pt 0 0), (3, pt 64 0), (5, pt 96 0), (17, bb)], v72_, a1_⟩⟩]] none .nil .nil) .nil) (mm (mm (.mk [.join [⟨.n, ⟨[(1, pt 0 0), (5, pt 96 0), (31, bb)], v41_, a1_⟩⟩]] none .nil .nil) .nil) .nil)))) func215 ⟨⟨qkK, trivial⟩, trivial⟩
def qf0 (i : Int) (v : yB0) : Option (Bool) :=
 bif decide (0 ≤ i) then (
 some (decide (i < (v.2.2.1.length : Int))))
 else (
 some false)
def qiS : Fun :=
 ⟨252, 2, 1,
 ⟨[(0, ii), (1, .one (.sel (.pair (.sl (.str)) tT0)))], [], []⟩,
 ⟨[(0, bb)], [], []⟩,
 fun x => qf0 x.1 x.2⟩
theorem qnG : FO qiS := fi [] [] 13 [] .nil func252 ⟨trivial, trivial⟩
def qkj (n : yB0) (h : Int × Bool) : Option (Int × Int) :=
 gd (inB h.1 n.2.1.length) <|
 bif h.2 then (
 some ((((n.2.1.getD h.1.toNat ([], (0, (0, (0, (0, (0, []))))))).2).2).1, ((n.2.1.getD h.1.toNat ([], (0, (0, (0, (0, (0, []))))))).2).1))
 else (
 some (((n.2.1.getD h.1.toNat ([], (0, (0, (0, (0, (0, []))))))).2).1, (((n.2.1.getD h.1.toNat ([], (0, (0, (0, (0, (0, []))))))).2).2).1))
def ql5 : Fun :=
 ⟨253, 2, 2,
 ⟨r93_, [], []⟩,
 ⟨r53_, [], []⟩,
 fun x => qkj x.1 x.2⟩
theorem qqG : FO ql5 := fi [] [] 23 [] .nil func253 ⟨trivial, trivial⟩
def qa4 (s : List Int) (v : Int) (v2 : Int) : Option (Int ⊕ (Unit ⊕ Int)) :=
 bif decide (v2 < (s.length : Int)) then (
 gd (inB v2 s.length) <|
 bif decide (v = s.getD v2.toNat 0) then (
 some (.inr (.inr v2)))
 else (
 some (.inl (wi64 (v2 + 1)))))
 else (
 some (.inr (.inl ())))
def qdC (s : List Int) (v : Int) : Option (Int) :=
 (iter (fun x => qa4 s v x) 0).bind fun s2 =>
 s2.elim (fun s3 =>
 some (-1))
 (fun s4 =>
 some s4)
def qeE : Fun :=
 ⟨257, 2, 1,
 ⟨[(0, dd (.sl I6)), (1, ii)], [], []⟩,
 ⟨[(0, ii)], [], []⟩,
 fun x => qdC x.1 x.2⟩
theorem qik : FO qeE := fi [] [] 19 [] ((nn (mm (nn (mm (.mk [] (some (⟨r31_, [], []⟩, [⟨.x 0, ⟨[], [], []⟩⟩, ⟨.r, ⟨[(4, ii)], [], []⟩⟩])) .nil .nil) .nil)) .nil))) func257 ⟨trivial, trivial⟩
def qbS (s : List Int) (v : Int) : Option (Bool) :=
 (qdC s v).bind fun r =>
 some (decide (0 ≤ r))
def qdz : Fun :=
 ⟨254, 2, 1,
 ⟨[(0, dd (.sl I6)), (1, ii)], [], []⟩,
 ⟨[(0, bb)], [], []⟩,
 fun x => qbS x.1 x.2⟩
theorem qgR : FO qdz := fi [] [qeE] 9 [] .nil func254 ⟨⟨qik, trivial⟩, trivial⟩
def qck (n : yB0) (p : yB7) (vat : Int) (v : Int) (passed : List Int) : Option ((Int × Int × List Int) ⊕ (Int ⊕ Bool)) :=
 bif decide (v < (p.2.2.1.length : Int)) then (
 gd (inB v p.2.2.1.length) <|
 Option.bind (α := Bool × List Int) (
 bif decide ((p.2.2.1.getD v.toNat (0, false)).1 < 0) then (
 some (true, passed))
 else (
 some (decide ((n.2.1.length : Int) ≤ (p.2.2.1.getD v.toNat (0, false)).1), passed))) fun s2 =>
 bif s2.1 then (
 some (.inr (.inr false)))
 else (
 (qkj (n.1, (n.2.1, (n.2.2.1, (n.2.2.2.1, (n.2.2.2.2.1, n.2.2.2.2.2))))) ((p.2.2.1.getD v.toNat (0, false)).1, (p.2.2.1.getD v.toNat (0, false)).2)).bind fun r3 =>
 Option.bind (α := Bool × List Int) (
 bif !decide (r3.1 = vat) then (
 some (true, s2.2))
 else (
 (qbS s2.2 r3.2).bind fun r4 =>
 some (r4, s2.2))) fun s3 =>
 bif s3.1 then (
 some (.inr (.inr false)))
 else (
 gd (fits (s3.2.length + 1) 8) <|
 some (.inl (r3.2, wi64 (v + 1), s3.2 ++ [r3.2])))))
 else (
 some (.inr (.inl vat)))
def qil (n : yB0) (p : yB7) : Option (Bool) :=
 Option.bind (α := Bool) (
 (qf0 p.1 (n.1, (n.2.1, (n.2.2.1, (n.2.2.2.1, (n.2.2.2.2.1, n.2.2.2.2.2)))))).bind fun r =>
 bif !r then (
 some true)
 else (
 (qf0 p.2.1 (n.1, (n.2.1, (n.2.2.1, (n.2.2.2.1, (n.2.2.2.2.1, n.2.2.2.2.2)))))).bind fun r2 =>
 bif !r2 then (
 some true)
 else (
 bif decide (p.1 = p.2.1) then (
 some true)
 else (
 bif decide (p.2.2.2 < 1) then (
 some true)
 else (
 bif decide (1000 < p.2.2.2) then (
 some true)
 else (
 some (decide (32 < (p.2.2.1.length : Int))))))))) fun s =>
 bif s then (
 some false)
 else (
 gd (inB p.1 n.2.2.1.length) <|
 (iter (fun x => qck n p x.1 x.2.1 x.2.2) (((n.2.2.1.getD p.1.toNat ([], (0, 0))).2).1, 0, [((n.2.2.1.getD p.1.toNat ([], (0, 0))).2).1])).bind fun s4 =>
 s4.elim (fun s5 =>
 gd (inB p.2.1 n.2.2.1.length) <|
 some (decide (s5 = ((n.2.2.1.getD p.2.1.toNat ([], (0, 0))).2).1)))
 (fun s6 =>
 some s6))
def qkL : Fun :=
 ⟨244, 2, 1,
 ⟨[(0, dd (.pair (.sl (.str)) tT0)), (1, dd tT5)], [], []⟩,
 ⟨[(0, bb)], [], []⟩,
 fun x => qil x.1 x.2⟩
theorem qpu : FO qkL := fi [56] [qiS, ql5, qdz] 104 [] ((nn (mm (.mk [.fv [(2, .pair (.sl (.str)) tT0)]] none .nil .nil) (mm (mm (.mk [.join [⟨.n, ⟨[(2, kk), (3, pt 64 0), (47, bb)], [(64, 26, (kp 4))], []⟩⟩]] none .nil .nil) .nil) (nn (nn (mm (nn (mm (.mk [] (some (⟨[(2, kk), (3, pt 64 0), (6, ii), (7, ow 139), (58, kk), (59, kk), (60, ii)], [(64, 26, (kp 4))], [(139, .arr 3 I6)]⟩, [⟨.x 0, ⟨[(2, kk), (3, pt 64 0), (6, ii)], [(64, 26, (kp 4))], []⟩⟩, ⟨.r, ⟨[(4, bb)], [], []⟩⟩])) (nn (nn (mm (mm (nn (mm (mm (.mk [.join [⟨.n, ⟨[(2, kk), (3, pt 64 0), (6, kk), (7, ow 139), (9, pt 160 0), (58, kk), (59, kk), (60, kk), (74, bb)], [(64, 26, (kp 4)), (160, 114, [.keep, .keep])], [(139, .arr 3 I6)]⟩⟩]] none .nil .nil) .nil) (nn (mm (mm (.mk [.join [⟨.n, ⟨[(2, kk), (3, pt 64 0), (7, ow 139), (11, kk), (58, kk), (59, kk), (60, kk), (88, bb)], [(64, 26, (kp 4))], [(139, .arr 3 I6)]⟩⟩]] none .nil .nil) .nil) .nil)))) .nil) .nil))) .nil) .nil)) .nil))))))) func244 ⟨⟨qnG, qqG, qgR, trivial⟩, trivial⟩
def qim (n : yB0) (p : yB7) : Option (Bool) :=
 (qcf (n.1, (n.2.1, (n.2.2.1, (n.2.2.2.1, (n.2.2.2.2.1, n.2.2.2.2.2)))))).bind fun r =>
 bif decide (r = 0) then (
 (qil (n.1, (n.2.1, (n.2.2.1, (n.2.2.2.1, (n.2.2.2.2.1, n.2.2.2.2.2))))) (p.1, (p.2.1, (p.2.2.1, p.2.2.2)))).bind fun r2 =>
 some r2)
 else (
 some false)
def qkM : Fun :=
 ⟨236, 2, 1,
 ⟨[(0, dd (.pair (.sl (.str)) tT0)), (1, dd tT5)], [], []⟩,
 ⟨[(0, bb)], [], []⟩,
 fun x => qim x.1 x.2⟩
theorem qpv : FO qkM := fi [] [qcb, qkL] 13 [] .nil func236 ⟨⟨qcN, qpu, trivial⟩, trivial⟩
def qen (i : Int) (v : yB4) : Option (Bool) :=
 gd (inB i v.1.length) <|
 (qhN (v.1.getD i.toNat (0, (0, (false, false))))).bind fun r =>
 some r
def qgt : Fun :=
 ⟨245, 2, 1,
 ⟨[(0, ii), (1, .one (.sel (.pair (.sl tT1) tT6)))], [], []⟩,
 ⟨[(0, bb)], [], []⟩,
 fun x => qen x.1 x.2⟩
theorem qjz : FO qgt := fi [] [qih] 10 [] .nil func245 ⟨⟨ql0, trivial⟩, trivial⟩
def qkk (p : yB5) (h : Int × Bool) : Option (Int) :=
 bif h.2 then (
 gd (inB h.1 p.1.length) <|
 some (wi64 (0 - (p.1.getD h.1.toNat 0))))
 else (
 gd (inB h.1 p.1.length) <|
 some (p.1.getD h.1.toNat 0))
def ql6 : Fun :=
 ⟨248, 2, 1,
 ⟨[(0, dd tT6), (1, dd (.pair I6 (.bool)))], [], []⟩,
 ⟨[(0, ii)], [], []⟩,
 fun x => qkk x.1 x.2⟩
theorem qqH : FO ql6 := fi [] [] 20 [] .nil func248 ⟨trivial, trivial⟩
def qeo (h : Int × Bool) (v : yB4) (v2 : yB4) (v3 : Int) : Option (Bool) :=
 (qkk v.2 (h.1, h.2)).bind fun r =>
 (qen h.1 v2).bind fun r2 =>
 bif !r2 then (
 some true)
 else (
 bif decide (r < 0) then (
 some true)
 else (
 some (decide (wi64 (r + v3) < 0))))
def qjA : Fun :=
 ⟨247, 4, 1,
 ⟨[(0, dd (.pair I6 (.bool))), (1, .one (.sel (.pair (.sl tT1) tT6))), (2, .one (.sel (.clo 245 (.pair (.sl tT1) tT6)))), (3, .one (.sel I6))], [], []⟩,
 ⟨[(0, bb)], [], []⟩,
 fun x => qeo x.1 x.2.1 x.2.2.1 x.2.2.2⟩
theorem qoU : FO qjA := fi [] [ql6, qgt] 26 [] .nil func247 ⟨⟨qqH, qjz, trivial⟩, trivial⟩
def qap (s : List (Int × Bool)) (f : (Int × Bool) × Unit → Option Bool) (v : Int) : Option (Int ⊕ (Unit ⊕ Int)) :=
 bif decide (v < (s.length : Int)) then (
 gd (inB v s.length) <|
 (f (s.getD v.toNat (0, false), ())).bind fun r =>
 bif r then (
 some (.inr (.inr v)))
 else (
 some (.inl (wi64 (v + 1)))))
 else (
 some (.inr (.inl ())))
def qa0 (s : List (Int × Bool)) (f : (Int × Bool) × Unit → Option Bool) : Option (Int) :=
 (iter (fun x => qap s f x) 0).bind fun s2 =>
 s2.elim (fun s3 =>
 some (-1))
 (fun s4 =>
 some s4)
def qb7 : Fun :=
 ⟨255, 2, 1,
 ⟨r74_, [], []⟩,
 ⟨[(0, ii)], [], []⟩,
 fun x => qa0 x.1 x.2⟩
theorem qel : FO qb7 := fi [] [] 19 [] ((nn (mm (nn (mm (.mk [] (some (⟨r31_, [], []⟩, [⟨.x 0, ⟨[], [], []⟩⟩, ⟨.r, ⟨[(4, ii)], [], []⟩⟩])) .nil .nil) .nil)) .nil))) func255 ⟨trivial, trivial⟩
def qaS (s : List (Int × Bool)) (f : (Int × Bool) × Unit → Option Bool) : Option (Bool) :=
 (qa0 s f).bind fun r =>
 some (decide (0 ≤ r))
def qbF : Fun :=
 ⟨246, 2, 1,
 ⟨r74_, [], []⟩,
 ⟨[(0, bb)], [], []⟩,
 fun x => qaS x.1 x.2⟩
theorem qdn : FO qbF := fi [] [qb7] 9 [] .nil func246 ⟨⟨qel, trivial⟩, trivial⟩
def qkl (n : yB0) (d : yB4) (x : yB7) (vby : Int) : Option (Bool) :=
 gd (inB x.1 d.2.2.1.length) <|
 gd (inB x.2.1 d.2.2.1.length) <|
 Option.bind (α := Bool × List (Int × Int × Bool × Bool) × List Int × List Int × List Bool) (
 (qen (wi64 ((n.2.1.length : Int) + x.1)) (d.1, (d.2.1, (d.2.2.1, d.2.2.2)))).bind fun r =>
 bif !r then (
 some (true, (d.1, (d.2.1, (d.2.2.1, d.2.2.2)))))
 else (
 (qen (wi64 ((n.2.1.length : Int) + x.2.1)) (d.1, (d.2.1, (d.2.2.1, d.2.2.2)))).bind fun r2 =>
 bif !r2 then (
 some (true, (d.1, (d.2.1, (d.2.2.1, d.2.2.2)))))
 else (
 bif decide (d.2.2.1.getD x.1.toNat 0 < 0) then (
 some (true, (d.1, (d.2.1, (d.2.2.1, d.2.2.2)))))
 else (
 bif decide (wi64 (0 - (d.2.2.1.getD x.2.1.toNat 0)) < 0) then (
 some (true, (d.1, (d.2.1, (d.2.2.1, d.2.2.2)))))
 else (
 bif decide (wi64 ((d.2.2.1.getD x.1.toNat 0) + vby) < 0) then (
 some (true, (d.1, (d.2.1, (d.2.2.1, d.2.2.2)))))
 else (
 some (decide (wi64 ((wi64 (0 - (d.2.2.1.getD x.2.1.toNat 0))) + vby) < 0), (d.1, (d.2.1, (d.2.2.1, d.2.2.2)))))))))) fun s =>
 bif s.1 then (
 some false)
 else (
 (qaS x.2.2.1 (fun h => (qeo h.1 (d.1, (d.2.1, (d.2.2.1, d.2.2.2))) s.2 vby).bind fun y => some y)).bind fun r3 =>
 some (!r3))
def ql7 : Fun :=
 ⟨237, 4, 1,
 ⟨[(0, dd (.pair (.sl (.str)) tT0)), (1, dd (.pair (.sl tT1) tT6)), (2, dd tT5), (3, ii)], [], []⟩,
 ⟨[(0, bb)], [], []⟩,
 fun x => qkl x.1 x.2.1 x.2.2.1 x.2.2.2⟩
theorem qqI : FO ql7 := fi [] [qgt, qbF, qjA] 73 [] ((nn (mm (.mk [.fv [(5, .pair (.sl tT1) tT6)]] none .nil .nil) (nn (nn (mm (mm (.mk [.join [⟨.n, ⟨[(5, kk), (6, pt 112 0), (7, pt 128 0), (9, pt 160 0), (67, bb)], [(112, 26, (kp 4)), (128, 3, [.keep]), (160, 222, [.data (.clo 245 (.pair (.sl tT1) tT6))])], []⟩⟩]] none .nil .nil) .nil) (mm (.mk [.fv [(9, .clo 245 (.pair (.sl tT1) tT6)), (7, .int .i64)]] none .nil .nil) .nil))))))) func237 ⟨⟨qjz, qdn, qoU, trivial⟩, trivial⟩
def qg3 (h : Int × Bool) (rate : Int) : Option (Int) :=
 bif h.2 then (
 some (wi64 (0 - rate)))
 else (
 some rate)
def qjB : Fun :=
 ⟨249, 2, 1,
 ⟨[(0, dd (.pair I6 (.bool))), (1, ii)], [], []⟩,
 ⟨[(0, ii)], [], []⟩,
 fun x => qg3 x.1 x.2⟩
theorem qoV : FO qjB := fi [] [] 10 [] .nil func249 ⟨trivial, trivial⟩
def qcF (x : yB7) (rate : Int) (v : Int) (p5 : yB3) (p6 : List Int) (p7 : List Int) (p8 : List Bool) : Option (yB9 ⊕ (yB3 × List Int × List Int × List Bool)) :=
 bif decide (v < (x.2.2.1.length : Int)) then (
 gd (inB v x.2.2.1.length) <|
 gd (inB ((x.2.2.1.getD v.toNat (0, false)).1) p6.length) <|
 (qg3 ((x.2.2.1.getD v.toNat (0, false)).1, (x.2.2.1.getD v.toNat (0, false)).2) rate).bind fun r =>
 gd (inB ((x.2.2.1.getD v.toNat (0, false)).1) p6.length) <|
 some (.inl (wi64 (v + 1), p5, p6.set (((x.2.2.1.getD v.toNat (0, false)).1).toNat) (wi64 ((p6.getD (((x.2.2.1.getD v.toNat (0, false)).1).toNat) 0) + r)), p7, p8)))
 else (
 some (.inr (p5, p6, p7, p8)))
def qkm (x : yB7) (rate : Int) (p : yB3) (p2 : List Int) (p3 : List Int) (p4 : List Bool) : Option (yB3 × List Int × List Int × List Bool) :=
 gd (inB x.1 p3.length) <|
 gd (inB x.1 p3.length) <|
 gd (inB x.2.1 (p3.set x.1.toNat (wi64 ((p3.getD x.1.toNat 0) + rate))).length) <|
 gd (inB x.2.1 (p3.set x.1.toNat (wi64 ((p3.getD x.1.toNat 0) + rate))).length) <|
 (iter (fun x2 => qcF x rate x2.1 x2.2.1 x2.2.2.1 x2.2.2.2.1 x2.2.2.2.2) (0, p, p2, (p3.set x.1.toNat (wi64 ((p3.getD x.1.toNat 0) + rate))).set x.2.1.toNat (wi64 (((p3.set x.1.toNat (wi64 ((p3.getD x.1.toNat 0) + rate))).getD x.2.1.toNat 0) - rate)), p4)).bind fun s =>
 some (s.1, s.2.1, s.2.2.1, s.2.2.2)
def ql8 : Fun :=
 ⟨238, 3, 0,
 ⟨[(0, pt 0 1), (1, dd tT5), (2, ii)], v6_, a1_⟩,
 ⟨[], v6_, a1_⟩,
 fun x => qkm x.1 x.2.1 x.2.2.1 x.2.2.2.1 x.2.2.2.2.1 x.2.2.2.2.2⟩
theorem qqJ : FO ql8 := fi [] [qjB] 51 [] ((nn (nn (nn (nn (mm (.mk [] (some (⟨[(0, pt 0 1), (2, kk), (31, kk), (32, kk), (33, ii)], v6_, a1_⟩, [⟨.x 0, ⟨[], v6_, a1_⟩⟩])) .nil .nil) .nil)))))) func238 ⟨⟨qoV, trivial⟩, trivial⟩
def qin (n : yB0) (s : yB6) (d : yB3) (d2 : List Int) (d3 : List Int) (d4 : List Bool) : Option yB9 :=
 Option.bind (α := Bool × yB3 × List Int × List Int × List Bool) (
 bif decide (s.2.2.1 < (-1000)) then (
 some (true, d, d2, d3, d4))
 else (
 some (decide (1000 < s.2.2.1), d, d2, d3, d4))) fun s2 =>
 bif s2.1 then (
 some (23, s2.2.1, s2.2.2.1, s2.2.2.2.1, s2.2.2.2.2))
 else (
 (qim (n.1, (n.2.1, (n.2.2.1, (n.2.2.2.1, (n.2.2.2.2.1, n.2.2.2.2.2))))) (s.2.2.2.1, (s.2.2.2.2.1, (s.2.2.2.2.2.1, max s.2.2.1 (wi64 (0 - s.2.2.1)))))).bind fun r =>
 bif !r then (
 some (23, s2.2.1, s2.2.2.1, s2.2.2.2.1, s2.2.2.2.2))
 else (
 (qkl (n.1, (n.2.1, (n.2.2.1, (n.2.2.2.1, (n.2.2.2.2.1, n.2.2.2.2.2))))) (s2.2.1, (s2.2.2.1, (s2.2.2.2.1, s2.2.2.2.2))) (s.2.2.2.1, (s.2.2.2.2.1, (s.2.2.2.2.2.1, max s.2.2.1 (wi64 (0 - s.2.2.1))))) s.2.2.1).bind fun r2 =>
 bif !r2 then (
 some (22, s2.2.1, s2.2.2.1, s2.2.2.2.1, s2.2.2.2.2))
 else (
 (qkm (s.2.2.2.1, (s.2.2.2.2.1, (s.2.2.2.2.2.1, max s.2.2.1 (wi64 (0 - s.2.2.1))))) s.2.2.1 s2.2.1 s2.2.2.1 s2.2.2.2.1 s2.2.2.2.2).bind fun r3 =>
 (qeW (n.1, (n.2.1, (n.2.2.1, (n.2.2.2.1, (n.2.2.2.2.1, n.2.2.2.2.2))))) (r3.2.1, (r3.2.2.1, r3.2.2.2))).bind fun r4 =>
 bif !decide (r4 = 0) then (
 some (r4, r3.1, r3.2.1, r3.2.2.1, r3.2.2.2))
 else (
 (qhO (n.1, (n.2.1, (n.2.2.1, (n.2.2.2.1, (n.2.2.2.2.1, n.2.2.2.2.2))))) (r3.2.1, (r3.2.2.1, r3.2.2.2))).bind fun r5 =>
 bif r5 then (
 some (22, r3.1, r3.2.1, r3.2.2.1, r3.2.2.2))
 else (
 some (0, r3.1, r3.2.1, r3.2.2.1, r3.2.2.2))))))
def qkN : Fun :=
 ⟨216, 3, 1,
 ⟨r14_, v6_, a1_⟩,
 ⟨[(0, ii)], v6_, a1_⟩,
 fun x => qin x.1 x.2.1 x.2.2.1 x.2.2.2.1 x.2.2.2.2.1 x.2.2.2.2.2⟩
theorem qpw : FO qkN := fi [] [qkM, ql7, ql8, qeD, qij] 61 [] ((nn (nn (mm (mm (.mk [.join [⟨.n, ⟨[(1, pt 0 0), (3, pt 64 0), (5, pt 96 0), (7, pt 128 0), (18, bb)], [(0, 57, [.own 1, .own 2, .own 3, .own 4]), (64, 50, (kp 6)), (96, 28, (kp 7)), (128, 26, (kp 4))], a1_⟩⟩]] none .nil .nil) .nil) .nil)))) func216 ⟨⟨qpv, qqI, qqJ, qfY, ql1, trivial⟩, trivial⟩
def qmU (v : Int × Int × Bool × Bool) : Option (Int) :=
 bif v.2.2.1 then (
 some v.1)
 else (
 some 0)
def ql9 : Fun :=
 ⟨256, 1, 1,
 ⟨[(0, dd tT1)], [], []⟩,
 ⟨[(0, ii)], [], []⟩,
 fun x => qmU x⟩
theorem qqK : FO ql9 := fi [] [] 7 [] .nil func256 ⟨trivial, trivial⟩
def qio (v : Int × Int × Bool × Bool) (ticks : Int) : Option (Int × Int × Bool × Bool) :=
 (qmU (v.1, (v.2.1, (v.2.2.1, v.2.2.2)))).bind fun r =>
 Option.bind (α := Int) (
 bif v.2.2.2 then (
 some v.2.1)
 else (
 Option.bind (α := Int) (
 bif decide (v.2.1 < r) then (
 some (min r (wi64 (v.2.1 + ticks))))
 else (
 some (max r (wi64 (v.2.1 - ticks))))) fun s =>
 some s)) fun s2 =>
 bif decide (v.1 = v.1) && (decide (s2 = v.2.1) && ((v.2.2.1 == v.2.2.1) && (v.2.2.2 == v.2.2.2))) then (
 some (v.1, (v.2.1, (v.2.2.1, v.2.2.2))))
 else (
 some (v.1, (s2, (v.2.2.1, v.2.2.2))))
def qkO : Fun :=
 ⟨250, 2, 1,
 ⟨r111_, [], []⟩,
 ⟨[(0, dd tT1)], [], []⟩,
 fun x => qio x.1 x.2⟩
theorem qpx : FO qkO := fi [] [ql9] 37 [] ((nn (nn (mm (nn (mm (nn (.mk [.join [⟨.n, ⟨[(2, pt 48 0), (4, pt 80 0), (5, pt 96 0)], v71_, []⟩⟩]] none .nil (nn (.mk [.join [⟨.n, ⟨[(2, pt 48 0), (4, pt 80 0), (5, pt 96 0)], v71_, []⟩⟩]] none .nil .nil)))) .nil)) .nil)))) func250 ⟨⟨qqK, trivial⟩, trivial⟩
def qkn (v : Int × Int × Bool × Bool) (ticks : Int) : Option ((Int × Int × Bool × Bool) × Int) :=
 (qc9 (v.1, (v.2.1, (v.2.2.1, v.2.2.2)))).bind fun r =>
 bif !r then (
 some ((v.1, (v.2.1, (v.2.2.1, v.2.2.2))), 20))
 else (
 Option.bind (α := Bool) (
 bif decide (ticks < 0) then (
 some true)
 else (
 some (decide (400 < ticks)))) fun s =>
 bif s then (
 some ((v.1, (v.2.1, (v.2.2.1, v.2.2.2))), 1))
 else (
 (qio (v.1, (v.2.1, (v.2.2.1, v.2.2.2))) ticks).bind fun r2 =>
 some ((r2.1, (r2.2.1, (r2.2.2.1, r2.2.2.2))), 0)))
def qma : Fun :=
 ⟨239, 2, 2,
 ⟨r111_, [], []⟩,
 ⟨r111_, [], []⟩,
 fun x => qkn x.1 x.2⟩
theorem qqL : FO qma := fi [] [qcT, qkO] 22 [] ((nn (mm (mm (nn (nn (mm (.mk [.join [⟨.n, ⟨[(1, kk), (2, pt 48 0), (4, pt 80 0), (11, bb)], [(48, 152, (kp 4)), (80, 152, (kp 4))], []⟩⟩]] none .nil .nil) .nil))) .nil) .nil))) func239 ⟨⟨qdJ, qpx, trivial⟩, trivial⟩
def qde (s : yB6) (s2 : Bool × yB3 × List Int × List Int × List Bool) (v2 : Int) (d5 : yB3) (d6 : List Int) (d7 : List Int) (d8 : List Bool) : Option (yB9 ⊕ ((yB3 × List Int × List Int × List Bool) ⊕ yB9)) :=
 bif decide (v2 < (s2.2.1.length : Int)) then (
 gd (inB v2 d5.length) <|
 (qkn ((d5.getD v2.toNat (0, (0, (false, false)))).1, (((d5.getD v2.toNat (0, (0, (false, false)))).2).1, ((((d5.getD v2.toNat (0, (0, (false, false)))).2).2).1, (((d5.getD v2.toNat (0, (0, (false, false)))).2).2).2))) s.2.2.1).bind fun r =>
 bif !decide (r.2 = 0) then (
 some (.inr (.inr (r.2, d5, d6, d7, d8))))
 else (
 gd (inB v2 d5.length) <|
 some (.inl (wi64 (v2 + 1), d5.set v2.toNat (r.1.1, (r.1.2.1, (r.1.2.2.1, r.1.2.2.2))), d6, d7, d8))))
 else (
 some (.inr (.inl (d5, d6, d7, d8))))
def qmb (v : yB0) (s : yB6) (d : yB3) (d2 : List Int) (d3 : List Int) (d4 : List Bool) : Option yB9 :=
 Option.bind (α := Bool × yB3 × List Int × List Int × List Bool) (
 bif decide (s.2.2.1 < 1) then (
 some (true, d, d2, d3, d4))
 else (
 some (decide (100 < s.2.2.1), d, d2, d3, d4))) fun s2 =>
 bif s2.1 then (
 some (1, s2.2.1, s2.2.2.1, s2.2.2.2.1, s2.2.2.2.2))
 else (
 (iter (fun x => qde s s2 x.1 x.2.1 x.2.2.1 x.2.2.2.1 x.2.2.2.2) (0, s2.2.1, s2.2.2.1, s2.2.2.2.1, s2.2.2.2.2)).bind fun s3 =>
 s3.elim (fun s4 =>
 some (0, s4.1, s4.2.1, s4.2.2.1, s4.2.2.2))
 (fun s5 =>
 some (s5.1, s5.2.1, s5.2.2.1, s5.2.2.2.1, s5.2.2.2.2)))
def qnp : Fun :=
 ⟨217, 3, 1,
 ⟨r14_, v6_, a1_⟩,
 ⟨[(0, ii)], v6_, a1_⟩,
 fun x => qmb x.1 x.2.1 x.2.2.1 x.2.2.2.1 x.2.2.2.2.1 x.2.2.2.2.2⟩
theorem qrT : FO qnp := fi [] [qma] 47 [] ((nn (mm (mm (.mk [.join [⟨.n, ⟨[(1, pt 0 0), (5, pt 96 0), (18, bb)], v41_, a1_⟩⟩]] none .nil .nil) .nil) (mm (nn (mm (.mk [] (some (⟨[(1, pt 0 0), (5, pt 96 0), (22, ow 1), (23, kk), (24, ii)], v41_, a1_⟩, [⟨.x 0, ⟨[], v6_, a1_⟩⟩, ⟨.r, ⟨[(6, ii)], v6_, a1_⟩⟩])) .nil .nil) .nil)) .nil)))) func217 ⟨⟨qqL, trivial⟩, trivial⟩
def qko (n : yB0) (s : yB6) (d : yB3) (d2 : List Int) (d3 : List Int) (d4 : List Bool) : Option yB9 :=
 (qki (s.1, (s.2.1, (s.2.2.1, (s.2.2.2.1, (s.2.2.2.2.1, (s.2.2.2.2.2.1, s.2.2.2.2.2.2))))))).bind fun r =>
 bif !r then (
 some (22, d, d2, d3, d4))
 else (
 bif decide (s.1 = 0) then (gd (inB 0 7) <|
 none)
 else (
 bif decide (s.1 = 1) then (gd (inB 1 7) <|
 (qjy (n.1, (n.2.1, (n.2.2.1, (n.2.2.2.1, (n.2.2.2.2.1, n.2.2.2.2.2))))) (s.1, (s.2.1, (s.2.2.1, (s.2.2.2.1, (s.2.2.2.2.1, (s.2.2.2.2.2.1, s.2.2.2.2.2.2)))))) d d2 d3 d4).bind fun r2 =>
 some (r2.1, r2.2.1, r2.2.2.1, r2.2.2.2.1, r2.2.2.2.2))
 else (
 bif decide (s.1 = 2) then (gd (inB 2 7) <|
 (qjy (n.1, (n.2.1, (n.2.2.1, (n.2.2.2.1, (n.2.2.2.2.1, n.2.2.2.2.2))))) (s.1, (s.2.1, (s.2.2.1, (s.2.2.2.1, (s.2.2.2.2.1, (s.2.2.2.2.2.1, s.2.2.2.2.2.2)))))) d d2 d3 d4).bind fun r3 =>
 some (r3.1, r3.2.1, r3.2.2.1, r3.2.2.2.1, r3.2.2.2.2))
 else (
 bif decide (s.1 = 3) then (gd (inB 3 7) <|
 (ql4 (n.1, (n.2.1, (n.2.2.1, (n.2.2.2.1, (n.2.2.2.2.1, n.2.2.2.2.2))))) (s.1, (s.2.1, (s.2.2.1, (s.2.2.2.1, (s.2.2.2.2.1, (s.2.2.2.2.2.1, s.2.2.2.2.2.2)))))) d d2 d3 d4).bind fun r4 =>
 some (r4.1, r4.2.1, r4.2.2.1, r4.2.2.2.1, r4.2.2.2.2))
 else (
 bif decide (s.1 = 4) then (gd (inB 4 7) <|
 (ql4 (n.1, (n.2.1, (n.2.2.1, (n.2.2.2.1, (n.2.2.2.2.1, n.2.2.2.2.2))))) (s.1, (s.2.1, (s.2.2.1, (s.2.2.2.1, (s.2.2.2.2.1, (s.2.2.2.2.2.1, s.2.2.2.2.2.2)))))) d d2 d3 d4).bind fun r5 =>
 some (r5.1, r5.2.1, r5.2.2.1, r5.2.2.2.1, r5.2.2.2.2))
 else (
 bif decide (s.1 = 5) then (gd (inB 5 7) <|
 (qin (n.1, (n.2.1, (n.2.2.1, (n.2.2.2.1, (n.2.2.2.2.1, n.2.2.2.2.2))))) (s.1, (s.2.1, (s.2.2.1, (s.2.2.2.1, (s.2.2.2.2.1, (s.2.2.2.2.2.1, s.2.2.2.2.2.2)))))) d d2 d3 d4).bind fun r6 =>
 some (r6.1, r6.2.1, r6.2.2.1, r6.2.2.2.1, r6.2.2.2.2))
 else (
 bif decide (s.1 = 6) then (gd (inB 6 7) <|
 (qmb (n.1, (n.2.1, (n.2.2.1, (n.2.2.2.1, (n.2.2.2.2.1, n.2.2.2.2.2))))) (s.1, (s.2.1, (s.2.2.1, (s.2.2.2.1, (s.2.2.2.2.1, (s.2.2.2.2.2.1, s.2.2.2.2.2.2)))))) d d2 d3 d4).bind fun r7 =>
 some (r7.1, r7.2.1, r7.2.2.1, r7.2.2.2.1, r7.2.2.2.2))
 else (
 none))))))))
def qmc : Fun :=
 ⟨169, 3, 1,
 ⟨r14_, v6_, a1_⟩,
 ⟨[(0, ii)], v6_, a1_⟩,
 fun x => qko x.1 x.2.1 x.2.2.1 x.2.2.2.1 x.2.2.2.2.1 x.2.2.2.2.2⟩
theorem qqM : FO qmc := fi [4000014] [ql3, qno, qoT, qkN, qnp] 20 [] .nil func169 ⟨⟨qqF, qrS, qs9, qpw, qrT, trivial⟩, trivial⟩
def qkp (n : yB0) (d : yB4) (s : yB6) : Option yB9 :=
 (qkh (n.1, (n.2.1, (n.2.2.1, (n.2.2.2.1, (n.2.2.2.2.1, n.2.2.2.2.2))))) (d.1, (d.2.1, (d.2.2.1, d.2.2.2)))).bind fun r =>
 bif !decide (r = 0) then (
 (qgm (d.1, (d.2.1, (d.2.2.1, d.2.2.2)))).bind fun r2 =>
 some (r, r2.1, r2.2.1, r2.2.2.1, r2.2.2.2))
 else (
 (qgm (d.1, (d.2.1, (d.2.2.1, d.2.2.2)))).bind fun r3 =>
 (qko (n.1, (n.2.1, (n.2.2.1, (n.2.2.2.1, (n.2.2.2.2.1, n.2.2.2.2.2))))) (s.1, (s.2.1, (s.2.2.1, (s.2.2.2.1, (s.2.2.2.2.1, (s.2.2.2.2.2.1, s.2.2.2.2.2.2)))))) r3.1 r3.2.1 r3.2.2.1 r3.2.2.2).bind fun r4 =>
 bif !decide (r4.1 = 0) then (
 (qgm (d.1, (d.2.1, (d.2.2.1, d.2.2.2)))).bind fun r5 =>
 some (r4.1, r5.1, r5.2.1, r5.2.2.1, r5.2.2.2))
 else (
 some (0, r4.2.1, r4.2.2.1, r4.2.2.2.1, r4.2.2.2.2)))
def qmd : Fun :=
 ⟨124, 3, 2,
 ⟨[(0, dd (.pair (.sl (.str)) tT0)), (1, dd (.pair (.sl tT1) tT6)), (2, dd (.pair I6 (.pair I6 (.pair I6 tT5))))], [], []⟩,
 ⟨[(0, .agg [.own 0, .own 1, .own 2, .own 3]), (1, ii)], [], a80_⟩,
 fun x => qkp x.1 x.2.1 x.2.2⟩
theorem qqN : FO qmd := fi [] [ql2, qjr, qmc] 30 [] .nil func124 ⟨⟨qqE, qnl, qqM, trivial⟩, trivial⟩
def qe9 (n : yB0) (r : yB11) (c : Int) (c2 : yB3) (c3 : List Int) (c4 : List Int) (c5 : List Bool) (c6 : List yB2) (c7 : List yB1) : Option (Int × Int × yB3 × List Int × List Int × List Bool × (List yB2) × List yB1) :=
 Option.bind (α := Bool × yB3 × List Int × List Int × List Bool × (List yB2) × List yB1) (
 bif decide (0 < (r.2.1.length : Int)) then (
 some (true, c2, c3, c4, c5, c6, c7))
 else (
 some ((!(decide (r.2.2.2.1 = []) && (decide (r.2.2.2.2.1 = 0) && decide (r.2.2.2.2.2 = 0)))), c2, c3, c4, c5, c6, c7))) fun s =>
 bif s.1 then (
 some (28, c, s.2.1, s.2.2.1, s.2.2.2.1, s.2.2.2.2.1, s.2.2.2.2.2.1, s.2.2.2.2.2.2))
 else (
 (qkp (n.1, (n.2.1, (n.2.2.1, (n.2.2.2.1, (n.2.2.2.2.1, n.2.2.2.2.2))))) (s.2.1, (s.2.2.1, (s.2.2.2.1, s.2.2.2.2.1))) (r.2.2.1.1, (r.2.2.1.2.1, (r.2.2.1.2.2.1, (r.2.2.1.2.2.2.1, (r.2.2.1.2.2.2.2.1, (r.2.2.1.2.2.2.2.2.1, r.2.2.1.2.2.2.2.2.2))))))).bind fun r2 =>
 some (r2.1, c, r2.2.1, r2.2.2.1, r2.2.2.2.1, r2.2.2.2.2, s.2.2.2.2.2.1, s.2.2.2.2.2.2))
def qhP : Fun :=
 ⟨77, 3, 1,
 ⟨r12_, v51_, a8_⟩,
 ⟨[(0, ii)], v48_, a29_⟩,
 fun x => qe9 x.1 x.2.1 x.2.2.1 x.2.2.2.1 x.2.2.2.2.1 x.2.2.2.2.2.1 x.2.2.2.2.2.2.1 x.2.2.2.2.2.2.2.1 x.2.2.2.2.2.2.2.2⟩
theorem qmV : FO qhP := fi [] [qmd] 35 [] ((nn (mm (mm (.mk [.join [⟨.n, ⟨[(1, pt 0 0), (3, pt 64 0), (5, pt 96 0), (18, bb)], [(0, 61, [.own 1, .own 2, .own 3, .own 4, .own 5, .own 6, .keep]), (64, 50, (kp 6)), (96, 32, (kp 12))], a8_⟩⟩]] none .nil .nil) .nil) .nil))) func77 ⟨⟨qqN, trivial⟩, trivial⟩
def qb8 (n : Int) : Option (Bool) :=
 bif decide (0 ≤ n) then (
 some (decide (n ≤ 1099511627776)))
 else (
 some false)
def qeF : Fun :=
 ⟨218, 1, 1,
 ⟨[(0, ii)], [], []⟩,
 ⟨[(0, bb)], [], []⟩,
 fun x => qb8 x⟩
theorem qg4 : FO qeF := fi [] [] 9 [] .nil func218 ⟨trivial, trivial⟩
def qdf (n : Int) : Option (Bool) :=
 bif decide ((-1099511627776) ≤ n) then (
 some (decide (n ≤ 1099511627776)))
 else (
 some false)
def qeG : Fun :=
 ⟨219, 1, 1,
 ⟨[(0, ii)], [], []⟩,
 ⟨[(0, bb)], [], []⟩,
 fun x => qdf x⟩
theorem qg5 : FO qeG := fi [] [] 9 [] .nil func219 ⟨trivial, trivial⟩
def qch (a : yB1) : Option (Bool) :=
 (qb8 a.2.1).bind fun r =>
 bif r then (
 (qb8 a.2.2.1).bind fun r2 =>
 bif r2 then (
 (qb8 a.2.2.2.1).bind fun r3 =>
 bif r3 then (
 (qdf a.2.2.2.2).bind fun r4 =>
 some r4)
 else (
 some false))
 else (
 some false))
 else (
 some false)
def qfL : Fun :=
 ⟨174, 1, 1,
 ⟨[(0, dd tT2)], [], []⟩,
 ⟨[(0, bb)], [], []⟩,
 fun x => qch x⟩
theorem qiT : FO qfL := fi [] [qeF, qeG] 21 [] .nil func174 ⟨⟨qg4, qg5, trivial⟩, trivial⟩
def qcR (l : List yB1) (v : Int) : Option (Int ⊕ (Unit ⊕ Bool)) :=
 bif decide (v < (l.length : Int)) then (
 gd (inB v l.length) <|
 Option.bind (α := Bool) (
 (qch ((l.getD v.toNat ([], (0, (0, (0, 0))))).1, (((l.getD v.toNat ([], (0, (0, (0, 0))))).2).1, ((((l.getD v.toNat ([], (0, (0, (0, 0))))).2).2).1, (((((l.getD v.toNat ([], (0, (0, (0, 0))))).2).2).2).1, ((((l.getD v.toNat ([], (0, (0, (0, 0))))).2).2).2).2))))).bind fun r =>
 bif !r then (
 some true)
 else (
 (qct ((l.getD v.toNat ([], (0, (0, (0, 0))))).1)).bind fun r2 =>
 bif !r2 then (
 some true)
 else (
 bif decide (0 < v) then (
 gd (inB (wi64 (v - 1)) l.length) <|
 some (Op.bytesLess ((l.getD v.toNat ([], (0, (0, (0, 0))))).1) ((l.getD (wi64 (v - 1)).toNat ([], (0, (0, (0, 0))))).1) || decide ((l.getD v.toNat ([], (0, (0, (0, 0))))).1 = (l.getD (wi64 (v - 1)).toNat ([], (0, (0, (0, 0))))).1)))
 else (
 some false)))) fun s =>
 bif s then (
 some (.inr (.inr false)))
 else (
 some (.inl (wi64 (v + 1)))))
 else (
 some (.inr (.inl ())))
def qf1 (l : List yB1) : Option (Bool) :=
 (iter (fun x => qcR l x) 0).bind fun s2 =>
 s2.elim (fun s3 =>
 some (decide ((l.length : Int) ≤ 64)))
 (fun s4 =>
 some s4)
def qiU : Fun :=
 ⟨170, 1, 1,
 ⟨[(0, dd (.sl tT2))], [], []⟩,
 ⟨[(0, bb)], [], []⟩,
 fun x => qf1 x⟩
theorem qnH : FO qiU := fi [] [qfL, qfS] 40 [] ((nn (mm (nn (mm (.mk [] (some (⟨[(0, kk), (5, kk), (6, kk), (7, ii)], [], []⟩, [⟨.x 0, ⟨[(0, kk)], [], []⟩⟩, ⟨.r, ⟨[(2, bb)], [], []⟩⟩])) (nn (nn (mm (mm (nn (mm (.mk [.join [⟨.n, ⟨[(0, kk), (5, kk), (6, kk), (7, kk), (35, bb)], [], []⟩⟩]] none .nil .nil) .nil)) .nil) .nil))) .nil) .nil)) .nil))) func170 ⟨⟨qiT, qib, trivial⟩, trivial⟩
def qdN (e : List UInt8 × Int × Int) : Option (Bool) :=
 Option.bind (α := Bool) (
 bif decide (e.2.1 = 1) then (
 some (decide (e.2.1 = 1)))
 else (
 Option.bind (α := Bool) (
 bif decide (e.2.1 = 2) then (
 some (decide (e.2.1 = 2)))
 else (
 some (decide (e.2.1 = 3)))) fun s =>
 some s)) fun s2 =>
 bif s2 then (
 (qb8 e.2.2).bind fun r =>
 bif r then (
 (qct e.1).bind fun r2 =>
 some r2)
 else (
 some false))
 else (
 bif decide (e.2.1 = 4) then (
 (qdf e.2.2).bind fun r3 =>
 bif r3 then (
 (qct e.1).bind fun r4 =>
 some r4)
 else (
 some false))
 else (
 some false))
def qhQ : Fun :=
 ⟨171, 1, 1,
 ⟨[(0, dd (.pair (.str) (.pair I6 I6)))], [], []⟩,
 ⟨[(0, bb)], [], []⟩,
 fun x => qdN x⟩
theorem qmW : FO qhQ := fi [] [qeF, qfS, qeG] 27 [] ((nn (mm (nn (mm (mm (nn (.mk [.join [⟨.n, ⟨[(1, pt 32 0), (4, kk), (5, bb)], [(32, 30, [.keep, .keep, .keep])], []⟩⟩]] none .nil (nn (.mk [.join [⟨.n, ⟨[(1, pt 32 0), (4, kk), (5, bb)], [(32, 30, [.keep, .keep, .keep])], []⟩⟩]] none .nil .nil)))) .nil) .nil)) .nil))) func171 ⟨⟨qg4, qib, qg5, trivial⟩, trivial⟩
def qar (x : List yB1) (target : List UInt8) (cmp : yB1 × List UInt8 × Unit → Option Int) (i : Int) (j : Int) : Option ((Int × Int) ⊕ Int) :=
 bif decide (i < j) then (
 gd (inB (wi64 (Int.fdiv (wu64 (wi64 (i + j))) (2 ^ shAmt .u64 1))) x.length) <|
 (cmp (x.getD (wi64 (Int.fdiv (wu64 (wi64 (i + j))) (2 ^ shAmt .u64 1))).toNat ([], (0, (0, (0, 0)))), target, ())).bind fun r =>
 bif decide (r < 0) then (
 some (.inl (wi64 ((wi64 (Int.fdiv (wu64 (wi64 (i + j))) (2 ^ shAmt .u64 1))) + 1), j)))
 else (
 some (.inl (i, wi64 (Int.fdiv (wu64 (wi64 (i + j))) (2 ^ shAmt .u64 1))))))
 else (
 some (.inr i))
def qaw (x : List yB1) (target : List UInt8) (cmp : yB1 × List UInt8 × Unit → Option Int) : Option (Int × Bool) :=
 (iter (fun x2 => qar x target cmp x2.1 x2.2) (0, (x.length : Int))).bind fun s =>
 bif decide (s < (x.length : Int)) then (
 gd (inB s x.length) <|
 (cmp (x.getD s.toNat ([], (0, (0, (0, 0)))), target, ())).bind fun r2 =>
 some (s, decide (r2 = 0)))
 else (
 some (s, false))
def qaO : Fun :=
 ⟨220, 3, 2,
 ⟨[(0, dd (.sl tT2)), (1, ss), (2, .one (.fn [.pair (.str) (.pair I6 (.pair I6 (.pair I6 I6))), .str] I6))], [], []⟩,
 ⟨[(0, ii), (1, bb)], [], []⟩,
 fun x => qaw x.1 x.2.1 x.2.2⟩
theorem qbA : FO qaO := fi [] [] 49 [] ((nn (nn (nn (mm (mm (.mk [] (some (⟨r102_, [], []⟩, [⟨.x 0, ⟨[(0, kk), (1, kk), (2, kk), (8, kk), (9, ii)], [], []⟩⟩])) .nil .nil) .nil) .nil))))) func220 ⟨trivial, trivial⟩
def qcz (a : List UInt8) (b : List UInt8) : Option (Int) :=
 (qyu a b).bind fun r =>
 some r
def qci : Fun :=
 ⟨240, 2, 1,
 ⟨[(0, ss), (1, ss)], [], []⟩,
 ⟨[(0, ii)], [], []⟩,
 fun x => qcz x.1 x.2⟩
theorem qeH : FO qci := fi [] [] 8 [xt251] .nil func240 ⟨trivial, ⟨xk251, trivial⟩⟩
def qjC (a : List UInt8) (b : List UInt8) : Option (Int) :=
 (qcz a b).bind fun r =>
 some r
def qg6 : Fun :=
 ⟨222, 2, 1,
 ⟨[(0, ss), (1, ss)], [], []⟩,
 ⟨[(0, ii)], [], []⟩,
 fun x => qjC x.1 x.2⟩
theorem qme : FO qg6 := fi [] [qci] 8 [] .nil func222 ⟨⟨qeH, trivial⟩, trivial⟩
def qdO (a : yB1) (s : List UInt8) : Option (Int) :=
 (qjC a.1 s).bind fun r =>
 some r
def qhR : Fun :=
 ⟨221, 2, 1,
 ⟨[(0, dd tT2), (1, ss)], [], []⟩,
 ⟨[(0, ii)], [], []⟩,
 fun x => qdO x.1 x.2⟩
theorem qmX : FO qhR := fi [] [qg6] 9 [] .nil func221 ⟨⟨qme, trivial⟩, trivial⟩
def qg7 (l : List yB1) (shipper : List UInt8) : Option (Int × Bool) :=
 (qaw l shipper (fun h => (qdO h.1 h.2.1).bind fun y => some y)).bind fun r =>
 some (r.1, r.2)
def qjD : Fun :=
 ⟨172, 2, 2,
 ⟨[(0, dd (.sl tT2)), (1, ss)], [], []⟩,
 ⟨[(0, ii), (1, bb)], [], []⟩,
 fun x => qg7 x.1 x.2⟩
theorem qoW : FO qjD := fi [] [qaO, qhR] 11 [] .nil func172 ⟨⟨qbA, qmX, trivial⟩, trivial⟩
def qcU (a : yB1) (e : List UInt8 × Int × Int) : Option yB1 :=
 Option.bind (α := Int × Int × Int × Int) (
 bif decide (e.2.1 = 1) then (
 some (wi64 (a.2.1 + e.2.2), a.2.2.1, a.2.2.2.1, a.2.2.2.2))
 else (
 Option.bind (α := Int × Int × Int) (
 bif decide (e.2.1 = 2) then (
 some (wi64 (a.2.2.1 + e.2.2), a.2.2.2.1, a.2.2.2.2))
 else (
 Option.bind (α := Int × Int) (
 bif decide (e.2.1 = 3) then (
 some (wi64 (a.2.2.2.1 + e.2.2), a.2.2.2.2))
 else (
 Option.bind (α := Int) (
 bif decide (e.2.1 = 4) then (
 some (wi64 (a.2.2.2.2 + e.2.2)))
 else (
 some a.2.2.2.2)) fun s =>
 some (a.2.2.2.1, s))) fun s2 =>
 some (a.2.2.1, s2.1, s2.2))) fun s3 =>
 some (a.2.1, s3.1, s3.2.1, s3.2.2))) fun s4 =>
 some (a.1, (s4.1, (s4.2.1, (s4.2.2.1, s4.2.2.2))))
def qhS : Fun :=
 ⟨173, 2, 1,
 ⟨[(0, dd tT2), (1, dd (.pair (.str) (.pair I6 I6)))], [], []⟩,
 ⟨[(0, dd tT2)], [], []⟩,
 fun x => qcU x.1 x.2⟩
theorem qmY : FO qhS := fi [] [] 40 [] ((nn (mm (nn (mm (nn (.mk [.join [⟨.n, ⟨r100_, [(48, 110, [.keep, .data I6, .data I6, .data I6, .data I6]), (80, 110, (kp 5))], []⟩⟩]] none .nil (nn (.mk [.join [⟨.n, ⟨r100_, [(48, 110, [.keep, .keep, .data I6, .data I6, .data I6]), (80, 110, (kp 5))], []⟩⟩]] none .nil (nn (.mk [.join [⟨.n, ⟨r100_, [(48, 110, [.keep, .keep, .keep, .data I6, .data I6]), (80, 110, (kp 5))], []⟩⟩]] none .nil (nn (.mk [.join [⟨.n, ⟨r100_, [(48, 110, [.keep, .keep, .keep, .keep, .data I6]), (80, 110, (kp 5))], []⟩⟩]] none .nil .nil)))))))) .nil)) .nil))) func173 ⟨trivial, trivial⟩
def qep (l : List yB1) (e : List UInt8 × Int × Int) : Option (Int × List yB1) :=
 (qai l).bind fun r =>
 Option.bind (α := Bool × List yB1) (
 (qf1 l).bind fun r2 =>
 bif !r2 then (
 some (true, r))
 else (
 (qdN (e.1, (e.2.1, e.2.2))).bind fun r3 =>
 some ((!r3), r))) fun s =>
 bif s.1 then (
 some (27, s.2))
 else (
 (qg7 l e.1).bind fun r4 =>
 Option.bind (α := List UInt8 × Int × Int × Int × Int × List yB1) (
 bif r4.2 then (
 gd (inB r4.1 l.length) <|
 some ((l.getD r4.1.toNat ([], (0, (0, (0, 0))))).1, ((l.getD r4.1.toNat ([], (0, (0, (0, 0))))).2).1, (((l.getD r4.1.toNat ([], (0, (0, (0, 0))))).2).2).1, ((((l.getD r4.1.toNat ([], (0, (0, (0, 0))))).2).2).2).1, ((((l.getD r4.1.toNat ([], (0, (0, (0, 0))))).2).2).2).2, s.2))
 else (
 some (e.1, 0, 0, 0, 0, s.2))) fun s2 =>
 (qcU (s2.1, (s2.2.1, (s2.2.2.1, (s2.2.2.2.1, s2.2.2.2.2.1)))) (e.1, (e.2.1, e.2.2))).bind fun r5 =>
 Option.bind (α := Bool × List yB1) (
 (qch (r5.1, (r5.2.1, (r5.2.2.1, (r5.2.2.2.1, r5.2.2.2.2))))).bind fun r6 =>
 bif !r6 then (
 some (true, s2.2.2.2.2.2))
 else (
 bif !r4.2 then (
 some (decide ((l.length : Int) = 64), s2.2.2.2.2.2))
 else (
 some (false, s2.2.2.2.2.2)))) fun s3 =>
 bif s3.1 then (
 some (4, s3.2))
 else (
 bif r4.2 then (
 gd (inB r4.1 s3.2.length) <|
 some (0, s3.2.set r4.1.toNat (r5.1, (r5.2.1, (r5.2.2.1, (r5.2.2.2.1, r5.2.2.2.2))))))
 else (
 gd (decide (r4.1 = r4.1) && cutG none (some (.i64, r4.1)) s3.2.length) <|
 gd (fits ((s3.2.take r4.1.toNat).length + 1) 48) <|
 gd (cutG (some (.i64, r4.1)) none l.length) <|
 gd (fits (((s3.2.take r4.1.toNat) ++ [(r5.1, (r5.2.1, (r5.2.2.1, (r5.2.2.2.1, r5.2.2.2.2))))]).length + (l.drop r4.1.toNat).length) 48) <|
 some (0, ((s3.2.take r4.1.toNat) ++ [(r5.1, (r5.2.1, (r5.2.2.1, (r5.2.2.2.1, r5.2.2.2.2))))]) ++ (l.drop r4.1.toNat)))))
def qjE : Fun :=
 ⟨125, 2, 2,
 ⟨[(0, dd (.sl tT2)), (1, dd (.pair (.str) (.pair I6 I6)))], [], []⟩,
 ⟨r96_, [], [(0, .arr 110 tT2)]⟩,
 fun x => qep x.1 x.2⟩
theorem qoX : FO qjE := fi [61] [qa1, qiU, qhQ, qjD, qhS, qfL] 69 [] ((nn (nn (mm (mm (.mk [.join [⟨.n, ⟨[(0, kk), (3, pt 64 0), (6, ow 192), (19, bb)], [(64, 30, [.keep, .keep, .keep])], [(192, .arr 110 tT2)]⟩⟩]] none .nil .nil) .nil) (nn (nn (mm (nn (.mk [.join [⟨.n, ⟨[(0, kk), (3, pt 64 0), (6, ow 192), (7, kk), (8, kk), (9, pt 160 0)], [(64, 30, [.keep, .keep, .keep]), (160, 110, [.data (.str), .data I6, .data I6, .data I6, .data I6])], [(192, .arr 110 tT2)]⟩⟩]] none .nil .nil)) (mm (nn (mm (.mk [.join [⟨.n, ⟨[(0, kk), (6, ow 192), (7, kk), (8, kk), (9, pt 160 0), (50, bb)], [(160, 110, (kp 5))], [(192, .arr 110 tT2)]⟩⟩]] none .nil .nil) .nil)) (nn (mm (.mk [.fz [6]] none .nil .nil) .nil)))))))))) func125 ⟨⟨qby, qnH, qmW, qoW, qmY, qiT, trivial⟩, trivial⟩
def qip (v : yB0) (r : yB11) (c : Int) (c2 : yB3) (c3 : List Int) (c4 : List Int) (c5 : List Bool) (c6 : List yB2) (c7 : List yB1) : Option (Int × Int × yB3 × List Int × List Int × List Bool × (List yB2) × List yB1) :=
 Option.bind (α := Bool × yB3 × List Int × List Int × List Bool × (List yB2) × List yB1) (
 bif decide (0 < (r.2.1.length : Int)) then (
 some (true, c2, c3, c4, c5, c6, c7))
 else (
 (qeB (r.2.2.1.1, (r.2.2.1.2.1, (r.2.2.1.2.2.1, (r.2.2.1.2.2.2.1, (r.2.2.1.2.2.2.2.1, (r.2.2.1.2.2.2.2.2.1, r.2.2.1.2.2.2.2.2.2))))))).bind fun r2 =>
 some ((!r2), c2, c3, c4, c5, c6, c7))) fun s =>
 bif s.1 then (
 some (28, c, s.2.1, s.2.2.1, s.2.2.2.1, s.2.2.2.2.1, s.2.2.2.2.2.1, s.2.2.2.2.2.2))
 else (
 (qep s.2.2.2.2.2.2 (r.2.2.2.1, (r.2.2.2.2.1, r.2.2.2.2.2))).bind fun r3 =>
 some (r3.1, c, s.2.1, s.2.2.1, s.2.2.2.1, s.2.2.2.2.1, s.2.2.2.2.2.1, r3.2))
def qkP : Fun :=
 ⟨78, 3, 1,
 ⟨r12_, v51_, a8_⟩,
 ⟨[(0, ii)], v48_, a29_⟩,
 fun x => qip x.1 x.2.1 x.2.2.1 x.2.2.2.1 x.2.2.2.2.1 x.2.2.2.2.2.1 x.2.2.2.2.2.2.1 x.2.2.2.2.2.2.2.1 x.2.2.2.2.2.2.2.2⟩
theorem qpy : FO qkP := fi [] [qfK, qjE] 34 [] ((nn (mm (mm (.mk [.join [⟨.n, ⟨[(1, pt 0 0), (5, pt 96 0), (18, bb)], v67_, a8_⟩⟩]] none .nil .nil) .nil) .nil))) func78 ⟨⟨qiN, qoX, trivial⟩, trivial⟩
def qdg (n : yB0) (c : yB12) (r : yB11) : Option (yB12 × Int) :=
 bif decide (c.2.2.2 = 1000) then (
 (qbJ ((c.1.1, (c.1.2.1, (c.1.2.2.1, c.1.2.2.2))), (c.2.1, (c.2.2.1, c.2.2.2)))).bind fun r2 =>
 some (((r2.2.1, (r2.2.2.1, (r2.2.2.2.1, r2.2.2.2.2.1))), (r2.2.2.2.2.2.1, (r2.2.2.2.2.2.2, r2.1))), 4))
 else (
 bif !((mget keyI (mput keyI (mput keyI (mput keyI [] 1 1) 2 2) 3 3) r.1).isSome) then (
 (qbJ ((c.1.1, (c.1.2.1, (c.1.2.2.1, c.1.2.2.2))), (c.2.1, (c.2.2.1, c.2.2.2)))).bind fun r3 =>
 some (((r3.2.1, (r3.2.2.1, (r3.2.2.2.1, r3.2.2.2.2.1))), (r3.2.2.2.2.2.1, (r3.2.2.2.2.2.2, r3.1))), 28))
 else (
 (qbJ ((c.1.1, (c.1.2.1, (c.1.2.2.1, c.1.2.2.2))), (c.2.1, (c.2.2.1, c.2.2.2)))).bind fun r4 =>
 bif decide ((mget keyI (mput keyI (mput keyI (mput keyI [] 1 1) 2 2) 3 3) r.1).getD 0 = 1) then (
 (qfW (n.1, (n.2.1, (n.2.2.1, (n.2.2.2.1, (n.2.2.2.2.1, n.2.2.2.2.2))))) (r.1, (r.2.1, ((r.2.2.1.1, (r.2.2.1.2.1, (r.2.2.1.2.2.1, (r.2.2.1.2.2.2.1, (r.2.2.1.2.2.2.2.1, (r.2.2.1.2.2.2.2.2.1, r.2.2.1.2.2.2.2.2.2)))))), (r.2.2.2.1, (r.2.2.2.2.1, r.2.2.2.2.2))))) r4.1 r4.2.1 r4.2.2.1 r4.2.2.2.1 r4.2.2.2.2.1 r4.2.2.2.2.2.1 r4.2.2.2.2.2.2).bind fun r5 =>
 bif !decide (r5.1 = 0) then (
 (qbJ ((c.1.1, (c.1.2.1, (c.1.2.2.1, c.1.2.2.2))), (c.2.1, (c.2.2.1, c.2.2.2)))).bind fun r6 =>
 some (((r6.2.1, (r6.2.2.1, (r6.2.2.2.1, r6.2.2.2.2.1))), (r6.2.2.2.2.2.1, (r6.2.2.2.2.2.2, r6.1))), r5.1))
 else (
 some (((r5.2.2.1, (r5.2.2.2.1, (r5.2.2.2.2.1, r5.2.2.2.2.2.1))), (r5.2.2.2.2.2.2.1, (r5.2.2.2.2.2.2.2, wi64 (r5.2.1 + 1)))), 0)))
 else (
 bif decide ((mget keyI (mput keyI (mput keyI (mput keyI [] 1 1) 2 2) 3 3) r.1).getD 0 = 2) then (
 (qe9 (n.1, (n.2.1, (n.2.2.1, (n.2.2.2.1, (n.2.2.2.2.1, n.2.2.2.2.2))))) (r.1, (r.2.1, ((r.2.2.1.1, (r.2.2.1.2.1, (r.2.2.1.2.2.1, (r.2.2.1.2.2.2.1, (r.2.2.1.2.2.2.2.1, (r.2.2.1.2.2.2.2.2.1, r.2.2.1.2.2.2.2.2.2)))))), (r.2.2.2.1, (r.2.2.2.2.1, r.2.2.2.2.2))))) r4.1 r4.2.1 r4.2.2.1 r4.2.2.2.1 r4.2.2.2.2.1 r4.2.2.2.2.2.1 r4.2.2.2.2.2.2).bind fun r7 =>
 bif !decide (r7.1 = 0) then (
 (qbJ ((c.1.1, (c.1.2.1, (c.1.2.2.1, c.1.2.2.2))), (c.2.1, (c.2.2.1, c.2.2.2)))).bind fun r8 =>
 some (((r8.2.1, (r8.2.2.1, (r8.2.2.2.1, r8.2.2.2.2.1))), (r8.2.2.2.2.2.1, (r8.2.2.2.2.2.2, r8.1))), r7.1))
 else (
 some (((r7.2.2.1, (r7.2.2.2.1, (r7.2.2.2.2.1, r7.2.2.2.2.2.1))), (r7.2.2.2.2.2.2.1, (r7.2.2.2.2.2.2.2, wi64 (r7.2.1 + 1)))), 0)))
 else (
 bif decide ((mget keyI (mput keyI (mput keyI (mput keyI [] 1 1) 2 2) 3 3) r.1).getD 0 = 3) then (
 (qip (n.1, (n.2.1, (n.2.2.1, (n.2.2.2.1, (n.2.2.2.2.1, n.2.2.2.2.2))))) (r.1, (r.2.1, ((r.2.2.1.1, (r.2.2.1.2.1, (r.2.2.1.2.2.1, (r.2.2.1.2.2.2.1, (r.2.2.1.2.2.2.2.1, (r.2.2.1.2.2.2.2.2.1, r.2.2.1.2.2.2.2.2.2)))))), (r.2.2.2.1, (r.2.2.2.2.1, r.2.2.2.2.2))))) r4.1 r4.2.1 r4.2.2.1 r4.2.2.2.1 r4.2.2.2.2.1 r4.2.2.2.2.2.1 r4.2.2.2.2.2.2).bind fun r9 =>
 bif !decide (r9.1 = 0) then (
 (qbJ ((c.1.1, (c.1.2.1, (c.1.2.2.1, c.1.2.2.2))), (c.2.1, (c.2.2.1, c.2.2.2)))).bind fun r10 =>
 some (((r10.2.1, (r10.2.2.1, (r10.2.2.2.1, r10.2.2.2.2.1))), (r10.2.2.2.2.2.1, (r10.2.2.2.2.2.2, r10.1))), r9.1))
 else (
 some (((r9.2.2.1, (r9.2.2.2.1, (r9.2.2.2.2.1, r9.2.2.2.2.2.1))), (r9.2.2.2.2.2.2.1, (r9.2.2.2.2.2.2.2, wi64 (r9.2.1 + 1)))), 0)))
 else (
 none)))))
def qgu : Fun :=
 ⟨32, 3, 2,
 ⟨[(0, dd (.pair (.sl (.str)) tT0)), (1, dd (.pair (.pair (.sl tT1) tT6) (.pair (.sl tT3) (.pair (.sl tT2) I6)))), (2, dd (.pair I6 (.pair (.sl I6) (.pair (.pair I6 (.pair I6 (.pair I6 tT5))) (.pair (.str) (.pair I6 I6))))))], [], []⟩,
 ⟨r64_, [], []⟩,
 fun x => qdg x.1 x.2.1 x.2.2⟩
theorem qjF : FO qgu := fi [4000036] [qhs, qiQ, qhP, qkP] 47 [] .nil func32 ⟨⟨qkG, qnE, qmV, qpy, trivial⟩, trivial⟩
def qcV (u : Int) (out : List Int) : Option ((Int × List Int) ⊕ (Int × List Int)) :=
 bif decide (128 ≤ u) then (
 gd (fits (out.length + 1) 1) <|
 some (.inl (Int.fdiv u (2 ^ shAmt .u64 7), out ++ [bitOr .u8 (wu8 u) 128])))
 else (
 some (.inr (u, out)))
def qgv (b : List Int) (n : Int) : Option (List Int) :=
 gd (fits (0 + b.length) 1) <|
 (iter (fun x => qcV x.1 x.2) (qoM .u64 (wu64 ((wu64 n) * 2 ^ shAmt .u64 1)) (wu64 (Int.fdiv n (2 ^ shAmt .i64 63))), ([] ++ b))).bind fun s =>
 gd (fits (s.2.length + 1) 1) <|
 some (s.2 ++ [wu8 s.1])
def qkQ : Fun :=
 ⟨45, 2, 1,
 ⟨r63_, [], []⟩,
 ⟨[(0, ow 0)], [], a82_⟩,
 fun x => qgv x.1 x.2⟩
theorem qpz : FO qkQ := fi [] [] 31 [] ((nn (nn (nn (mm (mm (.mk [] (some (⟨r85_, [], a107_⟩, [⟨.x 0, ⟨r85_, [], a107_⟩⟩])) .nil .nil) .nil) .nil))))) func45 ⟨trivial, trivial⟩
def qbG (l : List Int) (v2 : Int) (v3 : List Int) : Option ((Int × List Int) ⊕ (List Int)) :=
 bif decide (v2 < (l.length : Int)) then (
 gd (inB v2 l.length) <|
 (qgv v3 (l.getD v2.toNat 0)).bind fun r =>
 some (.inl (wi64 (v2 + 1), r)))
 else (
 some (.inr v3))
def qaC (l : List Int) (v : List Int) : Option (List Int) :=
 (iter (fun x => qbG l x.1 x.2) (0, v)).bind fun s =>
 some s
def qg8 : Fun :=
 ⟨44, 2, 0,
 ⟨[(0, dd (.sl I6)), (1, pt 0 0)], [(0, 22, [.own 1])], [(1, .arr 5 (.int .u8))]⟩,
 ⟨[], [(0, 22, [.own 2])], [(2, .arr 5 (.int .u8))]⟩,
 fun x => qaC x.1 x.2⟩
theorem qmf : FO qg8 := fi [] [qkQ] 15 [] ((nn (mm (.mk [] (some (⟨[(1, pt 0 0), (5, kk), (6, kk), (7, ii)], [(0, 22, [.own 25])], [(25, .arr 5 (.int .u8))]⟩, [⟨.x 0, ⟨[], [(0, 22, [.own 25])], [(25, .arr 5 (.int .u8))]⟩⟩])) .nil .nil) .nil))) func44 ⟨⟨qpz, trivial⟩, trivial⟩
def qbK (r : yB11) (v : Int) (out : List Int) : Option ((Int × List Int) ⊕ (List Int)) :=
 bif decide (v < (r.2.2.1.2.2.2.2.2.1.length : Int)) then (
 gd (inB v r.2.2.1.2.2.2.2.2.1.length) <|
 Option.bind (α := Int × List Int) (
 bif (r.2.2.1.2.2.2.2.2.1.getD v.toNat (0, false)).2 then (
 some (1, out))
 else (
 some (0, out))) fun s3 =>
 (qaC [(r.2.2.1.2.2.2.2.2.1.getD v.toNat (0, false)).1, s3.1] s3.2).bind fun r5 =>
 some (.inl (wi64 (v + 1), r5)))
 else (
 some (.inr out))
def qdo (r : yB11) : Option (Int × List Int) :=
 Option.bind (α := Bool) (
 bif decide (21 < (r.2.1.length : Int)) then (
 some true)
 else (
 bif decide (32 < (r.2.2.1.2.2.2.2.2.1.length : Int)) then (
 some true)
 else (
 some (decide (12 < (r.2.2.2.1.length : Int)))))) fun s =>
 bif s then (
 some (4, []))
 else (
 Option.bind (α := List Int) (
 some []) fun s2 =>
 (qaC [r.1, (r.2.1.length : Int)] s2).bind fun r2 =>
 (qaC r.2.1 r2).bind fun r3 =>
 (qaC [r.2.2.1.1, r.2.2.1.2.1, r.2.2.1.2.2.1, r.2.2.1.2.2.2.1, r.2.2.1.2.2.2.2.1, (r.2.2.1.2.2.2.2.2.1.length : Int)] r3).bind fun r4 =>
 (iter (fun x => qbK r x.1 x.2) (0, r4)).bind fun s4 =>
 (qaC [r.2.2.1.2.2.2.2.2.2, r.2.2.2.2.1, r.2.2.2.2.2, (r.2.2.2.1.length : Int)] s4).bind fun r6 =>
 gd (Nat.blt 0 (r6.length + r.2.2.2.1.length) && fits (r6.length + r.2.2.2.1.length) 1) <|
 some (0, r6 ++ qei r.2.2.2.1))
def qfM : Fun :=
 ⟨9, 1, 2,
 ⟨r46_, [], []⟩,
 ⟨r96_, [], a82_⟩,
 fun x => qdo x⟩
theorem qiV : FO qfM := fi [] [qg8] 100 [] ((nn (mm (mm (.mk [.join [⟨.n, ⟨[(1, pt 32 0), (29, bb)], [(32, 32, (kp 12))], []⟩⟩]] none .nil .nil) .nil) (mm (.mk [.join [⟨.n, ⟨[(1, pt 32 0), (4, pt 91 0)], [(32, 32, (kp 12)), (91, 22, [.own 1481])], a105_⟩⟩]] none .nil .nil) (nn (nn (nn (nn (nn (mm (nn (mm (.mk [] (some (⟨[(1, pt 32 0), (4, pt 91 0), (5, .one (.clp 44 91 0)), (7, pt 128 0), (65, kk), (66, kk), (67, ii)], v94_, a105_⟩, [⟨.x 0, ⟨[(1, pt 32 0), (4, pt 91 0), (5, .one (.clp 44 91 0)), (7, pt 128 0)], v94_, a105_⟩⟩])) (nn (nn (mm (mm (nn (nn (mm (nn (.mk [.join [⟨.n, ⟨[(1, pt 32 0), (4, pt 91 0), (5, .one (.clp 44 91 0)), (7, pt 128 0), (9, pt 160 0), (10, ii), (65, kk), (66, kk), (67, kk)], [(32, 32, (kp 12)), (91, 22, [.own 1481]), (128, 26, (kp 4)), (160, 114, [.keep, .keep])], a105_⟩⟩]] none .nil .nil)) .nil))) .nil) .nil))) .nil) .nil)) .nil)))))))))) func9 ⟨⟨qmf, trivial⟩, trivial⟩
def qdp (parts : List (List Int)) (v : Int) (out : List Int) : Option ((Int × List Int) ⊕ (List Int)) :=
 bif decide (v < (parts.length : Int)) then (
 gd (inB v parts.length) <|
 gd (fits (out.length + (parts.getD v.toNat []).length) 1) <|
 some (.inl (wi64 (v + 1), out ++ (parts.getD v.toNat []))))
 else (
 some (.inr out))
def qbc (parts : List (List Int)) : Option (List Int) :=
 (iter (fun x => qdp parts x.1 x.2) (0, [])).bind fun s =>
 some s
def qb0 : Fun :=
 ⟨108, 1, 1,
 ⟨[(0, dd (.sl (.sl (.int .u8))))], [], []⟩,
 ⟨[(0, ow 0)], [], a82_⟩,
 fun x => qbc x⟩
theorem qcv : FO qb0 := fi [] [] 17 [] ((nn (nn (mm (nn (mm (.mk [] (some (⟨[(3, ow 75), (6, kk), (7, kk), (8, ii)], [], [(75, .arr 5 (.int .u8))]⟩, [⟨.x 0, ⟨[(3, ow 75)], [], [(75, .arr 5 (.int .u8))]⟩⟩])) .nil .nil) .nil)) .nil)))) func108 ⟨trivial, trivial⟩
def qnI (u : Int) (out : List Int) : Option ((Int × List Int) ⊕ (Int × List Int)) :=
 bif decide (128 ≤ u) then (
 gd (fits (out.length + 1) 1) <|
 some (.inl (Int.fdiv u (2 ^ shAmt .u64 7), out ++ [bitOr .u8 (wu8 u) 128])))
 else (
 some (.inr (u, out)))
def qiq (b : List Int) (n : Int) : Option (List Int) :=
 gd (fits (0 + b.length) 1) <|
 (iter (fun x => qnI x.1 x.2) (qoM .u64 (wu64 ((wu64 n) * 2 ^ shAmt .u64 1)) (wu64 (Int.fdiv n (2 ^ shAmt .i64 63))), ([] ++ b))).bind fun s =>
 gd (fits (s.2.length + 1) 1) <|
 some (s.2 ++ [wu8 s.1])
def qiW : Fun :=
 ⟨45, 2, 1,
 ⟨r63_, [], []⟩,
 ⟨r50_, [], []⟩,
 fun x => qiq x.1 x.2⟩
theorem qnJ : FO qiW := fi [] [] 31 [] ((nn (nn (nn (mm (mm (.mk [] (some (⟨r85_, [], a107_⟩, [⟨.x 0, ⟨r85_, [], a107_⟩⟩])) .nil .nil) .nil) .nil))))) func45 ⟨trivial, trivial⟩
def qf2 (b : List Int) : Option (Int × List Int) :=
 bif decide (4000 < (b.length : Int)) then (
 some (4, []))
 else (
 (qiq [] (b.length : Int)).bind fun r =>
 (qbc [r, b]).bind fun r2 =>
 some (0, r2))
def qiX : Fun :=
 ⟨105, 1, 2,
 ⟨r50_, [], []⟩,
 ⟨r96_, [], a82_⟩,
 fun x => qf2 x⟩
theorem qnK : FO qiX := fi [] [qiW, qb0] 13 [] .nil func105 ⟨⟨qnJ, qcv, trivial⟩, trivial⟩
def qfa (f : List Int × List Int) : Option (List Int × List Int) :=
 (qbc [f.1]).bind fun r =>
 (qbc [f.2]).bind fun r2 =>
 some (r, r2)
def qhT : Fun :=
 ⟨106, 1, 1,
 ⟨r15_, [], []⟩,
 ⟨r15_, [], []⟩,
 fun x => qfa x⟩
theorem qmZ : FO qhT := fi [] [qb0] 12 [] .nil func106 ⟨⟨qcv, trivial⟩, trivial⟩
def qcl (b : List Int) (vat : Int) (u : Int) (v : Int) : Option ((Int × Int) ⊕ (Unit ⊕ (Int × Int × Int))) :=
 bif decide (v < 10) then (
 bif decide ((b.length : Int) ≤ wi64 (vat + v)) then (
 some (.inr (.inr (0, 0, 2))))
 else (
 gd (inB (wi64 (vat + v)) b.length) <|
 gd (!decide (wi64 (7 * v) < 0)) <|
 bif decide (128 ≤ b.getD (wi64 (vat + v)).toNat 0) then (
 some (.inl (bitOr .u64 u (wu64 ((wu64 (qft .u8 (b.getD (wi64 (vat + v)).toNat 0) 127)) * 2 ^ shAmt .u64 (wi64 (7 * v)))), wi64 (v + 1))))
 else (
 Option.bind (α := Bool) (
 bif decide (v = 9) then (
 bif decide (1 < b.getD (wi64 (vat + v)).toNat 0) then (
 some true)
 else (
 bif decide (0 < v) then (
 some (decide (b.getD (wi64 (vat + v)).toNat 0 = 0)))
 else (
 some false)))
 else (
 bif decide (0 < v) then (
 some (decide (b.getD (wi64 (vat + v)).toNat 0 = 0)))
 else (
 some false))) fun s2 =>
 bif s2 then (
 some (.inr (.inr (0, 0, 3))))
 else (
 some (.inr (.inr (qoM .i64 (wi64 (Int.fdiv (bitOr .u64 u (wu64 ((wu64 (qft .u8 (b.getD (wi64 (vat + v)).toNat 0) 127)) * 2 ^ shAmt .u64 (wi64 (7 * v))))) (2 ^ shAmt .u64 1))) (wi64 (0 - (wi64 (qft .u64 (bitOr .u64 u (wu64 ((wu64 (qft .u8 (b.getD (wi64 (vat + v)).toNat 0) 127)) * 2 ^ shAmt .u64 (wi64 (7 * v))))) 1)))), wi64 ((wi64 (vat + v)) + 1), 0)))))))
 else (
 some (.inr (.inl ())))
def qkq (b : List Int) (vat : Int) : Option (Int × Int × Int) :=
 Option.bind (α := Bool) (
 bif decide (vat < 0) then (
 some true)
 else (
 some (decide ((b.length : Int) < vat)))) fun s =>
 bif s then (
 some (0, 0, 1))
 else (
 (iter (fun x => qcl b vat x.1 x.2) (0, 0)).bind fun s3 =>
 s3.elim (fun s4 =>
 some (0, 0, 3))
 (fun s5 =>
 some (s5.1, s5.2.1, s5.2.2)))
def qlh : Fun :=
 ⟨92, 2, 3,
 ⟨r63_, [], []⟩,
 ⟨r104_, [], []⟩,
 fun x => qkq x.1 x.2⟩
theorem qoY : FO qlh := fi [] [] 70 [] ((nn (mm (mm (.mk [.join [⟨.n, ⟨[(0, kk), (1, kk), (17, bb)], [], []⟩⟩]] none .nil .nil) .nil) (nn (mm (nn (mm (.mk [] (some (⟨[(0, kk), (1, kk), (7, dd (.int .u64)), (18, ii)], [], []⟩, [⟨.x 0, ⟨[], [], []⟩⟩, ⟨.r, ⟨[(4, ii), (5, ii), (6, ii)], [], []⟩⟩])) (nn (nn (mm (mm (nn (nn (nn (nn (nn (mm (mm (.mk [.join [⟨.n, ⟨[(1, kk), (7, kk), (8, kk), (56, bb)], [], []⟩⟩]] none .nil .nil) .nil) .nil)))))) .nil) .nil))) .nil) .nil)) .nil))))) func92 ⟨trivial, trivial⟩
def qcw (b : List Int) (vat : Int) (out : List (List Int)) : Option ((Int × List (List Int)) ⊕ (Int × List (List Int))) :=
 bif decide (vat < (b.length : Int)) then (
 (qkq b vat).bind fun r =>
 Option.bind (α := Bool × List (List Int)) (
 bif !decide (r.2.2 = 0) then (
 some (true, out))
 else (
 bif decide (r.1 < 0) then (
 some (true, out))
 else (
 bif decide (4000 < r.1) then (
 some (true, out))
 else (
 some (decide (wi64 ((b.length : Int) - r.2.1) < r.1), out))))) fun s =>
 bif s.1 then (
 some (.inr (vat, s.2)))
 else (
 gd (inR r.2.1 (wi64 (r.2.1 + r.1)) b.length) <|
 (qaI ((b.take (wi64 (r.2.1 + r.1)).toNat).drop r.2.1.toNat)).bind fun r2 =>
 gd (fits (s.2.length + 1) 24) <|
 some (.inl (wi64 (r.2.1 + r.1), s.2 ++ [r2]))))
 else (
 some (.inr (vat, out)))
def qfC (b : List Int) : Option (Int × List (List Int)) :=
 (iter (fun x => qcw b x.1 x.2) (0, [])).bind fun s2 =>
 some (s2.1, s2.2)
def qgw : Fun :=
 ⟨107, 1, 2,
 ⟨r50_, [], []⟩,
 ⟨r96_, [], a109_⟩,
 fun x => qfC x⟩
theorem qjG : FO qgw := fi [] [qlh, qbu] 53 [] ((nn (nn (nn (mm (mm (.mk [] (some (⟨[(0, kk), (4, ow 91), (5, ii)], [], a57_⟩, [⟨.x 0, ⟨[(4, ow 91), (5, ii)], [], a57_⟩⟩])) (nn (mm (nn (mm (mm (.mk [.join [⟨.n, ⟨r99_, [], a57_⟩⟩]] none .nil .nil) .nil) .nil)) .nil)) .nil) .nil) .nil))))) func107 ⟨⟨qoY, qcj, trivial⟩, trivial⟩
def qfb (f : List Int × List Int) (b : List Int) : Option ((List Int × List Int) × Int) :=
 (qf2 b).bind fun r =>
 bif !decide (r.1 = 0) then (
 (qfa (f.1, f.2)).bind fun r2 =>
 some ((r2.1, r2.2), r.1))
 else (
 (qfC f.1).bind fun r3 =>
 bif !decide (r3.1 = (f.1.length : Int)) then (
 (qfa (f.1, f.2)).bind fun r4 =>
 some ((r4.1, r4.2), 21))
 else (
 bif decide (65536 < wi64 ((wi64 ((f.1.length : Int) + (f.2.length : Int))) + (r.2.length : Int))) then (
 (qfa (f.1, f.2)).bind fun r5 =>
 some ((r5.1, r5.2), 29))
 else (
 (qbc [f.1]).bind fun r6 =>
 (qbc [f.2, r.2]).bind fun r7 =>
 some ((r6, r7), 0))))
def qhU : Fun :=
 ⟨62, 2, 2,
 ⟨r75_, [], []⟩,
 ⟨r43_, [], []⟩,
 fun x => qfb x.1 x.2⟩
theorem qm0 : FO qhU := fi [] [qiX, qhT, qgw, qb0] 56 [] ((nn (nn (nn (nn (nn (mm (.mk [.fz [6]] none .nil .nil) .nil))))))) func62 ⟨⟨qnK, qmZ, qjG, qcv, trivial⟩, trivial⟩
def qir (f : List Int × List Int) (keep : Int) : Option (List Int × List Int) :=
 gd (cutG none (some (.i64, min (max 0 keep) (f.2.length : Int))) f.2.length) <|
 (qbc [f.1, f.2.take (min (max 0 keep) (f.2.length : Int)).toNat]).bind fun r =>
 some (r, [])
def qiY : Fun :=
 ⟨109, 2, 1,
 ⟨r43_, [], []⟩,
 ⟨r15_, [], []⟩,
 fun x => qir x.1 x.2⟩
theorem qnL : FO qiY := fi [] [qb0] 19 [] .nil func109 ⟨⟨qcv, trivial⟩, trivial⟩
def qg9 (f : List Int × List Int) : Option (List Int × List Int) :=
 (qir (f.1, f.2) (f.2.length : Int)).bind fun r =>
 some (r.1, r.2)
def qjH : Fun :=
 ⟨63, 1, 1,
 ⟨r15_, [], []⟩,
 ⟨r15_, [], []⟩,
 fun x => qg9 x⟩
theorem qoZ : FO qjH := fi [] [qiY] 8 [] .nil func63 ⟨⟨qnL, trivial⟩, trivial⟩
def qfD (n : yB0) (f : List Int × List Int) (c : yB12) (r : yB11) : Option ((List Int × List Int) × yB12 × Int) :=
 (qaI f.1).bind fun r2 =>
 (qaI f.2).bind fun r3 =>
 (qdg (n.1, (n.2.1, (n.2.2.1, (n.2.2.2.1, (n.2.2.2.2.1, n.2.2.2.2.2))))) ((c.1.1, (c.1.2.1, (c.1.2.2.1, c.1.2.2.2))), (c.2.1, (c.2.2.1, c.2.2.2))) (r.1, (r.2.1, ((r.2.2.1.1, (r.2.2.1.2.1, (r.2.2.1.2.2.1, (r.2.2.1.2.2.2.1, (r.2.2.1.2.2.2.2.1, (r.2.2.1.2.2.2.2.2.1, r.2.2.1.2.2.2.2.2.2)))))), (r.2.2.2.1, (r.2.2.2.2.1, r.2.2.2.2.2)))))).bind fun r4 =>
 bif !decide (r4.2 = 0) then (
 (qbJ ((c.1.1, (c.1.2.1, (c.1.2.2.1, c.1.2.2.2))), (c.2.1, (c.2.2.1, c.2.2.2)))).bind fun r5 =>
 some ((r2, r3), ((r5.2.1, (r5.2.2.1, (r5.2.2.2.1, r5.2.2.2.2.1))), (r5.2.2.2.2.2.1, (r5.2.2.2.2.2.2, r5.1))), r4.2))
 else (
 (qdo (r.1, (r.2.1, ((r.2.2.1.1, (r.2.2.1.2.1, (r.2.2.1.2.2.1, (r.2.2.1.2.2.2.1, (r.2.2.1.2.2.2.2.1, (r.2.2.1.2.2.2.2.2.1, r.2.2.1.2.2.2.2.2.2)))))), (r.2.2.2.1, (r.2.2.2.2.1, r.2.2.2.2.2)))))).bind fun r6 =>
 bif !decide (r6.1 = 0) then (
 (qbJ ((c.1.1, (c.1.2.1, (c.1.2.2.1, c.1.2.2.2))), (c.2.1, (c.2.2.1, c.2.2.2)))).bind fun r7 =>
 some ((r2, r3), ((r7.2.1, (r7.2.2.1, (r7.2.2.2.1, r7.2.2.2.2.1))), (r7.2.2.2.2.2.1, (r7.2.2.2.2.2.2, r7.1))), r6.1))
 else (
 (qfb (f.1, f.2) r6.2).bind fun r8 =>
 bif !decide (r8.2 = 0) then (
 (qbJ ((c.1.1, (c.1.2.1, (c.1.2.2.1, c.1.2.2.2))), (c.2.1, (c.2.2.1, c.2.2.2)))).bind fun r9 =>
 some ((r2, r3), ((r9.2.1, (r9.2.2.1, (r9.2.2.2.1, r9.2.2.2.2.1))), (r9.2.2.2.2.2.1, (r9.2.2.2.2.2.2, r9.1))), r8.2))
 else (
 (qg9 (r8.1.1, r8.1.2)).bind fun r10 =>
 some ((r10.1, r10.2), ((r4.1.1.1, (r4.1.1.2.1, (r4.1.1.2.2.1, r4.1.1.2.2.2))), (r4.1.2.1, (r4.1.2.2.1, r4.1.2.2.2))), 0))))
def qgx : Fun :=
 ⟨21, 4, 3,
 ⟨[(0, dd (.pair (.sl (.str)) tT0)), (1, dd (.pair (.sl (.int .u8)) (.sl (.int .u8)))), (2, dd (.pair (.pair (.sl tT1) tT6) (.pair (.sl tT3) (.pair (.sl tT2) I6)))), (3, dd (.pair I6 (.pair (.sl I6) (.pair (.pair I6 (.pair I6 (.pair I6 tT5))) (.pair (.str) (.pair I6 I6))))))], [], []⟩,
 ⟨r35_, [], []⟩,
 fun x => qfD x.1 x.2.1 x.2.2.1 x.2.2.2⟩
theorem qjI : FO qgx := fi [] [qbu, qgu, qhs, qfM, qhU, qjH] 62 [] ((nn (nn (nn (nn (nn (nn (mm (.mk [.fz [14]] none .nil .nil) .nil)))))))) func21 ⟨⟨qcj, qjF, qkG, qiV, qm0, qoZ, trivial⟩, trivial⟩
def qeZ (f : List Int × List Int) (keep : Int) : Option (List Int × List Int) :=
 gd (fits (0 + f.1.length) 1) <|
 gd (cutG none (some (.i64, max 0 (min keep (f.2.length : Int)))) f.2.length) <|
 gd (fits (([] ++ f.1).length + (f.2.take (max 0 (min keep (f.2.length : Int))).toNat).length) 1) <|
 some (([] ++ f.1) ++ (f.2.take (max 0 (min keep (f.2.length : Int))).toNat), [])
def qfc : Fun :=
 ⟨29, 2, 1,
 ⟨r43_, [], []⟩,
 ⟨r15_, [], []⟩,
 fun x => qeZ x.1 x.2⟩
theorem qhw : FO qfc := fi [12] [] 22 [] .nil func29 ⟨trivial, trivial⟩
def qeI (f : List Int × List Int) : Option ((List Int × List Int) × List (List Int)) :=
 (qfC f.1).bind fun r =>
 gd (cutG none (some (.i64, r.1)) f.1.length) <|
 (qbc [f.1.take r.1.toNat]).bind fun r2 =>
 some ((r2, []), r.2)
def qha : Fun :=
 ⟨67, 1, 2,
 ⟨r15_, [], []⟩,
 ⟨[(0, dd (.pair (.sl (.int .u8)) (.sl (.int .u8)))), (1, ow 0)], [], a109_⟩,
 fun x => qeI x⟩
theorem qmg : FO qha := fi [] [qgw, qb0] 20 [] .nil func67 ⟨⟨qjG, qcv, trivial⟩, trivial⟩
def qaa (r : List Int) (r2 : Int) (r3 : Bool) : Option (Int × List Int × Int × Bool) :=
 (qkq r r2).bind fun r4 =>
 Option.bind (α := Bool) (
 bif r3 then (
 some true)
 else (
 some (!decide (r4.2.2 = 0)))) fun s =>
 bif s then (
 some (0, r, r2, true))
 else (
 some (r4.1, r, r4.2.1, r3))
def qcG : Fun :=
 ⟨47, 1, 1,
 ⟨[(0, pt 0 0)], v42_, []⟩,
 ⟨[(0, ii)], v42_, []⟩,
 fun x => qaa x.1 x.2.1 x.2.2⟩
theorem qeJ : FO qcG := fi [] [qlh] 35 [] ((nn (nn (mm (mm (.mk [.join [⟨.n, ⟨[(0, pt 0 0), (3, kk), (4, kk), (26, bb)], [(0, 118, [.keep, .keep, .keep])], []⟩⟩]] none .nil .nil) .nil) .nil)))) func47 ⟨⟨qoY, trivial⟩, trivial⟩
def qaF (most : Int) (r : List Int) (r2 : Int) (r3 : Bool) : Option (Int × List Int × Int × Bool) :=
 (qaa r r2 r3).bind fun r4 =>
 Option.bind (α := Bool) (
 bif decide (r4.1 < 0) then (
 some true)
 else (
 some (decide (most < r4.1)))) fun s =>
 bif s then (
 some (0, r4.2.1, r4.2.2.1, true))
 else (
 some (r4.1, r4.2.1, r4.2.2.1, r4.2.2.2))
def qeQ : Fun :=
 ⟨48, 2, 1,
 ⟨r112_, v42_, []⟩,
 ⟨[(0, ii)], v42_, []⟩,
 fun x => qaF x.1 x.2.1 x.2.2.1 x.2.2.2⟩
theorem qjb : FO qeQ := fi [] [qcG] 19 [] ((nn (nn (mm (mm (.mk [.join [⟨.n, ⟨[(0, pt 0 0), (5, kk), (14, bb)], [(0, 118, [.keep, .keep, .keep])], []⟩⟩]] none .nil .nil) .nil) .nil)))) func48 ⟨⟨qeJ, trivial⟩, trivial⟩
def qbn (r2 : Int × List Int × Int × Bool) (v : Int) (r3 : List Int) (r4 : Int) (r5 : Bool) (out : List Int) : Option ((Int × List Int × Int × Bool × List Int) ⊕ (List Int × Int × Bool × List Int)) :=
 bif decide (v < r2.1) then (
 (qaa r3 r4 r5).bind fun r6 =>
 gd (fits (out.length + 1) 8) <|
 some (.inl (wi64 (v + 1), r6.2.1, r6.2.2.1, r6.2.2.2, out ++ [r6.1])))
 else (
 some (.inr (r3, r4, r5, out)))
def qbo (r12 : Int × List Int × Int × Bool) (v2 : Int) (r13 : List Int) (r14 : Int) (r15 : Bool) (p : List Int) (p2 : List (Int × Bool)) : Option ((Int × List Int × Int × Bool × List Int × List (Int × Bool)) ⊕ (List Int × Int × Bool × List Int × List (Int × Bool))) :=
 bif decide (v2 < r12.1) then (
 (qaa r13 r14 r15).bind fun r16 =>
 (qaF 1 r16.2.1 r16.2.2.1 r16.2.2.2).bind fun r17 =>
 gd (fits (p2.length + 1) 16) <|
 some (.inl (wi64 (v2 + 1), r17.2.1, r17.2.2.1, r17.2.2.2, p, p2 ++ [(r16.1, decide (r17.1 = 1))])))
 else (
 some (.inr (r13, r14, r15, p, p2)))
def qeK (b : List Int) : Option (yB11 × Int) :=
 (qaa b 0 false).bind fun r =>
 (qaF 21 r.2.1 r.2.2.1 r.2.2.2).bind fun r2 =>
 (iter (fun x => qbn r2 x.1 x.2.1 x.2.2.1 x.2.2.2.1 x.2.2.2.2) (0, r2.2.1, r2.2.2.1, r2.2.2.2, [])).bind fun s =>
 (qaa s.1 s.2.1 s.2.2.1).bind fun r7 =>
 (qaa r7.2.1 r7.2.2.1 r7.2.2.2).bind fun r8 =>
 (qaa r8.2.1 r8.2.2.1 r8.2.2.2).bind fun r9 =>
 (qaa r9.2.1 r9.2.2.1 r9.2.2.2).bind fun r10 =>
 (qaa r10.2.1 r10.2.2.1 r10.2.2.2).bind fun r11 =>
 (qaF 32 r11.2.1 r11.2.2.1 r11.2.2.2).bind fun r12 =>
 (iter (fun x2 => qbo r12 x2.1 x2.2.1 x2.2.2.1 x2.2.2.2.1 x2.2.2.2.2.1 x2.2.2.2.2.2) (0, r12.2.1, r12.2.2.1, r12.2.2.2, s.2.2.2, [])).bind fun s2 =>
 (qaa s2.1 s2.2.1 s2.2.2.1).bind fun r18 =>
 (qaa r18.2.1 r18.2.2.1 r18.2.2.2).bind fun r19 =>
 (qaa r19.2.1 r19.2.2.1 r19.2.2.2).bind fun r20 =>
 (qaF 12 r20.2.1 r20.2.2.1 r20.2.2.2).bind fun r21 =>
 Option.bind (α := Bool × List Int × List (Int × Bool)) (
 bif r21.2.2.2 then (
 some (true, s2.2.2.2.1, s2.2.2.2.2))
 else (
 some ((!decide (wi64 ((b.length : Int) - r21.2.2.1) = r21.1)), s2.2.2.2.1, s2.2.2.2.2))) fun s3 =>
 bif s3.1 then (
 some ((0, ([], ((0, (0, (0, (0, (0, ([], 0)))))), ([], (0, 0))))), 3))
 else (
 gd (cutG (some (.i64, r21.2.2.1)) none b.length) <|
 some ((r.1, (s3.2.1, ((r7.1, (r8.1, (r9.1, (r10.1, (r11.1, (s3.2.2, r18.1)))))), (qcZ (b.drop r21.2.2.1.toNat), (r19.1, r20.1))))), 0))
def qiZ : Fun :=
 ⟨11, 1, 2,
 ⟨r50_, [], []⟩,
 ⟨[(0, dd (.pair I6 (.pair (.sl I6) (.pair (.pair I6 (.pair I6 (.pair I6 tT5))) (.pair (.str) (.pair I6 I6)))))), (1, ii)], [], []⟩,
 fun x => qeK x⟩
theorem qnM : FO qiZ := fi [] [qcG, qeQ] 113 [] ((nn (nn (nn (nn (mm (nn (mm (.mk [] (some (⟨[(0, kk), (2, pt 48 0), (4, pt 192 0), (5, pt 96 0), (16, kk), (17, ii)], v26_, [(1577, .arr 3 I6)]⟩, [⟨.x 0, ⟨[(0, kk), (2, pt 48 0), (4, pt 192 0), (5, pt 96 0)], v26_, [(1577, .arr 3 I6)]⟩⟩])) .nil .nil) .nil)) (nn (nn (mm (nn (mm (.mk [] (some (⟨[(0, kk), (2, pt 48 0), (4, pt 192 0), (5, pt 96 0), (6, pt 96 5), (52, kk), (53, ii)], v23_, a69_⟩, [⟨.x 2, ⟨[(0, kk), (2, pt 48 0), (4, pt 192 0), (5, pt 96 0), (6, pt 96 5)], v23_, a69_⟩⟩])) .nil .nil) .nil)) (nn (nn (mm (mm (.mk [.join [⟨.n, ⟨[(0, kk), (2, pt 48 0), (4, pt 192 0), (5, pt 96 0), (101, bb)], [(48, 32, (kp 12)), (192, 118, [.keep, .keep, .keep]), (96, 32, [.keep, .own 1577, .keep, .keep, .keep, .keep, .keep, .own 1673, .keep, .keep, .keep, .keep])], a69_⟩⟩]] none .nil .nil) .nil) .nil)))))))))))) func11 ⟨⟨qeJ, qjb, trivial⟩, trivial⟩
def qdq (n : yB0) (r : List Int) (r2 : List Int) (r4 : (List Int × List Int) × List (List Int)) (v : Int) (v2 : List Int) (v3 : List Int) (v4 : yB3) (v5 : List Int) (v6 : List Int) (v7 : List Bool) (v8 : List yB2) (v9 : List yB1) (v10 : Int) (c : yB3) (c2 : List Int) (c3 : List Int) (c4 : List Bool) (c5 : List yB2) (c6 : List yB1) (c7 : Int) (v11 : List (List Int)) : Option ((Int × List Int × List Int × yB3 × List Int × List Int × List Bool × (List yB2) × (List yB1) × Int × yB3 × List Int × List Int × List Bool × (List yB2) × (List yB1) × Int × List (List Int)) ⊕ ((List Int × List Int × yB3 × List Int × List Int × List Bool × (List yB2) × (List yB1) × Int × yB3 × List Int × List Int × List Bool × (List yB2) × (List yB1) × Int) ⊕ (Int × List Int × List Int × yB3 × List Int × List Int × List Bool × (List yB2) × (List yB1) × Int))) :=
 bif decide (v < (r4.2.length : Int)) then (
 gd (inB v v11.length) <|
 (qeK (v11.getD v.toNat [])).bind fun r5 =>
 bif !decide (r5.2 = 0) then (
 some (.inr (.inr (28, r, r2, [], [], [], [], [], [], 0))))
 else (
 (qdg (n.1, (n.2.1, (n.2.2.1, (n.2.2.2.1, (n.2.2.2.2.1, n.2.2.2.2.2))))) ((c, (c2, (c3, c4))), (c5, (c6, c7))) (r5.1.1, (r5.1.2.1, ((r5.1.2.2.1.1, (r5.1.2.2.1.2.1, (r5.1.2.2.1.2.2.1, (r5.1.2.2.1.2.2.2.1, (r5.1.2.2.1.2.2.2.2.1, (r5.1.2.2.1.2.2.2.2.2.1, r5.1.2.2.1.2.2.2.2.2.2)))))), (r5.1.2.2.2.1, (r5.1.2.2.2.2.1, r5.1.2.2.2.2.2)))))).bind fun r6 =>
 bif !decide (r6.2 = 0) then (
 some (.inr (.inr (28, r, r2, [], [], [], [], [], [], 0))))
 else (
 some (.inl (wi64 (v + 1), v2, v3, v4, v5, v6, v7, v8, v9, v10, r6.1.1.1, r6.1.1.2.1, r6.1.1.2.2.1, r6.1.1.2.2.2, r6.1.2.1, r6.1.2.2.1, r6.1.2.2.2, v11)))))
 else (
 some (.inr (.inl (v2, v3, v4, v5, v6, v7, v8, v9, v10, c, c2, c3, c4, c5, c6, c7))))
def qcW (n : yB0) (travel : Int) (f : List Int × List Int) : Option ((List Int × List Int) × yB12 × Int) :=
 (qaI f.1).bind fun r =>
 (qaI f.2).bind fun r2 =>
 (qeV (n.1, (n.2.1, (n.2.2.1, (n.2.2.2.1, (n.2.2.2.2.1, n.2.2.2.2.2))))) travel).bind fun r3 =>
 bif !decide (r3.2 = 0) then (
 some ((r, r2), (([], ([], ([], []))), ([], ([], 0))), r3.2))
 else (
 (qeI (f.1, f.2)).bind fun r4 =>
 (iter (fun x => qdq n r r2 r4 x.1 x.2.1 x.2.2.1 x.2.2.2.1 x.2.2.2.2.1 x.2.2.2.2.2.1 x.2.2.2.2.2.2.1 x.2.2.2.2.2.2.2.1 x.2.2.2.2.2.2.2.2.1 x.2.2.2.2.2.2.2.2.2.1 x.2.2.2.2.2.2.2.2.2.2.1 x.2.2.2.2.2.2.2.2.2.2.2.1 x.2.2.2.2.2.2.2.2.2.2.2.2.1 x.2.2.2.2.2.2.2.2.2.2.2.2.2.1 x.2.2.2.2.2.2.2.2.2.2.2.2.2.2.1 x.2.2.2.2.2.2.2.2.2.2.2.2.2.2.2.1 x.2.2.2.2.2.2.2.2.2.2.2.2.2.2.2.2.1 x.2.2.2.2.2.2.2.2.2.2.2.2.2.2.2.2.2) (0, [], [], [], [], [], [], [], [], 0, r3.1.1.1, r3.1.1.2.1, r3.1.1.2.2.1, r3.1.1.2.2.2, r3.1.2.1, r3.1.2.2.1, r3.1.2.2.2, r4.2)).bind fun s =>
 s.elim (fun s2 =>
 some ((r4.1.1, r4.1.2), ((s2.2.2.2.2.2.2.2.2.2.1, (s2.2.2.2.2.2.2.2.2.2.2.1, (s2.2.2.2.2.2.2.2.2.2.2.2.1, s2.2.2.2.2.2.2.2.2.2.2.2.2.1))), (s2.2.2.2.2.2.2.2.2.2.2.2.2.2.1, (s2.2.2.2.2.2.2.2.2.2.2.2.2.2.2.1, s2.2.2.2.2.2.2.2.2.2.2.2.2.2.2.2))), 0))
 (fun s3 =>
 some ((s3.2.1, s3.2.2.1), ((s3.2.2.2.1, (s3.2.2.2.2.1, (s3.2.2.2.2.2.1, s3.2.2.2.2.2.2.1))), (s3.2.2.2.2.2.2.2.1, (s3.2.2.2.2.2.2.2.2.1, s3.2.2.2.2.2.2.2.2.2))), s3.1)))
def qe0 : Fun :=
 ⟨28, 3, 3,
 ⟨[(0, dd (.pair (.sl (.str)) tT0)), (1, ii), (2, dd (.pair (.sl (.int .u8)) (.sl (.int .u8))))], [], []⟩,
 ⟨r35_, [], []⟩,
 fun x => qcW x.1 x.2.1 x.2.2⟩
theorem qhV : FO qe0 := fi [] [qbu, qfU, qha, qiZ, qgu] 70 [] ((nn (nn (nn (nn (nn (mm (nn (mm (.mk [] (some (⟨[(3, pt 64 0), (6, pt 112 0), (7, pt 128 0), (9, pt 160 0), (10, pt 176 0), (12, pt 208 0), (41, ow 624), (42, kk), (43, ii)], [(64, 50, (kp 6)), (112, 65, [.data (.sl (.int .u8)), .data (.sl (.int .u8))]), (128, 61, [.data (.sl tT1), .data (.sl I6), .data (.sl I6), .data (.sl (.bool)), .data (.sl tT3), .data (.sl tT2), .data I6]), (160, 65, [.keep, .keep]), (176, 61, [.data (.sl tT1), .data (.sl I6), .data (.sl I6), .data (.sl (.bool)), .data (.sl tT3), .data (.sl tT2), .data I6]), (208, 65, [.keep, .keep])], [(624, .arr 22 (.sl (.int .u8)))]⟩, [⟨.x 0, ⟨[(6, pt 112 0), (7, pt 128 0), (10, pt 176 0), (12, pt 208 0)], [(112, 65, [.data (.sl (.int .u8)), .data (.sl (.int .u8))]), (128, 61, [.data (.sl tT1), .data (.sl I6), .data (.sl I6), .data (.sl (.bool)), .data (.sl tT3), .data (.sl tT2), .data I6]), (176, 61, [.data (.sl tT1), .data (.sl I6), .data (.sl I6), .data (.sl (.bool)), .data (.sl tT3), .data (.sl tT2), .data I6]), (208, 65, [.keep, .keep])], []⟩⟩, ⟨.r, ⟨[(6, pt 112 0), (7, pt 128 0), (8, ii)], [(112, 65, [.data (.sl (.int .u8)), .data (.sl (.int .u8))]), (128, 61, [.data (.sl tT1), .data (.sl I6), .data (.sl I6), .data (.sl (.bool)), .data (.sl tT3), .data (.sl tT2), .data I6])], []⟩⟩])) .nil .nil) .nil)) .nil))))))) func28 ⟨⟨qcj, qid, qmg, qnM, qjF, trivial⟩, trivial⟩
def qdr (a : yB3) (b : yB3) (i : Int) : Option (Int ⊕ (Unit ⊕ Bool)) :=
 bif decide (i < (a.length : Int)) then (
 gd (inB i a.length) <|
 gd (inB i b.length) <|
 bif !(decide ((a.getD i.toNat (0, (0, (false, false)))).1 = (b.getD i.toNat (0, (0, (false, false)))).1) && (decide (((a.getD i.toNat (0, (0, (false, false)))).2).1 = ((b.getD i.toNat (0, (0, (false, false)))).2).1) && (((((a.getD i.toNat (0, (0, (false, false)))).2).2).1 == (((b.getD i.toNat (0, (0, (false, false)))).2).2).1) && ((((a.getD i.toNat (0, (0, (false, false)))).2).2).2 == (((b.getD i.toNat (0, (0, (false, false)))).2).2).2)))) then (
 some (.inr (.inr false)))
 else (
 some (.inl (wi64 (i + 1)))))
 else (
 some (.inr (.inl ())))
def qf8 (a : yB3) (b : yB3) : Option (Bool) :=
 bif !decide ((a.length : Int) = (b.length : Int)) then (
 some false)
 else (
 (iter (fun x => qdr a b x) 0).bind fun s =>
 s.elim (fun s2 =>
 some true)
 (fun s3 =>
 some s3))
def qmh : Fun :=
 ⟨81, 2, 1,
 ⟨[(0, dd (.sl tT1)), (1, dd (.sl tT1))], [], []⟩,
 ⟨[(0, bb)], [], []⟩,
 fun x => qf8 x.1 x.2⟩
theorem qqO : FO qmh := fi [] [] 26 [] ((nn (nn (mm (nn (mm (.mk [] (some (⟨r106_, [], []⟩, [⟨.x 0, ⟨[], [], []⟩⟩, ⟨.r, ⟨[(4, bb)], [], []⟩⟩])) .nil .nil) .nil)) .nil)))) func81 ⟨trivial, trivial⟩
def qb1 (a : List Int) (b : List Int) (i : Int) : Option (Int ⊕ (Unit ⊕ Bool)) :=
 bif decide (i < (a.length : Int)) then (
 gd (inB i a.length) <|
 gd (inB i b.length) <|
 bif !decide (a.getD i.toNat 0 = b.getD i.toNat 0) then (
 some (.inr (.inr false)))
 else (
 some (.inl (wi64 (i + 1)))))
 else (
 some (.inr (.inl ())))
def qbW (a : List Int) (b : List Int) : Option (Bool) :=
 bif !decide ((a.length : Int) = (b.length : Int)) then (
 some false)
 else (
 (iter (fun x => qb1 a b x) 0).bind fun s =>
 s.elim (fun s2 =>
 some true)
 (fun s3 =>
 some s3))
def qe1 : Fun :=
 ⟨51, 2, 1,
 ⟨[(0, dd (.sl I6)), (1, dd (.sl I6))], [], []⟩,
 ⟨[(0, bb)], [], []⟩,
 fun x => qbW x.1 x.2⟩
theorem qhW : FO qe1 := fi [] [] 26 [] ((nn (nn (mm (nn (mm (.mk [] (some (⟨r106_, [], []⟩, [⟨.x 0, ⟨[], [], []⟩⟩, ⟨.r, ⟨[(4, bb)], [], []⟩⟩])) .nil .nil) .nil)) .nil)))) func51 ⟨trivial, trivial⟩
def qbH (a : List Bool) (b : List Bool) (i : Int) : Option (Int ⊕ (Unit ⊕ Bool)) :=
 bif decide (i < (a.length : Int)) then (
 gd (inB i a.length) <|
 gd (inB i b.length) <|
 bif !(a.getD i.toNat false == b.getD i.toNat false) then (
 some (.inr (.inr false)))
 else (
 some (.inl (wi64 (i + 1)))))
 else (
 some (.inr (.inl ())))
def qcx (a : List Bool) (b : List Bool) : Option (Bool) :=
 bif !decide ((a.length : Int) = (b.length : Int)) then (
 some false)
 else (
 (iter (fun x => qbH a b x) 0).bind fun s =>
 s.elim (fun s2 =>
 some true)
 (fun s3 =>
 some s3))
def qhb : Fun :=
 ⟨135, 2, 1,
 ⟨[(0, dd (.sl (.bool))), (1, dd (.sl (.bool)))], [], []⟩,
 ⟨[(0, bb)], [], []⟩,
 fun x => qcx x.1 x.2⟩
theorem qmi : FO qhb := fi [] [] 26 [] ((nn (nn (mm (nn (mm (.mk [] (some (⟨r106_, [], []⟩, [⟨.x 0, ⟨[], [], []⟩⟩, ⟨.r, ⟨[(4, bb)], [], []⟩⟩])) .nil .nil) .nil)) .nil)))) func135 ⟨trivial, trivial⟩
def qdP (a : yB5) (b : yB5) : Option (Bool) :=
 (qbW a.1 b.1).bind fun r =>
 bif r then (
 (qbW a.2.1 b.2.1).bind fun r2 =>
 bif r2 then (
 (qcx a.2.2 b.2.2).bind fun r3 =>
 some r3)
 else (
 some false))
 else (
 some false)
def qhX : Fun :=
 ⟨82, 2, 1,
 ⟨[(0, dd tT6), (1, dd tT6)], [], []⟩,
 ⟨[(0, bb)], [], []⟩,
 fun x => qdP x.1 x.2⟩
theorem qm1 : FO qhX := fi [] [qe1, qhb] 24 [] .nil func82 ⟨⟨qhW, qmi, trivial⟩, trivial⟩
def qf9 (a : yB4) (b : yB4) : Option (Bool) :=
 (qf8 a.1 b.1).bind fun r =>
 bif r then (
 (qdP (a.2.1, (a.2.2.1, a.2.2.2)) (b.2.1, (b.2.2.1, b.2.2.2))).bind fun r2 =>
 some r2)
 else (
 some false)
def qmj : Fun :=
 ⟨35, 2, 1,
 ⟨[(0, dd (.pair (.sl tT1) tT6)), (1, dd (.pair (.sl tT1) tT6))], [], []⟩,
 ⟨[(0, bb)], [], []⟩,
 fun x => qf9 x.1 x.2⟩
theorem qqP : FO qmj := fi [] [qmh, qhX] 17 [] .nil func35 ⟨⟨qqO, qm1, trivial⟩, trivial⟩
def qds (a : List yB1) (b : List yB1) (i : Int) : Option (Int ⊕ (Unit ⊕ Bool)) :=
 bif decide (i < (a.length : Int)) then (
 gd (inB i a.length) <|
 gd (inB i b.length) <|
 bif !(decide ((a.getD i.toNat ([], (0, (0, (0, 0))))).1 = (b.getD i.toNat ([], (0, (0, (0, 0))))).1) && (decide (((a.getD i.toNat ([], (0, (0, (0, 0))))).2).1 = ((b.getD i.toNat ([], (0, (0, (0, 0))))).2).1) && (decide ((((a.getD i.toNat ([], (0, (0, (0, 0))))).2).2).1 = (((b.getD i.toNat ([], (0, (0, (0, 0))))).2).2).1) && (decide (((((a.getD i.toNat ([], (0, (0, (0, 0))))).2).2).2).1 = ((((b.getD i.toNat ([], (0, (0, (0, 0))))).2).2).2).1) && decide (((((a.getD i.toNat ([], (0, (0, (0, 0))))).2).2).2).2 = ((((b.getD i.toNat ([], (0, (0, (0, 0))))).2).2).2).2))))) then (
 some (.inr (.inr false)))
 else (
 some (.inl (wi64 (i + 1)))))
 else (
 some (.inr (.inl ())))
def qga (a : List yB1) (b : List yB1) : Option (Bool) :=
 bif !decide ((a.length : Int) = (b.length : Int)) then (
 some false)
 else (
 (iter (fun x => qds a b x) 0).bind fun s =>
 s.elim (fun s2 =>
 some true)
 (fun s3 =>
 some s3))
def qmk : Fun :=
 ⟨36, 2, 1,
 ⟨[(0, dd (.sl tT2)), (1, dd (.sl tT2))], [], []⟩,
 ⟨[(0, bb)], [], []⟩,
 fun x => qga x.1 x.2⟩
theorem qqQ : FO qmk := fi [] [] 26 [] ((nn (nn (mm (nn (mm (.mk [] (some (⟨r106_, [], []⟩, [⟨.x 0, ⟨[], [], []⟩⟩, ⟨.r, ⟨[(4, bb)], [], []⟩⟩])) .nil .nil) .nil)) .nil)))) func36 ⟨trivial, trivial⟩
def qbI (a : yB2) (b : yB2) : Option (Bool) :=
 bif decide (a.1 = b.1) then (
 bif decide (a.2.1 = b.2.1) then (
 bif decide (a.2.2.1 = b.2.2.1) then (
 bif decide (a.2.2.2.1 = b.2.2.2.1) then (
 bif decide (a.2.2.2.2.1 = b.2.2.2.2.1) then (
 (qbW a.2.2.2.2.2 b.2.2.2.2.2).bind fun r =>
 some r)
 else (
 some false))
 else (
 some false))
 else (
 some false))
 else (
 some false))
 else (
 some false)
def qfE : Fun :=
 ⟨43, 2, 1,
 ⟨[(0, dd tT3), (1, dd tT3)], [], []⟩,
 ⟨[(0, bb)], [], []⟩,
 fun x => qbI x.1 x.2⟩
theorem qjJ : FO qfE := fi [] [qe1] 45 [] .nil func43 ⟨⟨qhW, trivial⟩, trivial⟩
def qdt (a : yB12) (b : yB12) (i : Int) : Option (Int ⊕ (Unit ⊕ Bool)) :=
 bif decide (i < (a.2.1.length : Int)) then (
 gd (inB i a.2.1.length) <|
 gd (inB i b.2.1.length) <|
 (qbI (a.2.1.getD i.toNat (0, (0, (0, (0, (0, [])))))) (b.2.1.getD i.toNat (0, (0, (0, (0, (0, []))))))).bind fun r3 =>
 bif !r3 then (
 some (.inr (.inr false)))
 else (
 some (.inl (wi64 (i + 1)))))
 else (
 some (.inr (.inl ())))
def qbj (a : yB12) (b : yB12) : Option (Bool) :=
 Option.bind (α := Bool) (
 bif !decide (a.2.2.2 = b.2.2.2) then (
 some true)
 else (
 (qf9 (a.1.1, (a.1.2.1, (a.1.2.2.1, a.1.2.2.2))) (b.1.1, (b.1.2.1, (b.1.2.2.1, b.1.2.2.2)))).bind fun r =>
 bif !r then (
 some true)
 else (
 (qga a.2.2.1 b.2.2.1).bind fun r2 =>
 bif !r2 then (
 some true)
 else (
 some (!decide ((a.2.1.length : Int) = (b.2.1.length : Int))))))) fun s =>
 bif s then (
 some false)
 else (
 (iter (fun x => qdt a b x) 0).bind fun s2 =>
 s2.elim (fun s3 =>
 some true)
 (fun s4 =>
 some s4))
def qis : Fun :=
 ⟨22, 2, 1,
 ⟨[(0, dd (.pair (.pair (.sl tT1) tT6) (.pair (.sl tT3) (.pair (.sl tT2) I6)))), (1, dd (.pair (.pair (.sl tT1) tT6) (.pair (.sl tT3) (.pair (.sl tT2) I6))))], [], []⟩,
 ⟨[(0, bb)], [], []⟩,
 fun x => qbj x.1 x.2⟩
theorem qml : FO qis := fi [] [qmj, qmk, qfE] 55 [] ((nn (mm (mm (.mk [.join [⟨.n, ⟨[(2, pt 48 0), (3, pt 64 0), (35, bb)], [(48, 61, (kp 7)), (64, 61, (kp 7))], []⟩⟩]] none .nil .nil) .nil) (mm (nn (mm (.mk [] (some (⟨[(2, pt 48 0), (3, pt 64 0), (5, ii)], [(48, 61, (kp 7)), (64, 61, (kp 7))], []⟩, [⟨.x 0, ⟨[], [], []⟩⟩, ⟨.r, ⟨[(4, bb)], [], []⟩⟩])) .nil .nil) .nil)) .nil)))) func22 ⟨⟨qqP, qqQ, qjJ, trivial⟩, trivial⟩
def qgy : Option (Bool) :=
 (qeV (([[97], [98]] : List (List UInt8)), ([([103], (0, (1, (10, (0, (0, [(0, (0, 1000)), (10, (0, 1000))]))))))], ([([112], (0, 0)), ([113], (1, 0))], ([], (0, 0))))) 2).bind fun r =>
 (qfD (([[97], [98]] : List (List UInt8)), ([([103], (0, (1, (10, (0, (0, [(0, (0, 1000)), (10, (0, 1000))]))))))], ([([112], (0, 0)), ([113], (1, 0))], ([], (0, 0))))) ([], []) ((r.1.1.1, (r.1.1.2.1, (r.1.1.2.2.1, r.1.1.2.2.2))), (r.1.2.1, (r.1.2.2.1, r.1.2.2.2))) (3, ([], ((0, (0, (0, (0, (0, ([], 0)))))), ([97], (1, 5)))))).bind fun r2 =>
 (qeZ (r2.1.1, r2.1.2) 0).bind fun r3 =>
 (qcW (([[97], [98]] : List (List UInt8)), ([([103], (0, (1, (10, (0, (0, [(0, (0, 1000)), (10, (0, 1000))]))))))], ([([112], (0, 0)), ([113], (1, 0))], ([], (0, 0))))) 2 r3).bind fun r4 =>
 bif decide (r.2 = 0) then (
 bif decide (r2.2.2 = 0) then (
 bif decide (r4.2.2 = 0) then (
 bif decide (r2.2.1.2.2.2 = 1) then (
 bif decide ((r4.2.1.2.2.1.length : Int) = 1) then (
 gd (inB 0 r4.2.1.2.2.1.length) <|
 bif decide (((r4.2.1.2.2.1.getD 0 ([], (0, (0, (0, 0))))).2).1 = 5) then (
 (qbj ((r2.2.1.1.1, (r2.2.1.1.2.1, (r2.2.1.1.2.2.1, r2.2.1.1.2.2.2))), (r2.2.1.2.1, (r2.2.1.2.2.1, r2.2.1.2.2.2))) ((r4.2.1.1.1, (r4.2.1.1.2.1, (r4.2.1.1.2.2.1, r4.2.1.1.2.2.2))), (r4.2.1.2.1, (r4.2.1.2.2.1, r4.2.1.2.2.2)))).bind fun r5 =>
 some r5)
 else (
 some false))
 else (
 some false))
 else (
 some false))
 else (
 some false))
 else (
 some false))
 else (
 some false)
def qkR : Fun :=
 ⟨8, 0, 1,
 ⟨[], [], []⟩,
 ⟨[(0, bb)], [], []⟩,
 fun x => qgy⟩
theorem qpA : FO qkR := fi [] [qfU, qgx, qfc, qe0, qis] 76 [] .nil func8 ⟨⟨qid, qjI, qhw, qhV, qml, trivial⟩, trivial⟩
def qnZ (l : List Int) : Option (List Int × Int) :=
 gd (cutG none (some (.i64, min (l.length : Int) 2000)) l.length) <|
 some (l.take (min (l.length : Int) 2000).toNat, 0)
def qo0 : Fun :=
 ⟨16, 1, 1,
 ⟨r89_, [], []⟩,
 ⟨[(0, pt 0 0)], v3_, []⟩,
 fun x => qnZ x⟩
theorem qta : FO qo0 := fi [] [] 10 [] .nil func16 ⟨trivial, trivial⟩
def qhc (s : List Int) (s2 : Int) : Option (Int × List Int × Int) :=
 bif decide ((s.length : Int) ≤ s2) then (
 some (0, s, s2))
 else (
 gd (inB (wi64 ((wi64 (s2 + 1)) - 1)) s.length) <|
 some (s.getD (wi64 ((wi64 (s2 + 1)) - 1)).toNat 0, s, wi64 (s2 + 1)))
def qjK : Fun :=
 ⟨66, 1, 1,
 ⟨[(0, pt 0 0)], v3_, []⟩,
 ⟨[(0, ii)], v3_, []⟩,
 fun x => qhc x.1 x.2⟩
theorem qo1 : FO qjK := fi [] [] 31 [] .nil func66 ⟨trivial, trivial⟩
def qn0 (x : Int) (n : Int) : Option (Int) :=
 bif decide (n < 1) then (
 some 0)
 else (
 gd (!decide (n = 0)) <|
 bif decide (Int.tmod x n < 0) then (
 some (wi64 ((Int.tmod x n) + n)))
 else (
 some (Int.tmod x n)))
def qo2 : Fun :=
 ⟨53, 2, 1,
 ⟨r53_, [], []⟩,
 ⟨[(0, ii)], [], []⟩,
 fun x => qn0 x.1 x.2⟩
theorem qtb : FO qo2 := fi [] [] 16 [] .nil func53 ⟨trivial, trivial⟩
def qab (n : Int) (s : List Int) (s2 : Int) : Option (Int × List Int × Int) :=
 (qhc s s2).bind fun r =>
 (qn0 r.1 n).bind fun r2 =>
 some (r2, r.2.1, r.2.2)
def qa8 : Fun :=
 ⟨27, 2, 1,
 ⟨r112_, v3_, []⟩,
 ⟨[(0, ii)], v3_, []⟩,
 fun x => qab x.1 x.2.1 x.2.2⟩
theorem qbi : FO qa8 := fi [] [qjK, qo2] 9 [] .nil func27 ⟨⟨qo1, qtb, trivial⟩, trivial⟩
def qam (l : List Int) (s : List Int) (s2 : Int) : Option (Int × List Int × Int) :=
 (qab (l.length : Int) s s2).bind fun r =>
 gd (inB r.1 l.length) <|
 some (l.getD r.1.toNat 0, r.2.1, r.2.2)
def qbp : Fun :=
 ⟨26, 2, 1,
 ⟨[(0, pt 0 0), (1, dd (.sl I6))], v3_, []⟩,
 ⟨[(0, ii)], v3_, []⟩,
 fun x => qam x.1 x.2.1 x.2.2⟩
theorem qbL : FO qbp := fi [] [qa8] 12 [] .nil func26 ⟨⟨qbi, trivial⟩, trivial⟩
def qa2 (lo : Int) (hi : Int) (s : List Int) (s2 : Int) : Option (Int × List Int × Int) :=
 (qab (wi64 ((wi64 (hi - lo)) + 1)) s s2).bind fun r =>
 some (wi64 (lo + r.1), r.2.1, r.2.2)
def qdu : Fun :=
 ⟨54, 3, 1,
 ⟨[(0, pt 0 0), (1, ii), (2, ii)], v3_, []⟩,
 ⟨[(0, ii)], v3_, []⟩,
 fun x => qa2 x.1 x.2.1 x.2.2.1 x.2.2.2⟩
theorem qe2 : FO qdu := fi [] [qa8] 15 [] .nil func54 ⟨⟨qbi, trivial⟩, trivial⟩
def qgz (first : List UInt8) (n : Int) : Option (List UInt8) :=
 gd (Nat.ble (first.length + (qcZ [wu8 (wi64 (97 + (Int.tmod n 26)))]).length) 9223372036854775807) <|
 some (first ++ (qcZ [wu8 (wi64 (97 + (Int.tmod n 26)))]))
def qjL : Fun :=
 ⟨55, 2, 1,
 ⟨[(0, ss), (1, ii)], [], []⟩,
 ⟨[(0, ss)], [], []⟩,
 fun x => qgz x.1 x.2⟩
theorem qnq : FO qjL := fi [] [] 13 [] .nil func55 ⟨trivial, trivial⟩
def qgA (r3 : Int × List Int × Int) (r6 : Int × List Int × Int) (vat : Int) (s4 : List Int) (s5 : Int) (x : List (Int × Int × Int)) : Option ((Int × List Int × Int × List (Int × Int × Int)) ⊕ (List Int × Int × List (Int × Int × Int))) :=
 Option.bind (α := Bool × List Int × Int × List (Int × Int × Int)) (
 bif decide ((x.length : Int) < 7) then (
 (qab 3 s4 s5).bind fun r8 =>
 some (decide (0 < r8.1), r8.2.1, r8.2.2, x))
 else (
 some (false, s4, s5, x))) fun s6 =>
 bif s6.1 then (
 (qa2 1 40 s6.2.1 s6.2.2.1).bind fun r9 =>
 bif decide (r3.1 ≤ wi64 (vat + r9.1)) then (
 some (.inr (r9.2.1, r9.2.2, s6.2.2.2)))
 else (
 (qa2 (-5) 60 r9.2.1 r9.2.2).bind fun r10 =>
 (qam [1, 1, 10] r10.2.1 r10.2.2).bind fun r11 =>
 (qab 3 r11.2.1 r11.2.2).bind fun r12 =>
 gd (fits (s6.2.2.2.length + 1) 24) <|
 some (.inl (wi64 (vat + r9.1), r12.2.1, r12.2.2, s6.2.2.2 ++ [(wi64 (vat + r9.1), (wi64 (r10.1 * r11.1), wi64 (r6.1 - (wi64 (r12.1 * 1000)))))]))))
 else (
 some (.inr (s6.2.1, s6.2.2.1, s6.2.2.2)))
def qcS (k : Int) (vfrom : Int) (to : Int) (s : List Int) (s2 : Int) : Option (yT0 × List Int × Int) :=
 (qab 4 s s2).bind fun r =>
 Option.bind (α := Int × Int) (
 bif decide (r.1 = 0) then (
 some (to, vfrom))
 else (
 some (vfrom, to))) fun s3 =>
 (qgz [103] k).bind fun r2 =>
 (qam [1, 2, 7, 20, 60, 200, 1000] r.2.1 r.2.2).bind fun r3 =>
 (qam [0, 1, 5, 1000] r3.2.1 r3.2.2).bind fun r4 =>
 (qam [0, 50, 1000, 100000] r4.2.1 r4.2.2).bind fun r5 =>
 (qam [1000000, 6000000, 100000000] r5.2.1 r5.2.2).bind fun r6 =>
 (qa2 (-5) 30 r6.2.1 r6.2.2).bind fun r7 =>
 (iter (fun x2 => qgA r3 r6 x2.1 x2.2.1 x2.2.2.1 x2.2.2.2) (0, r7.2.1, r7.2.2, [(0, (r7.1, r6.1))])).bind fun s7 =>
 (qa2 (-5) 30 s7.1 s7.2.1).bind fun r13 =>
 gd (fits (s7.2.2.length + 1) 24) <|
 some ((r2, (s3.1, (s3.2, (r3.1, (r4.1, (r5.1, s7.2.2 ++ [(r3.1, (r13.1, r6.1))])))))), r13.2.1, r13.2.2)
def qgB : Fun :=
 ⟨56, 4, 1,
 ⟨[(0, pt 0 0), (1, ii), (2, ii), (3, ii)], v3_, []⟩,
 ⟨r83_, v3_, []⟩,
 fun x => qcS x.1 x.2.1 x.2.2.1 x.2.2.2.1 x.2.2.2.2⟩
theorem qli : FO qgB := fi [] [qa8, qjL, qbp, qdu] 90 [] ((nn (mm (nn (.mk [.join [⟨.n, ⟨[(0, pt 0 0), (1, kk), (2, ii), (3, ii), (8, pt 144 0)], [(0, 128, [.keep, .keep]), (144, 106, (kp 7))], []⟩⟩]] none .nil .nil)) (nn (nn (nn (mm (nn (mm (.mk [] (some (⟨[(0, pt 0 0), (8, pt 144 0), (9, pt 160 0), (10, kk), (11, ii)], v21_, a88_⟩, [⟨.x 0, ⟨[(0, pt 0 0), (8, pt 144 0), (9, pt 160 0), (10, kk)], v21_, a88_⟩⟩])) (mm (mm (.mk [.join [⟨.n, ⟨[(0, pt 0 0), (8, pt 144 0), (9, pt 160 0), (10, kk), (11, kk), (51, bb)], v21_, a88_⟩⟩]] none .nil .nil) .nil) .nil) .nil) .nil)) .nil))))))) func56 ⟨⟨qbi, qnq, qbL, qe2, trivial⟩, trivial⟩
def qgC (i : Int) (n : List (List UInt8)) : Option ((Int × List (List UInt8)) ⊕ (List (List UInt8))) :=
 bif decide (0 < i) then (
 (qgz [110] (n.length : Int)).bind fun r4 =>
 gd (fits (n.length + 1) 16) <|
 some (.inl (wi64 (i - 1), n ++ [r4])))
 else (
 some (.inr n))
def qgD (s3 : List (List UInt8)) (i2 : Int) (s4 : List Int) (s5 : Int) (n2 : List (List UInt8)) (n3 : List yT0) : Option ((Int × List Int × Int × List (List UInt8) × List yT0) ⊕ (List Int × Int × List (List UInt8) × List yT0)) :=
 bif decide (i2 < wi64 ((s3.length : Int) - 1)) then (
 (qcS (n3.length : Int) i2 (wi64 (i2 + 1)) s4 s5).bind fun r5 =>
 gd (fits (n3.length + 1) 80) <|
 some (.inl (wi64 (i2 + 1), r5.2.1, r5.2.2, n2, n3 ++ [(r5.1.1, (r5.1.2.1, (r5.1.2.2.1, (r5.1.2.2.2.1, (r5.1.2.2.2.2.1, (r5.1.2.2.2.2.2.1, r5.1.2.2.2.2.2.2))))))])))
 else (
 some (.inr (s4, s5, n2, n3)))
def qgE (s3 : List (List UInt8)) (i3 : Int) (s7 : List Int) (s8 : Int) (n4 : List (List UInt8)) (n5 : List yT0) : Option ((Int × List Int × Int × List (List UInt8) × List yT0) ⊕ (List Int × Int × List (List UInt8) × List yT0)) :=
 bif decide (0 < i3) then (
 (qab (wi64 ((s3.length : Int) - 1)) s7 s8).bind fun r7 =>
 (qa2 (wi64 (r7.1 + 1)) (wi64 ((s3.length : Int) - 1)) r7.2.1 r7.2.2).bind fun r8 =>
 (qcS (n5.length : Int) r7.1 r8.1 r8.2.1 r8.2.2).bind fun r9 =>
 gd (fits (n5.length + 1) 80) <|
 some (.inl (wi64 (i3 - 1), r9.2.1, r9.2.2, n4, n5 ++ [(r9.1.1, (r9.1.2.1, (r9.1.2.2.1, (r9.1.2.2.2.1, (r9.1.2.2.2.2.1, (r9.1.2.2.2.2.2.1, r9.1.2.2.2.2.2.2))))))])))
 else (
 some (.inr (s7, s8, n4, n5)))
def qgF (s3 : List (List UInt8)) (i4 : Int) (s10 : List Int) (s11 : Int) (n6 : List (List UInt8)) (n7 : List yT0) (n8 : List (List UInt8 × Int × Int)) (n9 : List yB1) : Option ((Int × List Int × Int × List (List UInt8) × (List yT0) × (List (List UInt8 × Int × Int)) × List yB1) ⊕ (List Int × Int × List (List UInt8) × (List yT0) × (List (List UInt8 × Int × Int)) × List yB1)) :=
 bif decide (i4 ≤ wi64 ((s3.length : Int) - 1)) then (
 Option.bind (α := Bool × List Int × Int × List (List UInt8) × (List yT0) × (List (List UInt8 × Int × Int)) × List yB1) (
 bif decide (i4 = 0) then (
 some (true, s10, s11, n6, n7, n8, n9))
 else (
 bif decide (i4 = wi64 ((s3.length : Int) - 1)) then (
 some (true, s10, s11, n6, n7, n8, n9))
 else (
 (qab 2 s10 s11).bind fun r10 =>
 some (decide (r10.1 = 0), r10.2.1, r10.2.2, n6, n7, n8, n9)))) fun s12 =>
 Option.bind (α := List Int × Int × List (List UInt8) × (List yT0) × (List (List UInt8 × Int × Int)) × List yB1) (
 bif s12.1 then (
 (qgz [113] (s12.2.2.2.2.2.1.length : Int)).bind fun r11 =>
 (qam [300000, 1000000, 0, 5000000] s12.2.1 s12.2.2.1).bind fun r12 =>
 gd (fits (s12.2.2.2.2.2.1.length + 1) 32) <|
 some (r12.2.1, r12.2.2, s12.2.2.2.1, s12.2.2.2.2.1, s12.2.2.2.2.2.1 ++ [(r11, (i4, r12.1))], s12.2.2.2.2.2.2))
 else (
 some (s12.2.1, s12.2.2.1, s12.2.2.2.1, s12.2.2.2.2.1, s12.2.2.2.2.2.1, s12.2.2.2.2.2.2))) fun s13 =>
 Option.bind (α := Bool × List Int × Int × List (List UInt8) × (List yT0) × (List (List UInt8 × Int × Int)) × List yB1) (
 bif decide (i4 < wi64 ((s3.length : Int) - 1)) then (
 (qab 3 s13.1 s13.2.1).bind fun r13 =>
 some (decide (r13.1 = 0), r13.2.1, r13.2.2, s13.2.2.1, s13.2.2.2.1, s13.2.2.2.2.1, s13.2.2.2.2.2))
 else (
 some (false, s13.1, s13.2.1, s13.2.2.1, s13.2.2.2.1, s13.2.2.2.2.1, s13.2.2.2.2.2))) fun s14 =>
 Option.bind (α := List Int × Int × List (List UInt8) × (List yT0) × (List (List UInt8 × Int × Int)) × List yB1) (
 bif s14.1 then (
 (qgz [115] (s14.2.2.2.2.2.2.length : Int)).bind fun r14 =>
 (qam [500000, 2000000, 0] s14.2.1 s14.2.2.1).bind fun r15 =>
 (qam [0, 200, 100000] r15.2.1 r15.2.2).bind fun r16 =>
 (qam [0, 100000, 400000] r16.2.1 r16.2.2).bind fun r17 =>
 gd (fits (s14.2.2.2.2.2.2.length + 1) 48) <|
 some (r17.2.1, r17.2.2, s14.2.2.2.1, s14.2.2.2.2.1, s14.2.2.2.2.2.1, s14.2.2.2.2.2.2 ++ [(r14, (i4, (r15.1, (r16.1, r17.1))))]))
 else (
 some (s14.2.1, s14.2.2.1, s14.2.2.2.1, s14.2.2.2.2.1, s14.2.2.2.2.2.1, s14.2.2.2.2.2.2))) fun s15 =>
 some (.inl (wi64 (i4 + 1), s15.1, s15.2.1, s15.2.2.1, s15.2.2.2.1, s15.2.2.2.2.1, s15.2.2.2.2.2)))
 else (
 some (.inr (s10, s11, n6, n7, n8, n9)))
def qeb (s : List Int) (s2 : Int) : Option (yB0 × List Int × Int) :=
 (qam [(-100000), 0, 50000] s s2).bind fun r =>
 (qam [0, 1, 5, 100] r.2.1 r.2.2).bind fun r2 =>
 (qa2 2 6 r2.2.1 r2.2.2).bind fun r3 =>
 (iter (fun x => qgC x.1 x.2) (r3.1, [])).bind fun s3 =>
 (iter (fun x2 => qgD s3 x2.1 x2.2.1 x2.2.2.1 x2.2.2.2.1 x2.2.2.2.2) (0, r3.2.1, r3.2.2, s3, [])).bind fun s6 =>
 (qab 4 s6.1 s6.2.1).bind fun r6 =>
 (iter (fun x3 => qgE s3 x3.1 x3.2.1 x3.2.2.1 x3.2.2.2.1 x3.2.2.2.2) (r6.1, r6.2.1, r6.2.2, s6.2.2.1, s6.2.2.2)).bind fun s9 =>
 (iter (fun x4 => qgF s3 x4.1 x4.2.1 x4.2.2.1 x4.2.2.2.1 x4.2.2.2.2.1 x4.2.2.2.2.2.1 x4.2.2.2.2.2.2) (0, s9.1, s9.2.1, s9.2.2.1, s9.2.2.2, [], [])).bind fun s16 =>
 some ((s16.2.2.1, (s16.2.2.2.1, (s16.2.2.2.2.1, (s16.2.2.2.2.2, (r.1, r2.1))))), s16.1, s16.2.1)
def qgG : Fun :=
 ⟨17, 1, 1,
 ⟨[(0, pt 0 0)], v3_, []⟩,
 ⟨r22_, v3_, []⟩,
 fun x => qeb x.1 x.2⟩
theorem qlj : FO qgG := fi [] [qbp, qdu, qjL, qgB, qa8] 139 [] ((nn (nn (mm (nn (mm (.mk [] (some (⟨[(0, pt 0 0), (2, pt 48 0), (3, pt 64 0), (4, ii)], v52_, [(1049, .arr 9 (.str))]⟩, [⟨.x 0, ⟨[(0, pt 0 0), (2, pt 48 0), (3, pt 64 0)], v52_, [(1049, .arr 9 (.str))]⟩⟩])) .nil .nil) .nil)) (nn (mm (nn (mm (.mk [] (some (⟨[(0, pt 0 0), (2, pt 48 0), (3, pt 64 0), (5, kk), (6, ii)], v13_, a44_⟩, [⟨.x 2, ⟨[(0, pt 0 0), (2, pt 48 0), (3, pt 64 0), (5, kk)], v13_, a44_⟩⟩])) .nil .nil) .nil)) (mm (nn (mm (.mk [] (some (⟨[(0, pt 0 0), (2, pt 48 0), (3, pt 64 0), (5, kk), (7, ii)], v13_, a44_⟩, [⟨.x 4, ⟨[(0, pt 0 0), (2, pt 48 0), (3, pt 64 0), (5, kk)], v13_, a44_⟩⟩])) .nil .nil) .nil)) (mm (nn (mm (.mk [] (some (⟨[(0, pt 0 0), (2, pt 48 0), (3, pt 64 0), (5, kk), (9, ii)], v9_, a5_⟩, [⟨.x 6, ⟨r32_, [(48, 50, (kp 6)), (64, 50, [.own 1049, .own 1065, .own 1081, .own 1097, .keep, .keep]), (0, 128, [.data (.sl I6), .data I6])], a5_⟩⟩])) (nn (mm (mm (mm (mm (.mk [.join [⟨.n, ⟨[(0, pt 0 0), (2, pt 48 0), (3, pt 64 0), (5, kk), (9, kk), (95, bb)], v9_, a5_⟩⟩]] none .nil .nil) (.mk [.join [⟨.n, ⟨r97_, v9_, a5_⟩⟩]] none .nil .nil)) (mm (.mk [.join [⟨.n, ⟨[(0, pt 0 0), (2, pt 48 0), (3, pt 64 0), (5, kk), (9, kk), (117, bb)], v9_, a5_⟩⟩]] none .nil .nil) (.mk [.join [⟨.n, ⟨r97_, v9_, a5_⟩⟩]] none .nil .nil))) .nil) .nil)) .nil) .nil)) .nil)))))))) func17 ⟨⟨qbL, qe2, qnq, qli, qbi, trivial⟩, trivial⟩
def qit (s : List Int) (s2 : Int) : Option (Bool × List Int × Int) :=
 some (decide (s2 < (s.length : Int)), s, s2)
def qi0 : Fun :=
 ⟨19, 1, 1,
 ⟨[(0, pt 0 0)], v3_, []⟩,
 ⟨[(0, bb)], v3_, []⟩,
 fun x => qit x.1 x.2⟩
theorem qnN : FO qi0 := fi [] [] 13 [] .nil func19 ⟨trivial, trivial⟩
def qdD (i : Int) (s3 : List Int) (s4 : Int) (t : List Int) : Option ((Int × List Int × Int × List Int) ⊕ (List Int × Int × List Int)) :=
 bif decide (0 < i) then (
 (qam [0, (-1), 62, 63, (-63), (-62), 9007199254740992, (-9007199254740992), 126, 1000] s3 s4).bind fun r6 =>
 gd (fits (t.length + 1) 8) <|
 some (.inl (wi64 (i - 1), r6.2.1, r6.2.2, t ++ [r6.1])))
 else (
 some (.inr (s3, s4, t)))
def qdv (station : Int) (s : List Int) (s2 : Int) : Option (yB2 × List Int × Int) :=
 (qab 3 s s2).bind fun r =>
 (qab 6 r.2.1 r.2.2).bind fun r2 =>
 (qam [0, 125, 63, 62, 1099511627776] r2.2.1 r2.2.2).bind fun r3 =>
 (qab 64 r3.2.1 r3.2.2).bind fun r4 =>
 (qab 4 r4.2.1 r4.2.2).bind fun r5 =>
 (iter (fun x => qdD x.1 x.2.1 x.2.2.1 x.2.2.2) (r5.1, r5.2.1, r5.2.2, [])).bind fun s5 =>
 some ((station, (r.1, (r2.1, (r3.1, (r4.1, s5.2.2))))), s5.1, s5.2.1)
def qfO : Fun :=
 ⟨41, 2, 1,
 ⟨r112_, v3_, []⟩,
 ⟨[(0, dd tT3)], v3_, []⟩,
 fun x => qdv x.1 x.2.1 x.2.2⟩
theorem qkx : FO qfO := fi [] [qa8, qbp] 33 [] ((nn (nn (mm (nn (mm (.mk [] (some (⟨[(0, pt 0 0), (4, pt 80 0), (5, pt 96 0), (6, ii)], [(0, 128, [.data (.sl I6), .data I6]), (80, 97, (kp 6)), (96, 97, [.keep, .keep, .keep, .keep, .keep, .own 1641])], [(1641, .arr 3 I6)]⟩, [⟨.x 0, ⟨[(4, pt 80 0), (5, pt 96 0)], [(80, 97, (kp 6)), (96, 97, [.keep, .keep, .keep, .keep, .keep, .own 1641]), (0, 128, [.data (.sl I6), .data I6])], [(1641, .arr 3 I6)]⟩⟩])) .nil .nil) .nil)) .nil)))) func41 ⟨⟨qbi, qbL, trivial⟩, trivial⟩
def qf3 (l : List (List UInt8)) (s : List Int) (s2 : Int) : Option (List UInt8 × List Int × Int) :=
 (qab (l.length : Int) s s2).bind fun r =>
 gd (inB r.1 l.length) <|
 some (l.getD r.1.toNat [], r.2.1, r.2.2)
def qi1 : Fun :=
 ⟨84, 2, 1,
 ⟨[(0, pt 0 0), (1, dd (.sl (.str)))], v3_, []⟩,
 ⟨[(0, ss)], v3_, []⟩,
 fun x => qf3 x.1 x.2.1 x.2.2⟩
theorem qnO : FO qi1 := fi [] [qa8] 12 [] .nil func84 ⟨⟨qbi, trivial⟩, trivial⟩
def qe3 (i : Int) (s3 : List Int) (s4 : Int) (l : List (List UInt8 × Int × Int)) : Option ((Int × List Int × Int × List (List UInt8 × Int × Int)) ⊕ (List Int × Int × List (List UInt8 × Int × Int))) :=
 bif decide (0 < i) then (
 (qf3 ([[97], [98, 111], [99, 51], [100, 101, 108, 116, 97], [101]] : List (List UInt8)) s3 s4).bind fun r2 =>
 (qab 4 r2.2.1 r2.2.2).bind fun r3 =>
 (qab 1000 r3.2.1 r3.2.2).bind fun r4 =>
 (qam [0, 1, 50, r4.1, 1073741824] r4.2.1 r4.2.2).bind fun r5 =>
 Option.bind (α := Bool × List Int × Int × List (List UInt8 × Int × Int)) (
 bif decide (wi64 (1 + r3.1) = 4) then (
 (qab 2 r5.2.1 r5.2.2).bind fun r6 =>
 some (decide (r6.1 = 0), r6.2.1, r6.2.2, l))
 else (
 some (false, r5.2.1, r5.2.2, l))) fun s5 =>
 Option.bind (α := Int × List (List UInt8 × Int × Int)) (
 bif s5.1 then (
 some (wi64 (0 - r5.1), s5.2.2.2))
 else (
 some (r5.1, s5.2.2.2))) fun s6 =>
 gd (fits (s6.2.length + 1) 32) <|
 some (.inl (wi64 (i - 1), s5.2.1, s5.2.2.1, s6.2 ++ [(r2.1, (wi64 (1 + r3.1), s6.1))])))
 else (
 some (.inr (s3, s4, l)))
def qfd (most : Int) (s : List Int) (s2 : Int) : Option (List Int × Int × List (List UInt8 × Int × Int)) :=
 (qab (wi64 (most + 1)) s s2).bind fun r =>
 (iter (fun x => qe3 x.1 x.2.1 x.2.2.1 x.2.2.2) (r.1, r.2.1, r.2.2, [])).bind fun s7 =>
 some (s7.1, s7.2.1, s7.2.2)
def qhY : Fun :=
 ⟨58, 2, 1,
 ⟨r112_, v3_, []⟩,
 ⟨[(0, ow 1)], v3_, [(1, .arr 30 (.pair (.str) (.pair I6 I6)))]⟩,
 fun x => qfd x.1 x.2.1 x.2.2⟩
theorem qm2 : FO qhY := fi [] [qa8, qi1, qbp] 45 [] ((nn (nn (mm (nn (mm (.mk [] (some (⟨[(0, pt 0 0), (5, ow 107), (6, ii)], v3_, a62_⟩, [⟨.x 0, ⟨[(5, ow 107)], v3_, a62_⟩⟩])) (nn (mm (mm (nn (mm (mm (.mk [.join [⟨.n, ⟨[(0, pt 0 0), (5, ow 107), (6, kk), (7, pt 128 0), (35, bb)], [(0, 128, [.data (.sl I6), .data I6]), (128, 30, [.keep, .keep, .keep])], a62_⟩⟩]] none .nil .nil) (.mk [.join [⟨.n, ⟨[(0, pt 0 0), (5, ow 107), (6, kk), (7, pt 128 0)], [(0, 128, [.keep, .keep]), (128, 30, [.keep, .keep, .data I6])], a62_⟩⟩]] none .nil .nil)) .nil)) .nil) .nil)) .nil) .nil)) .nil)))) func58 ⟨⟨qbi, qnO, qbL, trivial⟩, trivial⟩
def qqR (n : Int) : Option (Int) :=
 some (max n (wi64 (0 - n)))
def qo3 : Fun :=
 ⟨153, 1, 1,
 ⟨[(0, ii)], [], []⟩,
 ⟨[(0, ii)], [], []⟩,
 fun x => qqR x⟩
theorem qtc : FO qo3 := fi [] [] 7 [] .nil func153 ⟨trivial, trivial⟩
def qjM (p : yB5) (v : Int) (out : List Int) (out2 : List Bool) : Option ((Int × List Int × List Bool) ⊕ (List Int × List Bool)) :=
 bif decide (v < (p.1.length : Int)) then (
 gd (inB v p.1.length) <|
 gd (fits (out.length + 1) 8) <|
 some (.inl (wi64 (v + 1), out ++ [wi64 (0 - (p.1.getD v.toNat 0))], out2)))
 else (
 some (.inr (out, out2)))
def qjN (p : yB5) (v2 : Int) (out3 : List Int) (out4 : List Int) (out5 : List Bool) : Option ((Int × List Int × List Int × List Bool) ⊕ yB5) :=
 bif decide (v2 < (p.2.1.length : Int)) then (
 gd (inB v2 p.2.1.length) <|
 gd (fits (out4.length + 1) 8) <|
 some (.inl (wi64 (v2 + 1), out3, out4 ++ [wi64 (0 - (p.2.1.getD v2.toNat 0))], out5)))
 else (
 some (.inr (out3, out4, out5)))
def qhd (p : yB5) : Option yB5 :=
 gd (fits (0 + p.2.2.length) 1) <|
 (iter (fun x => qjM p x.1 x.2.1 x.2.2) (0, [], ([] ++ p.2.2))).bind fun s =>
 (iter (fun x2 => qjN p x2.1 x2.2.1 x2.2.2.1 x2.2.2.2) (0, s.1, [], s.2)).bind fun s2 =>
 some (s2.1, (s2.2.1, s2.2.2))
def qjO : Fun :=
 ⟨154, 1, 1,
 ⟨[(0, dd tT6)], [], []⟩,
 ⟨[(0, dd tT6)], [], []⟩,
 fun x => qhd x⟩
theorem qo4 : FO qjO := fi [6] [] 48 [] ((nn (nn (mm (nn (mm (.mk [] (some (⟨[(1, pt 32 0), (2, pt 48 0), (3, pt 64 0), (13, kk), (14, ii)], v49_, [(1049, .arr 3 I6), (160, .arr 4 (.bool))]⟩, [⟨.x 0, ⟨r37_, v49_, [(1049, .arr 3 I6), (160, .arr 4 (.bool))]⟩⟩])) .nil .nil) .nil)) (mm (nn (mm (.mk [] (some (⟨[(1, pt 32 0), (2, pt 48 0), (3, pt 64 0), (31, kk), (32, ii)], [(32, 55, [.keep, .keep, .keep]), (48, 55, [.keep, .keep, .keep]), (64, 55, [.own 1049, .own 1065, .own 160])], a95_⟩, [⟨.x 2, ⟨r32_, [(48, 55, [.keep, .keep, .keep]), (64, 55, [.own 1049, .own 1065, .own 160])], a95_⟩⟩])) .nil .nil) .nil)) .nil))))) func154 ⟨trivial, trivial⟩
def qi2 (n : yB0) (i : Int) (s3 : List Int) (s4 : Int) (p : List Int) (p2 : List Int) (p3 : List Bool) : Option ((Int × List Int × Int × List Int × List Int × List Bool) ⊕ (List Int × Int × List Int × List Int × List Bool)) :=
 bif decide (i < (n.2.2.2.1.length : Int)) then (
 (qab 2 s3 s4).bind fun r =>
 gd (fits (p3.length + 1) 1) <|
 some (.inl (wi64 (i + 1), r.2.1, r.2.2, p, p2, p3 ++ [decide (r.1 = 0)])))
 else (
 some (.inr (s3, s4, p, p2, p3)))
def qec (n : yB0) (r4 : Int × List Int × Int) (r6 : Int × List Int × Int) (vat : Int) (vend2 : Int) (v : Int) (s11 : List Int) (s12 : Int) (way2 : List Int) (p10 : List Int) (p11 : List Int) (p12 : List Bool) : Option ((Int × Int × List Int × Int × List Int × List Int × List Int × List Bool) ⊕ (Int × List Int × Int × List Int × List Int × List Int × List Bool)) :=
 bif decide (v < (n.2.2.1.length : Int)) then (
 gd (inB v n.2.2.1.length) <|
 Option.bind (α := Bool × List Int × Int × List Int × List Int × List Int × List Bool) (
 bif decide (((n.2.2.1.getD v.toNat ([], (0, 0))).2).1 = vat) then (
 bif !decide (v = r4.1) then (
 gd (inB v p11.length) <|
 bif decide (p11.getD v.toNat 0 ≤ 0) then (
 gd (inB v p11.length) <|
 bif decide ((-1000) ≤ wi64 ((p11.getD v.toNat 0) - r6.1)) then (
 bif decide (0 < (way2.length : Int)) then (
 (qab 2 s11 s12).bind fun r7 =>
 some (decide (r7.1 = 0), r7.2.1, r7.2.2, way2, p10, p11, p12))
 else (
 some (false, s11, s12, way2, p10, p11, p12)))
 else (
 some (false, s11, s12, way2, p10, p11, p12)))
 else (
 some (false, s11, s12, way2, p10, p11, p12)))
 else (
 some (false, s11, s12, way2, p10, p11, p12)))
 else (
 some (false, s11, s12, way2, p10, p11, p12))) fun s13 =>
 Option.bind (α := Int × List Int × List Int × List Int × List Bool) (
 bif s13.1 then (
 some (v, s13.2.2.2.1, s13.2.2.2.2.1, s13.2.2.2.2.2.1, s13.2.2.2.2.2.2))
 else (
 some (vend2, s13.2.2.2.1, s13.2.2.2.2.1, s13.2.2.2.2.2.1, s13.2.2.2.2.2.2))) fun s14 =>
 some (.inl (s14.1, wi64 (v + 1), s13.2.1, s13.2.2.1, s14.2.1, s14.2.2.1, s14.2.2.2.1, s14.2.2.2.2)))
 else (
 some (.inr (vend2, s11, s12, way2, p10, p11, p12)))
def qed (n : yB0) (r6 : Int × List Int × Int) (vat : Int) (v2 : Int) (way3 : List Int) (out : List Int) (p13 : List Int) (p14 : List Int) (p15 : List Bool) : Option ((Int × List Int × List Int × List Int × List Int × List Bool) ⊕ (List Int × List Int × List Int × List Int × List Bool)) :=
 bif decide (v2 < (n.2.1.length : Int)) then (
 gd (inB v2 n.2.1.length) <|
 Option.bind (α := Bool × List Int × List Int × List Int × List Int × List Bool) (
 bif decide (((n.2.1.getD v2.toNat ([], (0, (0, (0, (0, (0, []))))))).2).1 = vat) then (
 bif decide (vat < wi64 ((wi64 ((((n.2.1.getD v2.toNat ([], (0, (0, (0, (0, (0, []))))))).2).1) + ((((n.2.1.getD v2.toNat ([], (0, (0, (0, (0, (0, []))))))).2).2).1))) - vat)) then (
 gd (inB v2 p13.length) <|
 (qqR (p13.getD v2.toNat 0)).bind fun r8 =>
 some (decide (wi64 (r8 + r6.1) ≤ min 1000 (((((n.2.1.getD v2.toNat ([], (0, (0, (0, (0, (0, []))))))).2).2).2).1)), way3, out, p13, p14, p15))
 else (
 some (false, way3, out, p13, p14, p15)))
 else (
 bif decide ((((n.2.1.getD v2.toNat ([], (0, (0, (0, (0, (0, []))))))).2).2).1 = vat) then (
 bif decide (vat < wi64 ((wi64 ((((n.2.1.getD v2.toNat ([], (0, (0, (0, (0, (0, []))))))).2).1) + ((((n.2.1.getD v2.toNat ([], (0, (0, (0, (0, (0, []))))))).2).2).1))) - vat)) then (
 gd (inB v2 p13.length) <|
 (qqR (p13.getD v2.toNat 0)).bind fun r9 =>
 some (decide (wi64 (r9 + r6.1) ≤ min 1000 (((((n.2.1.getD v2.toNat ([], (0, (0, (0, (0, (0, []))))))).2).2).2).1)), way3, out, p13, p14, p15))
 else (
 some (false, way3, out, p13, p14, p15)))
 else (
 some (false, way3, out, p13, p14, p15)))) fun s16 =>
 Option.bind (α := List Int × List Int × List Int × List Int × List Bool) (
 bif s16.1 then (
 gd (fits (s16.2.2.1.length + 1) 8) <|
 some (s16.2.1, s16.2.2.1 ++ [v2], s16.2.2.2.1, s16.2.2.2.2.1, s16.2.2.2.2.2))
 else (
 some (s16.2.1, s16.2.2.1, s16.2.2.2.1, s16.2.2.2.2.1, s16.2.2.2.2.2))) fun s17 =>
 some (.inl (wi64 (v2 + 1), s17.1, s17.2.1, s17.2.2.1, s17.2.2.2.1, s17.2.2.2.2)))
 else (
 some (.inr (way3, out, p13, p14, p15)))
def qee (n : yB0) (r4 : Int × List Int × Int) (r6 : Int × List Int × Int) (vat : Int) (vend : Int) (s9 : List Int) (s10 : Int) (way : List Int) (p7 : List Int) (p8 : List Int) (p9 : List Bool) : Option ((Int × Int × List Int × Int × List Int × List Int × List Int × List Bool) ⊕ (Int × List Int × Int × List Int × List Int × List Int × List Bool)) :=
 bif decide (vend < 0) then (
 (iter (fun x2 => qec n r4 r6 vat x2.1 x2.2.1 x2.2.2.1 x2.2.2.2.1 x2.2.2.2.2.1 x2.2.2.2.2.2.1 x2.2.2.2.2.2.2.1 x2.2.2.2.2.2.2.2) (vend, 0, s9, s10, way, p7, p8, p9)).bind fun s15 =>
 bif decide (0 ≤ s15.1) then (
 some (.inr (s15.1, s15.2.1, s15.2.2.1, s15.2.2.2.1, s15.2.2.2.2.1, s15.2.2.2.2.2.1, s15.2.2.2.2.2.2)))
 else (
 (iter (fun x3 => qed n r6 vat x3.1 x3.2.1 x3.2.2.1 x3.2.2.2.1 x3.2.2.2.2.1 x3.2.2.2.2.2) (0, s15.2.2.2.1, [], s15.2.2.2.2.1, s15.2.2.2.2.2.1, s15.2.2.2.2.2.2)).bind fun s18 =>
 bif decide ((s18.2.1.length : Int) = 0) then (
 some (.inr (s15.1, s15.2.1, s15.2.2.1, s18.1, s18.2.2.1, s18.2.2.2.1, s18.2.2.2.2)))
 else (
 (qab (s18.2.1.length : Int) s15.2.1 s15.2.2.1).bind fun r10 =>
 gd (inB r10.1 s18.2.1.length) <|
 gd (fits (s18.1.length + 1) 8) <|
 gd (inB (s18.2.1.getD r10.1.toNat 0) n.2.1.length) <|
 gd (inB (s18.2.1.getD r10.1.toNat 0) n.2.1.length) <|
 some (.inl (wi64 ((wi64 ((((n.2.1.getD (s18.2.1.getD r10.1.toNat 0).toNat ([], (0, (0, (0, (0, (0, []))))))).2).1) + ((((n.2.1.getD (s18.2.1.getD r10.1.toNat 0).toNat ([], (0, (0, (0, (0, (0, []))))))).2).2).1))) - vat), s15.1, r10.2.1, r10.2.2, s18.1 ++ [s18.2.1.getD r10.1.toNat 0], s18.2.2.1, s18.2.2.2.1, s18.2.2.2.2)))))
 else (
 some (.inr (vend, s9, s10, way, p7, p8, p9)))
def qef (n : yB0) (r6 : Int × List Int × Int) (s19 : Int × List Int × Int × List Int × List Int × List Int × List Bool) (v3 : Int) (v4 : List Int) (p16 : List Int) (p17 : List Int) (p18 : List Bool) : Option ((Int × List Int × List Int × List Int × List Bool) ⊕ yB5) :=
 bif decide (v3 < (s19.2.2.2.1.length : Int)) then (
 gd (inB v3 v4.length) <|
 gd (inB (v4.getD v3.toNat 0) n.2.1.length) <|
 gd (inB (v4.getD v3.toNat 0) n.2.1.length) <|
 Option.bind (α := List Int × List Int × List Int × List Bool) (
 bif decide (((n.2.1.getD (v4.getD v3.toNat 0).toNat ([], (0, (0, (0, (0, (0, []))))))).2).1 < (((n.2.1.getD (v4.getD v3.toNat 0).toNat ([], (0, (0, (0, (0, (0, []))))))).2).2).1) then (
 gd (inB (v4.getD v3.toNat 0) p16.length) <|
 gd (inB (v4.getD v3.toNat 0) p16.length) <|
 some (v4, p16.set ((v4.getD v3.toNat 0).toNat) (wi64 ((p16.getD ((v4.getD v3.toNat 0).toNat) 0) + r6.1)), p17, p18))
 else (
 gd (inB (v4.getD v3.toNat 0) p16.length) <|
 gd (inB (v4.getD v3.toNat 0) p16.length) <|
 some (v4, p16.set ((v4.getD v3.toNat 0).toNat) (wi64 ((p16.getD ((v4.getD v3.toNat 0).toNat) 0) - r6.1)), p17, p18))) fun s20 =>
 some (.inl (wi64 (v3 + 1), s20.1, s20.2.1, s20.2.2.1, s20.2.2.2)))
 else (
 some (.inr (p16, p17, p18)))
def qfN (n : yB0) (streams : Int) (s6 : List Int) (s7 : Int) (p4 : List Int) (p5 : List Int) (p6 : List Bool) : Option ((Int × List Int × Int × List Int × List Int × List Bool) ⊕ (List Int × Int × List Int × List Int × List Bool)) :=
 bif decide (0 < streams) then (
 Option.bind (α := List Int × Int × List Int × List Int × List Bool) (
 (qab (n.2.2.1.length : Int) s6 s7).bind fun r4 =>
 gd (inB r4.1 n.2.2.1.length) <|
 (qam [1, 5, 30, 300] r4.2.1 r4.2.2).bind fun r5 =>
 (qa2 1 r5.1 r5.2.1 r5.2.2).bind fun r6 =>
 Option.bind (α := Bool × List Int × List Int × List Bool) (
 gd (inB r4.1 p5.length) <|
 bif decide (p5.getD r4.1.toNat 0 < 0) then (
 some (true, p4, p5, p6))
 else (
 gd (inB r4.1 p5.length) <|
 some (decide (1000 < wi64 ((p5.getD r4.1.toNat 0) + r6.1)), p4, p5, p6))) fun s8 =>
 bif s8.1 then (
 some (r6.2.1, r6.2.2, s8.2.1, s8.2.2.1, s8.2.2.2))
 else (
 (iter (fun x4 => qee n r4 r6 x4.1 x4.2.1 x4.2.2.1 x4.2.2.2.1 x4.2.2.2.2.1 x4.2.2.2.2.2.1 x4.2.2.2.2.2.2.1 x4.2.2.2.2.2.2.2) (((n.2.2.1.getD r4.1.toNat ([], (0, 0))).2).1, (-1), r6.2.1, r6.2.2, [], s8.2.1, s8.2.2.1, s8.2.2.2)).bind fun s19 =>
 bif decide (s19.1 < 0) then (
 some (s19.2.1, s19.2.2.1, s19.2.2.2.2.1, s19.2.2.2.2.2.1, s19.2.2.2.2.2.2))
 else (
 gd (inB r4.1 s19.2.2.2.2.2.1.length) <|
 gd (inB s19.1 s19.2.2.2.2.2.1.length) <|
 gd (inB r4.1 s19.2.2.2.2.2.1.length) <|
 gd (inB s19.1 (s19.2.2.2.2.2.1.set r4.1.toNat (wi64 ((s19.2.2.2.2.2.1.getD r4.1.toNat 0) + r6.1))).length) <|
 (iter (fun x5 => qef n r6 s19 x5.1 x5.2.1 x5.2.2.1 x5.2.2.2.1 x5.2.2.2.2) (0, s19.2.2.2.1, s19.2.2.2.2.1, (s19.2.2.2.2.2.1.set r4.1.toNat (wi64 ((s19.2.2.2.2.2.1.getD r4.1.toNat 0) + r6.1))).set s19.1.toNat (wi64 ((s19.2.2.2.2.2.1.getD s19.1.toNat 0) - r6.1)), s19.2.2.2.2.2.2)).bind fun s21 =>
 some (s19.2.1, s19.2.2.1, s21.1, s21.2.1, s21.2.2)))) fun s22 =>
 some (.inl (wi64 (streams - 1), s22.1, s22.2.1, s22.2.2.1, s22.2.2.2.1, s22.2.2.2.2)))
 else (
 some (.inr (s6, s7, p4, p5, p6)))
def qf4 (n : yB0) (s : List Int) (s2 : Int) : Option (yB5 × List Int × Int) :=
 gd (makeG 8 (n.2.1.length : Int)) <|
 gd (makeG 8 (n.2.2.1.length : Int)) <|
 (iter (fun x => qi2 n x.1 x.2.1 x.2.2.1 x.2.2.2.1 x.2.2.2.2.1 x.2.2.2.2.2) (0, s, s2, List.replicate (n.2.1.length : Int).toNat (0 : Int), List.replicate (n.2.2.1.length : Int).toNat (0 : Int), [])).bind fun s5 =>
 (qab 3 s5.1 s5.2.1).bind fun r2 =>
 (qab 5 r2.2.1 r2.2.2).bind fun r3 =>
 (iter (fun x6 => qfN n x6.1 x6.2.1 x6.2.2.1 x6.2.2.2.1 x6.2.2.2.2.1 x6.2.2.2.2.2) (r3.1, r3.2.1, r3.2.2, s5.2.2.1, s5.2.2.2.1, s5.2.2.2.2)).bind fun s23 =>
 bif decide (r2.1 = 0) then (
 (qhd (s23.2.2.1, (s23.2.2.2.1, s23.2.2.2.2))).bind fun r11 =>
 some ((r11.1, (r11.2.1, r11.2.2)), s23.1, s23.2.1))
 else (
 some ((s23.2.2.1, (s23.2.2.2.1, s23.2.2.2.2)), s23.1, s23.2.1))
def qi3 : Fun :=
 ⟨99, 2, 1,
 ⟨[(0, pt 0 0), (1, dd (.pair (.sl (.str)) tT0))], v3_, []⟩,
 ⟨[(0, dd tT6)], v3_, []⟩,
 fun x => qf4 x.1 x.2.1 x.2.2⟩
theorem qnP : FO qi3 := fi [] [qa8, qbp, qdu, qo3, qjO] 279 [] ((nn (nn (mm (nn (mm (.mk [] (some (⟨[(0, pt 0 0), (3, pt 64 0), (4, pt 80 0), (5, pt 96 0), (6, ii)], v2_, a18_⟩, [⟨.x 0, ⟨[(0, pt 0 0), (3, pt 64 0), (4, pt 80 0), (5, pt 96 0)], v2_, a18_⟩⟩])) .nil .nil) .nil)) (nn (mm (nn (mm (.mk [] (some (⟨[(0, pt 0 0), (3, pt 64 0), (4, pt 80 0), (5, pt 96 0), (7, kk), (8, ii)], v2_, a18_⟩, [⟨.x 2, ⟨[(4, pt 80 0), (5, pt 96 0), (7, kk)], [(80, 55, [.keep, .keep, .keep]), (96, 55, [.own 416, .own 480, .own 1593]), (0, 128, [.data (.sl I6), .data I6])], a18_⟩⟩])) (nn (mm (.mk [.join [⟨.n, ⟨r77_, v2_, a18_⟩⟩]] none (nn (nn (mm (mm (.mk [.join [⟨.n, ⟨[(0, pt 0 0), (3, pt 64 0), (4, pt 80 0), (5, pt 96 0), (7, kk), (8, kk), (9, kk), (10, kk), (11, kk), (86, bb)], v4_, a18_⟩⟩]] none .nil .nil) .nil) (nn (nn (mm (mm (.mk [] (some (⟨[(0, pt 0 0), (3, pt 64 0), (4, pt 80 0), (5, pt 96 0), (7, kk), (8, kk), (9, kk), (10, ii), (11, kk), (12, ow 219), (13, ii)], v2_, a10_⟩, [⟨.x 4, ⟨[(0, pt 0 0), (3, pt 64 0), (4, pt 80 0), (5, pt 96 0), (7, kk), (8, kk), (9, kk), (11, kk), (12, ow 219), (13, ii)], v2_, a10_⟩⟩])) (nn (mm (mm (nn (mm (.mk [] (some (⟨[(0, pt 0 0), (3, pt 64 0), (4, pt 80 0), (5, pt 96 0), (7, kk), (8, kk), (9, kk), (10, kk), (11, kk), (12, ow 219), (13, ii), (90, kk), (91, kk), (92, ii)], v2_, a10_⟩, [⟨.x 6, ⟨[(0, pt 0 0), (3, pt 64 0), (4, pt 80 0), (5, pt 96 0), (7, kk), (8, kk), (9, kk), (10, kk), (11, kk), (12, ow 219), (13, ii)], v2_, a10_⟩⟩])) (nn (nn (mm (mm (nn (mm (.mk [.join [⟨.n, ⟨[(0, pt 0 0), (3, pt 64 0), (4, pt 80 0), (5, pt 96 0), (7, kk), (8, kk), (9, kk), (10, kk), (11, kk), (12, ow 219), (13, kk), (14, kk), (90, kk), (91, kk), (92, kk), (133, bb)], v2_, a10_⟩⟩]] none .nil .nil) (.mk [.join [⟨.n, ⟨[(0, pt 0 0), (3, pt 64 0), (4, pt 80 0), (5, pt 96 0), (7, kk), (8, kk), (9, kk), (10, kk), (11, kk), (12, ow 219), (13, ii), (90, kk), (91, kk), (92, kk)], v4_, a10_⟩⟩]] none .nil .nil))) .nil) .nil))) .nil) .nil)) (nn (nn (mm (nn (mm (.mk [] (some (⟨[(0, pt 0 0), (3, pt 64 0), (4, pt 80 0), (5, pt 96 0), (7, kk), (8, kk), (9, kk), (10, kk), (11, kk), (12, ow 219), (13, kk), (16, ow 283), (139, kk), (140, kk), (141, ii)], v4_, a20_⟩, [⟨.x 8, ⟨[(0, pt 0 0), (3, pt 64 0), (4, pt 80 0), (5, pt 96 0), (7, kk), (8, kk), (9, kk), (10, kk), (11, kk), (12, ow 219), (13, kk), (16, ow 283)], v4_, a20_⟩⟩])) (nn (nn (mm (mm (nn (mm (.mk [.join [⟨.n, ⟨[(0, pt 0 0), (3, pt 64 0), (4, pt 80 0), (5, pt 96 0), (7, kk), (8, kk), (9, kk), (10, kk), (11, kk), (12, ow 219), (13, kk), (16, ow 283), (17, kk), (139, kk), (140, kk), (141, kk), (180, bb)], v4_, a20_⟩⟩]] none .nil .nil) (.mk [.join [⟨.n, ⟨[(0, pt 0 0), (3, pt 64 0), (4, pt 80 0), (5, pt 96 0), (7, kk), (8, kk), (9, kk), (10, kk), (11, kk), (12, ow 219), (13, kk), (16, ow 283), (139, kk), (140, kk), (141, kk)], v4_, a20_⟩⟩]] none .nil .nil))) .nil) .nil))) .nil) .nil)) .nil)))) .nil)) .nil) .nil) (nn (nn (nn (mm (.mk [] (some (⟨[(0, pt 0 0), (3, pt 64 0), (4, pt 80 0), (5, pt 96 0), (7, kk), (8, kk), (11, kk), (239, ow 219), (240, kk), (241, ii)], v4_, a10_⟩, [⟨.x 10, ⟨r77_, v4_, a18_⟩⟩])) (nn (nn (mm (mm (nn (nn (.mk [.join [⟨.n, ⟨[(0, pt 0 0), (3, pt 64 0), (4, pt 80 0), (5, pt 96 0), (7, kk), (8, kk), (11, kk), (239, ow 219), (240, kk), (241, kk)], v4_, a10_⟩⟩]] none .nil .nil))) .nil) .nil))) .nil) .nil)))))))))) .nil) .nil)) .nil) .nil)) (mm (nn (mm (mm (.mk [.fz [5]] none .nil .nil) .nil) .nil)) .nil))))))) func99 ⟨⟨qbi, qbL, qe2, qtc, qo4, trivial⟩, trivial⟩
def qbr (n : Int) (low : Int) (high : Int) : Option (Bool) :=
 bif decide (low ≤ n) then (
 some (decide (n ≤ high)))
 else (
 some false)
def qlk : Fun :=
 ⟨110, 3, 1,
 ⟨r104_, [], []⟩,
 ⟨[(0, bb)], [], []⟩,
 fun x => qbr x.1 x.2.1 x.2.2⟩
theorem qo5 : FO qlk := fi [] [] 15 [] .nil func110 ⟨trivial, trivial⟩
def qpB (n : yB0) (v : Int) (out : List (List UInt8)) : Option ((Int × List (List UInt8)) ⊕ (List (List UInt8))) :=
 bif decide (v < (n.2.1.length : Int)) then (
 gd (inB v n.2.1.length) <|
 gd (fits (out.length + 1) 16) <|
 some (.inl (wi64 (v + 1), out ++ [(n.2.1.getD v.toNat ([], (0, (0, (0, (0, (0, []))))))).1])))
 else (
 some (.inr out))
def qpC (n : yB0) (v2 : Int) (out2 : List (List UInt8)) (out3 : List (List UInt8)) : Option ((Int × List (List UInt8) × List (List UInt8)) ⊕ (List (List UInt8) × List (List UInt8))) :=
 bif decide (v2 < (n.2.2.1.length : Int)) then (
 gd (inB v2 n.2.2.1.length) <|
 gd (fits (out3.length + 1) 16) <|
 some (.inl (wi64 (v2 + 1), out2, out3 ++ [(n.2.2.1.getD v2.toNat ([], (0, 0))).1])))
 else (
 some (.inr (out2, out3)))
def qpD (n : yB0) (v3 : Int) (out4 : List (List UInt8)) (out5 : List (List UInt8)) (out6 : List (List UInt8)) : Option ((Int × List (List UInt8) × List (List UInt8) × List (List UInt8)) ⊕ (List (List UInt8) × List (List UInt8) × List (List UInt8))) :=
 bif decide (v3 < (n.2.2.2.1.length : Int)) then (
 gd (inB v3 n.2.2.2.1.length) <|
 gd (fits (out6.length + 1) 16) <|
 some (.inl (wi64 (v3 + 1), out4, out5, out6 ++ [(n.2.2.2.1.getD v3.toNat ([], (0, (0, (0, 0))))).1])))
 else (
 some (.inr (out4, out5, out6)))
def qll (n : yB0) : Option yB10 :=
 (iter (fun x => qpB n x.1 x.2) (0, [])).bind fun s =>
 (iter (fun x2 => qpC n x2.1 x2.2.1 x2.2.2) (0, s, [])).bind fun s2 =>
 (iter (fun x3 => qpD n x3.1 x3.2.1 x3.2.2.1 x3.2.2.2) (0, s2.1, s2.2, [])).bind fun s3 =>
 some (n.1, (s3.1, (s3.2.1, s3.2.2)))
def qkS : Fun :=
 ⟨111, 1, 1,
 ⟨r22_, [], []⟩,
 ⟨r66_, [], []⟩,
 fun x => qll x⟩
theorem qpE : FO qkS := fi [] [] 59 [] ((nn (nn (nn (mm (nn (mm (.mk [] (some (⟨r78_, v30_, a110_⟩, [⟨.x 0, ⟨r37_, v30_, a110_⟩⟩])) .nil .nil) .nil)) (mm (nn (mm (.mk [] (some (⟨r79_, v28_, a59_⟩, [⟨.x 2, ⟨r37_, v28_, a59_⟩⟩])) .nil .nil) .nil)) (mm (nn (mm (.mk [] (some (⟨r98_, v33_, a34_⟩, [⟨.x 4, ⟨r32_, v33_, a34_⟩⟩])) .nil .nil) .nil)) .nil))))))) func111 ⟨trivial, trivial⟩
def qbT (s : List UInt8) (i : Int) : Option (Int ⊕ (Unit ⊕ Bool)) :=
 bif decide (i < (s.length : Int)) then (
 Option.bind (α := Bool) (
 gd (inB i s.length) <|
 bif decide ((Int.ofNat (s.getD i.toNat 0).toNat) < 97) then (
 gd (inB i s.length) <|
 bif decide ((Int.ofNat (s.getD i.toNat 0).toNat) < 48) then (
 gd (inB i s.length) <|
 some (!decide ((Int.ofNat (s.getD i.toNat 0).toNat) = 45)))
 else (
 gd (inB i s.length) <|
 bif decide (57 < (Int.ofNat (s.getD i.toNat 0).toNat)) then (
 gd (inB i s.length) <|
 some (!decide ((Int.ofNat (s.getD i.toNat 0).toNat) = 45)))
 else (
 some false)))
 else (
 gd (inB i s.length) <|
 bif decide (122 < (Int.ofNat (s.getD i.toNat 0).toNat)) then (
 gd (inB i s.length) <|
 bif decide ((Int.ofNat (s.getD i.toNat 0).toNat) < 48) then (
 gd (inB i s.length) <|
 some (!decide ((Int.ofNat (s.getD i.toNat 0).toNat) = 45)))
 else (
 gd (inB i s.length) <|
 bif decide (57 < (Int.ofNat (s.getD i.toNat 0).toNat)) then (
 gd (inB i s.length) <|
 some (!decide ((Int.ofNat (s.getD i.toNat 0).toNat) = 45)))
 else (
 some false)))
 else (
 some false))) fun s3 =>
 bif s3 then (
 some (.inr (.inr false)))
 else (
 some (.inl (wi64 (i + 1)))))
 else (
 some (.inr (.inl ())))
def qcX (s : List UInt8) : Option (Bool) :=
 Option.bind (α := Bool) (
 bif decide ((s.length : Int) < 1) then (
 some true)
 else (
 bif decide (12 < (s.length : Int)) then (
 some true)
 else (
 gd (inB 0 s.length) <|
 bif decide ((Int.ofNat (s.getD 0 0).toNat) < 97) then (
 some true)
 else (
 gd (inB 0 s.length) <|
 some (decide (122 < (Int.ofNat (s.getD 0 0).toNat))))))) fun s2 =>
 bif s2 then (
 some false)
 else (
 (iter (fun x => qbT s x) 0).bind fun s4 =>
 s4.elim (fun s5 =>
 some true)
 (fun s6 =>
 some s6))
def qmm : Fun :=
 ⟨112, 1, 1,
 ⟨[(0, ss)], [], []⟩,
 ⟨[(0, bb)], [], []⟩,
 fun x => qcX x⟩
theorem qqS : FO qmm := fi [] [] 56 [] ((nn (mm (mm (.mk [.join [⟨.n, ⟨[(0, kk), (21, bb)], [], []⟩⟩]] none .nil .nil) .nil) (mm (nn (mm (.mk [] (some (⟨[(0, kk), (3, ii)], [], []⟩, [⟨.x 0, ⟨[], [], []⟩⟩, ⟨.r, ⟨[(2, bb)], [], []⟩⟩])) (nn (mm (mm (mm (.mk [.join [⟨.n, ⟨[(0, kk), (3, kk), (55, bb)], [], []⟩⟩]] none .nil .nil) .nil) .nil) .nil)) .nil) .nil)) .nil)))) func112 ⟨trivial, trivial⟩
def qfe (l : List (List UInt8)) (v : Int) (k : Int) : Option (Int ⊕ (Unit ⊕ Bool)) :=
 bif decide (k < v) then (
 gd (inB v l.length) <|
 gd (inB k l.length) <|
 bif decide (l.getD v.toNat [] = l.getD k.toNat []) then (
 some (.inr (.inr true)))
 else (
 some (.inl (wi64 (k + 1)))))
 else (
 some (.inr (.inl ())))
def qhx (l : List (List UInt8)) (v : Int) : Option (Int ⊕ (Unit ⊕ Bool)) :=
 bif decide (v < (l.length : Int)) then (
 (iter (fun x => qfe l v x) 0).bind fun s =>
 s.elim (fun s2 =>
 some (.inl (wi64 (v + 1))))
 (fun s3 =>
 some (.inr (.inr s3))))
 else (
 some (.inr (.inl ())))
def qiu (l : List (List UInt8)) : Option (Bool) :=
 (iter (fun x2 => qhx l x2) 0).bind fun s4 =>
 s4.elim (fun s5 =>
 some false)
 (fun s6 =>
 some s6)
def qkT : Fun :=
 ⟨113, 1, 1,
 ⟨[(0, dd (.sl (.str)))], [], []⟩,
 ⟨[(0, bb)], [], []⟩,
 fun x => qiu x⟩
theorem qpF : FO qkT := fi [] [] 25 [] ((nn (mm (nn (mm (.mk [] (some (⟨[(0, kk), (6, kk), (7, ii)], [], []⟩, [⟨.x 0, ⟨[], [], []⟩⟩, ⟨.r, ⟨[(2, bb)], [], []⟩⟩])) (nn (nn (mm (mm (nn (nn (mm (.mk [] (some (⟨[(0, kk), (3, kk), (4, ii), (6, kk), (7, kk)], [], []⟩, [⟨.x 2, ⟨[(0, kk), (6, kk), (7, kk)], [], []⟩⟩, ⟨.r, ⟨[(2, bb)], [], []⟩⟩])) .nil .nil) .nil))) .nil) .nil))) .nil) .nil)) .nil))) func113 ⟨trivial, trivial⟩
def qeL (s : yB8) (v : Int) : Option (Int ⊕ (Unit ⊕ Bool)) :=
 bif decide (v < (s.2.2.2.2.2.2.length : Int)) then (
 gd (inB v s.2.2.2.2.2.2.length) <|
 Option.bind (α := Bool) (
 bif decide (0 < v) then (
 gd (inB (wi64 (v - 1)) s.2.2.2.2.2.2.length) <|
 bif decide ((s.2.2.2.2.2.2.getD v.toNat (0, (0, 0))).1 ≤ (s.2.2.2.2.2.2.getD (wi64 (v - 1)).toNat (0, (0, 0))).1) then (
 some true)
 else (
 (qbr (((s.2.2.2.2.2.2.getD v.toNat (0, (0, 0))).2).1) (-500) 5000).bind fun r4 =>
 bif !r4 then (
 some true)
 else (
 (qbr (((s.2.2.2.2.2.2.getD v.toNat (0, (0, 0))).2).2) 0 100000000).bind fun r5 =>
 some (!r5))))
 else (
 (qbr (((s.2.2.2.2.2.2.getD v.toNat (0, (0, 0))).2).1) (-500) 5000).bind fun r6 =>
 bif !r6 then (
 some true)
 else (
 (qbr (((s.2.2.2.2.2.2.getD v.toNat (0, (0, 0))).2).2) 0 100000000).bind fun r7 =>
 some (!r7)))) fun s3 =>
 bif s3 then (
 some (.inr (.inr false)))
 else (
 some (.inl (wi64 (v + 1)))))
 else (
 some (.inr (.inl ())))
def qeq (s : yB8) : Option (Bool) :=
 Option.bind (α := Bool) (
 bif decide (s.2.1 = s.2.2.1) then (
 some true)
 else (
 (qbr s.2.2.2.1 1 1000000).bind fun r =>
 bif !r then (
 some true)
 else (
 (qbr s.2.2.2.2.1 0 1000).bind fun r2 =>
 bif !r2 then (
 some true)
 else (
 (qbr s.2.2.2.2.2.1 0 100000).bind fun r3 =>
 bif !r3 then (
 some true)
 else (
 gd (inB 0 s.2.2.2.2.2.2.length) <|
 bif !decide ((s.2.2.2.2.2.2.getD 0 (0, (0, 0))).1 = 0) then (
 some true)
 else (
 gd (inB (wi64 ((s.2.2.2.2.2.2.length : Int) - 1)) s.2.2.2.2.2.2.length) <|
 some (!decide ((s.2.2.2.2.2.2.getD (wi64 ((s.2.2.2.2.2.2.length : Int) - 1)).toNat (0, (0, 0))).1 = s.2.2.2.1)))))))) fun s2 =>
 bif s2 then (
 some false)
 else (
 (iter (fun x => qeL s x) 0).bind fun s4 =>
 s4.elim (fun s5 =>
 some true)
 (fun s6 =>
 some s6))
def qjP : Fun :=
 ⟨114, 1, 1,
 ⟨r83_, [], []⟩,
 ⟨[(0, bb)], [], []⟩,
 fun x => qeq x⟩
theorem qo6 : FO qjP := fi [] [qlk] 85 [] ((nn (mm (mm (.mk [.join [⟨.n, ⟨[(1, pt 32 0), (49, bb)], v86_, []⟩⟩]] none .nil .nil) .nil) (mm (nn (mm (.mk [] (some (⟨[(1, pt 32 0), (51, kk), (52, kk), (53, ii)], v86_, []⟩, [⟨.x 0, ⟨[], [], []⟩⟩, ⟨.r, ⟨[(2, bb)], [], []⟩⟩])) (nn (nn (mm (mm (nn (mm (.mk [.join [⟨.n, ⟨[(1, pt 32 0), (51, kk), (52, kk), (53, kk), (83, bb)], v86_, []⟩⟩]] none .nil .nil) .nil)) .nil) .nil))) .nil) .nil)) .nil)))) func114 ⟨⟨qo5, trivial⟩, trivial⟩
def qdQ (n : yB0) (v : Int) : Option (Int ⊕ (Unit ⊕ Int)) :=
 bif decide (v < (n.2.1.length : Int)) then (
 gd (inB v n.2.1.length) <|
 (qbr ((((((((n.2.1.getD v.toNat ([], (0, (0, (0, (0, (0, []))))))).2).2).2).2).2).2).length : Int) 2 8).bind fun r2 =>
 bif !r2 then (
 some (.inr (.inr 4)))
 else (
 some (.inl (wi64 (v + 1)))))
 else (
 some (.inr (.inl ())))
def qcY (v2 : List (List UInt8)) (v3 : List (List UInt8)) (v4 : List (List UInt8)) (v5 : List (List UInt8)) (v6 : Int) (v7 : List (List UInt8)) (v8 : List (List UInt8)) (v9 : List (List UInt8)) (v10 : List (List UInt8)) (v11 : Int) : Option ((List (List UInt8) × List (List UInt8) × List (List UInt8) × List (List UInt8) × Int) ⊕ (yB10 ⊕ Int)) :=
 bif decide (v11 < (([v2, v3, v4, v5].getD v6.toNat []).length : Int)) then (
 gd (inB v11 ([v2, v3, v4, v5].getD v6.toNat []).length) <|
 (qcX (([v2, v3, v4, v5].getD v6.toNat []).getD v11.toNat [])).bind fun r4 =>
 bif !r4 then (
 some (.inr (.inr 3)))
 else (
 some (.inl (v7, v8, v9, v10, wi64 (v11 + 1)))))
 else (
 some (.inr (.inl (v7, v8, v9, v10))))
def qff (v2 : List (List UInt8)) (v3 : List (List UInt8)) (v4 : List (List UInt8)) (v5 : List (List UInt8)) (v6 : Int) : Option ((List (List UInt8) × List (List UInt8) × List (List UInt8) × List (List UInt8) × Int) ⊕ (Unit ⊕ Int)) :=
 bif decide (v6 < 4) then (
 gd (inB v6 4) <|
 (iter (fun x2 => qcY v2 v3 v4 v5 v6 x2.1 x2.2.1 x2.2.2.1 x2.2.2.2.1 x2.2.2.2.2) (v2, v3, v4, v5, 0)).bind fun s5 =>
 s5.elim (fun s6 =>
 some (.inl (s6.1, s6.2.1, s6.2.2.1, s6.2.2.2, wi64 (v6 + 1))))
 (fun s7 =>
 some (.inr (.inr s7))))
 else (
 some (.inr (.inl ())))
def qfg (v12 : List (List UInt8)) (v13 : List (List UInt8)) (v14 : List (List UInt8)) (v15 : List (List UInt8)) (v16 : Int) : Option ((List (List UInt8) × List (List UInt8) × List (List UInt8) × List (List UInt8) × Int) ⊕ (Unit ⊕ Int)) :=
 bif decide (v16 < 4) then (
 gd (inB v16 4) <|
 (qiu ([v12, v13, v14, v15].getD v16.toNat [])).bind fun r5 =>
 bif r5 then (
 some (.inr (.inr 7)))
 else (
 some (.inl (v12, v13, v14, v15, wi64 (v16 + 1)))))
 else (
 some (.inr (.inl ())))
def qfh (n : yB0) (v17 : Int) (k : Int) : Option (Int ⊕ (Unit ⊕ Int)) :=
 bif decide (k < v17) then (
 gd (inB v17 n.2.2.2.1.length) <|
 gd (inB k n.2.2.2.1.length) <|
 bif decide (((n.2.2.2.1.getD v17.toNat ([], (0, (0, (0, 0))))).2).1 = ((n.2.2.2.1.getD k.toNat ([], (0, (0, (0, 0))))).2).1) then (
 some (.inr (.inr 7)))
 else (
 some (.inl (wi64 (k + 1)))))
 else (
 some (.inr (.inl ())))
def qfi (n : yB0) (v17 : Int) : Option (Int ⊕ (Unit ⊕ Int)) :=
 bif decide (v17 < (n.2.2.2.1.length : Int)) then (
 (iter (fun x5 => qfh n v17 x5) 0).bind fun s14 =>
 s14.elim (fun s15 =>
 some (.inl (wi64 (v17 + 1))))
 (fun s16 =>
 some (.inr (.inr s16))))
 else (
 some (.inr (.inl ())))
def qdR (n : yB0) (v18 : Int) : Option (Int ⊕ (Unit ⊕ Int)) :=
 bif decide (v18 < (n.2.1.length : Int)) then (
 gd (inB v18 n.2.1.length) <|
 Option.bind (α := Bool) (
 (qbr (((n.2.1.getD v18.toNat ([], (0, (0, (0, (0, (0, []))))))).2).1) 0 (wi64 ((n.1.length : Int) - 1))).bind fun r6 =>
 bif !r6 then (
 some true)
 else (
 (qbr ((((n.2.1.getD v18.toNat ([], (0, (0, (0, (0, (0, []))))))).2).2).1) 0 (wi64 ((n.1.length : Int) - 1))).bind fun r7 =>
 some (!r7))) fun s20 =>
 bif s20 then (
 some (.inr (.inr 8)))
 else (
 some (.inl (wi64 (v18 + 1)))))
 else (
 some (.inr (.inl ())))
def qdS (n : yB0) (v19 : Int) : Option (Int ⊕ (Unit ⊕ Int)) :=
 bif decide (v19 < (n.2.2.1.length : Int)) then (
 gd (inB v19 n.2.2.1.length) <|
 (qbr (((n.2.2.1.getD v19.toNat ([], (0, 0))).2).1) 0 (wi64 ((n.1.length : Int) - 1))).bind fun r8 =>
 bif !r8 then (
 some (.inr (.inr 8)))
 else (
 some (.inl (wi64 (v19 + 1)))))
 else (
 some (.inr (.inl ())))
def qdT (n : yB0) (v20 : Int) : Option (Int ⊕ (Unit ⊕ Int)) :=
 bif decide (v20 < (n.2.2.2.1.length : Int)) then (
 gd (inB v20 n.2.2.2.1.length) <|
 (qbr (((n.2.2.2.1.getD v20.toNat ([], (0, (0, (0, 0))))).2).1) 0 (wi64 ((n.1.length : Int) - 1))).bind fun r9 =>
 bif !r9 then (
 some (.inr (.inr 8)))
 else (
 some (.inl (wi64 (v20 + 1)))))
 else (
 some (.inr (.inl ())))
def qdU (n : yB0) (v21 : Int) : Option (Int ⊕ (Unit ⊕ Int)) :=
 bif decide (v21 < (n.2.1.length : Int)) then (
 gd (inB v21 n.2.1.length) <|
 (qeq ((n.2.1.getD v21.toNat ([], (0, (0, (0, (0, (0, []))))))).1, (((n.2.1.getD v21.toNat ([], (0, (0, (0, (0, (0, []))))))).2).1, ((((n.2.1.getD v21.toNat ([], (0, (0, (0, (0, (0, []))))))).2).2).1, (((((n.2.1.getD v21.toNat ([], (0, (0, (0, (0, (0, []))))))).2).2).2).1, ((((((n.2.1.getD v21.toNat ([], (0, (0, (0, (0, (0, []))))))).2).2).2).2).1, (((((((n.2.1.getD v21.toNat ([], (0, (0, (0, (0, (0, []))))))).2).2).2).2).2).1, ((((((n.2.1.getD v21.toNat ([], (0, (0, (0, (0, (0, []))))))).2).2).2).2).2).2))))))).bind fun r10 =>
 bif !r10 then (
 some (.inr (.inr 9)))
 else (
 some (.inl (wi64 (v21 + 1)))))
 else (
 some (.inr (.inl ())))
def qdh (n : yB0) (v22 : Int) : Option (Int ⊕ (Unit ⊕ Int)) :=
 bif decide (v22 < (n.2.2.1.length : Int)) then (
 gd (inB v22 n.2.2.1.length) <|
 (qbr (((n.2.2.1.getD v22.toNat ([], (0, 0))).2).2) 0 100000000).bind fun r11 =>
 bif !r11 then (
 some (.inr (.inr 9)))
 else (
 some (.inl (wi64 (v22 + 1)))))
 else (
 some (.inr (.inl ())))
def qdi (n : yB0) (v23 : Int) : Option (Int ⊕ (Unit ⊕ Int)) :=
 bif decide (v23 < (n.2.2.2.1.length : Int)) then (
 gd (inB v23 n.2.2.2.1.length) <|
 Option.bind (α := Bool) (
 (qbr ((((n.2.2.2.1.getD v23.toNat ([], (0, (0, (0, 0))))).2).2).1) 0 100000000).bind fun r12 =>
 bif !r12 then (
 some true)
 else (
 (qbr (((((n.2.2.2.1.getD v23.toNat ([], (0, (0, (0, 0))))).2).2).2).1) 0 100000).bind fun r13 =>
 bif !r13 then (
 some true)
 else (
 (qbr (((((n.2.2.2.1.getD v23.toNat ([], (0, (0, (0, 0))))).2).2).2).2) 0 100000000).bind fun r14 =>
 some (!r14)))) fun s36 =>
 bif s36 then (
 some (.inr (.inr 9)))
 else (
 some (.inl (wi64 (v23 + 1)))))
 else (
 some (.inr (.inl ())))
def qgH (n : yB0) : Option (Int) :=
 Option.bind (α := Bool) (
 (qbr (n.1.length : Int) 1 24).bind fun r =>
 bif !r then (
 some true)
 else (
 bif decide (32 < (n.2.1.length : Int)) then (
 some true)
 else (
 bif decide (24 < (n.2.2.1.length : Int)) then (
 some true)
 else (
 some (decide (12 < (n.2.2.2.1.length : Int))))))) fun s =>
 bif s then (
 some 4)
 else (
 (iter (fun x => qdQ n x) 0).bind fun s2 =>
 s2.elim (fun s3 =>
 (qll (n.1, (n.2.1, (n.2.2.1, (n.2.2.2.1, (n.2.2.2.2.1, n.2.2.2.2.2)))))).bind fun r3 =>
 (iter (fun x3 => qff x3.1 x3.2.1 x3.2.2.1 x3.2.2.2.1 x3.2.2.2.2) (r3.1, r3.2.1, r3.2.2.1, r3.2.2.2, 0)).bind fun s8 =>
 s8.elim (fun s9 =>
 (iter (fun x4 => qfg x4.1 x4.2.1 x4.2.2.1 x4.2.2.2.1 x4.2.2.2.2) (r3.1, r3.2.1, r3.2.2.1, r3.2.2.2, 0)).bind fun s11 =>
 s11.elim (fun s12 =>
 (iter (fun x6 => qfi n x6) 0).bind fun s17 =>
 s17.elim (fun s18 =>
 (iter (fun x7 => qdR n x7) 0).bind fun s21 =>
 s21.elim (fun s22 =>
 (iter (fun x8 => qdS n x8) 0).bind fun s24 =>
 s24.elim (fun s25 =>
 (iter (fun x9 => qdT n x9) 0).bind fun s27 =>
 s27.elim (fun s28 =>
 (iter (fun x10 => qdU n x10) 0).bind fun s30 =>
 s30.elim (fun s31 =>
 (iter (fun x11 => qdh n x11) 0).bind fun s33 =>
 s33.elim (fun s34 =>
 (iter (fun x12 => qdi n x12) 0).bind fun s37 =>
 s37.elim (fun s38 =>
 Option.bind (α := Bool) (
 (qbr n.2.2.2.2.1 (-100000) 100000000).bind fun r15 =>
 bif !r15 then (
 some true)
 else (
 (qbr n.2.2.2.2.2 0 100).bind fun r16 =>
 some (!r16))) fun s40 =>
 bif s40 then (
 some 9)
 else (
 some 0))
 (fun s39 =>
 some s39))
 (fun s35 =>
 some s35))
 (fun s32 =>
 some s32))
 (fun s29 =>
 some s29))
 (fun s26 =>
 some s26))
 (fun s23 =>
 some s23))
 (fun s19 =>
 some s19))
 (fun s13 =>
 some s13))
 (fun s10 =>
 some s10))
 (fun s4 =>
 some s4))
def qhy : Fun :=
 ⟨68, 1, 1,
 ⟨r22_, [], []⟩,
 ⟨[(0, ii)], [], []⟩,
 fun x => qgH x⟩
theorem qkU : FO qhy := fi [] [qlk, qkS, qmm, qkT, qjP] 219 [] ((nn (mm (mm (.mk [.join [⟨.n, ⟨[(1, pt 32 0), (49, bb)], v7_, []⟩⟩]] none .nil .nil) .nil) (mm (nn (mm (.mk [] (some (⟨[(1, pt 32 0), (51, kk), (52, kk), (53, ii)], v7_, []⟩, [⟨.x 0, ⟨[(1, pt 32 0)], v7_, []⟩⟩, ⟨.r, ⟨[(2, ii)], [], []⟩⟩])) .nil .nil) .nil)) (nn (mm (nn (mm (.mk [] (some (⟨[(1, pt 32 0), (5, pt 96 0), (65, .agg [.data (.sl (.str)), .data (.sl (.str)), .data (.sl (.str)), .data (.sl (.str))]), (66, ii)], v76_, []⟩, [⟨.x 2, ⟨[(1, pt 32 0), (5, pt 96 0)], v76_, []⟩⟩, ⟨.r, ⟨[(2, ii)], [], []⟩⟩])) (nn (nn (mm (mm (nn (nn (mm (.mk [] (some (⟨[(1, pt 32 0), (5, pt 96 0), (65, .agg [.data (.sl (.str)), .data (.sl (.str)), .data (.sl (.str)), .data (.sl (.str))]), (66, kk), (69, kk), (70, kk), (71, ii)], v76_, []⟩, [⟨.x 4, ⟨[(1, pt 32 0), (5, pt 96 0), (65, .agg [.data (.sl (.str)), .data (.sl (.str)), .data (.sl (.str)), .data (.sl (.str))]), (66, kk)], v76_, []⟩⟩, ⟨.r, ⟨[(2, ii)], [], []⟩⟩])) .nil .nil) .nil))) .nil) .nil))) .nil) .nil)) (mm (nn (mm (.mk [] (some (⟨[(1, pt 32 0), (80, .agg [.data (.sl (.str)), .data (.sl (.str)), .data (.sl (.str)), .data (.sl (.str))]), (81, ii)], v7_, []⟩, [⟨.x 6, ⟨[(1, pt 32 0)], v7_, []⟩⟩, ⟨.r, ⟨[(2, ii)], [], []⟩⟩])) .nil .nil) .nil)) (mm (nn (mm (.mk [] (some (⟨[(1, pt 32 0), (89, kk), (90, ii)], v7_, []⟩, [⟨.x 8, ⟨[(1, pt 32 0)], v7_, []⟩⟩, ⟨.r, ⟨[(2, ii)], [], []⟩⟩])) (nn (nn (mm (mm (nn (nn (mm (.mk [] (some (⟨[(1, pt 32 0), (12, kk), (13, ii), (89, kk), (90, kk)], v7_, []⟩, [⟨.x 10, ⟨[(1, pt 32 0), (89, kk), (90, kk)], v7_, []⟩⟩, ⟨.r, ⟨[(2, ii)], [], []⟩⟩])) .nil .nil) .nil))) .nil) .nil))) .nil) .nil)) (nn (mm (nn (mm (.mk [] (some (⟨[(1, pt 32 0), (14, kk), (117, kk), (118, kk), (119, ii)], v7_, []⟩, [⟨.x 12, ⟨[(1, pt 32 0), (14, kk)], v7_, []⟩⟩, ⟨.r, ⟨[(2, ii)], [], []⟩⟩])) (nn (nn (mm (mm (nn (mm (.mk [.join [⟨.n, ⟨[(1, pt 32 0), (14, kk), (117, kk), (118, kk), (119, kk), (134, bb)], v7_, []⟩⟩]] none .nil .nil) .nil)) .nil) .nil))) .nil) .nil)) (mm (nn (mm (.mk [] (some (⟨[(1, pt 32 0), (14, kk), (137, kk), (138, kk), (139, ii)], v7_, []⟩, [⟨.x 14, ⟨[(1, pt 32 0), (14, kk)], v7_, []⟩⟩, ⟨.r, ⟨[(2, ii)], [], []⟩⟩])) .nil .nil) .nil)) (mm (nn (mm (.mk [] (some (⟨[(1, pt 32 0), (14, kk), (150, kk), (151, kk), (152, ii)], v7_, []⟩, [⟨.x 16, ⟨[(1, pt 32 0)], v7_, []⟩⟩, ⟨.r, ⟨[(2, ii)], [], []⟩⟩])) .nil .nil) .nil)) (mm (nn (mm (.mk [] (some (⟨[(1, pt 32 0), (163, kk), (164, kk), (165, ii)], v7_, []⟩, [⟨.x 18, ⟨[(1, pt 32 0)], v7_, []⟩⟩, ⟨.r, ⟨[(2, ii)], [], []⟩⟩])) .nil .nil) .nil)) (mm (nn (mm (.mk [] (some (⟨[(1, pt 32 0), (174, kk), (175, kk), (176, ii)], v7_, []⟩, [⟨.x 20, ⟨[(1, pt 32 0)], v7_, []⟩⟩, ⟨.r, ⟨[(2, ii)], [], []⟩⟩])) .nil .nil) .nil)) (mm (nn (mm (.mk [] (some (⟨[(1, pt 32 0), (186, kk), (187, kk), (188, ii)], v7_, []⟩, [⟨.x 22, ⟨[(1, pt 32 0)], v7_, []⟩⟩, ⟨.r, ⟨[(2, ii)], [], []⟩⟩])) (nn (nn (mm (mm (nn (mm (.mk [.join [⟨.n, ⟨[(1, pt 32 0), (186, kk), (187, kk), (188, kk), (207, bb)], v7_, []⟩⟩]] none .nil .nil) .nil)) .nil) .nil))) .nil) .nil)) (mm (mm (.mk [.join [⟨.n, ⟨[(218, bb)], [], []⟩⟩]] none .nil .nil) .nil) .nil)))))))))))))))) func68 ⟨⟨qo5, qpE, qqS, qpF, qo6, trivial⟩, trivial⟩
def qkr (s : yB8) (rate : Int) : Option (Int × Int) :=
 bif decide (rate < 0) then (
 some (s.2.2.1, s.2.1))
 else (
 some (s.2.1, s.2.2.1))
def qiv : Fun :=
 ⟨158, 2, 2,
 ⟨[(0, dd (.pair (.str) tT4)), (1, ii)], [], []⟩,
 ⟨r53_, [], []⟩,
 fun x => qkr x.1 x.2⟩
theorem qmn : FO qiv := fi [] [] 16 [] .nil func158 ⟨trivial, trivial⟩
def qjQ (n : Int) : Option (Int) :=
 some (max n (wi64 (0 - n)))
def qnr : Fun :=
 ⟨159, 1, 1,
 ⟨[(0, ii)], [], []⟩,
 ⟨[(0, ii)], [], []⟩,
 fun x => qjQ x⟩
theorem qrU : FO qnr := fi [] [] 7 [] .nil func159 ⟨trivial, trivial⟩
def qcH (n : yB0) (p : yB5) (node : Int) (vin : Int) (out : Int) (v : Int) : Option ((Int × Int × Int) ⊕ (Int × Int)) :=
 bif decide (v < (n.2.1.length : Int)) then (
 Option.bind (α := Int × Int) (
 gd (inB v n.2.1.length) <|
 gd (inB v p.1.length) <|
 bif decide (p.1.getD v.toNat 0 = 0) then (
 some (vin, out))
 else (
 gd (inB v p.1.length) <|
 (qkr ((n.2.1.getD v.toNat ([], (0, (0, (0, (0, (0, []))))))).1, (((n.2.1.getD v.toNat ([], (0, (0, (0, (0, (0, []))))))).2).1, ((((n.2.1.getD v.toNat ([], (0, (0, (0, (0, (0, []))))))).2).2).1, (((((n.2.1.getD v.toNat ([], (0, (0, (0, (0, (0, []))))))).2).2).2).1, ((((((n.2.1.getD v.toNat ([], (0, (0, (0, (0, (0, []))))))).2).2).2).2).1, (((((((n.2.1.getD v.toNat ([], (0, (0, (0, (0, (0, []))))))).2).2).2).2).2).1, ((((((n.2.1.getD v.toNat ([], (0, (0, (0, (0, (0, []))))))).2).2).2).2).2).2)))))) (p.1.getD v.toNat 0)).bind fun r =>
 Option.bind (α := Int) (
 bif decide (r.1 = node) then (
 gd (inB v p.1.length) <|
 (qjQ (p.1.getD v.toNat 0)).bind fun r2 =>
 some (wi64 (out + r2)))
 else (
 some out)) fun s =>
 Option.bind (α := Int) (
 bif decide (r.2 = node) then (
 gd (inB v p.1.length) <|
 (qjQ (p.1.getD v.toNat 0)).bind fun r3 =>
 some (wi64 (vin + r3)))
 else (
 some vin)) fun s2 =>
 some (s2, s))) fun s3 =>
 some (.inl (s3.1, s3.2, wi64 (v + 1))))
 else (
 some (.inr (vin, out)))
def qcI (n : yB0) (p : yB5) (node : Int) (vin2 : Int) (out2 : Int) (v2 : Int) : Option ((Int × Int × Int) ⊕ (Int × Int)) :=
 bif decide (v2 < (n.2.2.1.length : Int)) then (
 gd (inB v2 n.2.2.1.length) <|
 Option.bind (α := Int × Int) (
 bif decide (((n.2.2.1.getD v2.toNat ([], (0, 0))).2).1 = node) then (
 gd (inB v2 p.2.1.length) <|
 gd (inB v2 p.2.1.length) <|
 some (wi64 (vin2 + (max 0 (p.2.1.getD v2.toNat 0))), wi64 (out2 + (max 0 (wi64 (0 - (p.2.1.getD v2.toNat 0)))))))
 else (
 some (vin2, out2))) fun s5 =>
 some (.inl (s5.1, s5.2, wi64 (v2 + 1))))
 else (
 some (.inr (vin2, out2)))
def qhZ (n : yB0) (p : yB5) (node : Int) : Option (Int × Int) :=
 (iter (fun x => qcH n p node x.1 x.2.1 x.2.2) (0, 0, 0)).bind fun s4 =>
 (iter (fun x2 => qcI n p node x2.1 x2.2.1 x2.2.2) (s4.1, s4.2, 0)).bind fun s6 =>
 some (s6.1, s6.2)
def qiw : Fun :=
 ⟨116, 3, 2,
 ⟨r45_, [], []⟩,
 ⟨r53_, [], []⟩,
 fun x => qhZ x.1 x.2.1 x.2.2⟩
theorem qmo : FO qiw := fi [] [qiv, qnr] 95 [] ((nn (nn (mm (nn (mm (.mk [] (some (⟨[(2, kk), (3, pt 64 0), (4, pt 80 0), (8, ii), (9, ii), (17, kk), (18, kk), (19, ii)], v27_, []⟩, [⟨.x 0, ⟨[(2, kk), (3, pt 64 0), (4, pt 80 0), (8, ii), (9, ii)], v27_, []⟩⟩])) (nn (nn (mm (.mk [.join [⟨.n, ⟨[(2, kk), (3, pt 64 0), (4, pt 80 0), (8, ii), (9, ii), (17, kk), (18, kk), (19, kk)], v27_, []⟩⟩]] none (nn (nn (nn (mm (nn (.mk [.join [⟨.n, ⟨[(2, kk), (3, pt 64 0), (4, pt 80 0), (8, kk), (9, ii), (10, kk), (13, kk), (17, kk), (18, kk), (19, kk)], v27_, []⟩⟩]] none .nil .nil)) (nn (.mk [.join [⟨.n, ⟨[(2, kk), (3, pt 64 0), (4, pt 80 0), (8, ii), (9, kk), (17, kk), (18, kk), (19, kk)], v27_, []⟩⟩]] none .nil .nil)))))) .nil) .nil))) .nil) .nil)) (mm (nn (mm (.mk [] (some (⟨[(2, kk), (4, pt 80 0), (8, ii), (9, ii), (64, kk), (65, kk), (66, ii)], [(80, 55, [.keep, .keep, .keep])], []⟩, [⟨.x 2, ⟨[(8, ii), (9, ii)], [], []⟩⟩])) (nn (nn (mm (mm (nn (nn (.mk [.join [⟨.n, ⟨[(2, kk), (4, pt 80 0), (8, ii), (9, ii), (64, kk), (65, kk), (66, kk)], [(80, 55, [.keep, .keep, .keep])], []⟩⟩]] none .nil .nil))) .nil) .nil))) .nil) .nil)) .nil))))) func116 ⟨⟨qmn, qrU, trivial⟩, trivial⟩
def qcm (n : yB0) (p : yB5) (v : Int) (free : Bool) (v2 : Int) (out3 : List Int) (there3 : List Bool) : Option ((Bool × Int × List Int × List Bool) ⊕ (Bool × List Int × List Bool)) :=
 bif decide (v2 < (n.2.1.length : Int)) then (
 gd (inB v2 n.2.1.length) <|
 gd (inB v2 p.1.length) <|
 Option.bind (α := Bool × List Int × List Bool) (
 bif !decide (p.1.getD v2.toNat 0 = 0) then (
 gd (inB v2 p.1.length) <|
 (qkr ((n.2.1.getD v2.toNat ([], (0, (0, (0, (0, (0, []))))))).1, (((n.2.1.getD v2.toNat ([], (0, (0, (0, (0, (0, []))))))).2).1, ((((n.2.1.getD v2.toNat ([], (0, (0, (0, (0, (0, []))))))).2).2).1, (((((n.2.1.getD v2.toNat ([], (0, (0, (0, (0, (0, []))))))).2).2).2).1, ((((((n.2.1.getD v2.toNat ([], (0, (0, (0, (0, (0, []))))))).2).2).2).2).1, (((((((n.2.1.getD v2.toNat ([], (0, (0, (0, (0, (0, []))))))).2).2).2).2).2).1, ((((((n.2.1.getD v2.toNat ([], (0, (0, (0, (0, (0, []))))))).2).2).2).2).2).2)))))) (p.1.getD v2.toNat 0)).bind fun r =>
 Option.bind (α := Bool × List Int × List Bool) (
 bif free then (
 bif !decide (r.2 = v) then (
 some (true, out3, there3))
 else (
 gd (inB r.1 there3.length) <|
 some (there3.getD r.1.toNat false, out3, there3)))
 else (
 some (false, out3, there3))) fun s =>
 some (s.1, s.2.1, s.2.2))
 else (
 some (free, out3, there3))) fun s2 =>
 some (.inl (s2.1, wi64 (v2 + 1), s2.2.1, s2.2.2)))
 else (
 some (.inr (free, out3, there3)))
def qcn (n : yB0) (p : yB5) (next : Int) (v : Int) (out2 : List Int) (there2 : List Bool) : Option ((Int × Int × List Int × List Bool) ⊕ (Int × List Int × List Bool)) :=
 bif decide (v < (n.1.length : Int)) then (
 gd (inB v there2.length) <|
 (iter (fun x => qcm n p v x.1 x.2.1 x.2.2.1 x.2.2.2) ((!(there2.getD v.toNat false)), 0, out2, there2)).bind fun s3 =>
 Option.bind (α := Bool × List Int × List Bool) (
 bif s3.1 then (
 some (decide (next < 0), s3.2.1, s3.2.2))
 else (
 some (false, s3.2.1, s3.2.2))) fun s4 =>
 Option.bind (α := Int × List Int × List Bool) (
 bif s4.1 then (
 some (v, s4.2.1, s4.2.2))
 else (
 some (next, s4.2.1, s4.2.2))) fun s5 =>
 some (.inl (s5.1, wi64 (v + 1), s5.2.1, s5.2.2)))
 else (
 some (.inr (next, out2, there2)))
def qbX (n : yB0) (p : yB5) (out : List Int) (there : List Bool) : Option ((List Int × List Bool) ⊕ (List Int)) :=
 (iter (fun x2 => qcn n p x2.1 x2.2.1 x2.2.2.1 x2.2.2.2) ((-1), 0, out, there)).bind fun s6 =>
 bif decide (s6.1 < 0) then (
 some (.inr s6.2.1))
 else (
 gd (fits (s6.2.1.length + 1) 8) <|
 gd (inB s6.1 s6.2.2.length) <|
 some (.inl (s6.2.1 ++ [s6.1], s6.2.2.set s6.1.toNat true)))
def qix (n : yB0) (p : yB5) : Option (List Int) :=
 gd (makeG 1 (n.1.length : Int)) <|
 (iter (fun x3 => qbX n p x3.1 x3.2) ([], List.replicate (n.1.length : Int).toNat (false : Bool))).bind fun s7 =>
 some s7
def qkV : Fun :=
 ⟨117, 2, 1,
 ⟨r17_, [], []⟩,
 ⟨[(0, ow 0)], [], [(0, .arr 3 I6)]⟩,
 fun x => qix x.1 x.2⟩
theorem qpG : FO qkV := fi [] [qiv] 83 [] ((nn (nn (nn (mm (.mk [] (some (⟨[(2, pt 48 0), (3, pt 64 0), (5, ow 107), (6, ow 288)], v0_, a24_⟩, [⟨.r, ⟨[(4, ow 91)], [], [(91, .arr 3 I6)]⟩⟩])) (mm (nn (mm (nn (mm (.mk [] (some (⟨[(2, pt 48 0), (3, pt 64 0), (5, ow 107), (6, ow 288), (7, ii), (20, kk), (21, ii)], v0_, a24_⟩, [⟨.x 2, ⟨[(2, pt 48 0), (3, pt 64 0), (5, ow 107), (6, ow 288), (7, ii)], v0_, a24_⟩⟩])) (nn (nn (mm (mm (nn (nn (mm (nn (mm (.mk [] (some (⟨[(2, pt 48 0), (3, pt 64 0), (5, ow 107), (6, ow 288), (7, kk), (8, kk), (9, bb), (20, kk), (21, kk), (30, kk), (31, kk), (32, ii)], v0_, a24_⟩, [⟨.x 4, ⟨[(2, pt 48 0), (3, pt 64 0), (5, ow 107), (6, ow 288), (7, kk), (8, kk), (9, bb), (20, kk), (21, kk)], v0_, a24_⟩⟩])) (nn (nn (mm (mm (nn (nn (.mk [.join [⟨.n, ⟨r36_, v0_, a24_⟩⟩]] none (nn (.mk [.join [⟨.n, ⟨r36_, v0_, a24_⟩⟩]] none .nil .nil)) .nil))) .nil) .nil))) .nil) .nil)) (mm (.mk [.join [⟨.n, ⟨[(2, pt 48 0), (3, pt 64 0), (5, ow 107), (6, ow 288), (7, kk), (8, kk), (20, kk), (21, kk), (70, bb)], v0_, a24_⟩⟩]] none .nil .nil) (.mk [.join [⟨.n, ⟨[(2, pt 48 0), (3, pt 64 0), (5, ow 107), (6, ow 288), (7, ii), (20, kk), (21, kk)], v0_, a24_⟩⟩]] none .nil .nil))))) .nil) .nil))) .nil) .nil)) .nil)) .nil) .nil) .nil))))) func117 ⟨⟨qmn, trivial⟩, trivial⟩
def qfj (n : yB0) (p : yB5) (v : Int) : Option (Int ⊕ (Unit ⊕ Int)) :=
 bif decide (v < (p.1.length : Int)) then (
 gd (inB v p.1.length) <|
 gd (inB v n.2.1.length) <|
 Option.bind (α := Bool) (
 bif decide (p.1.getD v.toNat 0 < wi64 (0 - (min 1000 (((((n.2.1.getD v.toNat ([], (0, (0, (0, (0, (0, []))))))).2).2).2).1)))) then (
 some true)
 else (
 some (decide (min 1000 (((((n.2.1.getD v.toNat ([], (0, (0, (0, (0, (0, []))))))).2).2).2).1) < p.1.getD v.toNat 0)))) fun s2 =>
 bif s2 then (
 some (.inr (.inr 1)))
 else (
 some (.inl (wi64 (v + 1)))))
 else (
 some (.inr (.inl ())))
def qfk (p : yB5) (v2 : Int) : Option (Int ⊕ (Unit ⊕ Int)) :=
 bif decide (v2 < (p.2.1.length : Int)) then (
 gd (inB v2 p.2.1.length) <|
 Option.bind (α := Bool) (
 bif decide (p.2.1.getD v2.toNat 0 < (-1000)) then (
 some true)
 else (
 some (decide (1000 < p.2.1.getD v2.toNat 0)))) fun s6 =>
 bif s6 then (
 some (.inr (.inr 1)))
 else (
 some (.inl (wi64 (v2 + 1)))))
 else (
 some (.inr (.inl ())))
def qfl (n : yB0) (p : yB5) (v3 : Int) : Option (Int ⊕ (Unit ⊕ Int)) :=
 bif decide (v3 < (n.1.length : Int)) then (
 (qhZ (n.1, (n.2.1, (n.2.2.1, (n.2.2.2.1, (n.2.2.2.2.1, n.2.2.2.2.2))))) (p.1, (p.2.1, p.2.2)) v3).bind fun r2 =>
 bif !decide (r2.1 = r2.2) then (
 some (.inr (.inr 12)))
 else (
 some (.inl (wi64 (v3 + 1)))))
 else (
 some (.inr (.inl ())))
def qe4 (n : yB0) (p : yB5) : Option (Int) :=
 (qgH (n.1, (n.2.1, (n.2.2.1, (n.2.2.2.1, (n.2.2.2.2.1, n.2.2.2.2.2)))))).bind fun r =>
 bif !decide (r = 0) then (
 some r)
 else (
 Option.bind (α := Bool) (
 bif !decide ((p.1.length : Int) = (n.2.1.length : Int)) then (
 some true)
 else (
 bif !decide ((p.2.1.length : Int) = (n.2.2.1.length : Int)) then (
 some true)
 else (
 some (!decide ((p.2.2.length : Int) = (n.2.2.2.1.length : Int)))))) fun s =>
 bif s then (
 some 9)
 else (
 (iter (fun x => qfj n p x) 0).bind fun s3 =>
 s3.elim (fun s4 =>
 (iter (fun x2 => qfk p x2) 0).bind fun s7 =>
 s7.elim (fun s8 =>
 (iter (fun x3 => qfl n p x3) 0).bind fun s10 =>
 s10.elim (fun s11 =>
 (qix (n.1, (n.2.1, (n.2.2.1, (n.2.2.2.1, (n.2.2.2.2.1, n.2.2.2.2.2))))) (p.1, (p.2.1, p.2.2))).bind fun r3 =>
 bif !decide ((r3.length : Int) = (n.1.length : Int)) then (
 some 13)
 else (
 some 0))
 (fun s12 =>
 some s12))
 (fun s9 =>
 some s9))
 (fun s5 =>
 some s5)))
def qfm : Fun :=
 ⟨70, 2, 1,
 ⟨r17_, [], []⟩,
 ⟨[(0, ii)], [], []⟩,
 fun x => qe4 x.1 x.2⟩
theorem qhz : FO qfm := fi [] [qhy, qiw, qkV] 108 [] ((nn (nn (mm (mm (.mk [.join [⟨.n, ⟨[(2, pt 48 0), (3, pt 64 0), (43, bb)], v0_, []⟩⟩]] none .nil .nil) .nil) (mm (nn (mm (.mk [] (some (⟨[(2, pt 48 0), (3, pt 64 0), (45, kk), (46, kk), (47, ii)], v0_, []⟩, [⟨.x 0, ⟨r32_, v0_, []⟩⟩, ⟨.r, ⟨[(4, ii)], [], []⟩⟩])) (nn (nn (mm (mm (nn (nn (mm (.mk [.join [⟨.n, ⟨[(2, pt 48 0), (3, pt 64 0), (45, kk), (46, kk), (47, kk), (67, bb)], v0_, []⟩⟩]] none .nil .nil) .nil))) .nil) .nil))) .nil) .nil)) (mm (nn (mm (.mk [] (some (⟨[(2, pt 48 0), (3, pt 64 0), (70, kk), (71, kk), (72, ii)], v0_, []⟩, [⟨.x 2, ⟨r32_, v0_, []⟩⟩, ⟨.r, ⟨[(4, ii)], [], []⟩⟩])) (nn (nn (mm (mm (nn (mm (.mk [.join [⟨.n, ⟨[(2, pt 48 0), (3, pt 64 0), (70, kk), (71, kk), (72, kk), (81, bb)], v0_, []⟩⟩]] none .nil .nil) .nil)) .nil) .nil))) .nil) .nil)) (mm (nn (mm (.mk [] (some (⟨[(2, pt 48 0), (3, pt 64 0), (85, kk), (86, ii)], v0_, []⟩, [⟨.x 4, ⟨r32_, v0_, []⟩⟩, ⟨.r, ⟨[(4, ii)], [], []⟩⟩])) .nil .nil) .nil)) .nil))))))) func70 ⟨⟨qkU, qmo, qpG, trivial⟩, trivial⟩
def qgI (n : yB0) (rates : List Int) (vat : Int) (i : Int) (v : Int) (v2 : Bool) : Option ((Int × Int × Bool) ⊕ ((Int × Bool) ⊕ (Bool × Int × Bool))) :=
 bif decide (i < (rates.length : Int)) then (
 Option.bind (α := Bool) (
 gd (inB i rates.length) <|
 bif decide (0 < rates.getD i.toNat 0) then (
 gd (inB i n.2.1.length) <|
 bif decide (((n.2.1.getD i.toNat ([], (0, (0, (0, (0, (0, []))))))).2).1 = vat) then (
 some true)
 else (
 gd (inB i rates.length) <|
 bif decide (rates.getD i.toNat 0 < 0) then (
 gd (inB i n.2.1.length) <|
 some (decide ((((n.2.1.getD i.toNat ([], (0, (0, (0, (0, (0, []))))))).2).2).1 = vat)))
 else (
 some false)))
 else (
 gd (inB i rates.length) <|
 bif decide (rates.getD i.toNat 0 < 0) then (
 gd (inB i n.2.1.length) <|
 some (decide ((((n.2.1.getD i.toNat ([], (0, (0, (0, (0, (0, []))))))).2).2).1 = vat)))
 else (
 some false))) fun s =>
 bif s then (
 gd (inB i rates.length) <|
 some (.inr (.inr (true, i, decide (rates.getD i.toNat 0 < 0)))))
 else (
 some (.inl (wi64 (i + 1), v, v2))))
 else (
 some (.inr (.inl (v, v2))))
def qhe (n : yB0) (rates : List Int) (vat : Int) : Option ((Int × Bool) × Bool) :=
 (iter (fun x => qgI n rates vat x.1 x.2.1 x.2.2) (0, 0, false)).bind fun s2 =>
 s2.elim (fun s3 =>
 some ((0, false), false))
 (fun s4 =>
 some ((s4.2.1, s4.2.2), s4.1))
def qjR : Fun :=
 ⟨200, 3, 2,
 ⟨[(0, dd (.pair (.sl (.str)) tT0)), (1, dd (.sl I6)), (2, ii)], [], []⟩,
 ⟨[(0, dd (.pair I6 (.bool))), (1, bb)], [], []⟩,
 fun x => qhe x.1 x.2.1 x.2.2⟩
theorem qo7 : FO qjR := fi [] [] 55 [] ((nn (mm (nn (mm (.mk [] (some (⟨[(1, kk), (2, kk), (3, pt 64 0), (6, pt 112 0), (8, ii)], [(64, 50, (kp 6)), (112, 114, [.data I6, .data (.bool)])], []⟩, [⟨.x 0, ⟨[(6, pt 112 0)], [(112, 114, [.data I6, .data (.bool)])], []⟩⟩, ⟨.r, ⟨[(6, pt 112 0), (7, bb)], [(112, 114, [.data I6, .data (.bool)])], []⟩⟩])) (nn (mm (mm (mm (.mk [.join [⟨.n, ⟨[(1, kk), (2, kk), (3, pt 64 0), (6, pt 112 0), (8, kk), (46, bb)], [(64, 50, (kp 6)), (112, 114, [.keep, .keep])], []⟩⟩]] none .nil .nil) .nil) .nil) .nil)) .nil) .nil)) .nil))) func200 ⟨trivial, trivial⟩
def qns (n : Int) : Option (Int) :=
 some (max n (wi64 (0 - n)))
def qjS : Fun :=
 ⟨201, 1, 1,
 ⟨[(0, ii)], [], []⟩,
 ⟨[(0, ii)], [], []⟩,
 fun x => qns x⟩
theorem qo8 : FO qjS := fi [] [] 7 [] .nil func201 ⟨trivial, trivial⟩
def qm3 (n : yB0) (h : Int × Bool) : Option (Int × Int) :=
 gd (inB h.1 n.2.1.length) <|
 bif h.2 then (
 some ((((n.2.1.getD h.1.toNat ([], (0, (0, (0, (0, (0, []))))))).2).2).1, ((n.2.1.getD h.1.toNat ([], (0, (0, (0, (0, (0, []))))))).2).1))
 else (
 some (((n.2.1.getD h.1.toNat ([], (0, (0, (0, (0, (0, []))))))).2).1, (((n.2.1.getD h.1.toNat ([], (0, (0, (0, (0, (0, []))))))).2).2).1))
def qmp : Fun :=
 ⟨202, 2, 2,
 ⟨r93_, [], []⟩,
 ⟨r53_, [], []⟩,
 fun x => qm3 x.1 x.2⟩
theorem qqT : FO qmp := fi [] [] 23 [] .nil func202 ⟨trivial, trivial⟩
def qgJ (n : yB0) (ports : List Int) (vin : Int) (vat : Int) (i : Int) (v5 : Int) (v6 : Int) (v7 : List (Int × Bool)) (v8 : Int) (x4 : Int) (x5 : Int) (x6 : List (Int × Bool)) : Option ((Int × Int × Int × (List (Int × Bool)) × Int × Int × Int × List (Int × Bool)) ⊕ ((Int × Int × (List (Int × Bool)) × Int × Int × Int × List (Int × Bool)) ⊕ (Bool × Int × Int × Int × List (Int × Bool)))) :=
 bif decide (i < (ports.length : Int)) then (
 Option.bind (α := Bool × List (Int × Bool)) (
 gd (inB i n.2.2.1.length) <|
 bif decide (((n.2.2.1.getD i.toNat ([], (0, 0))).2).1 = vat) then (
 gd (inB i ports.length) <|
 some (decide (ports.getD i.toNat 0 < 0), x6))
 else (
 some (false, x6))) fun s =>
 bif s.1 then (
 gd (inB i ports.length) <|
 some (.inr (.inr (true, vin, i, min x5 (wi64 (0 - (ports.getD i.toNat 0))), s.2))))
 else (
 some (.inl (wi64 (i + 1), v5, v6, v7, v8, x4, x5, s.2))))
 else (
 some (.inr (.inl (v5, v6, v7, v8, x4, x5, x6))))
def qgK (n : yB0) (rates : List Int) (ports : List Int) (vin : Int) (vat : Int) (k : Int) (v : Int) (v2 : Int) (v3 : List (Int × Bool)) (v4 : Int) (x : Int) (x2 : Int) (x3 : List (Int × Bool)) : Option ((Int × Int × Int × Int × (List (Int × Bool)) × Int × Int × Int × List (Int × Bool)) ⊕ ((Int × Int × (List (Int × Bool)) × Int × Int × Int × List (Int × Bool)) ⊕ (Bool × Int × Int × Int × List (Int × Bool)))) :=
 bif decide (k ≤ (n.1.length : Int)) then (
 (iter (fun x7 => qgJ n ports vin vat x7.1 x7.2.1 x7.2.2.1 x7.2.2.2.1 x7.2.2.2.2.1 x7.2.2.2.2.2.1 x7.2.2.2.2.2.2.1 x7.2.2.2.2.2.2.2) (0, v, v2, v3, v4, x, x2, x3)).bind fun s2 =>
 s2.elim (fun s3 =>
 (qhe (n.1, (n.2.1, (n.2.2.1, (n.2.2.2.1, (n.2.2.2.2.1, n.2.2.2.2.2))))) rates vat).bind fun r =>
 bif !r.2 then (
 some (.inr (.inr (false, vin, s3.2.2.2.2.1, s3.2.2.2.2.2.1, s3.2.2.2.2.2.2))))
 else (
 gd (fits (s3.2.2.2.2.2.2.length + 1) 16) <|
 gd (inB r.1.1 rates.length) <|
 (qns (rates.getD r.1.1.toNat 0)).bind fun r2 =>
 (qm3 (n.1, (n.2.1, (n.2.2.1, (n.2.2.2.1, (n.2.2.2.2.1, n.2.2.2.2.2))))) (r.1.1, r.1.2)).bind fun r3 =>
 some (.inl (r3.2, wi64 (k + 1), s3.1, s3.2.1, s3.2.2.1, s3.2.2.2.1, s3.2.2.2.2.1, min s3.2.2.2.2.2.1 r2, s3.2.2.2.2.2.2 ++ [(r.1.1, r.1.2)]))))
 (fun s4 =>
 some (.inr (.inr (s4.1, s4.2.1, s4.2.2.1, s4.2.2.2.1, s4.2.2.2.2)))))
 else (
 some (.inr (.inl (v, v2, v3, v4, x, x2, x3))))
def qhf (n : yB0) (rates : List Int) (ports : List Int) (vin : Int) : Option (Int × Int × Int × Bool × List (Int × Bool)) :=
 gd (inB vin ports.length) <|
 gd (inB vin n.2.2.1.length) <|
 (iter (fun x8 => qgK n rates ports vin x8.1 x8.2.1 x8.2.2.1 x8.2.2.2.1 x8.2.2.2.2.1 x8.2.2.2.2.2.1 x8.2.2.2.2.2.2.1 x8.2.2.2.2.2.2.2.1 x8.2.2.2.2.2.2.2.2) (((n.2.2.1.getD vin.toNat ([], (0, 0))).2).1, 0, 0, 0, [], 0, 0, ports.getD vin.toNat 0, [])).bind fun s5 =>
 s5.elim (fun s6 =>
 some (vin, s6.2.2.2.2.1, s6.2.2.2.2.2.1, false, s6.2.2.2.2.2.2))
 (fun s7 =>
 some (s7.2.1, s7.2.2.1, s7.2.2.2.1, s7.1, s7.2.2.2.2))
def qjT : Fun :=
 ⟨155, 4, 2,
 ⟨[(0, dd (.pair (.sl (.str)) tT0)), (1, dd (.sl I6)), (2, dd (.sl I6)), (3, ii)], [], []⟩,
 ⟨[(0, .agg [.data I6, .data I6, .own 0, .data I6]), (1, bb)], [], [(0, .arr 114 (.pair I6 (.bool)))]⟩,
 fun x => qhf x.1 x.2.1 x.2.2.1 x.2.2.2⟩
theorem qo9 : FO qjT := fi [] [qjR, qjS, qmp] 101 [] ((nn (nn (nn (mm (nn (mm (.mk [] (some (⟨[(1, kk), (2, kk), (4, pt 80 0), (8, pt 144 0), (10, pt 176 0), (11, ii), (12, ii)], v16_, a47_⟩, [⟨.x 0, ⟨[(8, pt 144 0), (10, pt 176 0)], [(144, 26, [.data I6, .data I6, .data (.sl (.pair I6 (.bool))), .data I6]), (176, 26, [.keep, .data I6, .own 2873, .data I6])], a47_⟩⟩, ⟨.r, ⟨[(8, pt 144 0), (9, bb)], [(144, 26, [.data I6, .data I6, .own 2361, .data I6])], [(2361, .arr 114 (.pair I6 (.bool)))]⟩⟩])) (nn (mm (mm (mm (nn (mm (.mk [] (some (⟨[(1, kk), (2, kk), (4, pt 80 0), (8, pt 144 0), (10, pt 176 0), (11, kk), (12, kk), (13, ii)], v16_, a47_⟩, [⟨.x 2, ⟨[(1, kk), (2, kk), (4, pt 80 0), (8, pt 144 0), (10, pt 176 0), (11, kk), (12, kk)], v16_, a47_⟩⟩, ⟨.r, ⟨[(8, pt 144 0), (9, bb)], [(144, 26, [.data I6, .data I6, .own 2873, .data I6])], a47_⟩⟩])) (nn (mm (mm (mm (.mk [.join [⟨.n, ⟨[(1, kk), (2, kk), (4, pt 80 0), (8, pt 144 0), (10, pt 176 0), (11, kk), (12, kk), (13, kk), (55, bb)], [(80, 50, (kp 6)), (144, 26, (kp 4)), (176, 26, [.keep, .keep, .own 2873, .keep])], a47_⟩⟩]] none .nil .nil) .nil) .nil) .nil)) .nil) .nil)) .nil) .nil) .nil)) .nil) .nil)) .nil))))) func155 ⟨⟨qo7, qo8, qqT, trivial⟩, trivial⟩
def qjU (r2 : Int × Int × Int × Bool × List (Int × Bool)) (k : Int) (rates3 : List Int) (ports3 : List Int) (out3 : List yB7) (x : List (Int × Bool)) : Option ((Int × List Int × List Int × (List yB7) × List (Int × Bool)) ⊕ (List Int × List Int × (List yB7) × List (Int × Bool))) :=
 bif decide (k < (x.length : Int)) then (
 gd (inB k x.length) <|
 Option.bind (α := List Int × List Int × (List yB7) × List (Int × Bool)) (
 bif (x.getD k.toNat (0, false)).2 then (
 gd (inB ((x.getD k.toNat (0, false)).1) rates3.length) <|
 gd (inB ((x.getD k.toNat (0, false)).1) rates3.length) <|
 some (rates3.set (((x.getD k.toNat (0, false)).1).toNat) (wi64 ((rates3.getD (((x.getD k.toNat (0, false)).1).toNat) 0) + r2.2.2.1)), ports3, out3, x))
 else (
 gd (inB ((x.getD k.toNat (0, false)).1) rates3.length) <|
 gd (inB ((x.getD k.toNat (0, false)).1) rates3.length) <|
 some (rates3.set (((x.getD k.toNat (0, false)).1).toNat) (wi64 ((rates3.getD (((x.getD k.toNat (0, false)).1).toNat) 0) - r2.2.2.1)), ports3, out3, x))) fun s2 =>
 some (.inl (wi64 (k + 1), s2.1, s2.2.1, s2.2.2.1, s2.2.2.2)))
 else (
 some (.inr (rates3, ports3, out3, x)))
def qgL (n : yB0) (i : Int) (rates2 : List Int) (ports2 : List Int) (out2 : List yB7) : Option ((List Int × List Int × List yB7) ⊕ ((List Int × List Int × List yB7) ⊕ ((List yB7) × Int))) :=
 gd (inB i ports2.length) <|
 bif decide (0 < ports2.getD i.toNat 0) then (
 (qhf (n.1, (n.2.1, (n.2.2.1, (n.2.2.2.1, (n.2.2.2.2.1, n.2.2.2.2.2))))) rates2 ports2 i).bind fun r2 =>
 Option.bind (α := Bool × List Int × List Int × (List yB7) × List (Int × Bool)) (
 bif !r2.2.2.2.1 then (
 some (true, rates2, ports2, out2, r2.2.2.2.2))
 else (
 bif decide ((out2.length : Int) = 64) then (
 some (true, rates2, ports2, out2, r2.2.2.2.2))
 else (
 some (decide (32 < (r2.2.2.2.2.length : Int)), rates2, ports2, out2, r2.2.2.2.2)))) fun s =>
 bif s.1 then (
 some (.inr (.inr ([], 23))))
 else (
 gd (inB r2.1 s.2.2.1.length) <|
 gd (inB r2.1 s.2.2.1.length) <|
 gd (inB r2.2.1 (s.2.2.1.set r2.1.toNat (wi64 ((s.2.2.1.getD r2.1.toNat 0) - r2.2.2.1))).length) <|
 gd (inB r2.2.1 (s.2.2.1.set r2.1.toNat (wi64 ((s.2.2.1.getD r2.1.toNat 0) - r2.2.2.1))).length) <|
 (iter (fun x2 => qjU r2 x2.1 x2.2.1 x2.2.2.1 x2.2.2.2.1 x2.2.2.2.2) (0, s.2.1, (s.2.2.1.set r2.1.toNat (wi64 ((s.2.2.1.getD r2.1.toNat 0) - r2.2.2.1))).set r2.2.1.toNat (wi64 (((s.2.2.1.set r2.1.toNat (wi64 ((s.2.2.1.getD r2.1.toNat 0) - r2.2.2.1))).getD r2.2.1.toNat 0) + r2.2.2.1)), s.2.2.2.1, s.2.2.2.2)).bind fun s3 =>
 gd (fits (s3.2.2.1.length + 1) 48) <|
 some (.inl (s3.1, s3.2.1, s3.2.2.1 ++ [(r2.1, (r2.2.1, (s3.2.2.2, r2.2.2.1)))]))))
 else (
 some (.inr (.inl (rates2, ports2, out2))))
def qgM (n : yB0) (i : Int) (rates : List Int) (ports : List Int) (out : List yB7) : Option ((Int × List Int × List Int × List yB7) ⊕ ((List yB7) ⊕ ((List yB7) × Int))) :=
 bif decide (i < (ports.length : Int)) then (
 (iter (fun x3 => qgL n i x3.1 x3.2.1 x3.2.2) (rates, ports, out)).bind fun s4 =>
 s4.elim (fun s5 =>
 some (.inl (wi64 (i + 1), s5.1, s5.2.1, s5.2.2)))
 (fun s6 =>
 some (.inr (.inr (s6.1, s6.2)))))
 else (
 some (.inr (.inl out)))
def qhg (n : yB0) (p : yB5) : Option ((List yB7) × Int) :=
 (qe4 (n.1, (n.2.1, (n.2.2.1, (n.2.2.2.1, (n.2.2.2.2.1, n.2.2.2.2.2))))) (p.1, (p.2.1, p.2.2))).bind fun r =>
 bif !decide (r = 0) then (
 some ([], r))
 else (
 gd (fits (0 + p.1.length) 8) <|
 gd (fits (0 + p.2.1.length) 8) <|
 (iter (fun x4 => qgM n x4.1 x4.2.1 x4.2.2.1 x4.2.2.2) (0, ([] ++ p.1), ([] ++ p.2.1), [])).bind fun s7 =>
 s7.elim (fun s8 =>
 some (s8, 0))
 (fun s9 =>
 some (s9.1, s9.2)))
def qjV : Fun :=
 ⟨100, 2, 2,
 ⟨r17_, [], []⟩,
 ⟨[(0, dd (.sl tT5)), (1, ii)], [], []⟩,
 fun x => qhg x.1 x.2⟩
theorem qpa : FO qjV := fi [21, 25] [qfm, qjT] 128 [] ((nn (nn (nn (nn (nn (mm (nn (mm (.mk [] (some (⟨[(2, pt 48 0), (7, ow 400), (8, ow 464), (9, ow 171), (10, ii)], [(48, 50, (kp 6))], a70_⟩, [⟨.x 0, ⟨[(9, ow 171)], [], [(171, .arr 26 tT5)]⟩⟩, ⟨.r, ⟨[(4, dd (.sl tT5)), (5, ii)], [], []⟩⟩])) (nn (mm (mm (mm (.mk [] (some (⟨r92_, [(48, 50, (kp 6))], a70_⟩, [⟨.x 2, ⟨r92_, [(48, 50, (kp 6))], a70_⟩⟩, ⟨.r, ⟨[(4, dd (.sl tT5)), (5, ii)], [], []⟩⟩])) (nn (mm (nn (mm (mm (.mk [.join [⟨.n, ⟨[(2, pt 48 0), (7, ow 400), (8, ow 464), (9, ow 171), (10, kk), (11, pt 192 0), (60, bb)], v39_, a25_⟩⟩]] none .nil .nil) .nil) (nn (nn (mm (nn (mm (.mk [] (some (⟨[(2, pt 48 0), (7, ow 400), (8, ow 464), (9, ow 171), (10, kk), (11, pt 192 0), (13, ii)], v39_, a25_⟩, [⟨.x 4, ⟨[(2, pt 48 0), (7, ow 400), (8, ow 464), (9, ow 171), (10, kk), (11, pt 192 0)], v39_, a25_⟩⟩])) (nn (mm (mm (nn (nn (.mk [.join [⟨.n, ⟨[(2, pt 48 0), (7, ow 400), (8, ow 464), (9, ow 171), (10, kk), (11, pt 192 0), (13, kk)], v39_, a25_⟩⟩]] none .nil .nil))) .nil) .nil)) .nil) .nil)) (.mk [.fz [11]] none .nil .nil)))))) .nil)) .nil) .nil) .nil) .nil)) .nil) .nil)) .nil))))))) func100 ⟨⟨qhz, qo9, trivial⟩, trivial⟩
def qks (p : yB7) : Option (Int × Int × Int × List (Int × Bool)) :=
 gd (fits (0 + p.2.2.1.length) 16) <|
 some (p.1, p.2.1, p.2.2.2, ([] ++ p.2.2.1))
def qmq : Fun :=
 ⟨101, 1, 1,
 ⟨[(0, dd tT5)], [], []⟩,
 ⟨[(0, .agg [.data I6, .data I6, .own 0, .data I6])], [], [(0, .arr 114 (.pair I6 (.bool)))]⟩,
 fun x => qks x⟩
theorem qqU : FO qmq := fi [3] [] 9 [] .nil func101 ⟨trivial, trivial⟩
def qiy (n : yB0) (d : yB4) (s : List Int) (s2 : Int) : Option (yB6 × List Int × Int) :=
 (qab 9 s s2).bind fun r =>
 bif decide (r.1 = 0) then (
 (qab (wi64 ((d.1.length : Int) + 1)) r.2.1 r.2.2).bind fun r2 =>
 some ((1, (r2.1, (0, (0, (0, ([], 0)))))), r2.2.1, r2.2.2))
 else (
 bif decide (r.1 = 1) then (
 (qab (wi64 ((d.1.length : Int) + 2)) r.2.1 r.2.2).bind fun r3 =>
 some ((2, (wi64 (r3.1 - 1), (0, (0, (0, ([], 0)))))), r3.2.1, r3.2.2))
 else (
 bif decide (r.1 = 2) then (
 (qab (wi64 ((n.2.2.2.1.length : Int) + 1)) r.2.1 r.2.2).bind fun r4 =>
 some ((3, (r4.1, (0, (0, (0, ([], 0)))))), r4.2.1, r4.2.2))
 else (
 bif decide (r.1 = 3) then (
 (qab (wi64 ((n.2.2.2.1.length : Int) + 1)) r.2.1 r.2.2).bind fun r5 =>
 some ((4, (r5.1, (0, (0, (0, ([], 0)))))), r5.2.1, r5.2.2))
 else (
 Option.bind (α := Bool) (
 bif decide (r.1 = 4) then (
 some (decide (r.1 = 4)))
 else (
 some (decide (r.1 = 5)))) fun s3 =>
 bif s3 then (
 (qam [1, 2, 7, 60, 100, 0, 101] r.2.1 r.2.2).bind fun r6 =>
 some ((6, (0, (r6.1, (0, (0, ([], 0)))))), r6.2.1, r6.2.2))
 else (
 bif decide (r.1 = 6) then (
 (qab 9 r.2.1 r.2.2).bind fun r7 =>
 (qab 4 r7.2.1 r7.2.2).bind fun r8 =>
 (qab 5 r8.2.1 r8.2.2).bind fun r9 =>
 (qab 2 r9.2.1 r9.2.2).bind fun r10 =>
 (qab 2 r10.2.1 r10.2.2).bind fun r11 =>
 some ((r7.1, (r8.1, (r9.1, (r10.1, (0, ([], r11.1)))))), r11.2.1, r11.2.2))
 else (
 (qab 2 r.2.1 r.2.2).bind fun r12 =>
 Option.bind (α := List Int × Int × List Int × List Int × List Bool) (
 bif decide (r12.1 = 0) then (
 (qf4 (n.1, (n.2.1, (n.2.2.1, (n.2.2.2.1, (n.2.2.2.2.1, n.2.2.2.2.2))))) r12.2.1 r12.2.2).bind fun r13 =>
 some (r13.2.1, r13.2.2, r13.1.1, r13.1.2.1, r13.1.2.2))
 else (
 some (r12.2.1, r12.2.2, d.2.1, d.2.2.1, d.2.2.2))) fun s4 =>
 (qhg (n.1, (n.2.1, (n.2.2.1, (n.2.2.2.1, (n.2.2.2.2.1, n.2.2.2.2.2))))) (s4.2.2.1, (s4.2.2.2.1, s4.2.2.2.2))).bind fun r14 =>
 bif decide ((r14.1.length : Int) = 0) then (
 some ((5, (0, (1, (0, (1, ([], 0)))))), s4.1, s4.2.1))
 else (
 (qab (r14.1.length : Int) s4.1 s4.2.1).bind fun r15 =>
 gd (inB r15.1 r14.1.length) <|
 (qks (r14.1.getD r15.1.toNat (0, (0, ([], 0))))).bind fun r16 =>
 (qam [r16.2.2.1, wi64 (0 - r16.2.2.1), 1, (-1), wi64 (r16.2.2.1 + 1), wi64 ((wi64 (0 - r16.2.2.1)) - 1), 0] r15.2.1 r15.2.2).bind fun r17 =>
 some ((5, (0, (r17.1, (r16.1, (r16.2.1, (r16.2.2.2, 0)))))), r17.2.1, r17.2.2))))))))
def qkW : Fun :=
 ⟨59, 3, 1,
 ⟨[(0, pt 0 0), (1, dd (.pair (.sl (.str)) tT0)), (2, dd (.pair (.sl tT1) tT6))], v3_, []⟩,
 ⟨r84_, v3_, []⟩,
 fun x => qiy x.1 x.2.1 x.2.2.1 x.2.2.2⟩
theorem qpH : FO qkW := fi [] [qa8, qbp, qi3, qjV, qmq] 118 [] ((nn (mm (nn (mm (nn (nn (nn (nn (nn (nn (nn (nn (mm (nn (.mk [.join [⟨.n, ⟨[(0, pt 0 0), (4, pt 80 0), (5, pt 96 0), (6, pt 112 0), (13, kk), (51, bb)], [(0, 128, [.keep, .keep]), (80, 50, (kp 6)), (96, 57, (kp 4)), (112, 28, (kp 7))], []⟩⟩]] none .nil .nil)) .nil))))))))) .nil)) (nn (mm (nn (.mk [.join [⟨.n, ⟨[(0, pt 0 0), (4, pt 80 0), (6, pt 112 0), (7, pt 128 0)], [(0, 128, [.data (.sl I6), .data I6]), (80, 50, (kp 6)), (112, 28, (kp 7)), (128, 55, [.data (.sl I6), .data (.sl I6), .data (.sl (.bool))])], []⟩⟩]] none .nil .nil)) .nil))))) func59 ⟨⟨qbi, qbL, qnP, qpa, qqU, trivial⟩, trivial⟩
end
end Go.Proofs.YtnkfkceghbkkkaaGreat
