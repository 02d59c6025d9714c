/- Functions, evaluated. No condition. -/
import Derived.Test.YtnkfkceghbkkkaaGreatProg
import Derived.Test.YtnkfkceghbkkkaaGreatSqLI
import Derived.Test.YtnkfkceghbkkkaaGreatIn4
namespace Go.Proofs.YtnkfkceghbkkkaaGreat
open Go Go.Sq
abbrev yT0 : Type := List UInt8 × Int × Int × Int × Int × Int × List (Int × Int × Int)
abbrev tT0 : Ty := .pair (.sl (.pair (.str) (.pair (.int .i64) (.pair (.int .i64) (.pair (.int .i64) (.pair (.int .i64) (.pair (.int .i64) (.sl (.pair (.int .i64) (.pair (.int .i64) (.int .i64))))))))))) (.pair (.sl (.pair (.str) (.pair (.int .i64) (.int .i64)))) (.pair (.sl (.pair (.str) (.pair (.int .i64) (.pair (.int .i64) (.pair (.int .i64) (.int .i64)))))) (.pair (.int .i64) (.int .i64))))
abbrev tT1 : Ty := .pair (.int .i64) (.pair (.int .i64) (.pair (.int .i64) (.pair (.int .i64) (.pair (.int .i64) (.sl (.int .i64))))))
abbrev tT2 : Ty := .pair (.str) (.pair (.int .i64) (.pair (.int .i64) (.pair (.int .i64) (.int .i64))))
abbrev tT3 : Ty := .pair (.int .i64) (.pair (.int .i64) (.pair (.int .i64) (.pair (.int .i64) (.pair (.int .i64) (.sl (.pair (.int .i64) (.pair (.int .i64) (.int .i64))))))))
abbrev tT4 : Ty := .pair (.int .i64) (.pair (.int .i64) (.pair (.bool) (.bool)))
def ti3 : TI := { t := 3, desc := .int .i64, size := 1, bytes := 8, zero := .int .i64 0, τ := .int .i64, eq := false }
theorem tk3 : ti3.ok Tryz.prog := ⟨Tryz.underlying3, by kernel_rfl, fun h => by cases h⟩
def ti4 : TI := { t := 4, desc := .bool, size := 1, bytes := 1, zero := .bool false, τ := .bool, eq := false }
theorem tk4 : ti4.ok Tryz.prog := ⟨Tryz.underlying4, by kernel_rfl, fun h => by cases h⟩
def ti5 : TI := { t := 5, desc := .int .u8, size := 1, bytes := 1, zero := .int .u8 0, τ := .int .u8, eq := false }
theorem tk5 : ti5.ok Tryz.prog := ⟨Tryz.underlying5, by kernel_rfl, fun h => by cases h⟩
def ti9 : TI := { t := 9, desc := .string, size := 1, bytes := 16, zero := .string ⟨#[]⟩, τ := .str, eq := false }
theorem tk9 : ti9.ok Tryz.prog := ⟨Tryz.underlying9, by kernel_rfl, fun h => by cases h⟩
def ti22 : TI := { t := 22, desc := .slice 5, size := 1, bytes := 24, zero := .slice none 0 0, τ := .sl (.int .u8), eq := false }
theorem tk22 : ti22.ok Tryz.prog := ⟨Tryz.underlying22, by kernel_rfl, fun h => by cases h⟩
def ti23 : TI := { t := 23, desc := .slice 3, size := 1, bytes := 24, zero := .slice none 0 0, τ := .sl (.int .i64), eq := false }
theorem tk23 : ti23.ok Tryz.prog := ⟨Tryz.underlying23, by kernel_rfl, fun h => by cases h⟩
def ti24 : TI := { t := 24, desc := .slice 114, size := 1, bytes := 24, zero := .slice none 0 0, τ := .sl (.pair (.int .i64) (.bool)), eq := false }
theorem tk24 : ti24.ok Tryz.prog := ⟨Tryz.underlying24, by kernel_rfl, fun h => by cases h⟩
def ti26 : TI := { t := 26, desc := .struct #[{ name := "In", type := 3, offset := 0, embedded := false, tag := "", pkgPath := "", byteOffset := 0 }, { name := "Out", type := 3, offset := 1, embedded := false, tag := "", pkgPath := "", byteOffset := 8 }, { name := "Hops", type := 24, offset := 2, embedded := false, tag := "", pkgPath := "", byteOffset := 16 }, { name := "Rate", type := 3, offset := 3, embedded := false, tag := "", pkgPath := "", byteOffset := 40 }], size := 4, bytes := 48, zero := .agg #[.int .i64 0, .int .i64 0, .slice none 0 0, .int .i64 0], τ := .pair (.int .i64) (.pair (.int .i64) (.pair (.sl (.pair (.int .i64) (.bool))) (.int .i64))), eq := true }
theorem tk26 : ti26.ok Tryz.prog := ⟨Tryz.underlying26, by kernel_rfl, fun _ => ⟨Tryz.eqGuardType26, Tryz.stoodInHeld26⟩⟩
def ti28 : TI := { t := 28, desc := .struct #[{ name := "Kind", type := 3, offset := 0, embedded := false, tag := "", pkgPath := "", byteOffset := 0 }, { name := "Index", type := 3, offset := 1, embedded := false, tag := "", pkgPath := "", byteOffset := 8 }, { name := "Value", type := 3, offset := 2, embedded := false, tag := "", pkgPath := "", byteOffset := 16 }, { name := "Path", type := 26, offset := 3, embedded := false, tag := "", pkgPath := "", byteOffset := 24 }], size := 7, bytes := 72, zero := .agg #[.int .i64 0, .int .i64 0, .int .i64 0, .int .i64 0, .int .i64 0, .slice none 0 0, .int .i64 0], τ := .pair (.int .i64) (.pair (.int .i64) (.pair (.int .i64) (.pair (.int .i64) (.pair (.int .i64) (.pair (.sl (.pair (.int .i64) (.bool))) (.int .i64)))))), eq := true }
theorem tk28 : ti28.ok Tryz.prog := ⟨Tryz.underlying28, by kernel_rfl, fun _ => ⟨Tryz.eqGuardType28, Tryz.stoodInHeld28⟩⟩
def ti30 : TI := { t := 30, desc := .struct #[{ name := "Shipper", type := 9, offset := 0, embedded := false, tag := "", pkgPath := "", byteOffset := 0 }, { name := "Kind", type := 3, offset := 1, embedded := false, tag := "", pkgPath := "", byteOffset := 16 }, { name := "Volume", type := 3, offset := 2, embedded := false, tag := "", pkgPath := "", byteOffset := 24 }], size := 3, bytes := 32, zero := .agg #[.string ⟨#[]⟩, .int .i64 0, .int .i64 0], τ := .pair (.str) (.pair (.int .i64) (.int .i64)), eq := true }
theorem tk30 : ti30.ok Tryz.prog := ⟨Tryz.underlying30, by kernel_rfl, fun _ => ⟨Tryz.eqGuardType30, Tryz.stoodInHeld30⟩⟩
def ti32 : TI := { t := 32, desc := .struct #[{ name := "Kind", type := 3, offset := 0, embedded := false, tag := "", pkgPath := "", byteOffset := 0 }, { name := "Values", type := 23, offset := 1, embedded := false, tag := "", pkgPath := "", byteOffset := 8 }, { name := "Step", type := 28, offset := 2, embedded := false, tag := "", pkgPath := "", byteOffset := 32 }, { name := "Entry", type := 30, offset := 9, embedded := false, tag := "", pkgPath := "", byteOffset := 104 }], size := 12, bytes := 136, zero := .agg #[.int .i64 0, .slice none 0 0, .int .i64 0, .int .i64 0, .int .i64 0, .int .i64 0, .int .i64 0, .slice none 0 0, .int .i64 0, .string ⟨#[]⟩, .int .i64 0, .int .i64 0], τ := .pair (.int .i64) (.pair (.sl (.int .i64)) (.pair (.pair (.int .i64) (.pair (.int .i64) (.pair (.int .i64) (.pair (.int .i64) (.pair (.int .i64) (.pair (.sl (.pair (.int .i64) (.bool))) (.int .i64))))))) (.pair (.str) (.pair (.int .i64) (.int .i64))))), eq := true }
theorem tk32 : ti32.ok Tryz.prog := ⟨Tryz.underlying32, by kernel_rfl, fun _ => ⟨Tryz.eqGuardType32, Tryz.stoodInHeld32⟩⟩
def ti45 : TI := { t := 45, desc := .slice 9, size := 1, bytes := 24, zero := .slice none 0 0, τ := .sl (.str), eq := false }
theorem tk45 : ti45.ok Tryz.prog := ⟨Tryz.underlying45, by kernel_rfl, fun h => by cases h⟩
def ti46 : TI := { t := 46, desc := .slice 106, size := 1, bytes := 24, zero := .slice none 0 0, τ := .sl (.pair (.str) tT3), eq := false }
theorem tk46 : ti46.ok Tryz.prog := ⟨Tryz.underlying46, by kernel_rfl, fun h => by cases h⟩
def ti47 : TI := { t := 47, desc := .slice 108, size := 1, bytes := 24, zero := .slice none 0 0, τ := .sl (.pair (.str) (.pair (.int .i64) (.int .i64))), eq := false }
theorem tk47 : ti47.ok Tryz.prog := ⟨Tryz.underlying47, by kernel_rfl, fun h => by cases h⟩
def ti48 : TI := { t := 48, desc := .slice 132, size := 1, bytes := 24, zero := .slice none 0 0, τ := .sl tT2, eq := false }
theorem tk48 : ti48.ok Tryz.prog := ⟨Tryz.underlying48, by kernel_rfl, fun h => by cases h⟩
def ti50 : TI := { t := 50, desc := .struct #[{ name := "Nodes", type := 45, offset := 0, embedded := false, tag := "", pkgPath := "", byteOffset := 0 }, { name := "Segments", type := 46, offset := 1, embedded := false, tag := "", pkgPath := "", byteOffset := 24 }, { name := "Ports", type := 47, offset := 2, embedded := false, tag := "", pkgPath := "", byteOffset := 48 }, { name := "Stations", type := 48, offset := 3, embedded := false, tag := "", pkgPath := "", byteOffset := 72 }, { name := "Vapour", type := 3, offset := 4, embedded := false, tag := "", pkgPath := "", byteOffset := 96 }, { name := "Settle", type := 3, offset := 5, embedded := false, tag := "", pkgPath := "", byteOffset := 104 }], size := 6, bytes := 112, zero := .agg #[.slice none 0 0, .slice none 0 0, .slice none 0 0, .slice none 0 0, .int .i64 0, .int .i64 0], τ := .pair (.sl (.str)) tT0, eq := true }
theorem tk50 : ti50.ok Tryz.prog := ⟨Tryz.underlying50, by kernel_rfl, fun _ => ⟨Tryz.eqGuardType50, Tryz.stoodInHeld50⟩⟩
def ti52 : TI := { t := 52, desc := .slice 152, size := 1, bytes := 24, zero := .slice none 0 0, τ := .sl tT4, eq := false }
theorem tk52 : ti52.ok Tryz.prog := ⟨Tryz.underlying52, by kernel_rfl, fun h => by cases h⟩
def ti53 : TI := { t := 53, desc := .slice 4, size := 1, bytes := 24, zero := .slice none 0 0, τ := .sl (.bool), eq := false }
theorem tk53 : ti53.ok Tryz.prog := ⟨Tryz.underlying53, by kernel_rfl, fun h => by cases h⟩
def ti55 : TI := { t := 55, desc := .struct #[{ name := "Rates", type := 23, offset := 0, embedded := false, tag := "", pkgPath := "", byteOffset := 0 }, { name := "Ports", type := 23, offset := 1, embedded := false, tag := "", pkgPath := "", byteOffset := 24 }, { name := "Pumps", type := 53, offset := 2, embedded := false, tag := "", pkgPath := "", byteOffset := 48 }], size := 3, bytes := 72, zero := .agg #[.slice none 0 0, .slice none 0 0, .slice none 0 0], τ := .pair (.sl (.int .i64)) (.pair (.sl (.int .i64)) (.sl (.bool))), eq := true }
theorem tk55 : ti55.ok Tryz.prog := ⟨Tryz.underlying55, by kernel_rfl, fun _ => ⟨Tryz.eqGuardType55, Tryz.stoodInHeld55⟩⟩
def ti57 : TI := { t := 57, desc := .struct #[{ name := "Valves", type := 52, offset := 0, embedded := false, tag := "", pkgPath := "", byteOffset := 0 }, { name := "Plan", type := 55, offset := 1, embedded := false, tag := "", pkgPath := "", byteOffset := 24 }], size := 4, bytes := 96, zero := .agg #[.slice none 0 0, .slice none 0 0, .slice none 0 0, .slice none 0 0], τ := .pair (.sl tT4) (.pair (.sl (.int .i64)) (.pair (.sl (.int .i64)) (.sl (.bool)))), eq := true }
theorem tk57 : ti57.ok Tryz.prog := ⟨Tryz.underlying57, by kernel_rfl, fun _ => ⟨Tryz.eqGuardType57, Tryz.stoodInHeld57⟩⟩
def ti58 : TI := { t := 58, desc := .slice 97, size := 1, bytes := 24, zero := .slice none 0 0, τ := .sl tT1, eq := false }
theorem tk58 : ti58.ok Tryz.prog := ⟨Tryz.underlying58, by kernel_rfl, fun h => by cases h⟩
def ti59 : TI := { t := 59, desc := .slice 110, size := 1, bytes := 24, zero := .slice none 0 0, τ := .sl tT2, eq := false }
theorem tk59 : ti59.ok Tryz.prog := ⟨Tryz.underlying59, by kernel_rfl, fun h => by cases h⟩
def ti61 : TI := { t := 61, desc := .struct #[{ name := "Desk", type := 57, offset := 0, embedded := false, tag := "", pkgPath := "", byteOffset := 0 }, { name := "Stations", type := 58, offset := 4, embedded := false, tag := "", pkgPath := "", byteOffset := 96 }, { name := "Accounts", type := 59, offset := 5, embedded := false, tag := "", pkgPath := "", byteOffset := 120 }, { name := "Count", type := 3, offset := 6, embedded := false, tag := "", pkgPath := "", byteOffset := 144 }], size := 7, bytes := 152, zero := .agg #[.slice none 0 0, .slice none 0 0, .slice none 0 0, .slice none 0 0, .slice none 0 0, .slice none 0 0, .int .i64 0], τ := .pair (.pair (.sl tT4) (.pair (.sl (.int .i64)) (.pair (.sl (.int .i64)) (.sl (.bool))))) (.pair (.sl tT1) (.pair (.sl tT2) (.int .i64))), eq := true }
theorem tk61 : ti61.ok Tryz.prog := ⟨Tryz.underlying61, by kernel_rfl, fun _ => ⟨Tryz.eqGuardType61, Tryz.stoodInHeld61⟩⟩
def ti65 : TI := { t := 65, desc := .struct #[{ name := "Bytes", type := 22, offset := 0, embedded := false, tag := "", pkgPath := "", byteOffset := 0 }, { name := "Pending", type := 22, offset := 1, embedded := false, tag := "", pkgPath := "", byteOffset := 24 }], size := 2, bytes := 48, zero := .agg #[.slice none 0 0, .slice none 0 0], τ := .pair (.sl (.int .u8)) (.sl (.int .u8)), eq := true }
theorem tk65 : ti65.ok Tryz.prog := ⟨Tryz.underlying65, by kernel_rfl, fun _ => ⟨Tryz.eqGuardType65, Tryz.stoodInHeld65⟩⟩
def ti97 : TI := { t := 97, desc := .struct #[{ name := "Station", type := 3, offset := 0, embedded := false, tag := "", pkgPath := "", byteOffset := 0 }, { name := "Epoch", type := 3, offset := 1, embedded := false, tag := "", pkgPath := "", byteOffset := 8 }, { name := "Seq", type := 3, offset := 2, embedded := false, tag := "", pkgPath := "", byteOffset := 16 }, { name := "Time", type := 3, offset := 3, embedded := false, tag := "", pkgPath := "", byteOffset := 24 }, { name := "Kind", type := 3, offset := 4, embedded := false, tag := "", pkgPath := "", byteOffset := 32 }, { name := "Values", type := 23, offset := 5, embedded := false, tag := "", pkgPath := "", byteOffset := 40 }], size := 6, bytes := 64, zero := .agg #[.int .i64 0, .int .i64 0, .int .i64 0, .int .i64 0, .int .i64 0, .slice none 0 0], τ := .pair (.int .i64) (.pair (.int .i64) (.pair (.int .i64) (.pair (.int .i64) (.pair (.int .i64) (.sl (.int .i64)))))), eq := true }
theorem tk97 : ti97.ok Tryz.prog := ⟨Tryz.underlying97, by kernel_rfl, fun _ => ⟨Tryz.eqGuardType97, Tryz.stoodInHeld97⟩⟩
def ti103 : TI := { t := 103, desc := .struct #[{ name := "At", type := 3, offset := 0, embedded := false, tag := "", pkgPath := "", byteOffset := 0 }, { name := "Height", type := 3, offset := 1, embedded := false, tag := "", pkgPath := "", byteOffset := 8 }, { name := "Limit", type := 3, offset := 2, embedded := false, tag := "", pkgPath := "", byteOffset := 16 }], size := 3, bytes := 24, zero := .agg #[.int .i64 0, .int .i64 0, .int .i64 0], τ := .pair (.int .i64) (.pair (.int .i64) (.int .i64)), eq := true }
theorem tk103 : ti103.ok Tryz.prog := ⟨Tryz.underlying103, by kernel_rfl, fun _ => ⟨Tryz.eqGuardType103, Tryz.stoodInHeld103⟩⟩
def ti104 : TI := { t := 104, desc := .slice 103, size := 1, bytes := 24, zero := .slice none 0 0, τ := .sl (.pair (.int .i64) (.pair (.int .i64) (.int .i64))), eq := false }
theorem tk104 : ti104.ok Tryz.prog := ⟨Tryz.underlying104, by kernel_rfl, fun h => by cases h⟩
def ti106 : TI := { t := 106, desc := .struct #[{ name := "Name", type := 9, offset := 0, embedded := false, tag := "", pkgPath := "", byteOffset := 0 }, { name := "From", type := 3, offset := 1, embedded := false, tag := "", pkgPath := "", byteOffset := 16 }, { name := "To", type := 3, offset := 2, embedded := false, tag := "", pkgPath := "", byteOffset := 24 }, { name := "Capacity", type := 3, offset := 3, embedded := false, tag := "", pkgPath := "", byteOffset := 32 }, { name := "Resist", type := 3, offset := 4, embedded := false, tag := "", pkgPath := "", byteOffset := 40 }, { name := "Wave", type := 3, offset := 5, embedded := false, tag := "", pkgPath := "", byteOffset := 48 }, { name := "Points", type := 104, offset := 6, embedded := false, tag := "", pkgPath := "", byteOffset := 56 }], size := 7, bytes := 80, zero := .agg #[.string ⟨#[]⟩, .int .i64 0, .int .i64 0, .int .i64 0, .int .i64 0, .int .i64 0, .slice none 0 0], τ := .pair (.str) tT3, eq := true }
theorem tk106 : ti106.ok Tryz.prog := ⟨Tryz.underlying106, by kernel_rfl, fun _ => ⟨Tryz.eqGuardType106, Tryz.stoodInHeld106⟩⟩
def ti108 : TI := { t := 108, desc := .struct #[{ name := "Name", type := 9, offset := 0, embedded := false, tag := "", pkgPath := "", byteOffset := 0 }, { name := "Node", type := 3, offset := 1, embedded := false, tag := "", pkgPath := "", byteOffset := 16 }, { name := "Pressure", type := 3, offset := 2, embedded := false, tag := "", pkgPath := "", byteOffset := 24 }], size := 3, bytes := 32, zero := .agg #[.string ⟨#[]⟩, .int .i64 0, .int .i64 0], τ := .pair (.str) (.pair (.int .i64) (.int .i64)), eq := true }
theorem tk108 : ti108.ok Tryz.prog := ⟨Tryz.underlying108, by kernel_rfl, fun _ => ⟨Tryz.eqGuardType108, Tryz.stoodInHeld108⟩⟩
def ti110 : TI := { t := 110, desc := .struct #[{ name := "Shipper", type := 9, offset := 0, embedded := false, tag := "", pkgPath := "", byteOffset := 0 }, { name := "Received", type := 3, offset := 1, embedded := false, tag := "", pkgPath := "", byteOffset := 16 }, { name := "Delivered", type := 3, offset := 2, embedded := false, tag := "", pkgPath := "", byteOffset := 24 }, { name := "Slop", type := 3, offset := 3, embedded := false, tag := "", pkgPath := "", byteOffset := 32 }, { name := "Shared", type := 3, offset := 4, embedded := false, tag := "", pkgPath := "", byteOffset := 40 }], size := 5, bytes := 48, zero := .agg #[.string ⟨#[]⟩, .int .i64 0, .int .i64 0, .int .i64 0, .int .i64 0], τ := .pair (.str) (.pair (.int .i64) (.pair (.int .i64) (.pair (.int .i64) (.int .i64)))), eq := true }
theorem tk110 : ti110.ok Tryz.prog := ⟨Tryz.underlying110, by kernel_rfl, fun _ => ⟨Tryz.eqGuardType110, Tryz.stoodInHeld110⟩⟩
def ti114 : TI := { t := 114, desc := .struct #[{ name := "Segment", type := 3, offset := 0, embedded := false, tag := "", pkgPath := "", byteOffset := 0 }, { name := "Back", type := 4, offset := 1, embedded := false, tag := "", pkgPath := "", byteOffset := 8 }], size := 2, bytes := 16, zero := .agg #[.int .i64 0, .bool false], τ := .pair (.int .i64) (.bool), eq := true }
theorem tk114 : ti114.ok Tryz.prog := ⟨Tryz.underlying114, by kernel_rfl, fun _ => ⟨Tryz.eqGuardType114, Tryz.stoodInHeld114⟩⟩
def ti118 : TI := { t := 118, desc := .struct #[{ name := "b", type := 22, offset := 0, embedded := false, tag := "", pkgPath := "batchline/centre", byteOffset := 0 }, { name := "at", type := 3, offset := 1, embedded := false, tag := "", pkgPath := "batchline/centre", byteOffset := 24 }, { name := "failed", type := 4, offset := 2, embedded := false, tag := "", pkgPath := "batchline/centre", byteOffset := 32 }], size := 3, bytes := 40, zero := .agg #[.slice none 0 0, .int .i64 0, .bool false], τ := .pair (.sl (.int .u8)) (.pair (.int .i64) (.bool)), eq := true }
theorem tk118 : ti118.ok Tryz.prog := ⟨Tryz.underlying118, by kernel_rfl, fun _ => ⟨Tryz.eqGuardType118, Tryz.stoodInHeld118⟩⟩
def ti128 : TI := { t := 128, desc := .struct #[{ name := "L", type := 23, offset := 0, embedded := false, tag := "", pkgPath := "", byteOffset := 0 }, { name := "At", type := 3, offset := 1, embedded := false, tag := "", pkgPath := "", byteOffset := 24 }], size := 2, bytes := 32, zero := .agg #[.slice none 0 0, .int .i64 0], τ := .pair (.sl (.int .i64)) (.int .i64), eq := true }
theorem tk128 : ti128.ok Tryz.prog := ⟨Tryz.underlying128, by kernel_rfl, fun _ => ⟨Tryz.eqGuardType128, Tryz.stoodInHeld128⟩⟩
def ti132 : TI := { t := 132, desc := .struct #[{ name := "Name", type := 9, offset := 0, embedded := false, tag := "", pkgPath := "", byteOffset := 0 }, { name := "Node", type := 3, offset := 1, embedded := false, tag := "", pkgPath := "", byteOffset := 16 }, { name := "Head", type := 3, offset := 2, embedded := false, tag := "", pkgPath := "", byteOffset := 24 }, { name := "Fall", type := 3, offset := 3, embedded := false, tag := "", pkgPath := "", byteOffset := 32 }, { name := "Suction", type := 3, offset := 4, embedded := false, tag := "", pkgPath := "", byteOffset := 40 }], size := 5, bytes := 48, zero := .agg #[.string ⟨#[]⟩, .int .i64 0, .int .i64 0, .int .i64 0, .int .i64 0], τ := .pair (.str) (.pair (.int .i64) (.pair (.int .i64) (.pair (.int .i64) (.int .i64)))), eq := true }
theorem tk132 : ti132.ok Tryz.prog := ⟨Tryz.underlying132, by kernel_rfl, fun _ => ⟨Tryz.eqGuardType132, Tryz.stoodInHeld132⟩⟩
def ti138 : TI := { t := 138, desc := .slice 22, size := 1, bytes := 24, zero := .slice none 0 0, τ := .sl (.sl (.int .u8)), eq := false }
theorem tk138 : ti138.ok Tryz.prog := ⟨Tryz.underlying138, by kernel_rfl, fun h => by cases h⟩
def ti152 : TI := { t := 152, desc := .struct #[{ name := "Travel", type := 3, offset := 0, embedded := false, tag := "", pkgPath := "", byteOffset := 0 }, { name := "Open", type := 3, offset := 1, embedded := false, tag := "", pkgPath := "", byteOffset := 8 }, { name := "Want", type := 4, offset := 2, embedded := false, tag := "", pkgPath := "", byteOffset := 16 }, { name := "Stuck", type := 4, offset := 3, embedded := false, tag := "", pkgPath := "", byteOffset := 17 }], size := 4, bytes := 24, zero := .agg #[.int .i64 0, .int .i64 0, .bool false, .bool false], τ := .pair (.int .i64) (.pair (.int .i64) (.pair (.bool) (.bool))), eq := true }
theorem tk152 : ti152.ok Tryz.prog := ⟨Tryz.underlying152, by kernel_rfl, fun _ => ⟨Tryz.eqGuardType152, Tryz.stoodInHeld152⟩⟩
def ti155 : TI := { t := 155, desc := .func #[50, 158, 32] #[34] false, size := 1, bytes := 8, zero := .nilFunc, τ := .fnl [76, 77, 78], eq := false }
theorem tk155 : ti155.ok Tryz.prog := ⟨Tryz.underlying155, by kernel_rfl, fun h => by cases h⟩
def ti156 : TI := { t := 156, desc := .map 3 155, size := 1, bytes := 8, zero := .map none, τ := .unit, eq := false }
theorem tk156 : ti156.ok Tryz.prog := ⟨Tryz.underlying156, by kernel_rfl, fun h => by cases h⟩
def ti167 : TI := { t := 167, desc := .int .u64, size := 1, bytes := 8, zero := .int .u64 0, τ := .int .u64, eq := false }
theorem tk167 : ti167.ok Tryz.prog := ⟨Tryz.underlying167, by kernel_rfl, fun h => by cases h⟩
def ti168 : TI := { t := 168, desc := .int .u64, size := 1, bytes := 8, zero := .int .u64 0, τ := .int .u64, eq := false }
theorem tk168 : ti168.ok Tryz.prog := ⟨Tryz.underlying168, by kernel_rfl, fun h => by cases h⟩
def ti183 : TI := { t := 183, desc := .array 4 45, size := 4, bytes := 96, zero := .agg #[.slice none 0 0, .slice none 0 0, .slice none 0 0, .slice none 0 0], τ := .pair (.sl (.str)) (.pair (.sl (.str)) (.pair (.sl (.str)) (.sl (.str)))), eq := false }
theorem tk183 : ti183.ok Tryz.prog := ⟨Tryz.underlying183, by kernel_rfl, fun h => by cases h⟩
def ti245 : TI := { t := 245, desc := .int .u32, size := 1, bytes := 4, zero := .int .u32 0, τ := .int .u32, eq := false }
theorem tk245 : ti245.ok Tryz.prog := ⟨Tryz.underlying245, by kernel_rfl, fun h => by cases h⟩
def types : List TI := [ti3, ti4, ti5, ti9, ti22, ti23, ti24, ti26, ti28, ti30, ti32, ti45, ti46, ti47, ti48, ti50, ti52, ti53, ti55, ti57, ti58, ti59, ti61, ti65, ti97, ti103, ti104, ti106, ti108, ti110, ti114, ti118, ti128, ti132, ti138, ti152, ti155, ti156, ti167, ti168, ti183, ti245]
theorem types_ok : Tys Tryz.prog types := ⟨tk3, tk4, tk5, tk9, tk22, tk23, tk24, tk26, tk28, tk30, tk32, tk45, tk46, tk47, tk48, tk50, tk52, tk53, tk55, tk57, tk58, tk59, tk61, tk65, tk97, tk103, tk104, tk106, tk108, tk110, tk114, tk118, tk128, tk132, tk138, tk152, tk155, tk156, tk167, tk168, tk183, tk245, trivial⟩
def xt251 : Ext := extCmp 251
theorem xk251 : ExtOk Tryz.prog xt251 := extCmp_ok Tryz.func251 (by kernel_rfl) (by kernel_rfl) (by kernel_rfl) (by kernel_rfl)
theorem mx : Tryz.prog.follows .mixedOrders = true := by kernel_rfl

abbrev kk : Sh := .one .keep
abbrev ii : Sh := .one (.data (.int .i64))
abbrev bb : Sh := .one (.data .bool)
abbrev ss : Sh := .one (.data .str)
abbrev nn (r : Plan) : Plan := .mk [] none .nil r
abbrev mm (l r : Plan) : Plan := .mk [] none l r
noncomputable def second_Few (l : List Int) : Option (Bool) :=
 some (decide ((l.length : Int) ≤ 400))

noncomputable def fn_second_Few : Fun :=
 ⟨15, 1, 1,
 ⟨[(0, .one (.data (.sl (.int .i64))))], [], []⟩,
 ⟨[(0, bb)], [], []⟩,
 fun x => second_Few x⟩
noncomputable def cx_second_Few : Cx := ⟨types, [], [], 6, []⟩
theorem ok_second_Few : FunOk Tryz.prog fn_second_Few :=
 FunOk.intro (C := cx_second_Few) (p := .nil)
  Tryz.func15 rfl (by kernel_rfl) rfl rfl rfl rfl types_ok ⟨trivial, trivial⟩ mx (fun x => by kernel_rfl)

noncomputable def slices_IndexFunc_api_Segment_api_Segment_L0 (s : List yT0) (f : yT0 × Unit → Option Bool) (v : Int) : Option (Int ⊕ (Unit ⊕ Int)) :=
 bif decide (v < (s.length : Int)) then (
 gd (inB v s.length) <|
 (f (s.getD v.toNat ([], (0, (0, (0, (0, (0, [])))))), ())).bind fun r =>
 bif r then (
 some (.inr (.inr v)))
 else (
 some (.inl (wi64 (v + 1)))))
 else (
 some (.inr (.inl ())))

noncomputable def slices_IndexFunc_api_Segment_api_Segment (s : List yT0) (f : yT0 × Unit → Option Bool) : Option (Int) :=
 (iter (fun x => slices_IndexFunc_api_Segment_api_Segment_L0 s f x) 0).bind fun s2 =>
 s2.elim (fun s3 =>
 some (-1))
 (fun s4 =>
 some s4)

noncomputable def fn_slices_IndexFunc_api_Segment_api_Segment : Fun :=
 ⟨224, 2, 1,
 ⟨[(0, .one (.data (.sl (.pair (.str) tT3)))), (1, .one (.fn [.pair (.str) tT3] (.bool)))], [], []⟩,
 ⟨[(0, ii)], [], []⟩,
 fun x => slices_IndexFunc_api_Segment_api_Segment x.1 x.2⟩
noncomputable def cx_slices_IndexFunc_api_Segment_api_Segment : Cx := ⟨types, [], [], 19, []⟩
theorem ok_slices_IndexFunc_api_Segment_api_Segment : FunOk Tryz.prog fn_slices_IndexFunc_api_Segment_api_Segment :=
 FunOk.intro (C := cx_slices_IndexFunc_api_Segment_api_Segment) (p := (nn (mm (nn (mm (.mk [] (some (⟨[(0, kk), (1, kk), (7, kk), (8, ii)], [], []⟩, [⟨.x 0, ⟨[], [], []⟩⟩, ⟨.r, ⟨[(4, ii)], [], []⟩⟩])) .nil .nil) .nil)) .nil)))
  Tryz.func224 rfl (by kernel_rfl) rfl rfl rfl rfl types_ok ⟨trivial, trivial⟩ mx (fun x => by kernel_rfl)

noncomputable def slices_ContainsFunc_api_Segment_api_Segment (s : List yT0) (f : yT0 × Unit → Option Bool) : Option (Bool) :=
 (slices_IndexFunc_api_Segment_api_Segment s f).bind fun r =>
 some (decide (0 ≤ r))

noncomputable def fn_slices_ContainsFunc_api_Segment_api_Segment : Fun :=
 ⟨183, 2, 1,
 ⟨[(0, .one (.data (.sl (.pair (.str) tT3)))), (1, .one (.fn [.pair (.str) tT3] (.bool)))], [], []⟩,
 ⟨[(0, bb)], [], []⟩,
 fun x => slices_ContainsFunc_api_Segment_api_Segment x.1 x.2⟩
noncomputable def cx_slices_ContainsFunc_api_Segment_api_Segment : Cx := ⟨types, [], [fn_slices_IndexFunc_api_Segment_api_Segment], 9, []⟩
theorem ok_slices_ContainsFunc_api_Segment_api_Segment : FunOk Tryz.prog fn_slices_ContainsFunc_api_Segment_api_Segment :=
 FunOk.intro (C := cx_slices_ContainsFunc_api_Segment_api_Segment) (p := .nil)
  Tryz.func183 rfl (by kernel_rfl) rfl rfl rfl rfl types_ok ⟨⟨ok_slices_IndexFunc_api_Segment_api_Segment, trivial⟩, trivial⟩ mx (fun x => by kernel_rfl)

noncomputable def network_limits_1 (s : List UInt8 × Int × Int × Int × Int × Int × List (Int × Int × Int)) : Option (Bool) :=
 bif decide ((s.2.2.2.2.2.2.length : Int) < 2) then (
 some true)
 else (
 some (decide (8 < (s.2.2.2.2.2.2.length : Int))))

noncomputable def fn_network_limits_1 : Fun :=
 ⟨184, 1, 1,
 ⟨[(0, .one (.data (.pair (.str) tT3)))], [], []⟩,
 ⟨[(0, bb)], [], []⟩,
 fun x => network_limits_1 x⟩
noncomputable def cx_network_limits_1 : Cx := ⟨types, [], [], 13, []⟩
theorem ok_network_limits_1 : FunOk Tryz.prog fn_network_limits_1 :=
 FunOk.intro (C := cx_network_limits_1) (p := .nil)
  Tryz.func184 rfl (by kernel_rfl) rfl rfl rfl rfl types_ok ⟨trivial, trivial⟩ mx (fun x => by kernel_rfl)

noncomputable def network_limits (n : List (List UInt8) × List yT0 × List (List UInt8 × Int × Int) × List (List UInt8 × Int × Int × Int × Int) × Int × Int) : Option (Bool) :=
 Option.bind (α := Bool) (
 bif decide ((n.1.length : Int) < 1) then (
 some true)
 else (
 bif decide (24 < (n.1.length : Int)) then (
 some true)
 else (
 bif decide (32 < (n.2.1.length : Int)) then (
 some true)
 else (
 bif decide (24 < (n.2.2.1.length : Int)) then (
 some true)
 else (
 some (decide (12 < (n.2.2.2.1.length : Int)))))))) fun s =>
 bif s then (
 some false)
 else (
 (slices_ContainsFunc_api_Segment_api_Segment n.2.1 (fun h => (network_limits_1 h.1).bind fun y => some y)).bind fun r =>
 some (!r))

noncomputable def fn_network_limits : Fun :=
 ⟨144, 1, 1,
 ⟨[(0, .one (.data (.pair (.sl (.str)) tT0)))], [], []⟩,
 ⟨[(0, bb)], [], []⟩,
 fun x => network_limits x⟩
noncomputable def cx_network_limits : Cx := ⟨types, [], [fn_slices_ContainsFunc_api_Segment_api_Segment, fn_network_limits_1], 35, []⟩
theorem ok_network_limits : FunOk Tryz.prog fn_network_limits :=
 FunOk.intro (C := cx_network_limits) (p := (nn (mm (mm (.mk [.join [⟨.n, ⟨[(1, .one (.ptr 32 0)), (30, bb)], [(32, 50, [.keep, .keep, .keep, .keep, .keep, .keep])], []⟩⟩]] none .nil .nil) .nil) .nil)))
  Tryz.func144 rfl (by kernel_rfl) rfl rfl rfl rfl types_ok ⟨⟨ok_slices_ContainsFunc_api_Segment_api_Segment, ok_network_limits_1, trivial⟩, trivial⟩ mx (fun x => by kernel_rfl)

noncomputable def network_names_L0 (n : List (List UInt8) × List yT0 × List (List UInt8 × Int × Int) × List (List UInt8 × Int × Int × Int × Int) × Int × Int) (v : Int) (out : List (List UInt8)) : Option ((Int × List (List UInt8)) ⊕ (List (List UInt8))) :=
 bif decide (v < (n.2.1.length : Int)) then (
 gd (inB v n.2.1.length) <|
 gd (fits (out.length + 1) 16) <|
 some (.inl (wi64 (v + 1), out ++ [(n.2.1.getD v.toNat ([], (0, (0, (0, (0, (0, []))))))).1])))
 else (
 some (.inr out))

noncomputable def network_names_L1 (n : List (List UInt8) × List yT0 × List (List UInt8 × Int × Int) × List (List UInt8 × Int × Int × Int × Int) × Int × Int) (v2 : Int) (out2 : List (List UInt8)) (out3 : List (List UInt8)) : Option ((Int × List (List UInt8) × List (List UInt8)) ⊕ (List (List UInt8) × List (List UInt8))) :=
 bif decide (v2 < (n.2.2.1.length : Int)) then (
 gd (inB v2 n.2.2.1.length) <|
 gd (fits (out3.length + 1) 16) <|
 some (.inl (wi64 (v2 + 1), out2, out3 ++ [(n.2.2.1.getD v2.toNat ([], (0, 0))).1])))
 else (
 some (.inr (out2, out3)))

noncomputable def network_names_L2 (n : List (List UInt8) × List yT0 × List (List UInt8 × Int × Int) × List (List UInt8 × Int × Int × Int × Int) × Int × Int) (v3 : Int) (out4 : List (List UInt8)) (out5 : List (List UInt8)) (out6 : List (List UInt8)) : Option ((Int × List (List UInt8) × List (List UInt8) × List (List UInt8)) ⊕ (List (List UInt8) × List (List UInt8) × List (List UInt8))) :=
 bif decide (v3 < (n.2.2.2.1.length : Int)) then (
 gd (inB v3 n.2.2.2.1.length) <|
 gd (fits (out6.length + 1) 16) <|
 some (.inl (wi64 (v3 + 1), out4, out5, out6 ++ [(n.2.2.2.1.getD v3.toNat ([], (0, (0, (0, 0))))).1])))
 else (
 some (.inr (out4, out5, out6)))

noncomputable def network_names (n : List (List UInt8) × List yT0 × List (List UInt8 × Int × Int) × List (List UInt8 × Int × Int × Int × Int) × Int × Int) : Option (List (List UInt8) × List (List UInt8) × List (List UInt8) × List (List UInt8)) :=
 (iter (fun x => network_names_L0 n x.1 x.2) (0, [])).bind fun s =>
 (iter (fun x2 => network_names_L1 n x2.1 x2.2.1 x2.2.2) (0, s, [])).bind fun s2 =>
 (iter (fun x3 => network_names_L2 n x3.1 x3.2.1 x3.2.2.1 x3.2.2.2) (0, s2.1, s2.2, [])).bind fun s3 =>
 some (n.1, (s3.1, (s3.2.1, s3.2.2)))

noncomputable def fn_network_names : Fun :=
 ⟨145, 1, 1,
 ⟨[(0, .one (.data (.pair (.sl (.str)) tT0)))], [], []⟩,
 ⟨[(0, .one (.data (.pair (.sl (.str)) (.pair (.sl (.str)) (.pair (.sl (.str)) (.sl (.str)))))))], [], []⟩,
 fun x => network_names x⟩
noncomputable def cx_network_names : Cx := ⟨types, [], [], 59, []⟩
theorem ok_network_names : FunOk Tryz.prog fn_network_names :=
 FunOk.intro (C := cx_network_names) (p := (nn (nn (nn (mm (nn (mm (.mk [] (some (⟨[(1, .one (.ptr 32 0)), (2, .one (.ptr 48 0)), (3, .one (.ptr 64 0)), (14, kk), (15, kk), (16, ii)], [(32, 50, [.keep, .keep, .keep, .keep, .keep, .keep]), (48, 183, [.keep, .keep, .keep, .keep]), (64, 183, [.keep, .own 1065, .keep, .keep])], [(1065, .arr 9 (.str))]⟩, [⟨.x 0, ⟨[(1, .one (.ptr 32 0)), (2, .one (.ptr 48 0)), (3, .one (.ptr 64 0))], [(32, 50, [.keep, .keep, .keep, .keep, .keep, .keep]), (48, 183, [.keep, .keep, .keep, .keep]), (64, 183, [.keep, .own 1065, .keep, .keep])], [(1065, .arr 9 (.str))]⟩⟩])) .nil .nil) .nil)) (mm (nn (mm (.mk [] (some (⟨[(1, .one (.ptr 32 0)), (2, .one (.ptr 48 0)), (3, .one (.ptr 64 0)), (29, kk), (30, kk), (31, ii)], [(32, 50, [.keep, .keep, .keep, .keep, .keep, .keep]), (48, 183, [.keep, .keep, .keep, .keep]), (64, 183, [.keep, .own 1065, .own 1081, .keep])], [(1065, .arr 9 (.str)), (1081, .arr 9 (.str))]⟩, [⟨.x 2, ⟨[(1, .one (.ptr 32 0)), (2, .one (.ptr 48 0)), (3, .one (.ptr 64 0))], [(32, 50, [.keep, .keep, .keep, .keep, .keep, .keep]), (48, 183, [.keep, .keep, .keep, .keep]), (64, 183, [.keep, .own 1065, .own 1081, .keep])], [(1065, .arr 9 (.str)), (1081, .arr 9 (.str))]⟩⟩])) .nil .nil) .nil)) (mm (nn (mm (.mk [] (some (⟨[(2, .one (.ptr 48 0)), (3, .one (.ptr 64 0)), (44, kk), (45, kk), (46, ii)], [(48, 183, [.keep, .keep, .keep, .keep]), (64, 183, [.keep, .own 1065, .own 1081, .own 1097])], [(1065, .arr 9 (.str)), (1081, .arr 9 (.str)), (1097, .arr 9 (.str))]⟩, [⟨.x 4, ⟨[(2, .one (.ptr 48 0)), (3, .one (.ptr 64 0))], [(48, 183, [.keep, .keep, .keep, .keep]), (64, 183, [.keep, .own 1065, .own 1081, .own 1097])], [(1065, .arr 9 (.str)), (1081, .arr 9 (.str)), (1097, .arr 9 (.str))]⟩⟩])) .nil .nil) .nil)) .nil)))))))
  Tryz.func145 rfl (by kernel_rfl) rfl rfl rfl rfl types_ok ⟨trivial, trivial⟩ mx (fun x => by kernel_rfl)

noncomputable def slices_IndexFunc_string_string_L0 (s : List (List UInt8)) (f : List UInt8 × Unit → Option Bool) (v : Int) : Option (Int ⊕ (Unit ⊕ Int)) :=
 bif decide (v < (s.length : Int)) then (
 gd (inB v s.length) <|
 (f (s.getD v.toNat [], ())).bind fun r =>
 bif r then (
 some (.inr (.inr v)))
 else (
 some (.inl (wi64 (v + 1)))))
 else (
 some (.inr (.inl ())))

noncomputable def slices_IndexFunc_string_string (s : List (List UInt8)) (f : List UInt8 × Unit → Option Bool) : Option (Int) :=
 (iter (fun x => slices_IndexFunc_string_string_L0 s f x) 0).bind fun s2 =>
 s2.elim (fun s3 =>
 some (-1))
 (fun s4 =>
 some s4)

noncomputable def fn_slices_IndexFunc_string_string : Fun :=
 ⟨185, 2, 1,
 ⟨[(0, .one (.data (.sl (.str)))), (1, .one (.fn [.str] (.bool)))], [], []⟩,
 ⟨[(0, ii)], [], []⟩,
 fun x => slices_IndexFunc_string_string x.1 x.2⟩
noncomputable def cx_slices_IndexFunc_string_string : Cx := ⟨types, [], [], 19, []⟩
theorem ok_slices_IndexFunc_string_string : FunOk Tryz.prog fn_slices_IndexFunc_string_string :=
 FunOk.intro (C := cx_slices_IndexFunc_string_string) (p := (nn (mm (nn (mm (.mk [] (some (⟨[(0, kk), (1, kk), (7, kk), (8, ii)], [], []⟩, [⟨.x 0, ⟨[], [], []⟩⟩, ⟨.r, ⟨[(4, ii)], [], []⟩⟩])) .nil .nil) .nil)) .nil)))
  Tryz.func185 rfl (by kernel_rfl) rfl rfl rfl rfl types_ok ⟨trivial, trivial⟩ mx (fun x => by kernel_rfl)

noncomputable def slices_ContainsFunc_string_string (s : List (List UInt8)) (f : List UInt8 × Unit → Option Bool) : Option (Bool) :=
 (slices_IndexFunc_string_string s f).bind fun r =>
 some (decide (0 ≤ r))

noncomputable def fn_slices_ContainsFunc_string_string : Fun :=
 ⟨146, 2, 1,
 ⟨[(0, .one (.data (.sl (.str)))), (1, .one (.fn [.str] (.bool)))], [], []⟩,
 ⟨[(0, bb)], [], []⟩,
 fun x => slices_ContainsFunc_string_string x.1 x.2⟩
noncomputable def cx_slices_ContainsFunc_string_string : Cx := ⟨types, [], [fn_slices_IndexFunc_string_string], 9, []⟩
theorem ok_slices_ContainsFunc_string_string : FunOk Tryz.prog fn_slices_ContainsFunc_string_string :=
 FunOk.intro (C := cx_slices_ContainsFunc_string_string) (p := .nil)
  Tryz.func146 rfl (by kernel_rfl) rfl rfl rfl rfl types_ok ⟨⟨ok_slices_IndexFunc_string_string, trivial⟩, trivial⟩ mx (fun x => by kernel_rfl)

noncomputable def lines_place (c : Int) : Option (Int) :=
 Option.bind (α := Unit ⊕ Unit ⊕ Int) (
 Option.bind (α := Bool) (
 bif decide (97 ≤ c) then (
 some (decide (c ≤ 122)))
 else (
 some false)) fun s =>
 bif s then (
 some (.inr (.inr 1)))
 else (
 Option.bind (α := Bool) (
 bif decide (48 ≤ c) then (
 some (decide (c ≤ 57)))
 else (
 some false)) fun s2 =>
 bif s2 then (
 some (.inl ()))
 else (
 bif decide (c = 45) then (
 some (.inl ()))
 else (
 some (.inr (.inl ())))))) fun s3 =>
 s3.elim (fun s4 =>
 some 2)
 (fun s5 =>
 s5.elim (fun s6 =>
 some 0)
 (fun s7 =>
 some s7))

noncomputable def fn_lines_place : Fun :=
 ⟨186, 1, 1,
 ⟨[(0, .one (.data (.int .u8)))], [], []⟩,
 ⟨[(0, ii)], [], []⟩,
 fun x => lines_place x⟩
noncomputable def cx_lines_place : Cx := ⟨types, [], [], 20, []⟩
theorem ok_lines_place : FunOk Tryz.prog fn_lines_place :=
 FunOk.intro (C := cx_lines_place) (p := (nn (mm (mm (mm (.mk [.join [⟨.n, ⟨[], [], []⟩⟩, ⟨.x 0, ⟨[], [], []⟩⟩, ⟨.r, ⟨[(2, ii)], [], []⟩⟩]] none (mm (mm (mm (mm (mm (mm (.mk [.join [⟨.n, ⟨[(0, kk), (3, bb)], [], []⟩⟩]] none .nil .nil) .nil) (mm (mm (.mk [.join [⟨.n, ⟨[(0, kk), (10, bb)], [], []⟩⟩]] none .nil .nil) .nil) .nil)) .nil) .nil) .nil) .nil) .nil) .nil) .nil) .nil)))
  Tryz.func186 rfl (by kernel_rfl) rfl rfl rfl rfl types_ok ⟨trivial, trivial⟩ mx (fun x => by kernel_rfl)

noncomputable def lines_Name_L0 (s : List UInt8) (v : Int) : Option (Int ⊕ (Unit ⊕ Bool)) :=
 bif decide (v < (s.length : Int)) then (
 gd (inB v s.length) <|
 (lines_place (Int.ofNat (s.getD v.toNat 0).toNat)).bind fun r2 =>
 bif decide (r2 = 0) then (
 some (.inr (.inr false)))
 else (
 some (.inl (wi64 (v + 1)))))
 else (
 some (.inr (.inl ())))

noncomputable def lines_Name (s : List UInt8) : Option (Bool) :=
 Option.bind (α := Bool) (
 bif decide ((s.length : Int) < 1) then (
 some true)
 else (
 bif decide (12 < (s.length : Int)) then (
 some true)
 else (
 gd (inB 0 s.length) <|
 (lines_place (Int.ofNat (s.getD 0 0).toNat)).bind fun r =>
 some (!decide (r = 1))))) fun s2 =>
 bif s2 then (
 some false)
 else (
 (iter (fun x => lines_Name_L0 s x) 0).bind fun s3 =>
 s3.elim (fun s4 =>
 some true)
 (fun s5 =>
 some s5))

noncomputable def fn_lines_Name : Fun :=
 ⟨148, 1, 1,
 ⟨[(0, ss)], [], []⟩,
 ⟨[(0, bb)], [], []⟩,
 fun x => lines_Name x⟩
noncomputable def cx_lines_Name : Cx := ⟨types, [], [fn_lines_place], 29, []⟩
theorem ok_lines_Name : FunOk Tryz.prog fn_lines_Name :=
 FunOk.intro (C := cx_lines_Name) (p := (nn (mm (mm (.mk [.join [⟨.n, ⟨[(0, kk), (17, bb)], [], []⟩⟩]] none .nil .nil) .nil) (mm (nn (mm (.mk [] (some (⟨[(0, kk), (19, kk), (20, ii)], [], []⟩, [⟨.x 0, ⟨[], [], []⟩⟩, ⟨.r, ⟨[(2, bb)], [], []⟩⟩])) .nil .nil) .nil)) .nil))))
  Tryz.func148 rfl (by kernel_rfl) rfl rfl rfl rfl types_ok ⟨⟨ok_lines_place, trivial⟩, trivial⟩ mx (fun x => by kernel_rfl)

noncomputable def network_Check_1 (s : List UInt8) : Option (Bool) :=
 (lines_Name s).bind fun r =>
 some (!r)

noncomputable def fn_network_Check_1 : Fun :=
 ⟨147, 1, 1,
 ⟨[(0, ss)], [], []⟩,
 ⟨[(0, bb)], [], []⟩,
 fun x => network_Check_1 x⟩
noncomputable def cx_network_Check_1 : Cx := ⟨types, [], [fn_lines_Name], 6, []⟩
theorem ok_network_Check_1 : FunOk Tryz.prog fn_network_Check_1 :=
 FunOk.intro (C := cx_network_Check_1) (p := .nil)
  Tryz.func147 rfl (by kernel_rfl) rfl rfl rfl rfl types_ok ⟨⟨ok_lines_Name, trivial⟩, trivial⟩ mx (fun x => by kernel_rfl)

noncomputable def slices_Index_string_string_L0 (s : List (List UInt8)) (v : List UInt8) (v2 : Int) : Option (Int ⊕ (Unit ⊕ Int)) :=
 bif decide (v2 < (s.length : Int)) then (
 gd (inB v2 s.length) <|
 bif decide (v = s.getD v2.toNat []) then (
 some (.inr (.inr v2)))
 else (
 some (.inl (wi64 (v2 + 1)))))
 else (
 some (.inr (.inl ())))

noncomputable def slices_Index_string_string (s : List (List UInt8)) (v : List UInt8) : Option (Int) :=
 (iter (fun x => slices_Index_string_string_L0 s v x) 0).bind fun s2 =>
 s2.elim (fun s3 =>
 some (-1))
 (fun s4 =>
 some s4)

noncomputable def fn_slices_Index_string_string : Fun :=
 ⟨187, 2, 1,
 ⟨[(0, .one (.data (.sl (.str)))), (1, ss)], [], []⟩,
 ⟨[(0, ii)], [], []⟩,
 fun x => slices_Index_string_string x.1 x.2⟩
noncomputable def cx_slices_Index_string_string : Cx := ⟨types, [], [], 19, []⟩
theorem ok_slices_Index_string_string : FunOk Tryz.prog fn_slices_Index_string_string :=
 FunOk.intro (C := cx_slices_Index_string_string) (p := (nn (mm (nn (mm (.mk [] (some (⟨[(0, kk), (1, kk), (7, kk), (8, ii)], [], []⟩, [⟨.x 0, ⟨[], [], []⟩⟩, ⟨.r, ⟨[(4, ii)], [], []⟩⟩])) .nil .nil) .nil)) .nil)))
  Tryz.func187 rfl (by kernel_rfl) rfl rfl rfl rfl types_ok ⟨trivial, trivial⟩ mx (fun x => by kernel_rfl)

noncomputable def network_twice_1 (x : List UInt8 × Int × Int × Int × Int) (v : List UInt8 × Int × Int × Int × Int) : Option (Bool) :=
 some (decide (x.2.1 = v.2.1))

noncomputable def fn_network_twice_1 : Fun :=
 ⟨189, 2, 1,
 ⟨[(0, .one (.data tT2)), (1, .one (.sel tT2))], [], []⟩,
 ⟨[(0, bb)], [], []⟩,
 fun x => network_twice_1 x.1 x.2⟩
noncomputable def cx_network_twice_1 : Cx := ⟨types, [], [], 9, []⟩
theorem ok_network_twice_1 : FunOk Tryz.prog fn_network_twice_1 :=
 FunOk.intro (C := cx_network_twice_1) (p := .nil)
  Tryz.func189 rfl (by kernel_rfl) rfl rfl rfl rfl types_ok ⟨trivial, trivial⟩ mx (fun x => by kernel_rfl)

noncomputable def slices_IndexFunc_api_Station_api_Station_L0 (s : List (List UInt8 × Int × Int × Int × Int)) (f : (List UInt8 × Int × Int × Int × Int) × Unit → Option Bool) (v : Int) : Option (Int ⊕ (Unit ⊕ Int)) :=
 bif decide (v < (s.length : Int)) then (
 gd (inB v s.length) <|
 (f (s.getD v.toNat ([], (0, (0, (0, 0)))), ())).bind fun r =>
 bif r then (
 some (.inr (.inr v)))
 else (
 some (.inl (wi64 (v + 1)))))
 else (
 some (.inr (.inl ())))

noncomputable def slices_IndexFunc_api_Station_api_Station (s : List (List UInt8 × Int × Int × Int × Int)) (f : (List UInt8 × Int × Int × Int × Int) × Unit → Option Bool) : Option (Int) :=
 (iter (fun x => slices_IndexFunc_api_Station_api_Station_L0 s f x) 0).bind fun s2 =>
 s2.elim (fun s3 =>
 some (-1))
 (fun s4 =>
 some s4)

noncomputable def fn_slices_IndexFunc_api_Station_api_Station : Fun :=
 ⟨188, 2, 1,
 ⟨[(0, .one (.data (.sl tT2))), (1, .one (.fn [.pair (.str) (.pair (.int .i64) (.pair (.int .i64) (.pair (.int .i64) (.int .i64))))] (.bool)))], [], []⟩,
 ⟨[(0, ii)], [], []⟩,
 fun x => slices_IndexFunc_api_Station_api_Station x.1 x.2⟩
noncomputable def cx_slices_IndexFunc_api_Station_api_Station : Cx := ⟨types, [], [], 19, []⟩
theorem ok_slices_IndexFunc_api_Station_api_Station : FunOk Tryz.prog fn_slices_IndexFunc_api_Station_api_Station :=
 FunOk.intro (C := cx_slices_IndexFunc_api_Station_api_Station) (p := (nn (mm (nn (mm (.mk [] (some (⟨[(0, kk), (1, kk), (7, kk), (8, ii)], [], []⟩, [⟨.x 0, ⟨[], [], []⟩⟩, ⟨.r, ⟨[(4, ii)], [], []⟩⟩])) .nil .nil) .nil)) .nil)))
  Tryz.func188 rfl (by kernel_rfl) rfl rfl rfl rfl types_ok ⟨trivial, trivial⟩ mx (fun x => by kernel_rfl)

noncomputable def network_twice_L1 (r : List (List UInt8) × List (List UInt8) × List (List UInt8) × List (List UInt8)) (v : Int) (v2 : Int) : Option (Int ⊕ (Unit ⊕ Bool)) :=
 bif decide (v2 < (([r.1, r.2.1, r.2.2.1, r.2.2.2].getD v.toNat []).length : Int)) then (
 gd (inB v2 ([r.1, r.2.1, r.2.2.1, r.2.2.2].getD v.toNat []).length) <|
 (slices_Index_string_string ([r.1, r.2.1, r.2.2.1, r.2.2.2].getD v.toNat []) (([r.1, r.2.1, r.2.2.1, r.2.2.2].getD v.toNat []).getD v2.toNat [])).bind fun r2 =>
 bif decide (r2 < v2) then (
 some (.inr (.inr true)))
 else (
 some (.inl (wi64 (v2 + 1)))))
 else (
 some (.inr (.inl ())))

noncomputable def network_twice_L0 (r : List (List UInt8) × List (List UInt8) × List (List UInt8) × List (List UInt8)) (v : Int) : Option (Int ⊕ (Unit ⊕ Bool)) :=
 bif decide (v < 4) then (
 gd (inB v 4) <|
 (iter (fun x => network_twice_L1 r v x) 0).bind fun s =>
 s.elim (fun s2 =>
 some (.inl (wi64 (v + 1))))
 (fun s3 =>
 some (.inr (.inr s3))))
 else (
 some (.inr (.inl ())))

noncomputable def network_twice_L2 (n : List (List UInt8) × List yT0 × List (List UInt8 × Int × Int) × List (List UInt8 × Int × Int × Int × Int) × Int × Int) (v3 : Int) : Option (Int ⊕ (Unit ⊕ Bool)) :=
 bif decide (v3 < (n.2.2.2.1.length : Int)) then (
 gd (inB v3 n.2.2.2.1.length) <|
 (slices_IndexFunc_api_Station_api_Station n.2.2.2.1 (fun h => (network_twice_1 h.1 ((n.2.2.2.1.getD v3.toNat ([], (0, (0, (0, 0))))).1, (((n.2.2.2.1.getD v3.toNat ([], (0, (0, (0, 0))))).2).1, ((((n.2.2.2.1.getD v3.toNat ([], (0, (0, (0, 0))))).2).2).1, (((((n.2.2.2.1.getD v3.toNat ([], (0, (0, (0, 0))))).2).2).2).1, ((((n.2.2.2.1.getD v3.toNat ([], (0, (0, (0, 0))))).2).2).2).2))))).bind fun y => some y)).bind fun r3 =>
 bif decide (r3 < v3) then (
 some (.inr (.inr true)))
 else (
 some (.inl (wi64 (v3 + 1)))))
 else (
 some (.inr (.inl ())))

noncomputable def network_twice (n : List (List UInt8) × List yT0 × List (List UInt8 × Int × Int) × List (List UInt8 × Int × Int × Int × Int) × Int × Int) : Option (Bool) :=
 (network_names (n.1, (n.2.1, (n.2.2.1, (n.2.2.2.1, (n.2.2.2.2.1, n.2.2.2.2.2)))))).bind fun r =>
 (iter (fun x2 => network_twice_L0 r x2) 0).bind fun s4 =>
 s4.elim (fun s5 =>
 (iter (fun x3 => network_twice_L2 n x3) 0).bind fun s7 =>
 s7.elim (fun s8 =>
 some false)
 (fun s9 =>
 some s9))
 (fun s6 =>
 some s6)

noncomputable def fn_network_twice : Fun :=
 ⟨149, 1, 1,
 ⟨[(0, .one (.data (.pair (.sl (.str)) tT0)))], [], []⟩,
 ⟨[(0, bb)], [], []⟩,
 fun x => network_twice x⟩
noncomputable def cx_network_twice : Cx := ⟨types, [], [fn_network_names, fn_slices_Index_string_string, fn_slices_IndexFunc_api_Station_api_Station, fn_network_twice_1], 43, []⟩
theorem ok_network_twice : FunOk Tryz.prog fn_network_twice :=
 FunOk.intro (C := cx_network_twice) (p := (nn (mm (nn (mm (.mk [] (some (⟨[(1, .one (.ptr 32 0)), (10, kk), (11, ii)], [(32, 50, [.keep, .keep, .keep, .keep, .keep, .keep])], []⟩, [⟨.x 0, ⟨[(1, .one (.ptr 32 0))], [(32, 50, [.keep, .keep, .keep, .keep, .keep, .keep])], []⟩⟩, ⟨.r, ⟨[(2, bb)], [], []⟩⟩])) (nn (nn (mm (mm (nn (nn (mm (.mk [] (some (⟨[(1, .one (.ptr 32 0)), (4, kk), (10, kk), (11, kk), (14, kk), (15, kk), (16, ii)], [(32, 50, [.keep, .keep, .keep, .keep, .keep, .keep])], []⟩, [⟨.x 2, ⟨[(1, .one (.ptr 32 0)), (10, kk), (11, kk)], [(32, 50, [.keep, .keep, .keep, .keep, .keep, .keep])], []⟩⟩, ⟨.r, ⟨[(2, bb)], [], []⟩⟩])) .nil .nil) .nil))) .nil) .nil))) .nil) .nil)) (mm (nn (mm (.mk [] (some (⟨[(1, .one (.ptr 32 0)), (29, kk), (30, kk), (31, ii)], [(32, 50, [.keep, .keep, .keep, .keep, .keep, .keep])], []⟩, [⟨.x 4, ⟨[], [], []⟩⟩, ⟨.r, ⟨[(2, bb)], [], []⟩⟩])) (nn (nn (mm (mm (nn (mm (.mk [.fv [(8, .pair (.str) (.pair (.int .i64) (.pair (.int .i64) (.pair (.int .i64) (.int .i64)))))]] none .nil .nil) .nil)) .nil) .nil))) .nil) .nil)) .nil))))
  Tryz.func149 rfl (by kernel_rfl) rfl rfl rfl rfl types_ok ⟨⟨ok_network_names, ok_slices_Index_string_string, ok_slices_IndexFunc_api_Station_api_Station, ok_network_twice_1, trivial⟩, trivial⟩ mx (fun x => by kernel_rfl)

noncomputable def network_known_1 (k : Int) (v : List (List UInt8) × List yT0 × List (List UInt8 × Int × Int) × List (List UInt8 × Int × Int × Int × Int) × Int × Int) : Option (Bool) :=
 bif decide (k < 0) then (
 some true)
 else (
 some (decide ((v.1.length : Int) ≤ k)))

noncomputable def fn_network_known_1 : Fun :=
 ⟨190, 2, 1,
 ⟨[(0, ii), (1, .one (.sel (.pair (.sl (.str)) tT0)))], [], []⟩,
 ⟨[(0, bb)], [], []⟩,
 fun x => network_known_1 x.1 x.2⟩
noncomputable def cx_network_known_1 : Cx := ⟨types, [], [], 13, []⟩
theorem ok_network_known_1 : FunOk Tryz.prog fn_network_known_1 :=
 FunOk.intro (C := cx_network_known_1) (p := .nil)
  Tryz.func190 rfl (by kernel_rfl) rfl rfl rfl rfl types_ok ⟨trivial, trivial⟩ mx (fun x => by kernel_rfl)

noncomputable def slices_IndexFunc_int_int_L0 (s : List Int) (f : Int × Unit → Option Bool) (v : Int) : Option (Int ⊕ (Unit ⊕ Int)) :=
 bif decide (v < (s.length : Int)) then (
 gd (inB v s.length) <|
 (f (s.getD v.toNat 0, ())).bind fun r =>
 bif r then (
 some (.inr (.inr v)))
 else (
 some (.inl (wi64 (v + 1)))))
 else (
 some (.inr (.inl ())))

noncomputable def slices_IndexFunc_int_int (s : List Int) (f : Int × Unit → Option Bool) : Option (Int) :=
 (iter (fun x => slices_IndexFunc_int_int_L0 s f x) 0).bind fun s2 =>
 s2.elim (fun s3 =>
 some (-1))
 (fun s4 =>
 some s4)

noncomputable def fn_slices_IndexFunc_int_int : Fun :=
 ⟨203, 2, 1,
 ⟨[(0, .one (.data (.sl (.int .i64)))), (1, .one (.fn [.int .i64] (.bool)))], [], []⟩,
 ⟨[(0, ii)], [], []⟩,
 fun x => slices_IndexFunc_int_int x.1 x.2⟩
noncomputable def cx_slices_IndexFunc_int_int : Cx := ⟨types, [], [], 19, []⟩
theorem ok_slices_IndexFunc_int_int : FunOk Tryz.prog fn_slices_IndexFunc_int_int :=
 FunOk.intro (C := cx_slices_IndexFunc_int_int) (p := (nn (mm (nn (mm (.mk [] (some (⟨[(0, kk), (1, kk), (7, kk), (8, ii)], [], []⟩, [⟨.x 0, ⟨[], [], []⟩⟩, ⟨.r, ⟨[(4, ii)], [], []⟩⟩])) .nil .nil) .nil)) .nil)))
  Tryz.func203 rfl (by kernel_rfl) rfl rfl rfl rfl types_ok ⟨trivial, trivial⟩ mx (fun x => by kernel_rfl)

noncomputable def slices_ContainsFunc_int_int (s : List Int) (f : Int × Unit → Option Bool) : Option (Bool) :=
 (slices_IndexFunc_int_int s f).bind fun r =>
 some (decide (0 ≤ r))

noncomputable def fn_slices_ContainsFunc_int_int : Fun :=
 ⟨161, 2, 1,
 ⟨[(0, .one (.data (.sl (.int .i64)))), (1, .one (.fn [.int .i64] (.bool)))], [], []⟩,
 ⟨[(0, bb)], [], []⟩,
 fun x => slices_ContainsFunc_int_int x.1 x.2⟩
noncomputable def cx_slices_ContainsFunc_int_int : Cx := ⟨types, [], [fn_slices_IndexFunc_int_int], 9, []⟩
theorem ok_slices_ContainsFunc_int_int : FunOk Tryz.prog fn_slices_ContainsFunc_int_int :=
 FunOk.intro (C := cx_slices_ContainsFunc_int_int) (p := .nil)
  Tryz.func161 rfl (by kernel_rfl) rfl rfl rfl rfl types_ok ⟨⟨ok_slices_IndexFunc_int_int, trivial⟩, trivial⟩ mx (fun x => by kernel_rfl)

noncomputable def network_known_L0 (n : List (List UInt8) × List yT0 × List (List UInt8 × Int × Int) × List (List UInt8 × Int × Int × Int × Int) × Int × Int) (v : Int) (all : List Int) : Option ((Int × List Int) ⊕ (List Int)) :=
 bif decide (v < (n.2.1.length : Int)) then (
 gd (inB v n.2.1.length) <|
 gd (fits (all.length + 2) 8) <|
 some (.inl (wi64 (v + 1), all ++ [((n.2.1.getD v.toNat ([], (0, (0, (0, (0, (0, []))))))).2).1, (((n.2.1.getD v.toNat ([], (0, (0, (0, (0, (0, []))))))).2).2).1])))
 else (
 some (.inr all))

noncomputable def network_known_L1 (n : List (List UInt8) × List yT0 × List (List UInt8 × Int × Int) × List (List UInt8 × Int × Int × Int × Int) × Int × Int) (v2 : Int) (all2 : List Int) : Option ((Int × List Int) ⊕ (List Int)) :=
 bif decide (v2 < (n.2.2.1.length : Int)) then (
 gd (inB v2 n.2.2.1.length) <|
 gd (fits (all2.length + 1) 8) <|
 some (.inl (wi64 (v2 + 1), all2 ++ [((n.2.2.1.getD v2.toNat ([], (0, 0))).2).1])))
 else (
 some (.inr all2))

noncomputable def network_known_L2 (n : List (List UInt8) × List yT0 × List (List UInt8 × Int × Int) × List (List UInt8 × Int × Int × Int × Int) × Int × Int) (v3 : Int) (all3 : List Int) : Option ((Int × List Int) ⊕ (List Int)) :=
 bif decide (v3 < (n.2.2.2.1.length : Int)) then (
 gd (inB v3 n.2.2.2.1.length) <|
 gd (fits (all3.length + 1) 8) <|
 some (.inl (wi64 (v3 + 1), all3 ++ [((n.2.2.2.1.getD v3.toNat ([], (0, (0, (0, 0))))).2).1])))
 else (
 some (.inr all3))

noncomputable def network_known (n : List (List UInt8) × List yT0 × List (List UInt8 × Int × Int) × List (List UInt8 × Int × Int × Int × Int) × Int × Int) : Option (Bool) :=
 (iter (fun x => network_known_L0 n x.1 x.2) (0, [])).bind fun s =>
 (iter (fun x2 => network_known_L1 n x2.1 x2.2) (0, s)).bind fun s2 =>
 (iter (fun x3 => network_known_L2 n x3.1 x3.2) (0, s2)).bind fun s3 =>
 (slices_ContainsFunc_int_int s3 (fun h => (network_known_1 h.1 (n.1, (n.2.1, (n.2.2.1, (n.2.2.2.1, (n.2.2.2.2.1, n.2.2.2.2.2)))))).bind fun y => some y)).bind fun r =>
 some (!r)

noncomputable def fn_network_known : Fun :=
 ⟨150, 1, 1,
 ⟨[(0, .one (.data (.pair (.sl (.str)) tT0)))], [], []⟩,
 ⟨[(0, bb)], [], []⟩,
 fun x => network_known x⟩
noncomputable def cx_network_known : Cx := ⟨types, [], [fn_slices_ContainsFunc_int_int, fn_network_known_1], 55, []⟩
theorem ok_network_known : FunOk Tryz.prog fn_network_known :=
 FunOk.intro (C := cx_network_known) (p := (nn (nn (mm (nn (mm (.mk [] (some (⟨[(1, .one (.ptr 32 0)), (3, .one (.own 75)), (11, kk), (12, kk), (13, ii)], [(32, 50, [.keep, .keep, .keep, .keep, .keep, .keep])], [(75, .arr 3 (.int .i64))]⟩, [⟨.x 0, ⟨[(1, .one (.ptr 32 0)), (3, .one (.own 75))], [(32, 50, [.keep, .keep, .keep, .keep, .keep, .keep])], [(75, .arr 3 (.int .i64))]⟩⟩])) .nil .nil) .nil)) (mm (nn (mm (.mk [] (some (⟨[(1, .one (.ptr 32 0)), (3, .one (.own 75)), (26, kk), (27, kk), (28, ii)], [(32, 50, [.keep, .keep, .keep, .keep, .keep, .keep])], [(75, .arr 3 (.int .i64))]⟩, [⟨.x 2, ⟨[(1, .one (.ptr 32 0)), (3, .one (.own 75))], [(32, 50, [.keep, .keep, .keep, .keep, .keep, .keep])], [(75, .arr 3 (.int .i64))]⟩⟩])) .nil .nil) .nil)) (mm (nn (mm (.mk [] (some (⟨[(1, .one (.ptr 32 0)), (3, .one (.own 75)), (39, kk), (40, kk), (41, ii)], [(32, 50, [.keep, .keep, .keep, .keep, .keep, .keep])], [(75, .arr 3 (.int .i64))]⟩, [⟨.x 4, ⟨[(1, .one (.ptr 32 0)), (3, .one (.own 75))], [(32, 50, [.keep, .keep, .keep, .keep, .keep, .keep])], [(75, .arr 3 (.int .i64))]⟩⟩])) .nil .nil) .nil)) (mm (.mk [.fv [(1, .pair (.sl (.str)) tT0)]] none .nil .nil) .nil)))))))
  Tryz.func150 rfl (by kernel_rfl) rfl rfl rfl rfl types_ok ⟨⟨ok_slices_ContainsFunc_int_int, ok_network_known_1, trivial⟩, trivial⟩ mx (fun x => by kernel_rfl)

noncomputable def network_in (n : Int) (least : Int) (most : Int) : Option (Bool) :=
 bif decide (least ≤ n) then (
 some (decide (n ≤ most)))
 else (
 some false)

noncomputable def fn_network_in : Fun :=
 ⟨195, 3, 1,
 ⟨[(0, ii), (1, ii), (2, ii)], [], []⟩,
 ⟨[(0, bb)], [], []⟩,
 fun x => network_in x.1 x.2.1 x.2.2⟩
noncomputable def cx_network_in : Cx := ⟨types, [], [], 15, []⟩
theorem ok_network_in : FunOk Tryz.prog fn_network_in :=
 FunOk.intro (C := cx_network_in) (p := .nil)
  Tryz.func195 rfl (by kernel_rfl) rfl rfl rfl rfl types_ok ⟨trivial, trivial⟩ mx (fun x => by kernel_rfl)

noncomputable def network_pipe_L0 (s : List UInt8 × Int × Int × Int × Int × Int × List (Int × Int × Int)) (v : Int) : Option (Int ⊕ (Unit ⊕ Bool)) :=
 bif decide (v < (s.2.2.2.2.2.2.length : Int)) then (
 gd (inB v s.2.2.2.2.2.2.length) <|
 Option.bind (α := Bool) (
 (network_in (((s.2.2.2.2.2.2.getD v.toNat (0, (0, 0))).2).1) (-500) 5000).bind fun r4 =>
 bif !r4 then (
 some true)
 else (
 (network_in (((s.2.2.2.2.2.2.getD v.toNat (0, (0, 0))).2).2) 0 100000000).bind fun r5 =>
 bif !r5 then (
 some true)
 else (
 bif decide (0 < v) then (
 gd (inB (wi64 (v - 1)) s.2.2.2.2.2.2.length) <|
 some (decide ((s.2.2.2.2.2.2.getD v.toNat (0, (0, 0))).1 ≤ (s.2.2.2.2.2.2.getD (wi64 (v - 1)).toNat (0, (0, 0))).1)))
 else (
 some false)))) fun s3 =>
 bif s3 then (
 some (.inr (.inr false)))
 else (
 some (.inl (wi64 (v + 1)))))
 else (
 some (.inr (.inl ())))

noncomputable def network_pipe (s : List UInt8 × Int × Int × Int × Int × Int × List (Int × Int × Int)) : Option (Bool) :=
 Option.bind (α := Bool) (
 bif decide (s.2.1 = s.2.2.1) then (
 some true)
 else (
 (network_in s.2.2.2.1 1 1000000).bind fun r =>
 bif !r then (
 some true)
 else (
 (network_in s.2.2.2.2.1 0 1000).bind fun r2 =>
 bif !r2 then (
 some true)
 else (
 (network_in s.2.2.2.2.2.1 0 100000).bind fun r3 =>
 some (!r3))))) fun s2 =>
 bif s2 then (
 some false)
 else (
 (iter (fun x => network_pipe_L0 s x) 0).bind fun s4 =>
 s4.elim (fun s5 =>
 gd (inB 0 s.2.2.2.2.2.2.length) <|
 bif decide ((s.2.2.2.2.2.2.getD 0 (0, (0, 0))).1 = 0) then (
 gd (inB (wi64 ((s.2.2.2.2.2.2.length : Int) - 1)) s.2.2.2.2.2.2.length) <|
 some (decide ((s.2.2.2.2.2.2.getD (wi64 ((s.2.2.2.2.2.2.length : Int) - 1)).toNat (0, (0, 0))).1 = s.2.2.2.1)))
 else (
 some false))
 (fun s6 =>
 some s6))

noncomputable def fn_network_pipe : Fun :=
 ⟨192, 1, 1,
 ⟨[(0, .one (.data (.pair (.str) tT3)))], [], []⟩,
 ⟨[(0, bb)], [], []⟩,
 fun x => network_pipe x⟩
noncomputable def cx_network_pipe : Cx := ⟨types, [], [fn_network_in], 83, []⟩
theorem ok_network_pipe : FunOk Tryz.prog fn_network_pipe :=
 FunOk.intro (C := cx_network_pipe) (p := (nn (mm (mm (.mk [.join [⟨.n, ⟨[(1, .one (.ptr 32 0)), (27, bb)], [(32, 106, [.keep, .keep, .keep, .keep, .keep, .keep, .keep])], []⟩⟩]] none .nil .nil) .nil) (mm (nn (mm (.mk [] (some (⟨[(1, .one (.ptr 32 0)), (29, kk), (30, kk), (31, ii)], [(32, 106, [.keep, .keep, .keep, .keep, .keep, .keep, .keep])], []⟩, [⟨.x 0, ⟨[(1, .one (.ptr 32 0))], [(32, 106, [.keep, .keep, .keep, .keep, .keep, .keep, .keep])], []⟩⟩, ⟨.r, ⟨[(2, bb)], [], []⟩⟩])) (nn (nn (mm (mm (nn (mm (.mk [.join [⟨.n, ⟨[(1, .one (.ptr 32 0)), (29, kk), (30, kk), (31, kk), (61, bb)], [(32, 106, [.keep, .keep, .keep, .keep, .keep, .keep, .keep])], []⟩⟩]] none .nil .nil) .nil)) .nil) .nil))) .nil) .nil)) .nil))))
  Tryz.func192 rfl (by kernel_rfl) rfl rfl rfl rfl types_ok ⟨⟨ok_network_in, trivial⟩, trivial⟩ mx (fun x => by kernel_rfl)

noncomputable def network_proper_1 (s : List UInt8 × Int × Int × Int × Int × Int × List (Int × Int × Int)) : Option (Bool) :=
 (network_pipe (s.1, (s.2.1, (s.2.2.1, (s.2.2.2.1, (s.2.2.2.2.1, (s.2.2.2.2.2.1, s.2.2.2.2.2.2))))))).bind fun r =>
 some (!r)

noncomputable def fn_network_proper_1 : Fun :=
 ⟨191, 1, 1,
 ⟨[(0, .one (.data (.pair (.str) tT3)))], [], []⟩,
 ⟨[(0, bb)], [], []⟩,
 fun x => network_proper_1 x⟩
noncomputable def cx_network_proper_1 : Cx := ⟨types, [], [fn_network_pipe], 6, []⟩
theorem ok_network_proper_1 : FunOk Tryz.prog fn_network_proper_1 :=
 FunOk.intro (C := cx_network_proper_1) (p := .nil)
  Tryz.func191 rfl (by kernel_rfl) rfl rfl rfl rfl types_ok ⟨⟨ok_network_pipe, trivial⟩, trivial⟩ mx (fun x => by kernel_rfl)

noncomputable def slices_IndexFunc_api_Port_api_Port_L0 (s : List (List UInt8 × Int × Int)) (f : (List UInt8 × Int × Int) × Unit → Option Bool) (v : Int) : Option (Int ⊕ (Unit ⊕ Int)) :=
 bif decide (v < (s.length : Int)) then (
 gd (inB v s.length) <|
 (f (s.getD v.toNat ([], (0, 0)), ())).bind fun r =>
 bif r then (
 some (.inr (.inr v)))
 else (
 some (.inl (wi64 (v + 1)))))
 else (
 some (.inr (.inl ())))

noncomputable def slices_IndexFunc_api_Port_api_Port (s : List (List UInt8 × Int × Int)) (f : (List UInt8 × Int × Int) × Unit → Option Bool) : Option (Int) :=
 (iter (fun x => slices_IndexFunc_api_Port_api_Port_L0 s f x) 0).bind fun s2 =>
 s2.elim (fun s3 =>
 some (-1))
 (fun s4 =>
 some s4)

noncomputable def fn_slices_IndexFunc_api_Port_api_Port : Fun :=
 ⟨225, 2, 1,
 ⟨[(0, .one (.data (.sl (.pair (.str) (.pair (.int .i64) (.int .i64)))))), (1, .one (.fn [.pair (.str) (.pair (.int .i64) (.int .i64))] (.bool)))], [], []⟩,
 ⟨[(0, ii)], [], []⟩,
 fun x => slices_IndexFunc_api_Port_api_Port x.1 x.2⟩
noncomputable def cx_slices_IndexFunc_api_Port_api_Port : Cx := ⟨types, [], [], 19, []⟩
theorem ok_slices_IndexFunc_api_Port_api_Port : FunOk Tryz.prog fn_slices_IndexFunc_api_Port_api_Port :=
 FunOk.intro (C := cx_slices_IndexFunc_api_Port_api_Port) (p := (nn (mm (nn (mm (.mk [] (some (⟨[(0, kk), (1, kk), (7, kk), (8, ii)], [], []⟩, [⟨.x 0, ⟨[], [], []⟩⟩, ⟨.r, ⟨[(4, ii)], [], []⟩⟩])) .nil .nil) .nil)) .nil)))
  Tryz.func225 rfl (by kernel_rfl) rfl rfl rfl rfl types_ok ⟨trivial, trivial⟩ mx (fun x => by kernel_rfl)

noncomputable def slices_ContainsFunc_api_Port_api_Port (s : List (List UInt8 × Int × Int)) (f : (List UInt8 × Int × Int) × Unit → Option Bool) : Option (Bool) :=
 (slices_IndexFunc_api_Port_api_Port s f).bind fun r =>
 some (decide (0 ≤ r))

noncomputable def fn_slices_ContainsFunc_api_Port_api_Port : Fun :=
 ⟨193, 2, 1,
 ⟨[(0, .one (.data (.sl (.pair (.str) (.pair (.int .i64) (.int .i64)))))), (1, .one (.fn [.pair (.str) (.pair (.int .i64) (.int .i64))] (.bool)))], [], []⟩,
 ⟨[(0, bb)], [], []⟩,
 fun x => slices_ContainsFunc_api_Port_api_Port x.1 x.2⟩
noncomputable def cx_slices_ContainsFunc_api_Port_api_Port : Cx := ⟨types, [], [fn_slices_IndexFunc_api_Port_api_Port], 9, []⟩
theorem ok_slices_ContainsFunc_api_Port_api_Port : FunOk Tryz.prog fn_slices_ContainsFunc_api_Port_api_Port :=
 FunOk.intro (C := cx_slices_ContainsFunc_api_Port_api_Port) (p := .nil)
  Tryz.func193 rfl (by kernel_rfl) rfl rfl rfl rfl types_ok ⟨⟨ok_slices_IndexFunc_api_Port_api_Port, trivial⟩, trivial⟩ mx (fun x => by kernel_rfl)

noncomputable def network_proper_2 (p : List UInt8 × Int × Int) : Option (Bool) :=
 (network_in p.2.2 0 100000000).bind fun r =>
 some (!r)

noncomputable def fn_network_proper_2 : Fun :=
 ⟨194, 1, 1,
 ⟨[(0, .one (.data (.pair (.str) (.pair (.int .i64) (.int .i64)))))], [], []⟩,
 ⟨[(0, bb)], [], []⟩,
 fun x => network_proper_2 x⟩
noncomputable def cx_network_proper_2 : Cx := ⟨types, [], [fn_network_in], 7, []⟩
theorem ok_network_proper_2 : FunOk Tryz.prog fn_network_proper_2 :=
 FunOk.intro (C := cx_network_proper_2) (p := .nil)
  Tryz.func194 rfl (by kernel_rfl) rfl rfl rfl rfl types_ok ⟨⟨ok_network_in, trivial⟩, trivial⟩ mx (fun x => by kernel_rfl)

noncomputable def slices_ContainsFunc_api_Station_api_Station (s : List (List UInt8 × Int × Int × Int × Int)) (f : (List UInt8 × Int × Int × Int × Int) × Unit → Option Bool) : Option (Bool) :=
 (slices_IndexFunc_api_Station_api_Station s f).bind fun r =>
 some (decide (0 ≤ r))

noncomputable def fn_slices_ContainsFunc_api_Station_api_Station : Fun :=
 ⟨196, 2, 1,
 ⟨[(0, .one (.data (.sl tT2))), (1, .one (.fn [.pair (.str) (.pair (.int .i64) (.pair (.int .i64) (.pair (.int .i64) (.int .i64))))] (.bool)))], [], []⟩,
 ⟨[(0, bb)], [], []⟩,
 fun x => slices_ContainsFunc_api_Station_api_Station x.1 x.2⟩
noncomputable def cx_slices_ContainsFunc_api_Station_api_Station : Cx := ⟨types, [], [fn_slices_IndexFunc_api_Station_api_Station], 9, []⟩
theorem ok_slices_ContainsFunc_api_Station_api_Station : FunOk Tryz.prog fn_slices_ContainsFunc_api_Station_api_Station :=
 FunOk.intro (C := cx_slices_ContainsFunc_api_Station_api_Station) (p := .nil)
  Tryz.func196 rfl (by kernel_rfl) rfl rfl rfl rfl types_ok ⟨⟨ok_slices_IndexFunc_api_Station_api_Station, trivial⟩, trivial⟩ mx (fun x => by kernel_rfl)

noncomputable def network_proper_3 (s : List UInt8 × Int × Int × Int × Int) : Option (Bool) :=
 (network_in s.2.2.1 0 100000000).bind fun r =>
 bif !r then (
 some true)
 else (
 (network_in s.2.2.2.1 0 100000).bind fun r2 =>
 bif !r2 then (
 some true)
 else (
 (network_in s.2.2.2.2 0 100000000).bind fun r3 =>
 some (!r3)))

noncomputable def fn_network_proper_3 : Fun :=
 ⟨197, 1, 1,
 ⟨[(0, .one (.data tT2))], [], []⟩,
 ⟨[(0, bb)], [], []⟩,
 fun x => network_proper_3 x⟩
noncomputable def cx_network_proper_3 : Cx := ⟨types, [], [fn_network_in], 19, []⟩
theorem ok_network_proper_3 : FunOk Tryz.prog fn_network_proper_3 :=
 FunOk.intro (C := cx_network_proper_3) (p := .nil)
  Tryz.func197 rfl (by kernel_rfl) rfl rfl rfl rfl types_ok ⟨⟨ok_network_in, trivial⟩, trivial⟩ mx (fun x => by kernel_rfl)

noncomputable def network_proper (n : List (List UInt8) × List yT0 × List (List UInt8 × Int × Int) × List (List UInt8 × Int × Int × Int × Int) × Int × Int) : Option (Bool) :=
 (slices_ContainsFunc_api_Segment_api_Segment n.2.1 (fun h => (network_proper_1 h.1).bind fun y => some y)).bind fun r =>
 bif r then (
 some false)
 else (
 (slices_ContainsFunc_api_Port_api_Port n.2.2.1 (fun h2 => (network_proper_2 h2.1).bind fun y => some y)).bind fun r2 =>
 bif r2 then (
 some false)
 else (
 (slices_ContainsFunc_api_Station_api_Station n.2.2.2.1 (fun h3 => (network_proper_3 h3.1).bind fun y => some y)).bind fun r3 =>
 bif r3 then (
 some false)
 else (
 (network_in n.2.2.2.2.1 (-100000) 100000000).bind fun r4 =>
 bif r4 then (
 (network_in n.2.2.2.2.2 0 100).bind fun r5 =>
 some r5)
 else (
 some false))))

noncomputable def fn_network_proper : Fun :=
 ⟨151, 1, 1,
 ⟨[(0, .one (.data (.pair (.sl (.str)) tT0)))], [], []⟩,
 ⟨[(0, bb)], [], []⟩,
 fun x => network_proper x⟩
noncomputable def cx_network_proper : Cx := ⟨types, [], [fn_slices_ContainsFunc_api_Segment_api_Segment, fn_network_proper_1, fn_slices_ContainsFunc_api_Port_api_Port, fn_network_proper_2, fn_slices_ContainsFunc_api_Station_api_Station, fn_network_proper_3, fn_network_in], 20, []⟩
theorem ok_network_proper : FunOk Tryz.prog fn_network_proper :=
 FunOk.intro (C := cx_network_proper) (p := .nil)
  Tryz.func151 rfl (by kernel_rfl) rfl rfl rfl rfl types_ok ⟨⟨ok_slices_ContainsFunc_api_Segment_api_Segment, ok_network_proper_1, ok_slices_ContainsFunc_api_Port_api_Port, ok_network_proper_2, ok_slices_ContainsFunc_api_Station_api_Station, ok_network_proper_3, ok_network_in, trivial⟩, trivial⟩ mx (fun x => by kernel_rfl)

noncomputable def network_Check_L0 (r2 : List (List UInt8) × List (List UInt8) × List (List UInt8) × List (List UInt8)) (v : Int) : Option (Int ⊕ (Unit ⊕ Int)) :=
 bif decide (v < 4) then (
 gd (inB v 4) <|
 (slices_ContainsFunc_string_string ([r2.1, r2.2.1, r2.2.2.1, r2.2.2.2].getD v.toNat []) (fun h => (network_Check_1 h.1).bind fun y => some y)).bind fun r3 =>
 bif r3 then (
 some (.inr (.inr 3)))
 else (
 some (.inl (wi64 (v + 1)))))
 else (
 some (.inr (.inl ())))

noncomputable def network_Check (n : List (List UInt8) × List yT0 × List (List UInt8 × Int × Int) × List (List UInt8 × Int × Int × Int × Int) × Int × Int) : Option (Int) :=
 (network_limits (n.1, (n.2.1, (n.2.2.1, (n.2.2.2.1, (n.2.2.2.2.1, n.2.2.2.2.2)))))).bind fun r =>
 bif !r then (
 some 4)
 else (
 (network_names (n.1, (n.2.1, (n.2.2.1, (n.2.2.2.1, (n.2.2.2.2.1, n.2.2.2.2.2)))))).bind fun r2 =>
 (iter (fun x => network_Check_L0 r2 x) 0).bind fun s =>
 s.elim (fun s2 =>
 (network_twice (n.1, (n.2.1, (n.2.2.1, (n.2.2.2.1, (n.2.2.2.2.1, n.2.2.2.2.2)))))).bind fun r4 =>
 bif r4 then (
 some 7)
 else (
 (network_known (n.1, (n.2.1, (n.2.2.1, (n.2.2.2.1, (n.2.2.2.2.1, n.2.2.2.2.2)))))).bind fun r5 =>
 bif !r5 then (
 some 8)
 else (
 (network_proper (n.1, (n.2.1, (n.2.2.1, (n.2.2.2.1, (n.2.2.2.2.1, n.2.2.2.2.2)))))).bind fun r6 =>
 bif !r6 then (
 some 9)
 else (
 some 0))))
 (fun s3 =>
 some s3))

noncomputable def fn_network_Check : Fun :=
 ⟨95, 1, 1,
 ⟨[(0, .one (.data (.pair (.sl (.str)) tT0)))], [], []⟩,
 ⟨[(0, ii)], [], []⟩,
 fun x => network_Check x⟩
noncomputable def cx_network_Check : Cx := ⟨types, [], [fn_network_limits, fn_network_names, fn_slices_ContainsFunc_string_string, fn_network_Check_1, fn_network_twice, fn_network_known, fn_network_proper], 27, []⟩
theorem ok_network_Check : FunOk Tryz.prog fn_network_Check :=
 FunOk.intro (C := cx_network_Check) (p := (nn (nn (mm (nn (mm (.mk [] (some (⟨[(1, .one (.ptr 32 0)), (9, kk), (10, ii)], [(32, 50, [.keep, .keep, .keep, .keep, .keep, .keep])], []⟩, [⟨.x 0, ⟨[(1, .one (.ptr 32 0))], [(32, 50, [.keep, .keep, .keep, .keep, .keep, .keep])], []⟩⟩, ⟨.r, ⟨[(2, ii)], [], []⟩⟩])) .nil .nil) .nil)) .nil))))
  Tryz.func95 rfl (by kernel_rfl) rfl rfl rfl rfl types_ok ⟨⟨ok_network_limits, ok_network_names, ok_slices_ContainsFunc_string_string, ok_network_Check_1, ok_network_twice, ok_network_known, ok_network_proper, trivial⟩, trivial⟩ mx (fun x => by kernel_rfl)

noncomputable def valve_Valid (v : Int × Int × Bool × Bool) : Option (Bool) :=
 bif decide (1 ≤ v.1) then (
 bif decide (v.1 ≤ 60) then (
 bif decide (0 ≤ v.2.1) then (
 some (decide (v.2.1 ≤ v.1)))
 else (
 some false))
 else (
 some false))
 else (
 some false)

noncomputable def fn_valve_Valid : Fun :=
 ⟨96, 1, 1,
 ⟨[(0, .one (.data tT4))], [], []⟩,
 ⟨[(0, bb)], [], []⟩,
 fun x => valve_Valid x⟩
noncomputable def cx_valve_Valid : Cx := ⟨types, [], [], 23, []⟩
theorem ok_valve_Valid : FunOk Tryz.prog fn_valve_Valid :=
 FunOk.intro (C := cx_valve_Valid) (p := .nil)
  Tryz.func96 rfl (by kernel_rfl) rfl rfl rfl rfl types_ok ⟨trivial, trivial⟩ mx (fun x => by kernel_rfl)

noncomputable def lineup_Count (n : List (List UInt8) × List yT0 × List (List UInt8 × Int × Int) × List (List UInt8 × Int × Int × Int × Int) × Int × Int) : Option (Int) :=
 some (wi64 ((n.2.1.length : Int) + (n.2.2.1.length : Int)))

noncomputable def fn_lineup_Count : Fun :=
 ⟨98, 1, 1,
 ⟨[(0, .one (.data (.pair (.sl (.str)) tT0)))], [], []⟩,
 ⟨[(0, ii)], [], []⟩,
 fun x => lineup_Count x⟩
noncomputable def cx_lineup_Count : Cx := ⟨types, [], [], 10, []⟩
theorem ok_lineup_Count : FunOk Tryz.prog fn_lineup_Count :=
 FunOk.intro (C := cx_lineup_Count) (p := .nil)
  Tryz.func98 rfl (by kernel_rfl) rfl rfl rfl rfl types_ok ⟨trivial, trivial⟩ mx (fun x => by kernel_rfl)

noncomputable def math_bits_Mul32 (x : Int) (y : Int) : Option (Int × Int) :=
 some (wu32 (Int.fdiv (wu64 ((wu64 x) * (wu64 y))) (2 ^ shAmt .u64 32)), wu32 (wu64 ((wu64 x) * (wu64 y))))

noncomputable def fn_math_bits_Mul32 : Fun :=
 ⟨198, 2, 2,
 ⟨[(0, .one (.data (.int .u32))), (1, .one (.data (.int .u32)))], [], []⟩,
 ⟨[(0, .one (.data (.int .u32))), (1, .one (.data (.int .u32)))], [], []⟩,
 fun x => math_bits_Mul32 x.1 x.2⟩
noncomputable def cx_math_bits_Mul32 : Cx := ⟨types, [], [], 17, []⟩
theorem ok_math_bits_Mul32 : FunOk Tryz.prog fn_math_bits_Mul32 :=
 FunOk.intro (C := cx_math_bits_Mul32) (p := .nil)
  Tryz.func198 rfl (by kernel_rfl) rfl rfl rfl rfl types_ok ⟨trivial, trivial⟩ mx (fun x => by kernel_rfl)

noncomputable def math_bits_Mul64 (x : Int) (y : Int) : Option (Int × Int) :=
 some (wu64 ((wu64 ((wu64 ((Int.fdiv x (2 ^ shAmt .u64 32)) * (Int.fdiv y (2 ^ shAmt .u64 32)))) + (Int.fdiv (wu64 ((wu64 ((Int.fdiv x (2 ^ shAmt .u64 32)) * (bitAnd .u64 y 4294967295))) + (Int.fdiv (wu64 ((bitAnd .u64 x 4294967295) * (bitAnd .u64 y 4294967295))) (2 ^ shAmt .u64 32)))) (2 ^ shAmt .u64 32)))) + (Int.fdiv (wu64 ((bitAnd .u64 (wu64 ((wu64 ((Int.fdiv x (2 ^ shAmt .u64 32)) * (bitAnd .u64 y 4294967295))) + (Int.fdiv (wu64 ((bitAnd .u64 x 4294967295) * (bitAnd .u64 y 4294967295))) (2 ^ shAmt .u64 32)))) 4294967295) + (wu64 ((bitAnd .u64 x 4294967295) * (Int.fdiv y (2 ^ shAmt .u64 32)))))) (2 ^ shAmt .u64 32))), wu64 (x * y))

noncomputable def fn_math_bits_Mul64 : Fun :=
 ⟨199, 2, 2,
 ⟨[(0, .one (.data (.int .u64))), (1, .one (.data (.int .u64)))], [], []⟩,
 ⟨[(0, .one (.data (.int .u64))), (1, .one (.data (.int .u64)))], [], []⟩,
 fun x => math_bits_Mul64 x.1 x.2⟩
noncomputable def cx_math_bits_Mul64 : Cx := ⟨types, [], [], 51, []⟩
theorem ok_math_bits_Mul64 : FunOk Tryz.prog fn_math_bits_Mul64 :=
 FunOk.intro (C := cx_math_bits_Mul64) (p := .nil)
  Tryz.func199 rfl (by kernel_rfl) rfl rfl rfl rfl types_ok ⟨trivial, trivial⟩ mx (fun x => by kernel_rfl)

noncomputable def math_bits_Mul (x : Int) (y : Int) : Option (Int × Int) :=
 (math_bits_Mul64 x y).bind fun r =>
 some (r.1, r.2)

noncomputable def fn_math_bits_Mul : Fun :=
 ⟨152, 2, 2,
 ⟨[(0, .one (.data (.int .u64))), (1, .one (.data (.int .u64)))], [], []⟩,
 ⟨[(0, .one (.data (.int .u64))), (1, .one (.data (.int .u64)))], [], []⟩,
 fun x => math_bits_Mul x.1 x.2⟩
noncomputable def cx_math_bits_Mul : Cx := ⟨types, [], [fn_math_bits_Mul64], 30, []⟩
theorem ok_math_bits_Mul : FunOk Tryz.prog fn_math_bits_Mul :=
 FunOk.intro (C := cx_math_bits_Mul) (p := .nil)
  Tryz.func152 rfl (by kernel_rfl) rfl rfl rfl rfl types_ok ⟨⟨ok_math_bits_Mul64, trivial⟩, trivial⟩ mx (fun x => by kernel_rfl)

noncomputable def slices_Repeat_api_Valve_api_Valve_L0 (n : Int) (newslice : List (Int × Int × Bool × Bool)) : Option ((Int × List (Int × Int × Bool × Bool)) ⊕ (List (Int × Int × Bool × Bool))) :=
 bif decide (n < (newslice.length : Int)) then (
 gd (decide (0 < newslice.length) && inR n (newslice.length : Int) newslice.length) <|
 gd (decide (0 < newslice.length) && inR 0 n newslice.length) <|
 gd ((decide (newslice.length = newslice.length) && (decide (newslice.length = newslice.length) && decide (n.toNat ≤ newslice.length))) && decide (0 < newslice.length)) <|
 some (.inl (wi64 (n + (Int.ofNat (min (newslice.take n.toNat).length (newslice.length - n.toNat)))), cpyD newslice n.toNat (newslice.take n.toNat))))
 else (
 some (.inr newslice))

noncomputable def slices_Repeat_api_Valve_api_Valve (x : List (Int × Int × Bool × Bool)) (count : Int) : Option (List (Int × Int × Bool × Bool)) :=
 Option.bind (α := Unit) (
 bif decide (count < 0) then (
 none)
 else (
 some ())) fun s =>
 (math_bits_Mul (wu64 (x.length : Int)) (wu64 count)).bind fun r =>
 Option.bind (α := Bool) (
 bif decide (0 < r.1) then (
 some true)
 else (
 some (decide (9223372036854775807 < r.2)))) fun s2 =>
 Option.bind (α := Unit) (
 bif s2 then (
 none)
 else (
 some ())) fun s3 =>
 gd (makeG 24 (wi64 r.2)) <|
 gd ((true && true) && decide (0 < (List.replicate (wi64 r.2).toNat ((0, (0, (false, false))) : Int × Int × Bool × Bool)).length)) <|
 (iter (fun x2 => slices_Repeat_api_Valve_api_Valve_L0 x2.1 x2.2) (Int.ofNat (min x.length ((List.replicate (wi64 r.2).toNat ((0, (0, (false, false))) : Int × Int × Bool × Bool)).length - 0)), cpyD (List.replicate (wi64 r.2).toNat ((0, (0, (false, false))) : Int × Int × Bool × Bool)) 0 x)).bind fun s4 =>
 some s4

noncomputable def fn_slices_Repeat_api_Valve_api_Valve : Fun :=
 ⟨97, 2, 1,
 ⟨[(0, .one (.data (.sl tT4))), (1, ii)], [], []⟩,
 ⟨[(0, .one (.own 0))], [], [(0, .arr 152 tT4)]⟩,
 fun x => slices_Repeat_api_Valve_api_Valve x.1 x.2⟩
noncomputable def cx_slices_Repeat_api_Valve_api_Valve : Cx := ⟨types, [5000044], [fn_math_bits_Mul], 48, []⟩
theorem ok_slices_Repeat_api_Valve_api_Valve : FunOk Tryz.prog fn_slices_Repeat_api_Valve_api_Valve :=
 FunOk.intro (C := cx_slices_Repeat_api_Valve_api_Valve) (p := (nn (mm (nn (.mk [.join [⟨.n, ⟨[(0, kk), (1, kk)], [], []⟩⟩]] none .nil .nil)) (nn (mm (mm (.mk [.join [⟨.n, ⟨[(0, kk), (6, kk), (26, bb)], [], []⟩⟩]] none .nil .nil) (.mk [.join [⟨.n, ⟨[(0, kk), (6, kk)], [], []⟩⟩]] none .nil .nil)) (nn (nn (mm (mm (.mk [] (some (⟨[(7, .one (.own 496)), (8, ii)], [], [(496, .arr 152 tT4)]⟩, [⟨.x 0, ⟨[(7, .one (.own 496))], [], [(496, .arr 152 tT4)]⟩⟩])) .nil .nil) .nil) .nil))))))))
  Tryz.func97 rfl (by kernel_rfl) rfl rfl rfl rfl types_ok ⟨⟨ok_math_bits_Mul, trivial⟩, trivial⟩ mx (fun x => by kernel_rfl)

noncomputable def step_Idle (n : List (List UInt8) × List yT0 × List (List UInt8 × Int × Int) × List (List UInt8 × Int × Int × Int × Int) × Int × Int) (travel : Int) : Option ((List (Int × Int × Bool × Bool) × List Int × List Int × List Bool) × Int) :=
 (network_Check (n.1, (n.2.1, (n.2.2.1, (n.2.2.2.1, (n.2.2.2.2.1, n.2.2.2.2.2)))))).bind fun r =>
 bif !decide (r = 0) then (
 some (([], ([], ([], []))), r))
 else (
 (valve_Valid (travel, (0, (false, false)))).bind fun r2 =>
 bif !r2 then (
 some (([], ([], ([], []))), 20))
 else (
 gd (makeG 8 (n.2.1.length : Int)) <|
 gd (makeG 8 (n.2.2.1.length : Int)) <|
 gd (makeG 1 (n.2.2.2.1.length : Int)) <|
 (lineup_Count (n.1, (n.2.1, (n.2.2.1, (n.2.2.2.1, (n.2.2.2.2.1, n.2.2.2.2.2)))))).bind fun r3 =>
 (slices_Repeat_api_Valve_api_Valve [(travel, (0, (false, false)))] r3).bind fun r4 =>
 some ((r4, (List.replicate (n.2.1.length : Int).toNat (0 : Int), (List.replicate (n.2.2.1.length : Int).toNat (0 : Int), List.replicate (n.2.2.2.1.length : Int).toNat (false : Bool)))), 0)))

noncomputable def fn_step_Idle : Fun :=
 ⟨57, 2, 2,
 ⟨[(0, .one (.data (.pair (.sl (.str)) tT0))), (1, ii)], [], []⟩,
 ⟨[(0, .one (.data (.pair (.sl tT4) (.pair (.sl (.int .i64)) (.pair (.sl (.int .i64)) (.sl (.bool))))))), (1, ii)], [], []⟩,
 fun x => step_Idle x.1 x.2⟩
noncomputable def cx_step_Idle : Cx := ⟨types, [], [fn_network_Check, fn_valve_Valid, fn_lineup_Count, fn_slices_Repeat_api_Valve_api_Valve], 41, []⟩
theorem ok_step_Idle : FunOk Tryz.prog fn_step_Idle :=
 FunOk.intro (C := cx_step_Idle) (p := .nil)
  Tryz.func57 rfl (by kernel_rfl) rfl rfl rfl rfl types_ok ⟨⟨ok_network_Check, ok_valve_Valid, ok_lineup_Count, ok_slices_Repeat_api_Valve_api_Valve, trivial⟩, trivial⟩ mx (fun x => by kernel_rfl)

noncomputable def centre_New (n : List (List UInt8) × List yT0 × List (List UInt8 × Int × Int) × List (List UInt8 × Int × Int × Int × Int) × Int × Int) (travel : Int) : Option (((List (Int × Int × Bool × Bool) × List Int × List Int × List Bool) × List (Int × Int × Int × Int × Int × List Int) × List (List UInt8 × Int × Int × Int × Int) × Int) × Int) :=
 (step_Idle (n.1, (n.2.1, (n.2.2.1, (n.2.2.2.1, (n.2.2.2.2.1, n.2.2.2.2.2))))) travel).bind fun r =>
 bif !decide (r.2 = 0) then (
 some ((([], ([], ([], []))), ([], ([], 0))), r.2))
 else (
 some (((r.1.1, (r.1.2.1, (r.1.2.2.1, r.1.2.2.2))), ([], ([], 0))), 0))

noncomputable def fn_centre_New : Fun :=
 ⟨18, 2, 2,
 ⟨[(0, .one (.data (.pair (.sl (.str)) tT0))), (1, ii)], [], []⟩,
 ⟨[(0, .one (.data (.pair (.pair (.sl tT4) (.pair (.sl (.int .i64)) (.pair (.sl (.int .i64)) (.sl (.bool))))) (.pair (.sl tT1) (.pair (.sl tT2) (.int .i64)))))), (1, ii)], [], []⟩,
 fun x => centre_New x.1 x.2⟩
noncomputable def cx_centre_New : Cx := ⟨types, [], [fn_step_Idle], 20, []⟩
theorem ok_centre_New : FunOk Tryz.prog fn_centre_New :=
 FunOk.intro (C := cx_centre_New) (p := .nil)
  Tryz.func18 rfl (by kernel_rfl) rfl rfl rfl rfl types_ok ⟨⟨ok_step_Idle, trivial⟩, trivial⟩ mx (fun x => by kernel_rfl)

noncomputable def slices_Clone_byte_byte (s : List Int) : Option (List Int) :=
 bif Nat.beq s.length 0 then (bothO (
 some []) (
 gd (fits (0 + s.length) 1) <|
 some ([] ++ s)))
 else (
 gd (fits (0 + s.length) 1) <|
 some ([] ++ s))

noncomputable def fn_slices_Clone_byte_byte : Fun :=
 ⟨60, 1, 1,
 ⟨[(0, .one (.data (.sl (.int .u8))))], [], []⟩,
 ⟨[(0, .one (.data (.sl (.int .u8))))], [], []⟩,
 fun x => slices_Clone_byte_byte x⟩
noncomputable def cx_slices_Clone_byte_byte : Cx := ⟨types, [5], [], 8, []⟩
theorem ok_slices_Clone_byte_byte : FunOk Tryz.prog fn_slices_Clone_byte_byte :=
 FunOk.intro (C := cx_slices_Clone_byte_byte) (p := .nil)
  Tryz.func60 rfl (by kernel_rfl) rfl rfl rfl rfl types_ok ⟨trivial, trivial⟩ mx (fun x => by kernel_rfl)

noncomputable def slices_Clone_api_Valve_api_Valve (s : List (Int × Int × Bool × Bool)) : Option (List (Int × Int × Bool × Bool)) :=
 bif Nat.beq s.length 0 then (bothO (
 some []) (
 gd (fits (0 + s.length) 24) <|
 some ([] ++ s)))
 else (
 gd (fits (0 + s.length) 24) <|
 some ([] ++ s))

noncomputable def fn_slices_Clone_api_Valve_api_Valve : Fun :=
 ⟨156, 1, 1,
 ⟨[(0, .one (.data (.sl tT4)))], [], []⟩,
 ⟨[(0, .one (.own 0))], [], [(0, .arr 152 tT4)]⟩,
 fun x => slices_Clone_api_Valve_api_Valve x⟩
noncomputable def cx_slices_Clone_api_Valve_api_Valve : Cx := ⟨types, [5], [], 8, []⟩
theorem ok_slices_Clone_api_Valve_api_Valve : FunOk Tryz.prog fn_slices_Clone_api_Valve_api_Valve :=
 FunOk.intro (C := cx_slices_Clone_api_Valve_api_Valve) (p := .nil)
  Tryz.func156 rfl (by kernel_rfl) rfl rfl rfl rfl types_ok ⟨trivial, trivial⟩ mx (fun x => by kernel_rfl)

noncomputable def slices_Clone_int_int (s : List Int) : Option (List Int) :=
 bif Nat.beq s.length 0 then (bothO (
 some []) (
 gd (fits (0 + s.length) 8) <|
 some ([] ++ s)))
 else (
 gd (fits (0 + s.length) 8) <|
 some ([] ++ s))

noncomputable def fn_slices_Clone_int_int : Fun :=
 ⟨90, 1, 1,
 ⟨[(0, .one (.data (.sl (.int .i64))))], [], []⟩,
 ⟨[(0, .one (.own 0))], [], [(0, .arr 3 (.int .i64))]⟩,
 fun x => slices_Clone_int_int x⟩
noncomputable def cx_slices_Clone_int_int : Cx := ⟨types, [5], [], 8, []⟩
theorem ok_slices_Clone_int_int : FunOk Tryz.prog fn_slices_Clone_int_int :=
 FunOk.intro (C := cx_slices_Clone_int_int) (p := .nil)
  Tryz.func90 rfl (by kernel_rfl) rfl rfl rfl rfl types_ok ⟨trivial, trivial⟩ mx (fun x => by kernel_rfl)

noncomputable def slices_Clone_bool_bool (s : List Bool) : Option (List Bool) :=
 bif Nat.beq s.length 0 then (bothO (
 some []) (
 gd (fits (0 + s.length) 1) <|
 some ([] ++ s)))
 else (
 gd (fits (0 + s.length) 1) <|
 some ([] ++ s))

noncomputable def fn_slices_Clone_bool_bool : Fun :=
 ⟨157, 1, 1,
 ⟨[(0, .one (.data (.sl (.bool))))], [], []⟩,
 ⟨[(0, .one (.own 0))], [], [(0, .arr 4 (.bool))]⟩,
 fun x => slices_Clone_bool_bool x⟩
noncomputable def cx_slices_Clone_bool_bool : Cx := ⟨types, [5], [], 8, []⟩
theorem ok_slices_Clone_bool_bool : FunOk Tryz.prog fn_slices_Clone_bool_bool :=
 FunOk.intro (C := cx_slices_Clone_bool_bool) (p := .nil)
  Tryz.func157 rfl (by kernel_rfl) rfl rfl rfl rfl types_ok ⟨trivial, trivial⟩ mx (fun x => by kernel_rfl)

noncomputable def step_Copy (d : List (Int × Int × Bool × Bool) × List Int × List Int × List Bool) : Option ((List (Int × Int × Bool × Bool)) × List Int × List Int × List Bool) :=
 (slices_Clone_api_Valve_api_Valve d.1).bind fun r =>
 (slices_Clone_int_int d.2.1).bind fun r2 =>
 (slices_Clone_int_int d.2.2.1).bind fun r3 =>
 (slices_Clone_bool_bool d.2.2.2).bind fun r4 =>
 some (r, r2, r3, r4)

noncomputable def fn_step_Copy : Fun :=
 ⟨102, 1, 1,
 ⟨[(0, .one (.data (.pair (.sl tT4) (.pair (.sl (.int .i64)) (.pair (.sl (.int .i64)) (.sl (.bool)))))))], [], []⟩,
 ⟨[(0, .agg [.own 0, .own 1, .own 2, .own 3])], [], [(0, .arr 152 tT4), (1, .arr 3 (.int .i64)), (2, .arr 3 (.int .i64)), (3, .arr 4 (.bool))]⟩,
 fun x => step_Copy x⟩
noncomputable def cx_step_Copy : Cx := ⟨types, [], [fn_slices_Clone_api_Valve_api_Valve, fn_slices_Clone_int_int, fn_slices_Clone_bool_bool], 34, []⟩
theorem ok_step_Copy : FunOk Tryz.prog fn_step_Copy :=
 FunOk.intro (C := cx_step_Copy) (p := .nil)
  Tryz.func102 rfl (by kernel_rfl) rfl rfl rfl rfl types_ok ⟨⟨ok_slices_Clone_api_Valve_api_Valve, ok_slices_Clone_int_int, ok_slices_Clone_bool_bool, trivial⟩, trivial⟩ mx (fun x => by kernel_rfl)

noncomputable def slices_Clone_api_Telegram_api_Telegram (s : List (Int × Int × Int × Int × Int × List Int)) : Option (List (Int × Int × Int × Int × Int × List Int)) :=
 bif Nat.beq s.length 0 then (bothO (
 some []) (
 gd (fits (0 + s.length) 64) <|
 some ([] ++ s)))
 else (
 gd (fits (0 + s.length) 64) <|
 some ([] ++ s))

noncomputable def fn_slices_Clone_api_Telegram_api_Telegram : Fun :=
 ⟨103, 1, 1,
 ⟨[(0, .one (.data (.sl tT1)))], [], []⟩,
 ⟨[(0, .one (.own 0))], [], [(0, .arr 97 tT1)]⟩,
 fun x => slices_Clone_api_Telegram_api_Telegram x⟩
noncomputable def cx_slices_Clone_api_Telegram_api_Telegram : Cx := ⟨types, [5], [], 8, []⟩
theorem ok_slices_Clone_api_Telegram_api_Telegram : FunOk Tryz.prog fn_slices_Clone_api_Telegram_api_Telegram :=
 FunOk.intro (C := cx_slices_Clone_api_Telegram_api_Telegram) (p := .nil)
  Tryz.func103 rfl (by kernel_rfl) rfl rfl rfl rfl types_ok ⟨trivial, trivial⟩ mx (fun x => by kernel_rfl)

noncomputable def slices_Clone_api_Account_api_Account (s : List (List UInt8 × Int × Int × Int × Int)) : Option (List (List UInt8 × Int × Int × Int × Int)) :=
 bif Nat.beq s.length 0 then (bothO (
 some []) (
 gd (fits (0 + s.length) 48) <|
 some ([] ++ s)))
 else (
 gd (fits (0 + s.length) 48) <|
 some ([] ++ s))

noncomputable def fn_slices_Clone_api_Account_api_Account : Fun :=
 ⟨104, 1, 1,
 ⟨[(0, .one (.data (.sl tT2)))], [], []⟩,
 ⟨[(0, .one (.own 0))], [], [(0, .arr 110 tT2)]⟩,
 fun x => slices_Clone_api_Account_api_Account x⟩
noncomputable def cx_slices_Clone_api_Account_api_Account : Cx := ⟨types, [5], [], 8, []⟩
theorem ok_slices_Clone_api_Account_api_Account : FunOk Tryz.prog fn_slices_Clone_api_Account_api_Account :=
 FunOk.intro (C := cx_slices_Clone_api_Account_api_Account) (p := .nil)
  Tryz.func104 rfl (by kernel_rfl) rfl rfl rfl rfl types_ok ⟨trivial, trivial⟩ mx (fun x => by kernel_rfl)

noncomputable def slices_Clone_int_d (s : List Int) : Option (List Int) :=
 bif Nat.beq s.length 0 then (bothO (
 some []) (
 gd (fits (0 + s.length) 8) <|
 some ([] ++ s)))
 else (
 gd (fits (0 + s.length) 8) <|
 some ([] ++ s))

noncomputable def fn_slices_Clone_int_d : Fun :=
 ⟨90, 1, 1,
 ⟨[(0, .one (.data (.sl (.int .i64))))], [], []⟩,
 ⟨[(0, .one (.data (.sl (.int .i64))))], [], []⟩,
 fun x => slices_Clone_int_d x⟩
noncomputable def cx_slices_Clone_int_d : Cx := ⟨types, [5], [], 8, []⟩
theorem ok_slices_Clone_int_d : FunOk Tryz.prog fn_slices_Clone_int_d :=
 FunOk.intro (C := cx_slices_Clone_int_d) (p := .nil)
  Tryz.func90 rfl (by kernel_rfl) rfl rfl rfl rfl types_ok ⟨trivial, trivial⟩ mx (fun x => by kernel_rfl)

noncomputable def centre_Copy_L0 (r2 : List (Int × Int × Int × Int × Int × List Int)) (v : Int) (c2 : List (Int × Int × Int × Int × Int × List Int)) (c3 : List (Int × Int × Bool × Bool)) (c4 : List Int) (c5 : List Int) (c6 : List Bool) (c7 : List (List UInt8 × Int × Int × Int × Int)) : Option ((Int × (List (Int × Int × Int × Int × Int × List Int)) × (List (Int × Int × Bool × Bool)) × List Int × List Int × List Bool × List (List UInt8 × Int × Int × Int × Int)) ⊕ ((List (Int × Int × Bool × Bool)) × List Int × List Int × List Bool × (List (Int × Int × Int × Int × Int × List Int)) × List (List UInt8 × Int × Int × Int × Int))) :=
 bif decide (v < (r2.length : Int)) then (
 gd (inB v c2.length) <|
 (slices_Clone_int_d ((((((c2.getD v.toNat (0, (0, (0, (0, (0, [])))))).2).2).2).2).2)).bind fun r4 =>
 gd (inB v c2.length) <|
 some (.inl (wi64 (v + 1), c2.set v.toNat ((c2.getD v.toNat (0, (0, (0, (0, (0, [])))))).1, (((c2.getD v.toNat (0, (0, (0, (0, (0, [])))))).2).1, ((((c2.getD v.toNat (0, (0, (0, (0, (0, [])))))).2).2).1, (((((c2.getD v.toNat (0, (0, (0, (0, (0, [])))))).2).2).2).1, ((((((c2.getD v.toNat (0, (0, (0, (0, (0, [])))))).2).2).2).2).1, r4))))), c3, c4, c5, c6, c7)))
 else (
 some (.inr (c3, c4, c5, c6, c2, c7)))

noncomputable def centre_Copy (c : (List (Int × Int × Bool × Bool) × List Int × List Int × List Bool) × List (Int × Int × Int × Int × Int × List Int) × List (List UInt8 × Int × Int × Int × Int) × Int) : Option (Int × (List (Int × Int × Bool × Bool)) × List Int × List Int × List Bool × (List (Int × Int × Int × Int × Int × List Int)) × List (List UInt8 × Int × Int × Int × Int)) :=
 (step_Copy (c.1.1, (c.1.2.1, (c.1.2.2.1, c.1.2.2.2)))).bind fun r =>
 (slices_Clone_api_Telegram_api_Telegram c.2.1).bind fun r2 =>
 (slices_Clone_api_Account_api_Account c.2.2.1).bind fun r3 =>
 (iter (fun x => centre_Copy_L0 r2 x.1 x.2.1 x.2.2.1 x.2.2.2.1 x.2.2.2.2.1 x.2.2.2.2.2.1 x.2.2.2.2.2.2) (0, r2, r.1, r.2.1, r.2.2.1, r.2.2.2, r3)).bind fun s =>
 some (c.2.2.2, s.1, s.2.1, s.2.2.1, s.2.2.2.1, s.2.2.2.2.1, s.2.2.2.2.2)

noncomputable def fn_centre_Copy : Fun :=
 ⟨61, 1, 1,
 ⟨[(0, .one (.data (.pair (.pair (.sl tT4) (.pair (.sl (.int .i64)) (.pair (.sl (.int .i64)) (.sl (.bool))))) (.pair (.sl tT1) (.pair (.sl tT2) (.int .i64))))))], [], []⟩,
 ⟨[(0, .agg [.own 0, .own 1, .own 2, .own 3, .own 4, .own 5, .data (.int .i64)])], [], [(0, .arr 152 tT4), (1, .arr 3 (.int .i64)), (2, .arr 3 (.int .i64)), (3, .arr 4 (.bool)), (4, .arr 97 tT1), (5, .arr 110 tT2)]⟩,
 fun x => centre_Copy x⟩
noncomputable def cx_centre_Copy : Cx := ⟨types, [], [fn_step_Copy, fn_slices_Clone_api_Telegram_api_Telegram, fn_slices_Clone_api_Account_api_Account, fn_slices_Clone_int_d], 35, []⟩
theorem ok_centre_Copy : FunOk Tryz.prog fn_centre_Copy :=
 FunOk.intro (C := cx_centre_Copy) (p := (nn (nn (mm (nn (mm (.mk [] (some (⟨[(1, .one (.ptr 32 0)), (2, .one (.ptr 48 0)), (18, .one (.own 176)), (19, kk), (20, ii)], [(32, 61, [.own 128, .own 129, .own 130, .own 131, .own 176, .own 224, .keep]), (48, 61, [.keep, .keep, .keep, .keep, .keep, .keep, .keep])], [(176, .arr 97 tT1), (128, .arr 152 tT4), (129, .arr 3 (.int .i64)), (130, .arr 3 (.int .i64)), (131, .arr 4 (.bool)), (224, .arr 110 tT2)]⟩, [⟨.x 0, ⟨[(1, .one (.ptr 32 0)), (2, .one (.ptr 48 0))], [(32, 61, [.own 128, .own 129, .own 130, .own 131, .own 176, .own 224, .keep]), (48, 61, [.keep, .keep, .keep, .keep, .keep, .keep, .keep])], [(128, .arr 152 tT4), (129, .arr 3 (.int .i64)), (130, .arr 3 (.int .i64)), (131, .arr 4 (.bool)), (176, .arr 97 tT1), (224, .arr 110 tT2)]⟩⟩])) .nil .nil) .nil)) .nil))))
  Tryz.func61 rfl (by kernel_rfl) rfl rfl rfl rfl types_ok ⟨⟨ok_step_Copy, ok_slices_Clone_api_Telegram_api_Telegram, ok_slices_Clone_api_Account_api_Account, ok_slices_Clone_int_d, trivial⟩, trivial⟩ mx (fun x => by kernel_rfl)

noncomputable def centre_noStep (s : Int × Int × Int × Int × Int × List (Int × Bool) × Int) : Option (Bool) :=
 bif decide (s.1 = 0) then (
 bif decide (s.2.1 = 0) then (
 bif decide (s.2.2.1 = 0) then (
 bif decide (s.2.2.2.1 = 0) then (
 bif decide (s.2.2.2.2.1 = 0) then (
 bif decide (s.2.2.2.2.2.2 = 0) then (
 some (decide ((s.2.2.2.2.2.1.length : Int) = 0)))
 else (
 some false))
 else (
 some false))
 else (
 some false))
 else (
 some false))
 else (
 some false))
 else (
 some false)

noncomputable def fn_centre_noStep : Fun :=
 ⟨119, 1, 1,
 ⟨[(0, .one (.data (.pair (.int .i64) (.pair (.int .i64) (.pair (.int .i64) (.pair (.int .i64) (.pair (.int .i64) (.pair (.sl (.pair (.int .i64) (.bool))) (.int .i64)))))))))], [], []⟩,
 ⟨[(0, bb)], [], []⟩,
 fun x => centre_noStep x⟩
noncomputable def cx_centre_noStep : Cx := ⟨types, [], [], 40, []⟩
theorem ok_centre_noStep : FunOk Tryz.prog fn_centre_noStep :=
 FunOk.intro (C := cx_centre_noStep) (p := .nil)
  Tryz.func119 rfl (by kernel_rfl) rfl rfl rfl rfl types_ok ⟨trivial, trivial⟩ mx (fun x => by kernel_rfl)

noncomputable def telegram_Valid_1 (n : Int) (most : Int) : Option (Bool) :=
 bif decide (0 ≤ n) then (
 some (decide (n ≤ most)))
 else (
 some false)

noncomputable def fn_telegram_Valid_1 : Fun :=
 ⟨160, 2, 1,
 ⟨[(0, ii), (1, ii)], [], []⟩,
 ⟨[(0, bb)], [], []⟩,
 fun x => telegram_Valid_1 x.1 x.2⟩
noncomputable def cx_telegram_Valid_1 : Cx := ⟨types, [], [], 12, []⟩
theorem ok_telegram_Valid_1 : FunOk Tryz.prog fn_telegram_Valid_1 :=
 FunOk.intro (C := cx_telegram_Valid_1) (p := .nil)
  Tryz.func160 rfl (by kernel_rfl) rfl rfl rfl rfl types_ok ⟨trivial, trivial⟩ mx (fun x => by kernel_rfl)

noncomputable def telegram_Valid_2 (v : Int) : Option (Bool) :=
 bif decide (v < (-9007199254740992)) then (
 some true)
 else (
 some (decide (9007199254740992 < v)))

noncomputable def fn_telegram_Valid_2 : Fun :=
 ⟨162, 1, 1,
 ⟨[(0, ii)], [], []⟩,
 ⟨[(0, bb)], [], []⟩,
 fun x => telegram_Valid_2 x⟩
noncomputable def cx_telegram_Valid_2 : Cx := ⟨types, [], [], 9, []⟩
theorem ok_telegram_Valid_2 : FunOk Tryz.prog fn_telegram_Valid_2 :=
 FunOk.intro (C := cx_telegram_Valid_2) (p := .nil)
  Tryz.func162 rfl (by kernel_rfl) rfl rfl rfl rfl types_ok ⟨trivial, trivial⟩ mx (fun x => by kernel_rfl)

noncomputable def telegram_Valid (t : Int × Int × Int × Int × Int × List Int) : Option (Bool) :=
 Option.bind (α := Bool) (
 (telegram_Valid_1 t.1 255).bind fun r =>
 bif !r then (
 some true)
 else (
 (telegram_Valid_1 t.2.1 255).bind fun r2 =>
 bif !r2 then (
 some true)
 else (
 (telegram_Valid_1 t.2.2.1 2147483648).bind fun r3 =>
 bif !r3 then (
 some true)
 else (
 (telegram_Valid_1 t.2.2.2.1 1099511627776).bind fun r4 =>
 bif !r4 then (
 some true)
 else (
 (telegram_Valid_1 t.2.2.2.2.1 63).bind fun r5 =>
 some (!r5)))))) fun s =>
 bif s then (
 some false)
 else (
 bif decide ((t.2.2.2.2.2.length : Int) ≤ 16) then (
 (slices_ContainsFunc_int_int t.2.2.2.2.2 (fun h => (telegram_Valid_2 h.1).bind fun y => some y)).bind fun r6 =>
 some (!r6))
 else (
 some false))

noncomputable def fn_telegram_Valid : Fun :=
 ⟨120, 1, 1,
 ⟨[(0, .one (.data tT1))], [], []⟩,
 ⟨[(0, bb)], [], []⟩,
 fun x => telegram_Valid x⟩
noncomputable def cx_telegram_Valid : Cx := ⟨types, [], [fn_telegram_Valid_1, fn_slices_ContainsFunc_int_int, fn_telegram_Valid_2], 47, []⟩
theorem ok_telegram_Valid : FunOk Tryz.prog fn_telegram_Valid :=
 FunOk.intro (C := cx_telegram_Valid) (p := (nn (nn (mm (mm (.mk [.join [⟨.n, ⟨[(1, .one (.ptr 32 0)), (36, bb)], [(32, 97, [.keep, .keep, .keep, .keep, .keep, .keep])], []⟩⟩]] none .nil .nil) .nil) .nil))))
  Tryz.func120 rfl (by kernel_rfl) rfl rfl rfl rfl types_ok ⟨⟨ok_telegram_Valid_1, ok_slices_ContainsFunc_int_int, ok_telegram_Valid_2, trivial⟩, trivial⟩ mx (fun x => by kernel_rfl)

noncomputable def slices_BinarySearchFunc_api_Telegram_api_Telegram_int_L0 (x : List (Int × Int × Int × Int × Int × List Int)) (target : Int) (cmp : (Int × Int × Int × Int × Int × List Int) × Int × Unit → Option Int) (i : Int) (j : Int) : Option ((Int × Int) ⊕ Int) :=
 bif decide (i < j) then (
 gd (inB (wi64 (Int.fdiv (wu64 (wi64 (i + j))) (2 ^ shAmt .u64 1))) x.length) <|
 (cmp (x.getD (wi64 (Int.fdiv (wu64 (wi64 (i + j))) (2 ^ shAmt .u64 1))).toNat (0, (0, (0, (0, (0, []))))), target, ())).bind fun r =>
 bif decide (r < 0) then (
 some (.inl (wi64 ((wi64 (Int.fdiv (wu64 (wi64 (i + j))) (2 ^ shAmt .u64 1))) + 1), j)))
 else (
 some (.inl (i, wi64 (Int.fdiv (wu64 (wi64 (i + j))) (2 ^ shAmt .u64 1))))))
 else (
 some (.inr i))

noncomputable def slices_BinarySearchFunc_api_Telegram_api_Telegram_int (x : List (Int × Int × Int × Int × Int × List Int)) (target : Int) (cmp : (Int × Int × Int × Int × Int × List Int) × Int × Unit → Option Int) : Option (Int × Bool) :=
 (iter (fun x2 => slices_BinarySearchFunc_api_Telegram_api_Telegram_int_L0 x target cmp x2.1 x2.2) (0, (x.length : Int))).bind fun s =>
 bif decide (s < (x.length : Int)) then (
 gd (inB s x.length) <|
 (cmp (x.getD s.toNat (0, (0, (0, (0, (0, []))))), target, ())).bind fun r2 =>
 some (s, decide (r2 = 0)))
 else (
 some (s, false))

noncomputable def fn_slices_BinarySearchFunc_api_Telegram_api_Telegram_int : Fun :=
 ⟨163, 3, 2,
 ⟨[(0, .one (.data (.sl tT1))), (1, ii), (2, .one (.fn [.pair (.int .i64) (.pair (.int .i64) (.pair (.int .i64) (.pair (.int .i64) (.pair (.int .i64) (.sl (.int .i64)))))), .int .i64] (.int .i64)))], [], []⟩,
 ⟨[(0, ii), (1, bb)], [], []⟩,
 fun x => slices_BinarySearchFunc_api_Telegram_api_Telegram_int x.1 x.2.1 x.2.2⟩
noncomputable def cx_slices_BinarySearchFunc_api_Telegram_api_Telegram_int : Cx := ⟨types, [], [], 49, []⟩
theorem ok_slices_BinarySearchFunc_api_Telegram_api_Telegram_int : FunOk Tryz.prog fn_slices_BinarySearchFunc_api_Telegram_api_Telegram_int :=
 FunOk.intro (C := cx_slices_BinarySearchFunc_api_Telegram_api_Telegram_int) (p := (nn (nn (nn (mm (mm (.mk [] (some (⟨[(0, kk), (1, kk), (2, kk), (8, kk), (9, ii), (10, ii)], [], []⟩, [⟨.x 0, ⟨[(0, kk), (1, kk), (2, kk), (8, kk), (9, ii)], [], []⟩⟩])) .nil .nil) .nil) .nil)))))
  Tryz.func163 rfl (by kernel_rfl) rfl rfl rfl rfl types_ok ⟨trivial, trivial⟩ mx (fun x => by kernel_rfl)

noncomputable def cmp_isNaN_int (x : Int) : Option (Bool) :=
 some (!decide (x = x))

noncomputable def fn_cmp_isNaN_int : Fun :=
 ⟨204, 1, 1,
 ⟨[(0, ii)], [], []⟩,
 ⟨[(0, bb)], [], []⟩,
 fun x => cmp_isNaN_int x⟩
noncomputable def cx_cmp_isNaN_int : Cx := ⟨types, [], [], 6, []⟩
theorem ok_cmp_isNaN_int : FunOk Tryz.prog fn_cmp_isNaN_int :=
 FunOk.intro (C := cx_cmp_isNaN_int) (p := .nil)
  Tryz.func204 rfl (by kernel_rfl) rfl rfl rfl rfl types_ok ⟨trivial, trivial⟩ mx (fun x => by kernel_rfl)

noncomputable def cmp_Compare_int (x : Int) (y : Int) : Option (Int) :=
 (cmp_isNaN_int x).bind fun r =>
 (cmp_isNaN_int y).bind fun r2 =>
 bif r then (
 bif r2 then (
 some 0)
 else (
 some (-1)))
 else (
 bif r2 then (
 some 1)
 else (
 bif decide (x < y) then (
 some (-1))
 else (
 bif decide (y < x) then (
 some 1)
 else (
 some 0))))

noncomputable def fn_cmp_Compare_int : Fun :=
 ⟨165, 2, 1,
 ⟨[(0, ii), (1, ii)], [], []⟩,
 ⟨[(0, ii)], [], []⟩,
 fun x => cmp_Compare_int x.1 x.2⟩
noncomputable def cx_cmp_Compare_int : Cx := ⟨types, [], [fn_cmp_isNaN_int], 20, []⟩
theorem ok_cmp_Compare_int : FunOk Tryz.prog fn_cmp_Compare_int :=
 FunOk.intro (C := cx_cmp_Compare_int) (p := .nil)
  Tryz.func165 rfl (by kernel_rfl) rfl rfl rfl rfl types_ok ⟨⟨ok_cmp_isNaN_int, trivial⟩, trivial⟩ mx (fun x => by kernel_rfl)

noncomputable def centre_find_1 (t : Int × Int × Int × Int × Int × List Int) (s : Int) : Option (Int) :=
 (cmp_Compare_int t.1 s).bind fun r =>
 some r

noncomputable def fn_centre_find_1 : Fun :=
 ⟨164, 2, 1,
 ⟨[(0, .one (.data tT1)), (1, ii)], [], []⟩,
 ⟨[(0, ii)], [], []⟩,
 fun x => centre_find_1 x.1 x.2⟩
noncomputable def cx_centre_find_1 : Cx := ⟨types, [], [fn_cmp_Compare_int], 9, []⟩
theorem ok_centre_find_1 : FunOk Tryz.prog fn_centre_find_1 :=
 FunOk.intro (C := cx_centre_find_1) (p := .nil)
  Tryz.func164 rfl (by kernel_rfl) rfl rfl rfl rfl types_ok ⟨⟨ok_cmp_Compare_int, trivial⟩, trivial⟩ mx (fun x => by kernel_rfl)

noncomputable def centre_find (l : List (Int × Int × Int × Int × Int × List Int)) (station : Int) : Option (Int × Bool) :=
 (slices_BinarySearchFunc_api_Telegram_api_Telegram_int l station (fun h => (centre_find_1 h.1 h.2.1).bind fun y => some y)).bind fun r =>
 some (r.1, r.2)

noncomputable def fn_centre_find : Fun :=
 ⟨121, 2, 2,
 ⟨[(0, .one (.data (.sl tT1))), (1, ii)], [], []⟩,
 ⟨[(0, ii), (1, bb)], [], []⟩,
 fun x => centre_find x.1 x.2⟩
noncomputable def cx_centre_find : Cx := ⟨types, [], [fn_slices_BinarySearchFunc_api_Telegram_api_Telegram_int, fn_centre_find_1], 11, []⟩
theorem ok_centre_find : FunOk Tryz.prog fn_centre_find :=
 FunOk.intro (C := cx_centre_find) (p := .nil)
  Tryz.func121 rfl (by kernel_rfl) rfl rfl rfl rfl types_ok ⟨⟨ok_slices_BinarySearchFunc_api_Telegram_api_Telegram_int, ok_centre_find_1, trivial⟩, trivial⟩ mx (fun x => by kernel_rfl)

noncomputable def fn_slices_Insert_api_Telegram_api_Telegram : Fun := funIns 122 97 tT1 64
theorem ok_slices_Insert_api_Telegram_api_Telegram : FunOk Tryz.prog fn_slices_Insert_api_Telegram_api_Telegram := ins_ok ⟨_, Tryz.func122, (by kernel_rfl), rfl⟩ Tryz.underlying58 tk97.info rfl (by decide) (by decide) ins_end (ins_grow' tk97.info rfl (by decide)) ins_shift

noncomputable def telegram_Before (a : Int × Int × Int × Int × Int × List Int) (b : Int × Int × Int × Int × Int × List Int) : Option (Bool) :=
 bif decide (a.1 = b.1) then (
 bif decide (a.2.1 < b.2.1) then (
 some true)
 else (
 bif decide (a.2.1 = b.2.1) then (
 some (decide (a.2.2.1 < b.2.2.1)))
 else (
 some false)))
 else (
 some false)

noncomputable def fn_telegram_Before : Fun :=
 ⟨123, 2, 1,
 ⟨[(0, .one (.data tT1)), (1, .one (.data tT1))], [], []⟩,
 ⟨[(0, bb)], [], []⟩,
 fun x => telegram_Before x.1 x.2⟩
noncomputable def cx_telegram_Before : Cx := ⟨types, [], [], 31, []⟩
theorem ok_telegram_Before : FunOk Tryz.prog fn_telegram_Before :=
 FunOk.intro (C := cx_telegram_Before) (p := .nil)
  Tryz.func123 rfl (by kernel_rfl) rfl rfl rfl rfl types_ok ⟨trivial, trivial⟩ mx (fun x => by kernel_rfl)

noncomputable def centre_accept (v : List (List UInt8) × List yT0 × List (List UInt8 × Int × Int) × List (List UInt8 × Int × Int × Int × Int) × Int × Int) (r : Int × List Int × (Int × Int × Int × Int × Int × List (Int × Bool) × Int) × List UInt8 × Int × Int) (c : Int) (c2 : List (Int × Int × Bool × Bool)) (c3 : List Int) (c4 : List Int) (c5 : List Bool) (c6 : List (Int × Int × Int × Int × Int × List Int)) (c7 : List (List UInt8 × Int × Int × Int × Int)) : Option (Int × Int × (List (Int × Int × Bool × Bool)) × List Int × List Int × List Bool × (List (Int × Int × Int × Int × Int × List Int)) × List (List UInt8 × Int × Int × Int × Int)) :=
 Option.bind (α := Bool × (List (Int × Int × Bool × Bool)) × List Int × List Int × List Bool × (List (Int × Int × Int × Int × Int × List Int)) × List (List UInt8 × Int × Int × Int × Int)) (
 bif decide ((r.2.1.length : Int) < 5) then (
 some (true, c2, c3, c4, c5, c6, c7))
 else (
 (centre_noStep (r.2.2.1.1, (r.2.2.1.2.1, (r.2.2.1.2.2.1, (r.2.2.1.2.2.2.1, (r.2.2.1.2.2.2.2.1, (r.2.2.1.2.2.2.2.2.1, r.2.2.1.2.2.2.2.2.2))))))).bind fun r2 =>
 bif !r2 then (
 some (true, c2, c3, c4, c5, c6, c7))
 else (
 some ((!(decide (r.2.2.2.1 = []) && (decide (r.2.2.2.2.1 = 0) && decide (r.2.2.2.2.2 = 0)))), c2, c3, c4, c5, c6, c7)))) fun s =>
 bif s.1 then (
 some (28, c, s.2.1, s.2.2.1, s.2.2.2.1, s.2.2.2.2.1, s.2.2.2.2.2.1, s.2.2.2.2.2.2))
 else (
 gd (inB 0 r.2.1.length) <|
 gd (inB 1 r.2.1.length) <|
 gd (inB 2 r.2.1.length) <|
 gd (inB 3 r.2.1.length) <|
 gd (inB 4 r.2.1.length) <|
 gd (cutG (some (.i64, 5)) none r.2.1.length) <|
 (slices_Clone_int_d (r.2.1.drop 5)).bind fun r3 =>
 (telegram_Valid (r.2.1.getD 0 0, (r.2.1.getD 1 0, (r.2.1.getD 2 0, (r.2.1.getD 3 0, (r.2.1.getD 4 0, r3)))))).bind fun r4 =>
 bif !r4 then (
 some (28, c, s.2.1, s.2.2.1, s.2.2.2.1, s.2.2.2.2.1, s.2.2.2.2.2.1, s.2.2.2.2.2.2))
 else (
 (centre_find s.2.2.2.2.2.1 (r.2.1.getD 0 0)).bind fun r5 =>
 bif !r5.2 then (
 (insT 64 r5.1 s.2.2.2.2.2.1 [(r.2.1.getD 0 0, (r.2.1.getD 1 0, (r.2.1.getD 2 0, (r.2.1.getD 3 0, (r.2.1.getD 4 0, r3)))))]).bind fun r6 =>
 some (0, c, s.2.1, s.2.2.1, s.2.2.2.1, s.2.2.2.2.1, r6, s.2.2.2.2.2.2))
 else (
 gd (inB r5.1 s.2.2.2.2.2.1.length) <|
 (telegram_Before (s.2.2.2.2.2.1.getD r5.1.toNat (0, (0, (0, (0, (0, [])))))) (r.2.1.getD 0 0, (r.2.1.getD 1 0, (r.2.1.getD 2 0, (r.2.1.getD 3 0, (r.2.1.getD 4 0, r3)))))).bind fun r7 =>
 bif !r7 then (
 some (6, c, s.2.1, s.2.2.1, s.2.2.2.1, s.2.2.2.2.1, s.2.2.2.2.2.1, s.2.2.2.2.2.2))
 else (
 gd (inB r5.1 s.2.2.2.2.2.1.length) <|
 some (0, c, s.2.1, s.2.2.1, s.2.2.2.1, s.2.2.2.2.1, s.2.2.2.2.2.1.set r5.1.toNat (r.2.1.getD 0 0, (r.2.1.getD 1 0, (r.2.1.getD 2 0, (r.2.1.getD 3 0, (r.2.1.getD 4 0, r3))))), s.2.2.2.2.2.2)))))

noncomputable def fn_centre_accept : Fun :=
 ⟨76, 3, 1,
 ⟨[(0, .one (.data (.pair (.sl (.str)) tT0))), (1, .one (.ptr 0 0)), (2, .one (.data (.pair (.int .i64) (.pair (.sl (.int .i64)) (.pair (.pair (.int .i64) (.pair (.int .i64) (.pair (.int .i64) (.pair (.int .i64) (.pair (.int .i64) (.pair (.sl (.pair (.int .i64) (.bool))) (.int .i64))))))) (.pair (.str) (.pair (.int .i64) (.int .i64))))))))], [(0, 61, [.own 1, .own 2, .own 3, .own 4, .own 5, .own 6, .data (.int .i64)])], [(1, .arr 152 tT4), (2, .arr 3 (.int .i64)), (3, .arr 3 (.int .i64)), (4, .arr 4 (.bool)), (5, .arr 97 tT1), (6, .arr 110 tT2)]⟩,
 ⟨[(0, ii)], [(0, 61, [.own 7, .own 8, .own 9, .own 10, .own 11, .own 12, .data (.int .i64)])], [(7, .arr 152 tT4), (8, .arr 3 (.int .i64)), (9, .arr 3 (.int .i64)), (10, .arr 4 (.bool)), (11, .arr 97 tT1), (12, .arr 110 tT2)]⟩,
 fun x => centre_accept x.1 x.2.1 x.2.2.1 x.2.2.2.1 x.2.2.2.2.1 x.2.2.2.2.2.1 x.2.2.2.2.2.2.1 x.2.2.2.2.2.2.2.1 x.2.2.2.2.2.2.2.2⟩
noncomputable def cx_centre_accept : Cx := ⟨types, [78], [fn_centre_noStep, fn_slices_Clone_int_d, fn_telegram_Valid, fn_centre_find, fn_slices_Insert_api_Telegram_api_Telegram, fn_telegram_Before], 93, []⟩
theorem ok_centre_accept : FunOk Tryz.prog fn_centre_accept :=
 FunOk.intro (C := cx_centre_accept) (p := (nn (mm (mm (.mk [.join [⟨.n, ⟨[(1, .one (.ptr 0 0)), (5, .one (.ptr 96 0)), (26, bb)], [(0, 61, [.own 1, .own 2, .own 3, .own 4, .own 5, .own 6, .keep]), (96, 32, [.keep, .keep, .keep, .keep, .keep, .keep, .keep, .keep, .keep, .keep, .keep, .keep])], [(1, .arr 152 tT4), (2, .arr 3 (.int .i64)), (3, .arr 3 (.int .i64)), (4, .arr 4 (.bool)), (5, .arr 97 tT1), (6, .arr 110 tT2)]⟩⟩]] none .nil .nil) .nil) .nil)))
  Tryz.func76 rfl (by kernel_rfl) rfl rfl rfl rfl types_ok ⟨⟨ok_centre_noStep, ok_slices_Clone_int_d, ok_telegram_Valid, ok_centre_find, ok_slices_Insert_api_Telegram_api_Telegram, ok_telegram_Before, trivial⟩, trivial⟩ mx (fun x => by kernel_rfl)

noncomputable def allocate_Volume (n : Int) : Option (Bool) :=
 bif decide (0 ≤ n) then (
 some (decide (n ≤ 1099511627776)))
 else (
 some false)

noncomputable def fn_allocate_Volume : Fun :=
 ⟨218, 1, 1,
 ⟨[(0, ii)], [], []⟩,
 ⟨[(0, bb)], [], []⟩,
 fun x => allocate_Volume x⟩
noncomputable def cx_allocate_Volume : Cx := ⟨types, [], [], 9, []⟩
theorem ok_allocate_Volume : FunOk Tryz.prog fn_allocate_Volume :=
 FunOk.intro (C := cx_allocate_Volume) (p := .nil)
  Tryz.func218 rfl (by kernel_rfl) rfl rfl rfl rfl types_ok ⟨trivial, trivial⟩ mx (fun x => by kernel_rfl)

noncomputable def allocate_Signed (n : Int) : Option (Bool) :=
 bif decide ((-1099511627776) ≤ n) then (
 some (decide (n ≤ 1099511627776)))
 else (
 some false)

noncomputable def fn_allocate_Signed : Fun :=
 ⟨219, 1, 1,
 ⟨[(0, ii)], [], []⟩,
 ⟨[(0, bb)], [], []⟩,
 fun x => allocate_Signed x⟩
noncomputable def cx_allocate_Signed : Cx := ⟨types, [], [], 9, []⟩
theorem ok_allocate_Signed : FunOk Tryz.prog fn_allocate_Signed :=
 FunOk.intro (C := cx_allocate_Signed) (p := .nil)
  Tryz.func219 rfl (by kernel_rfl) rfl rfl rfl rfl types_ok ⟨trivial, trivial⟩ mx (fun x => by kernel_rfl)

noncomputable def account_valid (a : List UInt8 × Int × Int × Int × Int) : Option (Bool) :=
 (allocate_Volume a.2.1).bind fun r =>
 bif r then (
 (allocate_Volume a.2.2.1).bind fun r2 =>
 bif r2 then (
 (allocate_Volume a.2.2.2.1).bind fun r3 =>
 bif r3 then (
 (allocate_Signed a.2.2.2.2).bind fun r4 =>
 some r4)
 else (
 some false))
 else (
 some false))
 else (
 some false)

noncomputable def fn_account_valid : Fun :=
 ⟨174, 1, 1,
 ⟨[(0, .one (.data tT2))], [], []⟩,
 ⟨[(0, bb)], [], []⟩,
 fun x => account_valid x⟩
noncomputable def cx_account_valid : Cx := ⟨types, [], [fn_allocate_Volume, fn_allocate_Signed], 21, []⟩
theorem ok_account_valid : FunOk Tryz.prog fn_account_valid :=
 FunOk.intro (C := cx_account_valid) (p := .nil)
  Tryz.func174 rfl (by kernel_rfl) rfl rfl rfl rfl types_ok ⟨⟨ok_allocate_Volume, ok_allocate_Signed, trivial⟩, trivial⟩ mx (fun x => by kernel_rfl)

noncomputable def account_Valid_L0 (l : List (List UInt8 × Int × Int × Int × Int)) (v : Int) : Option (Int ⊕ (Unit ⊕ Bool)) :=
 bif decide (v < (l.length : Int)) then (
 gd (inB v l.length) <|
 Option.bind (α := Bool) (
 (account_valid ((l.getD v.toNat ([], (0, (0, (0, 0))))).1, (((l.getD v.toNat ([], (0, (0, (0, 0))))).2).1, ((((l.getD v.toNat ([], (0, (0, (0, 0))))).2).2).1, (((((l.getD v.toNat ([], (0, (0, (0, 0))))).2).2).2).1, ((((l.getD v.toNat ([], (0, (0, (0, 0))))).2).2).2).2))))).bind fun r =>
 bif !r then (
 some true)
 else (
 (lines_Name ((l.getD v.toNat ([], (0, (0, (0, 0))))).1)).bind fun r2 =>
 bif !r2 then (
 some true)
 else (
 bif decide (0 < v) then (
 gd (inB (wi64 (v - 1)) l.length) <|
 some (Op.bytesLess ((l.getD v.toNat ([], (0, (0, (0, 0))))).1) ((l.getD (wi64 (v - 1)).toNat ([], (0, (0, (0, 0))))).1) || decide ((l.getD v.toNat ([], (0, (0, (0, 0))))).1 = (l.getD (wi64 (v - 1)).toNat ([], (0, (0, (0, 0))))).1)))
 else (
 some false)))) fun s =>
 bif s then (
 some (.inr (.inr false)))
 else (
 some (.inl (wi64 (v + 1)))))
 else (
 some (.inr (.inl ())))

noncomputable def account_Valid (l : List (List UInt8 × Int × Int × Int × Int)) : Option (Bool) :=
 (iter (fun x => account_Valid_L0 l x) 0).bind fun s2 =>
 s2.elim (fun s3 =>
 some (decide ((l.length : Int) ≤ 64)))
 (fun s4 =>
 some s4)

noncomputable def fn_account_Valid : Fun :=
 ⟨170, 1, 1,
 ⟨[(0, .one (.data (.sl tT2)))], [], []⟩,
 ⟨[(0, bb)], [], []⟩,
 fun x => account_Valid x⟩
noncomputable def cx_account_Valid : Cx := ⟨types, [], [fn_account_valid, fn_lines_Name], 40, []⟩
theorem ok_account_Valid : FunOk Tryz.prog fn_account_Valid :=
 FunOk.intro (C := cx_account_Valid) (p := (nn (mm (nn (mm (.mk [] (some (⟨[(0, kk), (5, kk), (6, kk), (7, ii)], [], []⟩, [⟨.x 0, ⟨[(0, kk)], [], []⟩⟩, ⟨.r, ⟨[(2, bb)], [], []⟩⟩])) (nn (nn (mm (mm (nn (mm (.mk [.join [⟨.n, ⟨[(0, kk), (5, kk), (6, kk), (7, kk), (35, bb)], [], []⟩⟩]] none .nil .nil) .nil)) .nil) .nil))) .nil) .nil)) .nil)))
  Tryz.func170 rfl (by kernel_rfl) rfl rfl rfl rfl types_ok ⟨⟨ok_account_valid, ok_lines_Name, trivial⟩, trivial⟩ mx (fun x => by kernel_rfl)

noncomputable def allocate_Entry (e : List UInt8 × Int × Int) : Option (Bool) :=
 Option.bind (α := Bool) (
 bif decide (e.2.1 = 1) then (
 some (decide (e.2.1 = 1)))
 else (
 Option.bind (α := Bool) (
 bif decide (e.2.1 = 2) then (
 some (decide (e.2.1 = 2)))
 else (
 some (decide (e.2.1 = 3)))) fun s =>
 some s)) fun s2 =>
 bif s2 then (
 (allocate_Volume e.2.2).bind fun r =>
 bif r then (
 (lines_Name e.1).bind fun r2 =>
 some r2)
 else (
 some false))
 else (
 bif decide (e.2.1 = 4) then (
 (allocate_Signed e.2.2).bind fun r3 =>
 bif r3 then (
 (lines_Name e.1).bind fun r4 =>
 some r4)
 else (
 some false))
 else (
 some false))

noncomputable def fn_allocate_Entry : Fun :=
 ⟨171, 1, 1,
 ⟨[(0, .one (.data (.pair (.str) (.pair (.int .i64) (.int .i64)))))], [], []⟩,
 ⟨[(0, bb)], [], []⟩,
 fun x => allocate_Entry x⟩
noncomputable def cx_allocate_Entry : Cx := ⟨types, [], [fn_allocate_Volume, fn_lines_Name, fn_allocate_Signed], 27, []⟩
theorem ok_allocate_Entry : FunOk Tryz.prog fn_allocate_Entry :=
 FunOk.intro (C := cx_allocate_Entry) (p := (nn (mm (nn (mm (mm (nn (.mk [.join [⟨.n, ⟨[(1, .one (.ptr 32 0)), (4, kk), (5, bb)], [(32, 30, [.keep, .keep, .keep])], []⟩⟩]] none .nil (nn (.mk [.join [⟨.n, ⟨[(1, .one (.ptr 32 0)), (4, kk), (5, bb)], [(32, 30, [.keep, .keep, .keep])], []⟩⟩]] none .nil .nil)))) .nil) .nil)) .nil)))
  Tryz.func171 rfl (by kernel_rfl) rfl rfl rfl rfl types_ok ⟨⟨ok_allocate_Volume, ok_lines_Name, ok_allocate_Signed, trivial⟩, trivial⟩ mx (fun x => by kernel_rfl)

noncomputable def slices_BinarySearchFunc_api_Account_api_Account_string_L0 (x : List (List UInt8 × Int × Int × Int × Int)) (target : List UInt8) (cmp : (List UInt8 × Int × Int × Int × Int) × List UInt8 × Unit → Option Int) (i : Int) (j : Int) : Option ((Int × Int) ⊕ Int) :=
 bif decide (i < j) then (
 gd (inB (wi64 (Int.fdiv (wu64 (wi64 (i + j))) (2 ^ shAmt .u64 1))) x.length) <|
 (cmp (x.getD (wi64 (Int.fdiv (wu64 (wi64 (i + j))) (2 ^ shAmt .u64 1))).toNat ([], (0, (0, (0, 0)))), target, ())).bind fun r =>
 bif decide (r < 0) then (
 some (.inl (wi64 ((wi64 (Int.fdiv (wu64 (wi64 (i + j))) (2 ^ shAmt .u64 1))) + 1), j)))
 else (
 some (.inl (i, wi64 (Int.fdiv (wu64 (wi64 (i + j))) (2 ^ shAmt .u64 1))))))
 else (
 some (.inr i))

noncomputable def slices_BinarySearchFunc_api_Account_api_Account_string (x : List (List UInt8 × Int × Int × Int × Int)) (target : List UInt8) (cmp : (List UInt8 × Int × Int × Int × Int) × List UInt8 × Unit → Option Int) : Option (Int × Bool) :=
 (iter (fun x2 => slices_BinarySearchFunc_api_Account_api_Account_string_L0 x target cmp x2.1 x2.2) (0, (x.length : Int))).bind fun s =>
 bif decide (s < (x.length : Int)) then (
 gd (inB s x.length) <|
 (cmp (x.getD s.toNat ([], (0, (0, (0, 0)))), target, ())).bind fun r2 =>
 some (s, decide (r2 = 0)))
 else (
 some (s, false))

noncomputable def fn_slices_BinarySearchFunc_api_Account_api_Account_string : Fun :=
 ⟨220, 3, 2,
 ⟨[(0, .one (.data (.sl tT2))), (1, ss), (2, .one (.fn [.pair (.str) (.pair (.int .i64) (.pair (.int .i64) (.pair (.int .i64) (.int .i64)))), .str] (.int .i64)))], [], []⟩,
 ⟨[(0, ii), (1, bb)], [], []⟩,
 fun x => slices_BinarySearchFunc_api_Account_api_Account_string x.1 x.2.1 x.2.2⟩
noncomputable def cx_slices_BinarySearchFunc_api_Account_api_Account_string : Cx := ⟨types, [], [], 49, []⟩
theorem ok_slices_BinarySearchFunc_api_Account_api_Account_string : FunOk Tryz.prog fn_slices_BinarySearchFunc_api_Account_api_Account_string :=
 FunOk.intro (C := cx_slices_BinarySearchFunc_api_Account_api_Account_string) (p := (nn (nn (nn (mm (mm (.mk [] (some (⟨[(0, kk), (1, kk), (2, kk), (8, kk), (9, ii), (10, ii)], [], []⟩, [⟨.x 0, ⟨[(0, kk), (1, kk), (2, kk), (8, kk), (9, ii)], [], []⟩⟩])) .nil .nil) .nil) .nil)))))
  Tryz.func220 rfl (by kernel_rfl) rfl rfl rfl rfl types_ok ⟨trivial, trivial⟩ mx (fun x => by kernel_rfl)

noncomputable def internal_bytealg_CompareString (a : List UInt8) (b : List UInt8) : Option (Int) :=
 (cmpStr a b).bind fun r =>
 some r

noncomputable def fn_internal_bytealg_CompareString : Fun :=
 ⟨240, 2, 1,
 ⟨[(0, ss), (1, ss)], [], []⟩,
 ⟨[(0, ii)], [], []⟩,
 fun x => internal_bytealg_CompareString x.1 x.2⟩
noncomputable def cx_internal_bytealg_CompareString : Cx := ⟨types, [], [], 8, [xt251]⟩
theorem ok_internal_bytealg_CompareString : FunOk Tryz.prog fn_internal_bytealg_CompareString :=
 FunOk.intro (C := cx_internal_bytealg_CompareString) (p := .nil)
  Tryz.func240 rfl (by kernel_rfl) rfl rfl rfl rfl types_ok ⟨trivial, ⟨xk251, trivial⟩⟩ mx (fun x => by kernel_rfl)

noncomputable def strings_Compare (a : List UInt8) (b : List UInt8) : Option (Int) :=
 (internal_bytealg_CompareString a b).bind fun r =>
 some r

noncomputable def fn_strings_Compare : Fun :=
 ⟨222, 2, 1,
 ⟨[(0, ss), (1, ss)], [], []⟩,
 ⟨[(0, ii)], [], []⟩,
 fun x => strings_Compare x.1 x.2⟩
noncomputable def cx_strings_Compare : Cx := ⟨types, [], [fn_internal_bytealg_CompareString], 8, []⟩
theorem ok_strings_Compare : FunOk Tryz.prog fn_strings_Compare :=
 FunOk.intro (C := cx_strings_Compare) (p := .nil)
  Tryz.func222 rfl (by kernel_rfl) rfl rfl rfl rfl types_ok ⟨⟨ok_internal_bytealg_CompareString, trivial⟩, trivial⟩ mx (fun x => by kernel_rfl)

noncomputable def account_find_1 (a : List UInt8 × Int × Int × Int × Int) (s : List UInt8) : Option (Int) :=
 (strings_Compare a.1 s).bind fun r =>
 some r

noncomputable def fn_account_find_1 : Fun :=
 ⟨221, 2, 1,
 ⟨[(0, .one (.data tT2)), (1, ss)], [], []⟩,
 ⟨[(0, ii)], [], []⟩,
 fun x => account_find_1 x.1 x.2⟩
noncomputable def cx_account_find_1 : Cx := ⟨types, [], [fn_strings_Compare], 9, []⟩
theorem ok_account_find_1 : FunOk Tryz.prog fn_account_find_1 :=
 FunOk.intro (C := cx_account_find_1) (p := .nil)
  Tryz.func221 rfl (by kernel_rfl) rfl rfl rfl rfl types_ok ⟨⟨ok_strings_Compare, trivial⟩, trivial⟩ mx (fun x => by kernel_rfl)

noncomputable def account_find (l : List (List UInt8 × Int × Int × Int × Int)) (shipper : List UInt8) : Option (Int × Bool) :=
 (slices_BinarySearchFunc_api_Account_api_Account_string l shipper (fun h => (account_find_1 h.1 h.2.1).bind fun y => some y)).bind fun r =>
 some (r.1, r.2)

noncomputable def fn_account_find : Fun :=
 ⟨172, 2, 2,
 ⟨[(0, .one (.data (.sl tT2))), (1, ss)], [], []⟩,
 ⟨[(0, ii), (1, bb)], [], []⟩,
 fun x => account_find x.1 x.2⟩
noncomputable def cx_account_find : Cx := ⟨types, [], [fn_slices_BinarySearchFunc_api_Account_api_Account_string, fn_account_find_1], 11, []⟩
theorem ok_account_find : FunOk Tryz.prog fn_account_find :=
 FunOk.intro (C := cx_account_find) (p := .nil)
  Tryz.func172 rfl (by kernel_rfl) rfl rfl rfl rfl types_ok ⟨⟨ok_slices_BinarySearchFunc_api_Account_api_Account_string, ok_account_find_1, trivial⟩, trivial⟩ mx (fun x => by kernel_rfl)

noncomputable def account_posted (a : List UInt8 × Int × Int × Int × Int) (e : List UInt8 × Int × Int) : Option (List UInt8 × Int × Int × Int × Int) :=
 Option.bind (α := Int × Int × Int × Int) (
 bif decide (e.2.1 = 1) then (
 some (wi64 (a.2.1 + e.2.2), a.2.2.1, a.2.2.2.1, a.2.2.2.2))
 else (
 Option.bind (α := Int × Int × Int) (
 bif decide (e.2.1 = 2) then (
 some (wi64 (a.2.2.1 + e.2.2), a.2.2.2.1, a.2.2.2.2))
 else (
 Option.bind (α := Int × Int) (
 bif decide (e.2.1 = 3) then (
 some (wi64 (a.2.2.2.1 + e.2.2), a.2.2.2.2))
 else (
 Option.bind (α := Int) (
 bif decide (e.2.1 = 4) then (
 some (wi64 (a.2.2.2.2 + e.2.2)))
 else (
 some a.2.2.2.2)) fun s =>
 some (a.2.2.2.1, s))) fun s2 =>
 some (a.2.2.1, s2.1, s2.2))) fun s3 =>
 some (a.2.1, s3.1, s3.2.1, s3.2.2))) fun s4 =>
 some (a.1, (s4.1, (s4.2.1, (s4.2.2.1, s4.2.2.2))))

noncomputable def fn_account_posted : Fun :=
 ⟨173, 2, 1,
 ⟨[(0, .one (.data tT2)), (1, .one (.data (.pair (.str) (.pair (.int .i64) (.int .i64)))))], [], []⟩,
 ⟨[(0, .one (.data tT2))], [], []⟩,
 fun x => account_posted x.1 x.2⟩
noncomputable def cx_account_posted : Cx := ⟨types, [], [], 40, []⟩
theorem ok_account_posted : FunOk Tryz.prog fn_account_posted :=
 FunOk.intro (C := cx_account_posted) (p := (nn (mm (nn (mm (nn (.mk [.join [⟨.n, ⟨[(2, .one (.ptr 48 0)), (4, .one (.ptr 80 0))], [(48, 110, [.keep, .data (.int .i64), .data (.int .i64), .data (.int .i64), .data (.int .i64)]), (80, 110, [.keep, .keep, .keep, .keep, .keep])], []⟩⟩]] none .nil (nn (.mk [.join [⟨.n, ⟨[(2, .one (.ptr 48 0)), (4, .one (.ptr 80 0))], [(48, 110, [.keep, .keep, .data (.int .i64), .data (.int .i64), .data (.int .i64)]), (80, 110, [.keep, .keep, .keep, .keep, .keep])], []⟩⟩]] none .nil (nn (.mk [.join [⟨.n, ⟨[(2, .one (.ptr 48 0)), (4, .one (.ptr 80 0))], [(48, 110, [.keep, .keep, .keep, .data (.int .i64), .data (.int .i64)]), (80, 110, [.keep, .keep, .keep, .keep, .keep])], []⟩⟩]] none .nil (nn (.mk [.join [⟨.n, ⟨[(2, .one (.ptr 48 0)), (4, .one (.ptr 80 0))], [(48, 110, [.keep, .keep, .keep, .keep, .data (.int .i64)]), (80, 110, [.keep, .keep, .keep, .keep, .keep])], []⟩⟩]] none .nil .nil)))))))) .nil)) .nil)))
  Tryz.func173 rfl (by kernel_rfl) rfl rfl rfl rfl types_ok ⟨trivial, trivial⟩ mx (fun x => by kernel_rfl)

noncomputable def account_Post (l : List (List UInt8 × Int × Int × Int × Int)) (e : List UInt8 × Int × Int) : Option (Int × List (List UInt8 × Int × Int × Int × Int)) :=
 (slices_Clone_api_Account_api_Account l).bind fun r =>
 Option.bind (α := Bool × List (List UInt8 × Int × Int × Int × Int)) (
 (account_Valid l).bind fun r2 =>
 bif !r2 then (
 some (true, r))
 else (
 (allocate_Entry (e.1, (e.2.1, e.2.2))).bind fun r3 =>
 some ((!r3), r))) fun s =>
 bif s.1 then (
 some (27, s.2))
 else (
 (account_find l e.1).bind fun r4 =>
 Option.bind (α := List UInt8 × Int × Int × Int × Int × List (List UInt8 × Int × Int × Int × Int)) (
 bif r4.2 then (
 gd (inB r4.1 l.length) <|
 some ((l.getD r4.1.toNat ([], (0, (0, (0, 0))))).1, ((l.getD r4.1.toNat ([], (0, (0, (0, 0))))).2).1, (((l.getD r4.1.toNat ([], (0, (0, (0, 0))))).2).2).1, ((((l.getD r4.1.toNat ([], (0, (0, (0, 0))))).2).2).2).1, ((((l.getD r4.1.toNat ([], (0, (0, (0, 0))))).2).2).2).2, s.2))
 else (
 some (e.1, 0, 0, 0, 0, s.2))) fun s2 =>
 (account_posted (s2.1, (s2.2.1, (s2.2.2.1, (s2.2.2.2.1, s2.2.2.2.2.1)))) (e.1, (e.2.1, e.2.2))).bind fun r5 =>
 Option.bind (α := Bool × List (List UInt8 × Int × Int × Int × Int)) (
 (account_valid (r5.1, (r5.2.1, (r5.2.2.1, (r5.2.2.2.1, r5.2.2.2.2))))).bind fun r6 =>
 bif !r6 then (
 some (true, s2.2.2.2.2.2))
 else (
 bif !r4.2 then (
 some (decide ((l.length : Int) = 64), s2.2.2.2.2.2))
 else (
 some (false, s2.2.2.2.2.2)))) fun s3 =>
 bif s3.1 then (
 some (4, s3.2))
 else (
 bif r4.2 then (
 gd (inB r4.1 s3.2.length) <|
 some (0, s3.2.set r4.1.toNat (r5.1, (r5.2.1, (r5.2.2.1, (r5.2.2.2.1, r5.2.2.2.2))))))
 else (
 gd (decide (r4.1 = r4.1) && cutG none (some (.i64, r4.1)) s3.2.length) <|
 gd (fits ((s3.2.take r4.1.toNat).length + 1) 48) <|
 gd (cutG (some (.i64, r4.1)) none l.length) <|
 gd (fits (((s3.2.take r4.1.toNat) ++ [(r5.1, (r5.2.1, (r5.2.2.1, (r5.2.2.2.1, r5.2.2.2.2))))]).length + (l.drop r4.1.toNat).length) 48) <|
 some (0, ((s3.2.take r4.1.toNat) ++ [(r5.1, (r5.2.1, (r5.2.2.1, (r5.2.2.2.1, r5.2.2.2.2))))]) ++ (l.drop r4.1.toNat)))))

noncomputable def fn_account_Post : Fun :=
 ⟨125, 2, 2,
 ⟨[(0, .one (.data (.sl tT2))), (1, .one (.data (.pair (.str) (.pair (.int .i64) (.int .i64)))))], [], []⟩,
 ⟨[(0, .one (.own 0)), (1, ii)], [], [(0, .arr 110 tT2)]⟩,
 fun x => account_Post x.1 x.2⟩
noncomputable def cx_account_Post : Cx := ⟨types, [61], [fn_slices_Clone_api_Account_api_Account, fn_account_Valid, fn_allocate_Entry, fn_account_find, fn_account_posted, fn_account_valid], 69, []⟩
theorem ok_account_Post : FunOk Tryz.prog fn_account_Post :=
 FunOk.intro (C := cx_account_Post) (p := (nn (nn (mm (mm (.mk [.join [⟨.n, ⟨[(0, kk), (3, .one (.ptr 64 0)), (6, .one (.own 192)), (19, bb)], [(64, 30, [.keep, .keep, .keep])], [(192, .arr 110 tT2)]⟩⟩]] none .nil .nil) .nil) (nn (nn (mm (nn (.mk [.join [⟨.n, ⟨[(0, kk), (3, .one (.ptr 64 0)), (6, .one (.own 192)), (7, kk), (8, kk), (9, .one (.ptr 160 0))], [(64, 30, [.keep, .keep, .keep]), (160, 110, [.data (.str), .data (.int .i64), .data (.int .i64), .data (.int .i64), .data (.int .i64)])], [(192, .arr 110 tT2)]⟩⟩]] none .nil .nil)) (mm (nn (mm (.mk [.join [⟨.n, ⟨[(0, kk), (6, .one (.own 192)), (7, kk), (8, kk), (9, .one (.ptr 160 0)), (50, bb)], [(160, 110, [.keep, .keep, .keep, .keep, .keep])], [(192, .arr 110 tT2)]⟩⟩]] none .nil .nil) .nil)) (nn (mm (.mk [.fz [6]] none .nil .nil) .nil))))))))))
  Tryz.func125 rfl (by kernel_rfl) rfl rfl rfl rfl types_ok ⟨⟨ok_slices_Clone_api_Account_api_Account, ok_account_Valid, ok_allocate_Entry, ok_account_find, ok_account_posted, ok_account_valid, trivial⟩, trivial⟩ mx (fun x => by kernel_rfl)

noncomputable def centre_post (v : List (List UInt8) × List yT0 × List (List UInt8 × Int × Int) × List (List UInt8 × Int × Int × Int × Int) × Int × Int) (r : Int × List Int × (Int × Int × Int × Int × Int × List (Int × Bool) × Int) × List UInt8 × Int × Int) (c : Int) (c2 : List (Int × Int × Bool × Bool)) (c3 : List Int) (c4 : List Int) (c5 : List Bool) (c6 : List (Int × Int × Int × Int × Int × List Int)) (c7 : List (List UInt8 × Int × Int × Int × Int)) : Option (Int × Int × (List (Int × Int × Bool × Bool)) × List Int × List Int × List Bool × (List (Int × Int × Int × Int × Int × List Int)) × List (List UInt8 × Int × Int × Int × Int)) :=
 Option.bind (α := Bool × (List (Int × Int × Bool × Bool)) × List Int × List Int × List Bool × (List (Int × Int × Int × Int × Int × List Int)) × List (List UInt8 × Int × Int × Int × Int)) (
 bif decide (0 < (r.2.1.length : Int)) then (
 some (true, c2, c3, c4, c5, c6, c7))
 else (
 (centre_noStep (r.2.2.1.1, (r.2.2.1.2.1, (r.2.2.1.2.2.1, (r.2.2.1.2.2.2.1, (r.2.2.1.2.2.2.2.1, (r.2.2.1.2.2.2.2.2.1, r.2.2.1.2.2.2.2.2.2))))))).bind fun r2 =>
 some ((!r2), c2, c3, c4, c5, c6, c7))) fun s =>
 bif s.1 then (
 some (28, c, s.2.1, s.2.2.1, s.2.2.2.1, s.2.2.2.2.1, s.2.2.2.2.2.1, s.2.2.2.2.2.2))
 else (
 (account_Post s.2.2.2.2.2.2 (r.2.2.2.1, (r.2.2.2.2.1, r.2.2.2.2.2))).bind fun r3 =>
 some (r3.1, c, s.2.1, s.2.2.1, s.2.2.2.1, s.2.2.2.2.1, s.2.2.2.2.2.1, r3.2))

noncomputable def fn_centre_post : Fun :=
 ⟨78, 3, 1,
 ⟨[(0, .one (.data (.pair (.sl (.str)) tT0))), (1, .one (.ptr 0 0)), (2, .one (.data (.pair (.int .i64) (.pair (.sl (.int .i64)) (.pair (.pair (.int .i64) (.pair (.int .i64) (.pair (.int .i64) (.pair (.int .i64) (.pair (.int .i64) (.pair (.sl (.pair (.int .i64) (.bool))) (.int .i64))))))) (.pair (.str) (.pair (.int .i64) (.int .i64))))))))], [(0, 61, [.own 1, .own 2, .own 3, .own 4, .own 5, .own 6, .data (.int .i64)])], [(1, .arr 152 tT4), (2, .arr 3 (.int .i64)), (3, .arr 3 (.int .i64)), (4, .arr 4 (.bool)), (5, .arr 97 tT1), (6, .arr 110 tT2)]⟩,
 ⟨[(0, ii)], [(0, 61, [.own 7, .own 8, .own 9, .own 10, .own 11, .own 12, .data (.int .i64)])], [(7, .arr 152 tT4), (8, .arr 3 (.int .i64)), (9, .arr 3 (.int .i64)), (10, .arr 4 (.bool)), (11, .arr 97 tT1), (12, .arr 110 tT2)]⟩,
 fun x => centre_post x.1 x.2.1 x.2.2.1 x.2.2.2.1 x.2.2.2.2.1 x.2.2.2.2.2.1 x.2.2.2.2.2.2.1 x.2.2.2.2.2.2.2.1 x.2.2.2.2.2.2.2.2⟩
noncomputable def cx_centre_post : Cx := ⟨types, [], [fn_centre_noStep, fn_account_Post], 34, []⟩
theorem ok_centre_post : FunOk Tryz.prog fn_centre_post :=
 FunOk.intro (C := cx_centre_post) (p := (nn (mm (mm (.mk [.join [⟨.n, ⟨[(1, .one (.ptr 0 0)), (5, .one (.ptr 96 0)), (18, bb)], [(0, 61, [.own 1, .own 2, .own 3, .own 4, .own 5, .own 6, .keep]), (96, 32, [.keep, .keep, .keep, .keep, .keep, .keep, .keep, .keep, .keep, .keep, .keep, .keep])], [(1, .arr 152 tT4), (2, .arr 3 (.int .i64)), (3, .arr 3 (.int .i64)), (4, .arr 4 (.bool)), (5, .arr 97 tT1), (6, .arr 110 tT2)]⟩⟩]] none .nil .nil) .nil) .nil)))
  Tryz.func78 rfl (by kernel_rfl) rfl rfl rfl rfl types_ok ⟨⟨ok_centre_noStep, ok_account_Post, trivial⟩, trivial⟩ mx (fun x => by kernel_rfl)

noncomputable def centre_Apply (n : List (List UInt8) × List yT0 × List (List UInt8 × Int × Int) × List (List UInt8 × Int × Int × Int × Int) × Int × Int) (c : (List (Int × Int × Bool × Bool) × List Int × List Int × List Bool) × List (Int × Int × Int × Int × Int × List Int) × List (List UInt8 × Int × Int × Int × Int) × Int) (r : Int × List Int × (Int × Int × Int × Int × Int × List (Int × Bool) × Int) × List UInt8 × Int × Int) : Option (((List (Int × Int × Bool × Bool) × List Int × List Int × List Bool) × List (Int × Int × Int × Int × Int × List Int) × List (List UInt8 × Int × Int × Int × Int) × Int) × Int) :=
 bif decide (c.2.2.2 = 1000) then (
 (centre_Copy ((c.1.1, (c.1.2.1, (c.1.2.2.1, c.1.2.2.2))), (c.2.1, (c.2.2.1, c.2.2.2)))).bind fun r2 =>
 some (((r2.2.1, (r2.2.2.1, (r2.2.2.2.1, r2.2.2.2.2.1))), (r2.2.2.2.2.2.1, (r2.2.2.2.2.2.2, r2.1))), 4))
 else (
 bif !((mget keyI (mput keyI (mput keyI (mput keyI [] 1 1) 2 2) 3 3) r.1).isSome) then (
 (centre_Copy ((c.1.1, (c.1.2.1, (c.1.2.2.1, c.1.2.2.2))), (c.2.1, (c.2.2.1, c.2.2.2)))).bind fun r3 =>
 some (((r3.2.1, (r3.2.2.1, (r3.2.2.2.1, r3.2.2.2.2.1))), (r3.2.2.2.2.2.1, (r3.2.2.2.2.2.2, r3.1))), 28))
 else (
 (centre_Copy ((c.1.1, (c.1.2.1, (c.1.2.2.1, c.1.2.2.2))), (c.2.1, (c.2.2.1, c.2.2.2)))).bind fun r4 =>
 bif decide ((mget keyI (mput keyI (mput keyI (mput keyI [] 1 1) 2 2) 3 3) r.1).getD 0 = 1) then (
 (centre_accept (n.1, (n.2.1, (n.2.2.1, (n.2.2.2.1, (n.2.2.2.2.1, n.2.2.2.2.2))))) (r.1, (r.2.1, ((r.2.2.1.1, (r.2.2.1.2.1, (r.2.2.1.2.2.1, (r.2.2.1.2.2.2.1, (r.2.2.1.2.2.2.2.1, (r.2.2.1.2.2.2.2.2.1, r.2.2.1.2.2.2.2.2.2)))))), (r.2.2.2.1, (r.2.2.2.2.1, r.2.2.2.2.2))))) r4.1 r4.2.1 r4.2.2.1 r4.2.2.2.1 r4.2.2.2.2.1 r4.2.2.2.2.2.1 r4.2.2.2.2.2.2).bind fun r5 =>
 bif !decide (r5.1 = 0) then (
 (centre_Copy ((c.1.1, (c.1.2.1, (c.1.2.2.1, c.1.2.2.2))), (c.2.1, (c.2.2.1, c.2.2.2)))).bind fun r6 =>
 some (((r6.2.1, (r6.2.2.1, (r6.2.2.2.1, r6.2.2.2.2.1))), (r6.2.2.2.2.2.1, (r6.2.2.2.2.2.2, r6.1))), r5.1))
 else (
 some (((r5.2.2.1, (r5.2.2.2.1, (r5.2.2.2.2.1, r5.2.2.2.2.2.1))), (r5.2.2.2.2.2.2.1, (r5.2.2.2.2.2.2.2, wi64 (r5.2.1 + 1)))), 0)))
 else (
 bif decide ((mget keyI (mput keyI (mput keyI (mput keyI [] 1 1) 2 2) 3 3) r.1).getD 0 = 2) then (
 none)
 else (
 bif decide ((mget keyI (mput keyI (mput keyI (mput keyI [] 1 1) 2 2) 3 3) r.1).getD 0 = 3) then (
 (centre_post (n.1, (n.2.1, (n.2.2.1, (n.2.2.2.1, (n.2.2.2.2.1, n.2.2.2.2.2))))) (r.1, (r.2.1, ((r.2.2.1.1, (r.2.2.1.2.1, (r.2.2.1.2.2.1, (r.2.2.1.2.2.2.1, (r.2.2.1.2.2.2.2.1, (r.2.2.1.2.2.2.2.2.1, r.2.2.1.2.2.2.2.2.2)))))), (r.2.2.2.1, (r.2.2.2.2.1, r.2.2.2.2.2))))) r4.1 r4.2.1 r4.2.2.1 r4.2.2.2.1 r4.2.2.2.2.1 r4.2.2.2.2.2.1 r4.2.2.2.2.2.2).bind fun r7 =>
 bif !decide (r7.1 = 0) then (
 (centre_Copy ((c.1.1, (c.1.2.1, (c.1.2.2.1, c.1.2.2.2))), (c.2.1, (c.2.2.1, c.2.2.2)))).bind fun r8 =>
 some (((r8.2.1, (r8.2.2.1, (r8.2.2.2.1, r8.2.2.2.2.1))), (r8.2.2.2.2.2.1, (r8.2.2.2.2.2.2, r8.1))), r7.1))
 else (
 some (((r7.2.2.1, (r7.2.2.2.1, (r7.2.2.2.2.1, r7.2.2.2.2.2.1))), (r7.2.2.2.2.2.2.1, (r7.2.2.2.2.2.2.2, wi64 (r7.2.1 + 1)))), 0)))
 else (
 none)))))

noncomputable def fn_centre_Apply : Fun :=
 ⟨32, 3, 2,
 ⟨[(0, .one (.data (.pair (.sl (.str)) tT0))), (1, .one (.data (.pair (.pair (.sl tT4) (.pair (.sl (.int .i64)) (.pair (.sl (.int .i64)) (.sl (.bool))))) (.pair (.sl tT1) (.pair (.sl tT2) (.int .i64)))))), (2, .one (.data (.pair (.int .i64) (.pair (.sl (.int .i64)) (.pair (.pair (.int .i64) (.pair (.int .i64) (.pair (.int .i64) (.pair (.int .i64) (.pair (.int .i64) (.pair (.sl (.pair (.int .i64) (.bool))) (.int .i64))))))) (.pair (.str) (.pair (.int .i64) (.int .i64))))))))], [], []⟩,
 ⟨[(0, .one (.data (.pair (.pair (.sl tT4) (.pair (.sl (.int .i64)) (.pair (.sl (.int .i64)) (.sl (.bool))))) (.pair (.sl tT1) (.pair (.sl tT2) (.int .i64)))))), (1, ii)], [], []⟩,
 fun x => centre_Apply x.1 x.2.1 x.2.2⟩
noncomputable def cx_centre_Apply : Cx := ⟨types, [4000036], [fn_centre_Copy, fn_centre_accept, fn_centre_post], 47, []⟩
theorem ok_centre_Apply : FunOk Tryz.prog fn_centre_Apply :=
 FunOk.intro (C := cx_centre_Apply) (p := .nil)
  Tryz.func32 rfl (by kernel_rfl) rfl rfl rfl rfl types_ok ⟨⟨ok_centre_Copy, ok_centre_accept, ok_centre_post, trivial⟩, trivial⟩ mx (fun x => by kernel_rfl)

noncomputable def wire_PutInt_L0 (u : Int) (out : List Int) : Option ((Int × List Int) ⊕ (Int × List Int)) :=
 bif decide (128 ≤ u) then (
 gd (fits (out.length + 1) 1) <|
 some (.inl (Int.fdiv u (2 ^ shAmt .u64 7), out ++ [bitOr .u8 (wu8 u) 128])))
 else (
 some (.inr (u, out)))

noncomputable def wire_PutInt (b : List Int) (n : Int) : Option (List Int) :=
 gd (fits (0 + b.length) 1) <|
 (iter (fun x => wire_PutInt_L0 x.1 x.2) (bitXor .u64 (wu64 ((wu64 n) * 2 ^ shAmt .u64 1)) (wu64 (Int.fdiv n (2 ^ shAmt .i64 63))), ([] ++ b))).bind fun s =>
 gd (fits (s.2.length + 1) 1) <|
 some (s.2 ++ [wu8 s.1])

noncomputable def fn_wire_PutInt : Fun :=
 ⟨45, 2, 1,
 ⟨[(0, .one (.data (.sl (.int .u8)))), (1, ii)], [], []⟩,
 ⟨[(0, .one (.own 0))], [], [(0, .arr 5 (.int .u8))]⟩,
 fun x => wire_PutInt x.1 x.2⟩
noncomputable def cx_wire_PutInt : Cx := ⟨types, [], [], 31, []⟩
theorem ok_wire_PutInt : FunOk Tryz.prog fn_wire_PutInt :=
 FunOk.intro (C := cx_wire_PutInt) (p := (nn (nn (nn (mm (mm (.mk [] (some (⟨[(5, .one (.data (.int .u64))), (6, .one (.own 123))], [], [(123, .arr 5 (.int .u8))]⟩, [⟨.x 0, ⟨[(5, .one (.data (.int .u64))), (6, .one (.own 123))], [], [(123, .arr 5 (.int .u8))]⟩⟩])) .nil .nil) .nil) .nil)))))
  Tryz.func45 rfl (by kernel_rfl) rfl rfl rfl rfl types_ok ⟨trivial, trivial⟩ mx (fun x => by kernel_rfl)

noncomputable def centre_Encode_1_L0 (l : List Int) (v2 : Int) (v3 : List Int) : Option ((Int × List Int) ⊕ (List Int)) :=
 bif decide (v2 < (l.length : Int)) then (
 gd (inB v2 l.length) <|
 (wire_PutInt v3 (l.getD v2.toNat 0)).bind fun r =>
 some (.inl (wi64 (v2 + 1), r)))
 else (
 some (.inr v3))

noncomputable def centre_Encode_1 (l : List Int) (v : List Int) : Option (List Int) :=
 (iter (fun x => centre_Encode_1_L0 l x.1 x.2) (0, v)).bind fun s =>
 some s

noncomputable def fn_centre_Encode_1 : Fun :=
 ⟨44, 2, 0,
 ⟨[(0, .one (.data (.sl (.int .i64)))), (1, .one (.ptr 0 0))], [(0, 22, [.own 1])], [(1, .arr 5 (.int .u8))]⟩,
 ⟨[], [(0, 22, [.own 2])], [(2, .arr 5 (.int .u8))]⟩,
 fun x => centre_Encode_1 x.1 x.2⟩
noncomputable def cx_centre_Encode_1 : Cx := ⟨types, [], [fn_wire_PutInt], 15, []⟩
theorem ok_centre_Encode_1 : FunOk Tryz.prog fn_centre_Encode_1 :=
 FunOk.intro (C := cx_centre_Encode_1) (p := (nn (mm (.mk [] (some (⟨[(1, .one (.ptr 0 0)), (5, kk), (6, kk), (7, ii)], [(0, 22, [.own 25])], [(25, .arr 5 (.int .u8))]⟩, [⟨.x 0, ⟨[], [(0, 22, [.own 25])], [(25, .arr 5 (.int .u8))]⟩⟩])) .nil .nil) .nil)))
  Tryz.func44 rfl (by kernel_rfl) rfl rfl rfl rfl types_ok ⟨⟨ok_wire_PutInt, trivial⟩, trivial⟩ mx (fun x => by kernel_rfl)

noncomputable def centre_Encode_L0 (r : Int × List Int × (Int × Int × Int × Int × Int × List (Int × Bool) × Int) × List UInt8 × Int × Int) (v : Int) (out : List Int) : Option ((Int × List Int) ⊕ (List Int)) :=
 bif decide (v < (r.2.2.1.2.2.2.2.2.1.length : Int)) then (
 gd (inB v r.2.2.1.2.2.2.2.2.1.length) <|
 Option.bind (α := Int × List Int) (
 bif (r.2.2.1.2.2.2.2.2.1.getD v.toNat (0, false)).2 then (
 some (1, out))
 else (
 some (0, out))) fun s3 =>
 (centre_Encode_1 [(r.2.2.1.2.2.2.2.2.1.getD v.toNat (0, false)).1, s3.1] s3.2).bind fun r5 =>
 some (.inl (wi64 (v + 1), r5)))
 else (
 some (.inr out))

noncomputable def centre_Encode (r : Int × List Int × (Int × Int × Int × Int × Int × List (Int × Bool) × Int) × List UInt8 × Int × Int) : Option (Int × List Int) :=
 Option.bind (α := Bool) (
 bif decide (21 < (r.2.1.length : Int)) then (
 some true)
 else (
 bif decide (32 < (r.2.2.1.2.2.2.2.2.1.length : Int)) then (
 some true)
 else (
 some (decide (12 < (r.2.2.2.1.length : Int)))))) fun s =>
 bif s then (
 some (4, []))
 else (
 Option.bind (α := List Int) (
 some []) fun s2 =>
 (centre_Encode_1 [r.1, (r.2.1.length : Int)] s2).bind fun r2 =>
 (centre_Encode_1 r.2.1 r2).bind fun r3 =>
 (centre_Encode_1 [r.2.2.1.1, r.2.2.1.2.1, r.2.2.1.2.2.1, r.2.2.1.2.2.2.1, r.2.2.1.2.2.2.2.1, (r.2.2.1.2.2.2.2.2.1.length : Int)] r3).bind fun r4 =>
 (iter (fun x => centre_Encode_L0 r x.1 x.2) (0, r4)).bind fun s4 =>
 (centre_Encode_1 [r.2.2.1.2.2.2.2.2.2, r.2.2.2.2.1, r.2.2.2.2.2, (r.2.2.2.1.length : Int)] s4).bind fun r6 =>
 gd (Nat.blt 0 (r6.length + r.2.2.2.1.length) && fits (r6.length + r.2.2.2.1.length) 1) <|
 some (0, r6 ++ ofBytes r.2.2.2.1))

noncomputable def fn_centre_Encode : Fun :=
 ⟨9, 1, 2,
 ⟨[(0, .one (.data (.pair (.int .i64) (.pair (.sl (.int .i64)) (.pair (.pair (.int .i64) (.pair (.int .i64) (.pair (.int .i64) (.pair (.int .i64) (.pair (.int .i64) (.pair (.sl (.pair (.int .i64) (.bool))) (.int .i64))))))) (.pair (.str) (.pair (.int .i64) (.int .i64))))))))], [], []⟩,
 ⟨[(0, .one (.own 0)), (1, ii)], [], [(0, .arr 5 (.int .u8))]⟩,
 fun x => centre_Encode x⟩
noncomputable def cx_centre_Encode : Cx := ⟨types, [], [fn_centre_Encode_1], 100, []⟩
theorem ok_centre_Encode : FunOk Tryz.prog fn_centre_Encode :=
 FunOk.intro (C := cx_centre_Encode) (p := (nn (mm (mm (.mk [.join [⟨.n, ⟨[(1, .one (.ptr 32 0)), (29, bb)], [(32, 32, [.keep, .keep, .keep, .keep, .keep, .keep, .keep, .keep, .keep, .keep, .keep, .keep])], []⟩⟩]] none .nil .nil) .nil) (mm (.mk [.join [⟨.n, ⟨[(1, .one (.ptr 32 0)), (4, .one (.ptr 91 0))], [(32, 32, [.keep, .keep, .keep, .keep, .keep, .keep, .keep, .keep, .keep, .keep, .keep, .keep]), (91, 22, [.own 1481])], [(1481, .arr 5 (.int .u8))]⟩⟩]] none .nil .nil) (nn (nn (nn (nn (nn (mm (nn (mm (.mk [] (some (⟨[(1, .one (.ptr 32 0)), (4, .one (.ptr 91 0)), (5, .one (.clp 44 91 0)), (7, .one (.ptr 128 0)), (65, kk), (66, kk), (67, ii)], [(32, 32, [.keep, .keep, .keep, .keep, .keep, .keep, .keep, .keep, .keep, .keep, .keep, .keep]), (91, 22, [.own 1481]), (128, 26, [.keep, .keep, .keep, .keep])], [(1481, .arr 5 (.int .u8))]⟩, [⟨.x 0, ⟨[(1, .one (.ptr 32 0)), (4, .one (.ptr 91 0)), (5, .one (.clp 44 91 0)), (7, .one (.ptr 128 0))], [(32, 32, [.keep, .keep, .keep, .keep, .keep, .keep, .keep, .keep, .keep, .keep, .keep, .keep]), (91, 22, [.own 1481]), (128, 26, [.keep, .keep, .keep, .keep])], [(1481, .arr 5 (.int .u8))]⟩⟩])) (nn (nn (mm (mm (nn (nn (mm (nn (.mk [.join [⟨.n, ⟨[(1, .one (.ptr 32 0)), (4, .one (.ptr 91 0)), (5, .one (.clp 44 91 0)), (7, .one (.ptr 128 0)), (9, .one (.ptr 160 0)), (10, ii), (65, kk), (66, kk), (67, kk)], [(32, 32, [.keep, .keep, .keep, .keep, .keep, .keep, .keep, .keep, .keep, .keep, .keep, .keep]), (91, 22, [.own 1481]), (128, 26, [.keep, .keep, .keep, .keep]), (160, 114, [.keep, .keep])], [(1481, .arr 5 (.int .u8))]⟩⟩]] none .nil .nil)) .nil))) .nil) .nil))) .nil) .nil)) .nil))))))))))
  Tryz.func9 rfl (by kernel_rfl) rfl rfl rfl rfl types_ok ⟨⟨ok_centre_Encode_1, trivial⟩, trivial⟩ mx (fun x => by kernel_rfl)

noncomputable def journal_joined_L0 (parts : List (List Int)) (v : Int) (out : List Int) : Option ((Int × List Int) ⊕ (List Int)) :=
 bif decide (v < (parts.length : Int)) then (
 gd (inB v parts.length) <|
 gd (fits (out.length + (parts.getD v.toNat []).length) 1) <|
 some (.inl (wi64 (v + 1), out ++ (parts.getD v.toNat []))))
 else (
 some (.inr out))

noncomputable def journal_joined (parts : List (List Int)) : Option (List Int) :=
 (iter (fun x => journal_joined_L0 parts x.1 x.2) (0, [])).bind fun s =>
 some s

noncomputable def fn_journal_joined : Fun :=
 ⟨108, 1, 1,
 ⟨[(0, .one (.data (.sl (.sl (.int .u8)))))], [], []⟩,
 ⟨[(0, .one (.own 0))], [], [(0, .arr 5 (.int .u8))]⟩,
 fun x => journal_joined x⟩
noncomputable def cx_journal_joined : Cx := ⟨types, [], [], 17, []⟩
theorem ok_journal_joined : FunOk Tryz.prog fn_journal_joined :=
 FunOk.intro (C := cx_journal_joined) (p := (nn (nn (mm (nn (mm (.mk [] (some (⟨[(3, .one (.own 75)), (6, kk), (7, kk), (8, ii)], [], [(75, .arr 5 (.int .u8))]⟩, [⟨.x 0, ⟨[(3, .one (.own 75))], [], [(75, .arr 5 (.int .u8))]⟩⟩])) .nil .nil) .nil)) .nil))))
  Tryz.func108 rfl (by kernel_rfl) rfl rfl rfl rfl types_ok ⟨trivial, trivial⟩ mx (fun x => by kernel_rfl)

noncomputable def wire_PutInt_d_L0 (u : Int) (out : List Int) : Option ((Int × List Int) ⊕ (Int × List Int)) :=
 bif decide (128 ≤ u) then (
 gd (fits (out.length + 1) 1) <|
 some (.inl (Int.fdiv u (2 ^ shAmt .u64 7), out ++ [bitOr .u8 (wu8 u) 128])))
 else (
 some (.inr (u, out)))

noncomputable def wire_PutInt_d (b : List Int) (n : Int) : Option (List Int) :=
 gd (fits (0 + b.length) 1) <|
 (iter (fun x => wire_PutInt_d_L0 x.1 x.2) (bitXor .u64 (wu64 ((wu64 n) * 2 ^ shAmt .u64 1)) (wu64 (Int.fdiv n (2 ^ shAmt .i64 63))), ([] ++ b))).bind fun s =>
 gd (fits (s.2.length + 1) 1) <|
 some (s.2 ++ [wu8 s.1])

noncomputable def fn_wire_PutInt_d : Fun :=
 ⟨45, 2, 1,
 ⟨[(0, .one (.data (.sl (.int .u8)))), (1, ii)], [], []⟩,
 ⟨[(0, .one (.data (.sl (.int .u8))))], [], []⟩,
 fun x => wire_PutInt_d x.1 x.2⟩
noncomputable def cx_wire_PutInt_d : Cx := ⟨types, [], [], 31, []⟩
theorem ok_wire_PutInt_d : FunOk Tryz.prog fn_wire_PutInt_d :=
 FunOk.intro (C := cx_wire_PutInt_d) (p := (nn (nn (nn (mm (mm (.mk [] (some (⟨[(5, .one (.data (.int .u64))), (6, .one (.own 123))], [], [(123, .arr 5 (.int .u8))]⟩, [⟨.x 0, ⟨[(5, .one (.data (.int .u64))), (6, .one (.own 123))], [], [(123, .arr 5 (.int .u8))]⟩⟩])) .nil .nil) .nil) .nil)))))
  Tryz.func45 rfl (by kernel_rfl) rfl rfl rfl rfl types_ok ⟨trivial, trivial⟩ mx (fun x => by kernel_rfl)

noncomputable def journal_Frame (b : List Int) : Option (Int × List Int) :=
 bif decide (4000 < (b.length : Int)) then (
 some (4, []))
 else (
 (wire_PutInt_d [] (b.length : Int)).bind fun r =>
 (journal_joined [r, b]).bind fun r2 =>
 some (0, r2))

noncomputable def fn_journal_Frame : Fun :=
 ⟨105, 1, 2,
 ⟨[(0, .one (.data (.sl (.int .u8))))], [], []⟩,
 ⟨[(0, .one (.own 0)), (1, ii)], [], [(0, .arr 5 (.int .u8))]⟩,
 fun x => journal_Frame x⟩
noncomputable def cx_journal_Frame : Cx := ⟨types, [], [fn_wire_PutInt_d, fn_journal_joined], 13, []⟩
theorem ok_journal_Frame : FunOk Tryz.prog fn_journal_Frame :=
 FunOk.intro (C := cx_journal_Frame) (p := .nil)
  Tryz.func105 rfl (by kernel_rfl) rfl rfl rfl rfl types_ok ⟨⟨ok_wire_PutInt_d, ok_journal_joined, trivial⟩, trivial⟩ mx (fun x => by kernel_rfl)

noncomputable def journal_copied (f : List Int × List Int) : Option (List Int × List Int) :=
 (journal_joined [f.1]).bind fun r =>
 (journal_joined [f.2]).bind fun r2 =>
 some (r, r2)

noncomputable def fn_journal_copied : Fun :=
 ⟨106, 1, 1,
 ⟨[(0, .one (.data (.pair (.sl (.int .u8)) (.sl (.int .u8)))))], [], []⟩,
 ⟨[(0, .one (.data (.pair (.sl (.int .u8)) (.sl (.int .u8)))))], [], []⟩,
 fun x => journal_copied x⟩
noncomputable def cx_journal_copied : Cx := ⟨types, [], [fn_journal_joined], 12, []⟩
theorem ok_journal_copied : FunOk Tryz.prog fn_journal_copied :=
 FunOk.intro (C := cx_journal_copied) (p := .nil)
  Tryz.func106 rfl (by kernel_rfl) rfl rfl rfl rfl types_ok ⟨⟨ok_journal_joined, trivial⟩, trivial⟩ mx (fun x => by kernel_rfl)

noncomputable def wire_Int_L0 (b : List Int) (vat : Int) (u : Int) (v : Int) : Option ((Int × Int) ⊕ (Unit ⊕ (Int × Int × Int))) :=
 bif decide (v < 10) then (
 bif decide ((b.length : Int) ≤ wi64 (vat + v)) then (
 some (.inr (.inr (0, 0, 2))))
 else (
 gd (inB (wi64 (vat + v)) b.length) <|
 gd (!decide (wi64 (7 * v) < 0)) <|
 bif decide (128 ≤ b.getD (wi64 (vat + v)).toNat 0) then (
 some (.inl (bitOr .u64 u (wu64 ((wu64 (bitAnd .u8 (b.getD (wi64 (vat + v)).toNat 0) 127)) * 2 ^ shAmt .u64 (wi64 (7 * v)))), wi64 (v + 1))))
 else (
 Option.bind (α := Bool) (
 bif decide (v = 9) then (
 bif decide (1 < b.getD (wi64 (vat + v)).toNat 0) then (
 some true)
 else (
 bif decide (0 < v) then (
 some (decide (b.getD (wi64 (vat + v)).toNat 0 = 0)))
 else (
 some false)))
 else (
 bif decide (0 < v) then (
 some (decide (b.getD (wi64 (vat + v)).toNat 0 = 0)))
 else (
 some false))) fun s2 =>
 bif s2 then (
 some (.inr (.inr (0, 0, 3))))
 else (
 some (.inr (.inr (bitXor .i64 (wi64 (Int.fdiv (bitOr .u64 u (wu64 ((wu64 (bitAnd .u8 (b.getD (wi64 (vat + v)).toNat 0) 127)) * 2 ^ shAmt .u64 (wi64 (7 * v))))) (2 ^ shAmt .u64 1))) (wi64 (0 - (wi64 (bitAnd .u64 (bitOr .u64 u (wu64 ((wu64 (bitAnd .u8 (b.getD (wi64 (vat + v)).toNat 0) 127)) * 2 ^ shAmt .u64 (wi64 (7 * v))))) 1)))), wi64 ((wi64 (vat + v)) + 1), 0)))))))
 else (
 some (.inr (.inl ())))

noncomputable def wire_Int (b : List Int) (vat : Int) : Option (Int × Int × Int) :=
 Option.bind (α := Bool) (
 bif decide (vat < 0) then (
 some true)
 else (
 some (decide ((b.length : Int) < vat)))) fun s =>
 bif s then (
 some (0, 0, 1))
 else (
 (iter (fun x => wire_Int_L0 b vat x.1 x.2) (0, 0)).bind fun s3 =>
 s3.elim (fun s4 =>
 some (0, 0, 3))
 (fun s5 =>
 some (s5.1, s5.2.1, s5.2.2)))

noncomputable def fn_wire_Int : Fun :=
 ⟨92, 2, 3,
 ⟨[(0, .one (.data (.sl (.int .u8)))), (1, ii)], [], []⟩,
 ⟨[(0, ii), (1, ii), (2, ii)], [], []⟩,
 fun x => wire_Int x.1 x.2⟩
noncomputable def cx_wire_Int : Cx := ⟨types, [], [], 70, []⟩
theorem ok_wire_Int : FunOk Tryz.prog fn_wire_Int :=
 FunOk.intro (C := cx_wire_Int) (p := (nn (mm (mm (.mk [.join [⟨.n, ⟨[(0, kk), (1, kk), (17, bb)], [], []⟩⟩]] none .nil .nil) .nil) (nn (mm (nn (mm (.mk [] (some (⟨[(0, kk), (1, kk), (7, .one (.data (.int .u64))), (18, ii)], [], []⟩, [⟨.x 0, ⟨[], [], []⟩⟩, ⟨.r, ⟨[(4, ii), (5, ii), (6, ii)], [], []⟩⟩])) (nn (nn (mm (mm (nn (nn (nn (nn (nn (mm (mm (.mk [.join [⟨.n, ⟨[(1, kk), (7, kk), (8, kk), (56, bb)], [], []⟩⟩]] none .nil .nil) .nil) .nil)))))) .nil) .nil))) .nil) .nil)) .nil)))))
  Tryz.func92 rfl (by kernel_rfl) rfl rfl rfl rfl types_ok ⟨trivial, trivial⟩ mx (fun x => by kernel_rfl)

noncomputable def journal_Read_L0 (b : List Int) (vat : Int) (out : List (List Int)) : Option ((Int × List (List Int)) ⊕ (Int × List (List Int))) :=
 bif decide (vat < (b.length : Int)) then (
 (wire_Int b vat).bind fun r =>
 Option.bind (α := Bool × List (List Int)) (
 bif !decide (r.2.2 = 0) then (
 some (true, out))
 else (
 bif decide (r.1 < 0) then (
 some (true, out))
 else (
 bif decide (4000 < r.1) then (
 some (true, out))
 else (
 some (decide (wi64 ((b.length : Int) - r.2.1) < r.1), out))))) fun s =>
 bif s.1 then (
 some (.inr (vat, s.2)))
 else (
 gd (inR r.2.1 (wi64 (r.2.1 + r.1)) b.length) <|
 (slices_Clone_byte_byte ((b.take (wi64 (r.2.1 + r.1)).toNat).drop r.2.1.toNat)).bind fun r2 =>
 gd (fits (s.2.length + 1) 24) <|
 some (.inl (wi64 (r.2.1 + r.1), s.2 ++ [r2]))))
 else (
 some (.inr (vat, out)))

noncomputable def journal_Read (b : List Int) : Option (Int × List (List Int)) :=
 (iter (fun x => journal_Read_L0 b x.1 x.2) (0, [])).bind fun s2 =>
 some (s2.1, s2.2)

noncomputable def fn_journal_Read : Fun :=
 ⟨107, 1, 2,
 ⟨[(0, .one (.data (.sl (.int .u8))))], [], []⟩,
 ⟨[(0, .one (.own 0)), (1, ii)], [], [(0, .arr 22 (.sl (.int .u8)))]⟩,
 fun x => journal_Read x⟩
noncomputable def cx_journal_Read : Cx := ⟨types, [], [fn_wire_Int, fn_slices_Clone_byte_byte], 53, []⟩
theorem ok_journal_Read : FunOk Tryz.prog fn_journal_Read :=
 FunOk.intro (C := cx_journal_Read) (p := (nn (nn (nn (mm (mm (.mk [] (some (⟨[(0, kk), (4, .one (.own 91)), (5, ii)], [], [(91, .arr 22 (.sl (.int .u8)))]⟩, [⟨.x 0, ⟨[(4, .one (.own 91)), (5, ii)], [], [(91, .arr 22 (.sl (.int .u8)))]⟩⟩])) (nn (mm (nn (mm (mm (.mk [.join [⟨.n, ⟨[(0, kk), (4, .one (.own 91)), (5, kk), (6, kk), (7, kk), (37, bb)], [], [(91, .arr 22 (.sl (.int .u8)))]⟩⟩]] none .nil .nil) .nil) .nil)) .nil)) .nil) .nil) .nil)))))
  Tryz.func107 rfl (by kernel_rfl) rfl rfl rfl rfl types_ok ⟨⟨ok_wire_Int, ok_slices_Clone_byte_byte, trivial⟩, trivial⟩ mx (fun x => by kernel_rfl)

noncomputable def journal_Append (f : List Int × List Int) (b : List Int) : Option ((List Int × List Int) × Int) :=
 (journal_Frame b).bind fun r =>
 bif !decide (r.1 = 0) then (
 (journal_copied (f.1, f.2)).bind fun r2 =>
 some ((r2.1, r2.2), r.1))
 else (
 (journal_Read f.1).bind fun r3 =>
 bif !decide (r3.1 = (f.1.length : Int)) then (
 (journal_copied (f.1, f.2)).bind fun r4 =>
 some ((r4.1, r4.2), 21))
 else (
 bif decide (65536 < wi64 ((wi64 ((f.1.length : Int) + (f.2.length : Int))) + (r.2.length : Int))) then (
 (journal_copied (f.1, f.2)).bind fun r5 =>
 some ((r5.1, r5.2), 29))
 else (
 (journal_joined [f.1]).bind fun r6 =>
 (journal_joined [f.2, r.2]).bind fun r7 =>
 some ((r6, r7), 0))))

noncomputable def fn_journal_Append : Fun :=
 ⟨62, 2, 2,
 ⟨[(0, .one (.data (.pair (.sl (.int .u8)) (.sl (.int .u8))))), (1, .one (.data (.sl (.int .u8))))], [], []⟩,
 ⟨[(0, .one (.data (.pair (.sl (.int .u8)) (.sl (.int .u8))))), (1, ii)], [], []⟩,
 fun x => journal_Append x.1 x.2⟩
noncomputable def cx_journal_Append : Cx := ⟨types, [], [fn_journal_Frame, fn_journal_copied, fn_journal_Read, fn_journal_joined], 56, []⟩
theorem ok_journal_Append : FunOk Tryz.prog fn_journal_Append :=
 FunOk.intro (C := cx_journal_Append) (p := (nn (nn (nn (nn (nn (mm (.mk [.fz [6]] none .nil .nil) .nil)))))))
  Tryz.func62 rfl (by kernel_rfl) rfl rfl rfl rfl types_ok ⟨⟨ok_journal_Frame, ok_journal_copied, ok_journal_Read, ok_journal_joined, trivial⟩, trivial⟩ mx (fun x => by kernel_rfl)

noncomputable def journal_Crash (f : List Int × List Int) (keep : Int) : Option (List Int × List Int) :=
 gd (cutG none (some (.i64, min (max 0 keep) (f.2.length : Int))) f.2.length) <|
 (journal_joined [f.1, f.2.take (min (max 0 keep) (f.2.length : Int)).toNat]).bind fun r =>
 some (r, [])

noncomputable def fn_journal_Crash : Fun :=
 ⟨109, 2, 1,
 ⟨[(0, .one (.data (.pair (.sl (.int .u8)) (.sl (.int .u8))))), (1, ii)], [], []⟩,
 ⟨[(0, .one (.data (.pair (.sl (.int .u8)) (.sl (.int .u8)))))], [], []⟩,
 fun x => journal_Crash x.1 x.2⟩
noncomputable def cx_journal_Crash : Cx := ⟨types, [], [fn_journal_joined], 19, []⟩
theorem ok_journal_Crash : FunOk Tryz.prog fn_journal_Crash :=
 FunOk.intro (C := cx_journal_Crash) (p := .nil)
  Tryz.func109 rfl (by kernel_rfl) rfl rfl rfl rfl types_ok ⟨⟨ok_journal_joined, trivial⟩, trivial⟩ mx (fun x => by kernel_rfl)

noncomputable def journal_Sync (f : List Int × List Int) : Option (List Int × List Int) :=
 (journal_Crash (f.1, f.2) (f.2.length : Int)).bind fun r =>
 some (r.1, r.2)

noncomputable def fn_journal_Sync : Fun :=
 ⟨63, 1, 1,
 ⟨[(0, .one (.data (.pair (.sl (.int .u8)) (.sl (.int .u8)))))], [], []⟩,
 ⟨[(0, .one (.data (.pair (.sl (.int .u8)) (.sl (.int .u8)))))], [], []⟩,
 fun x => journal_Sync x⟩
noncomputable def cx_journal_Sync : Cx := ⟨types, [], [fn_journal_Crash], 8, []⟩
theorem ok_journal_Sync : FunOk Tryz.prog fn_journal_Sync :=
 FunOk.intro (C := cx_journal_Sync) (p := .nil)
  Tryz.func63 rfl (by kernel_rfl) rfl rfl rfl rfl types_ok ⟨⟨ok_journal_Crash, trivial⟩, trivial⟩ mx (fun x => by kernel_rfl)

noncomputable def centre_Write (n : List (List UInt8) × List yT0 × List (List UInt8 × Int × Int) × List (List UInt8 × Int × Int × Int × Int) × Int × Int) (f : List Int × List Int) (c : (List (Int × Int × Bool × Bool) × List Int × List Int × List Bool) × List (Int × Int × Int × Int × Int × List Int) × List (List UInt8 × Int × Int × Int × Int) × Int) (r : Int × List Int × (Int × Int × Int × Int × Int × List (Int × Bool) × Int) × List UInt8 × Int × Int) : Option ((List Int × List Int) × ((List (Int × Int × Bool × Bool) × List Int × List Int × List Bool) × List (Int × Int × Int × Int × Int × List Int) × List (List UInt8 × Int × Int × Int × Int) × Int) × Int) :=
 (slices_Clone_byte_byte f.1).bind fun r2 =>
 (slices_Clone_byte_byte f.2).bind fun r3 =>
 (centre_Apply (n.1, (n.2.1, (n.2.2.1, (n.2.2.2.1, (n.2.2.2.2.1, n.2.2.2.2.2))))) ((c.1.1, (c.1.2.1, (c.1.2.2.1, c.1.2.2.2))), (c.2.1, (c.2.2.1, c.2.2.2))) (r.1, (r.2.1, ((r.2.2.1.1, (r.2.2.1.2.1, (r.2.2.1.2.2.1, (r.2.2.1.2.2.2.1, (r.2.2.1.2.2.2.2.1, (r.2.2.1.2.2.2.2.2.1, r.2.2.1.2.2.2.2.2.2)))))), (r.2.2.2.1, (r.2.2.2.2.1, r.2.2.2.2.2)))))).bind fun r4 =>
 bif !decide (r4.2 = 0) then (
 (centre_Copy ((c.1.1, (c.1.2.1, (c.1.2.2.1, c.1.2.2.2))), (c.2.1, (c.2.2.1, c.2.2.2)))).bind fun r5 =>
 some ((r2, r3), ((r5.2.1, (r5.2.2.1, (r5.2.2.2.1, r5.2.2.2.2.1))), (r5.2.2.2.2.2.1, (r5.2.2.2.2.2.2, r5.1))), r4.2))
 else (
 (centre_Encode (r.1, (r.2.1, ((r.2.2.1.1, (r.2.2.1.2.1, (r.2.2.1.2.2.1, (r.2.2.1.2.2.2.1, (r.2.2.1.2.2.2.2.1, (r.2.2.1.2.2.2.2.2.1, r.2.2.1.2.2.2.2.2.2)))))), (r.2.2.2.1, (r.2.2.2.2.1, r.2.2.2.2.2)))))).bind fun r6 =>
 bif !decide (r6.1 = 0) then (
 (centre_Copy ((c.1.1, (c.1.2.1, (c.1.2.2.1, c.1.2.2.2))), (c.2.1, (c.2.2.1, c.2.2.2)))).bind fun r7 =>
 some ((r2, r3), ((r7.2.1, (r7.2.2.1, (r7.2.2.2.1, r7.2.2.2.2.1))), (r7.2.2.2.2.2.1, (r7.2.2.2.2.2.2, r7.1))), r6.1))
 else (
 (journal_Append (f.1, f.2) r6.2).bind fun r8 =>
 bif !decide (r8.2 = 0) then (
 (centre_Copy ((c.1.1, (c.1.2.1, (c.1.2.2.1, c.1.2.2.2))), (c.2.1, (c.2.2.1, c.2.2.2)))).bind fun r9 =>
 some ((r2, r3), ((r9.2.1, (r9.2.2.1, (r9.2.2.2.1, r9.2.2.2.2.1))), (r9.2.2.2.2.2.1, (r9.2.2.2.2.2.2, r9.1))), r8.2))
 else (
 (journal_Sync (r8.1.1, r8.1.2)).bind fun r10 =>
 some ((r10.1, r10.2), ((r4.1.1.1, (r4.1.1.2.1, (r4.1.1.2.2.1, r4.1.1.2.2.2))), (r4.1.2.1, (r4.1.2.2.1, r4.1.2.2.2))), 0))))

noncomputable def fn_centre_Write : Fun :=
 ⟨21, 4, 3,
 ⟨[(0, .one (.data (.pair (.sl (.str)) tT0))), (1, .one (.data (.pair (.sl (.int .u8)) (.sl (.int .u8))))), (2, .one (.data (.pair (.pair (.sl tT4) (.pair (.sl (.int .i64)) (.pair (.sl (.int .i64)) (.sl (.bool))))) (.pair (.sl tT1) (.pair (.sl tT2) (.int .i64)))))), (3, .one (.data (.pair (.int .i64) (.pair (.sl (.int .i64)) (.pair (.pair (.int .i64) (.pair (.int .i64) (.pair (.int .i64) (.pair (.int .i64) (.pair (.int .i64) (.pair (.sl (.pair (.int .i64) (.bool))) (.int .i64))))))) (.pair (.str) (.pair (.int .i64) (.int .i64))))))))], [], []⟩,
 ⟨[(0, .one (.data (.pair (.sl (.int .u8)) (.sl (.int .u8))))), (1, .one (.data (.pair (.pair (.sl tT4) (.pair (.sl (.int .i64)) (.pair (.sl (.int .i64)) (.sl (.bool))))) (.pair (.sl tT1) (.pair (.sl tT2) (.int .i64)))))), (2, ii)], [], []⟩,
 fun x => centre_Write x.1 x.2.1 x.2.2.1 x.2.2.2⟩
noncomputable def cx_centre_Write : Cx := ⟨types, [], [fn_slices_Clone_byte_byte, fn_centre_Apply, fn_centre_Copy, fn_centre_Encode, fn_journal_Append, fn_journal_Sync], 62, []⟩
theorem ok_centre_Write : FunOk Tryz.prog fn_centre_Write :=
 FunOk.intro (C := cx_centre_Write) (p := (nn (nn (nn (nn (nn (nn (mm (.mk [.fz [14]] none .nil .nil) .nil))))))))
  Tryz.func21 rfl (by kernel_rfl) rfl rfl rfl rfl types_ok ⟨⟨ok_slices_Clone_byte_byte, ok_centre_Apply, ok_centre_Copy, ok_centre_Encode, ok_journal_Append, ok_journal_Sync, trivial⟩, trivial⟩ mx (fun x => by kernel_rfl)

noncomputable def ref40_Crash (f : List Int × List Int) (keep : Int) : Option (List Int × List Int) :=
 gd (fits (0 + f.1.length) 1) <|
 gd (cutG none (some (.i64, max 0 (min keep (f.2.length : Int)))) f.2.length) <|
 gd (fits (([] ++ f.1).length + (f.2.take (max 0 (min keep (f.2.length : Int))).toNat).length) 1) <|
 some (([] ++ f.1) ++ (f.2.take (max 0 (min keep (f.2.length : Int))).toNat), [])

noncomputable def fn_ref40_Crash : Fun :=
 ⟨29, 2, 1,
 ⟨[(0, .one (.data (.pair (.sl (.int .u8)) (.sl (.int .u8))))), (1, ii)], [], []⟩,
 ⟨[(0, .one (.data (.pair (.sl (.int .u8)) (.sl (.int .u8)))))], [], []⟩,
 fun x => ref40_Crash x.1 x.2⟩
noncomputable def cx_ref40_Crash : Cx := ⟨types, [12], [], 22, []⟩
theorem ok_ref40_Crash : FunOk Tryz.prog fn_ref40_Crash :=
 FunOk.intro (C := cx_ref40_Crash) (p := .nil)
  Tryz.func29 rfl (by kernel_rfl) rfl rfl rfl rfl types_ok ⟨trivial, trivial⟩ mx (fun x => by kernel_rfl)

noncomputable def journal_Recover (f : List Int × List Int) : Option ((List Int × List Int) × List (List Int)) :=
 (journal_Read f.1).bind fun r =>
 gd (cutG none (some (.i64, r.1)) f.1.length) <|
 (journal_joined [f.1.take r.1.toNat]).bind fun r2 =>
 some ((r2, []), r.2)

noncomputable def fn_journal_Recover : Fun :=
 ⟨67, 1, 2,
 ⟨[(0, .one (.data (.pair (.sl (.int .u8)) (.sl (.int .u8)))))], [], []⟩,
 ⟨[(0, .one (.data (.pair (.sl (.int .u8)) (.sl (.int .u8))))), (1, .one (.own 0))], [], [(0, .arr 22 (.sl (.int .u8)))]⟩,
 fun x => journal_Recover x⟩
noncomputable def cx_journal_Recover : Cx := ⟨types, [], [fn_journal_Read, fn_journal_joined], 20, []⟩
theorem ok_journal_Recover : FunOk Tryz.prog fn_journal_Recover :=
 FunOk.intro (C := cx_journal_Recover) (p := .nil)
  Tryz.func67 rfl (by kernel_rfl) rfl rfl rfl rfl types_ok ⟨⟨ok_journal_Read, ok_journal_joined, trivial⟩, trivial⟩ mx (fun x => by kernel_rfl)

noncomputable def centre_reader_number (r : List Int) (r2 : Int) (r3 : Bool) : Option (Int × List Int × Int × Bool) :=
 (wire_Int r r2).bind fun r4 =>
 Option.bind (α := Bool) (
 bif r3 then (
 some true)
 else (
 some (!decide (r4.2.2 = 0)))) fun s =>
 bif s then (
 some (0, r, r2, true))
 else (
 some (r4.1, r, r4.2.1, r3))

noncomputable def fn_centre_reader_number : Fun :=
 ⟨47, 1, 1,
 ⟨[(0, .one (.ptr 0 0))], [(0, 118, [.data (.sl (.int .u8)), .data (.int .i64), .data (.bool)])], []⟩,
 ⟨[(0, ii)], [(0, 118, [.data (.sl (.int .u8)), .data (.int .i64), .data (.bool)])], []⟩,
 fun x => centre_reader_number x.1 x.2.1 x.2.2⟩
noncomputable def cx_centre_reader_number : Cx := ⟨types, [], [fn_wire_Int], 35, []⟩
theorem ok_centre_reader_number : FunOk Tryz.prog fn_centre_reader_number :=
 FunOk.intro (C := cx_centre_reader_number) (p := (nn (nn (mm (mm (.mk [.join [⟨.n, ⟨[(0, .one (.ptr 0 0)), (3, kk), (4, kk), (26, bb)], [(0, 118, [.keep, .keep, .keep])], []⟩⟩]] none .nil .nil) .nil) .nil))))
  Tryz.func47 rfl (by kernel_rfl) rfl rfl rfl rfl types_ok ⟨⟨ok_wire_Int, trivial⟩, trivial⟩ mx (fun x => by kernel_rfl)

noncomputable def centre_reader_count (most : Int) (r : List Int) (r2 : Int) (r3 : Bool) : Option (Int × List Int × Int × Bool) :=
 (centre_reader_number r r2 r3).bind fun r4 =>
 Option.bind (α := Bool) (
 bif decide (r4.1 < 0) then (
 some true)
 else (
 some (decide (most < r4.1)))) fun s =>
 bif s then (
 some (0, r4.2.1, r4.2.2.1, true))
 else (
 some (r4.1, r4.2.1, r4.2.2.1, r4.2.2.2))

noncomputable def fn_centre_reader_count : Fun :=
 ⟨48, 2, 1,
 ⟨[(0, .one (.ptr 0 0)), (1, ii)], [(0, 118, [.data (.sl (.int .u8)), .data (.int .i64), .data (.bool)])], []⟩,
 ⟨[(0, ii)], [(0, 118, [.data (.sl (.int .u8)), .data (.int .i64), .data (.bool)])], []⟩,
 fun x => centre_reader_count x.1 x.2.1 x.2.2.1 x.2.2.2⟩
noncomputable def cx_centre_reader_count : Cx := ⟨types, [], [fn_centre_reader_number], 19, []⟩
theorem ok_centre_reader_count : FunOk Tryz.prog fn_centre_reader_count :=
 FunOk.intro (C := cx_centre_reader_count) (p := (nn (nn (mm (mm (.mk [.join [⟨.n, ⟨[(0, .one (.ptr 0 0)), (5, kk), (14, bb)], [(0, 118, [.keep, .keep, .keep])], []⟩⟩]] none .nil .nil) .nil) .nil))))
  Tryz.func48 rfl (by kernel_rfl) rfl rfl rfl rfl types_ok ⟨⟨ok_centre_reader_number, trivial⟩, trivial⟩ mx (fun x => by kernel_rfl)

noncomputable def centre_Decode_L0 (r2 : Int × List Int × Int × Bool) (v : Int) (r3 : List Int) (r4 : Int) (r5 : Bool) (out : List Int) : Option ((Int × List Int × Int × Bool × List Int) ⊕ (List Int × Int × Bool × List Int)) :=
 bif decide (v < r2.1) then (
 (centre_reader_number r3 r4 r5).bind fun r6 =>
 gd (fits (out.length + 1) 8) <|
 some (.inl (wi64 (v + 1), r6.2.1, r6.2.2.1, r6.2.2.2, out ++ [r6.1])))
 else (
 some (.inr (r3, r4, r5, out)))

noncomputable def centre_Decode_L1 (r12 : Int × List Int × Int × Bool) (v2 : Int) (r13 : List Int) (r14 : Int) (r15 : Bool) (p : List Int) (p2 : List (Int × Bool)) : Option ((Int × List Int × Int × Bool × List Int × List (Int × Bool)) ⊕ (List Int × Int × Bool × List Int × List (Int × Bool))) :=
 bif decide (v2 < r12.1) then (
 (centre_reader_number r13 r14 r15).bind fun r16 =>
 (centre_reader_count 1 r16.2.1 r16.2.2.1 r16.2.2.2).bind fun r17 =>
 gd (fits (p2.length + 1) 16) <|
 some (.inl (wi64 (v2 + 1), r17.2.1, r17.2.2.1, r17.2.2.2, p, p2 ++ [(r16.1, decide (r17.1 = 1))])))
 else (
 some (.inr (r13, r14, r15, p, p2)))

noncomputable def centre_Decode (b : List Int) : Option ((Int × List Int × (Int × Int × Int × Int × Int × List (Int × Bool) × Int) × List UInt8 × Int × Int) × Int) :=
 (centre_reader_number b 0 false).bind fun r =>
 (centre_reader_count 21 r.2.1 r.2.2.1 r.2.2.2).bind fun r2 =>
 (iter (fun x => centre_Decode_L0 r2 x.1 x.2.1 x.2.2.1 x.2.2.2.1 x.2.2.2.2) (0, r2.2.1, r2.2.2.1, r2.2.2.2, [])).bind fun s =>
 (centre_reader_number s.1 s.2.1 s.2.2.1).bind fun r7 =>
 (centre_reader_number r7.2.1 r7.2.2.1 r7.2.2.2).bind fun r8 =>
 (centre_reader_number r8.2.1 r8.2.2.1 r8.2.2.2).bind fun r9 =>
 (centre_reader_number r9.2.1 r9.2.2.1 r9.2.2.2).bind fun r10 =>
 (centre_reader_number r10.2.1 r10.2.2.1 r10.2.2.2).bind fun r11 =>
 (centre_reader_count 32 r11.2.1 r11.2.2.1 r11.2.2.2).bind fun r12 =>
 (iter (fun x2 => centre_Decode_L1 r12 x2.1 x2.2.1 x2.2.2.1 x2.2.2.2.1 x2.2.2.2.2.1 x2.2.2.2.2.2) (0, r12.2.1, r12.2.2.1, r12.2.2.2, s.2.2.2, [])).bind fun s2 =>
 (centre_reader_number s2.1 s2.2.1 s2.2.2.1).bind fun r18 =>
 (centre_reader_number r18.2.1 r18.2.2.1 r18.2.2.2).bind fun r19 =>
 (centre_reader_number r19.2.1 r19.2.2.1 r19.2.2.2).bind fun r20 =>
 (centre_reader_count 12 r20.2.1 r20.2.2.1 r20.2.2.2).bind fun r21 =>
 Option.bind (α := Bool × List Int × List (Int × Bool)) (
 bif r21.2.2.2 then (
 some (true, s2.2.2.2.1, s2.2.2.2.2))
 else (
 some ((!decide (wi64 ((b.length : Int) - r21.2.2.1) = r21.1)), s2.2.2.2.1, s2.2.2.2.2))) fun s3 =>
 bif s3.1 then (
 some ((0, ([], ((0, (0, (0, (0, (0, ([], 0)))))), ([], (0, 0))))), 3))
 else (
 gd (cutG (some (.i64, r21.2.2.1)) none b.length) <|
 some ((r.1, (s3.2.1, ((r7.1, (r8.1, (r9.1, (r10.1, (r11.1, (s3.2.2, r18.1)))))), (toBytes (b.drop r21.2.2.1.toNat), (r19.1, r20.1))))), 0))

noncomputable def fn_centre_Decode : Fun :=
 ⟨11, 1, 2,
 ⟨[(0, .one (.data (.sl (.int .u8))))], [], []⟩,
 ⟨[(0, .one (.data (.pair (.int .i64) (.pair (.sl (.int .i64)) (.pair (.pair (.int .i64) (.pair (.int .i64) (.pair (.int .i64) (.pair (.int .i64) (.pair (.int .i64) (.pair (.sl (.pair (.int .i64) (.bool))) (.int .i64))))))) (.pair (.str) (.pair (.int .i64) (.int .i64)))))))), (1, ii)], [], []⟩,
 fun x => centre_Decode x⟩
noncomputable def cx_centre_Decode : Cx := ⟨types, [], [fn_centre_reader_number, fn_centre_reader_count], 113, []⟩
theorem ok_centre_Decode : FunOk Tryz.prog fn_centre_Decode :=
 FunOk.intro (C := cx_centre_Decode) (p := (nn (nn (nn (nn (mm (nn (mm (.mk [] (some (⟨[(0, kk), (2, .one (.ptr 48 0)), (4, .one (.ptr 192 0)), (5, .one (.ptr 96 0)), (16, kk), (17, ii)], [(48, 32, [.keep, .keep, .keep, .keep, .keep, .keep, .keep, .keep, .keep, .keep, .keep, .keep]), (192, 118, [.data (.sl (.int .u8)), .data (.int .i64), .data (.bool)]), (96, 32, [.keep, .own 1577, .keep, .keep, .keep, .keep, .keep, .keep, .keep, .keep, .keep, .keep])], [(1577, .arr 3 (.int .i64))]⟩, [⟨.x 0, ⟨[(0, kk), (2, .one (.ptr 48 0)), (4, .one (.ptr 192 0)), (5, .one (.ptr 96 0))], [(48, 32, [.keep, .keep, .keep, .keep, .keep, .keep, .keep, .keep, .keep, .keep, .keep, .keep]), (192, 118, [.data (.sl (.int .u8)), .data (.int .i64), .data (.bool)]), (96, 32, [.keep, .own 1577, .keep, .keep, .keep, .keep, .keep, .keep, .keep, .keep, .keep, .keep])], [(1577, .arr 3 (.int .i64))]⟩⟩])) .nil .nil) .nil)) (nn (nn (mm (nn (mm (.mk [] (some (⟨[(0, kk), (2, .one (.ptr 48 0)), (4, .one (.ptr 192 0)), (5, .one (.ptr 96 0)), (6, .one (.ptr 96 5)), (52, kk), (53, ii)], [(48, 32, [.keep, .keep, .keep, .keep, .keep, .keep, .keep, .keep, .keep, .keep, .keep, .keep]), (192, 118, [.data (.sl (.int .u8)), .data (.int .i64), .data (.bool)]), (96, 32, [.keep, .own 1577, .keep, .keep, .keep, .keep, .keep, .own 1673, .keep, .keep, .keep, .keep])], [(1577, .arr 3 (.int .i64)), (1673, .arr 114 (.pair (.int .i64) (.bool)))]⟩, [⟨.x 2, ⟨[(0, kk), (2, .one (.ptr 48 0)), (4, .one (.ptr 192 0)), (5, .one (.ptr 96 0)), (6, .one (.ptr 96 5))], [(48, 32, [.keep, .keep, .keep, .keep, .keep, .keep, .keep, .keep, .keep, .keep, .keep, .keep]), (192, 118, [.data (.sl (.int .u8)), .data (.int .i64), .data (.bool)]), (96, 32, [.keep, .own 1577, .keep, .keep, .keep, .keep, .keep, .own 1673, .keep, .keep, .keep, .keep])], [(1577, .arr 3 (.int .i64)), (1673, .arr 114 (.pair (.int .i64) (.bool)))]⟩⟩])) .nil .nil) .nil)) (nn (nn (mm (mm (.mk [.join [⟨.n, ⟨[(0, kk), (2, .one (.ptr 48 0)), (4, .one (.ptr 192 0)), (5, .one (.ptr 96 0)), (101, bb)], [(48, 32, [.keep, .keep, .keep, .keep, .keep, .keep, .keep, .keep, .keep, .keep, .keep, .keep]), (192, 118, [.keep, .keep, .keep]), (96, 32, [.keep, .own 1577, .keep, .keep, .keep, .keep, .keep, .own 1673, .keep, .keep, .keep, .keep])], [(1577, .arr 3 (.int .i64)), (1673, .arr 114 (.pair (.int .i64) (.bool)))]⟩⟩]] none .nil .nil) .nil) .nil))))))))))))
  Tryz.func11 rfl (by kernel_rfl) rfl rfl rfl rfl types_ok ⟨⟨ok_centre_reader_number, ok_centre_reader_count, trivial⟩, trivial⟩ mx (fun x => by kernel_rfl)

noncomputable def centre_Restart_L0 (n : List (List UInt8) × List yT0 × List (List UInt8 × Int × Int) × List (List UInt8 × Int × Int × Int × Int) × Int × Int) (r : List Int) (r2 : List Int) (r4 : (List Int × List Int) × List (List Int)) (v : Int) (v2 : List Int) (v3 : List Int) (v4 : List (Int × Int × Bool × Bool)) (v5 : List Int) (v6 : List Int) (v7 : List Bool) (v8 : List (Int × Int × Int × Int × Int × List Int)) (v9 : List (List UInt8 × Int × Int × Int × Int)) (v10 : Int) (c : List (Int × Int × Bool × Bool)) (c2 : List Int) (c3 : List Int) (c4 : List Bool) (c5 : List (Int × Int × Int × Int × Int × List Int)) (c6 : List (List UInt8 × Int × Int × Int × Int)) (c7 : Int) (v11 : List (List Int)) : Option ((Int × List Int × List Int × (List (Int × Int × Bool × Bool)) × List Int × List Int × List Bool × (List (Int × Int × Int × Int × Int × List Int)) × (List (List UInt8 × Int × Int × Int × Int)) × Int × (List (Int × Int × Bool × Bool)) × List Int × List Int × List Bool × (List (Int × Int × Int × Int × Int × List Int)) × (List (List UInt8 × Int × Int × Int × Int)) × Int × List (List Int)) ⊕ ((List Int × List Int × (List (Int × Int × Bool × Bool)) × List Int × List Int × List Bool × (List (Int × Int × Int × Int × Int × List Int)) × (List (List UInt8 × Int × Int × Int × Int)) × Int × (List (Int × Int × Bool × Bool)) × List Int × List Int × List Bool × (List (Int × Int × Int × Int × Int × List Int)) × (List (List UInt8 × Int × Int × Int × Int)) × Int) ⊕ (Int × List Int × List Int × (List (Int × Int × Bool × Bool)) × List Int × List Int × List Bool × (List (Int × Int × Int × Int × Int × List Int)) × (List (List UInt8 × Int × Int × Int × Int)) × Int))) :=
 bif decide (v < (r4.2.length : Int)) then (
 gd (inB v v11.length) <|
 (centre_Decode (v11.getD v.toNat [])).bind fun r5 =>
 bif !decide (r5.2 = 0) then (
 some (.inr (.inr (28, r, r2, [], [], [], [], [], [], 0))))
 else (
 (centre_Apply (n.1, (n.2.1, (n.2.2.1, (n.2.2.2.1, (n.2.2.2.2.1, n.2.2.2.2.2))))) ((c, (c2, (c3, c4))), (c5, (c6, c7))) (r5.1.1, (r5.1.2.1, ((r5.1.2.2.1.1, (r5.1.2.2.1.2.1, (r5.1.2.2.1.2.2.1, (r5.1.2.2.1.2.2.2.1, (r5.1.2.2.1.2.2.2.2.1, (r5.1.2.2.1.2.2.2.2.2.1, r5.1.2.2.1.2.2.2.2.2.2)))))), (r5.1.2.2.2.1, (r5.1.2.2.2.2.1, r5.1.2.2.2.2.2)))))).bind fun r6 =>
 bif !decide (r6.2 = 0) then (
 some (.inr (.inr (28, r, r2, [], [], [], [], [], [], 0))))
 else (
 some (.inl (wi64 (v + 1), v2, v3, v4, v5, v6, v7, v8, v9, v10, r6.1.1.1, r6.1.1.2.1, r6.1.1.2.2.1, r6.1.1.2.2.2, r6.1.2.1, r6.1.2.2.1, r6.1.2.2.2, v11)))))
 else (
 some (.inr (.inl (v2, v3, v4, v5, v6, v7, v8, v9, v10, c, c2, c3, c4, c5, c6, c7))))

noncomputable def centre_Restart (n : List (List UInt8) × List yT0 × List (List UInt8 × Int × Int) × List (List UInt8 × Int × Int × Int × Int) × Int × Int) (travel : Int) (f : List Int × List Int) : Option ((List Int × List Int) × ((List (Int × Int × Bool × Bool) × List Int × List Int × List Bool) × List (Int × Int × Int × Int × Int × List Int) × List (List UInt8 × Int × Int × Int × Int) × Int) × Int) :=
 (slices_Clone_byte_byte f.1).bind fun r =>
 (slices_Clone_byte_byte f.2).bind fun r2 =>
 (centre_New (n.1, (n.2.1, (n.2.2.1, (n.2.2.2.1, (n.2.2.2.2.1, n.2.2.2.2.2))))) travel).bind fun r3 =>
 bif !decide (r3.2 = 0) then (
 some ((r, r2), (([], ([], ([], []))), ([], ([], 0))), r3.2))
 else (
 (journal_Recover (f.1, f.2)).bind fun r4 =>
 (iter (fun x => centre_Restart_L0 n r r2 r4 x.1 x.2.1 x.2.2.1 x.2.2.2.1 x.2.2.2.2.1 x.2.2.2.2.2.1 x.2.2.2.2.2.2.1 x.2.2.2.2.2.2.2.1 x.2.2.2.2.2.2.2.2.1 x.2.2.2.2.2.2.2.2.2.1 x.2.2.2.2.2.2.2.2.2.2.1 x.2.2.2.2.2.2.2.2.2.2.2.1 x.2.2.2.2.2.2.2.2.2.2.2.2.1 x.2.2.2.2.2.2.2.2.2.2.2.2.2.1 x.2.2.2.2.2.2.2.2.2.2.2.2.2.2.1 x.2.2.2.2.2.2.2.2.2.2.2.2.2.2.2.1 x.2.2.2.2.2.2.2.2.2.2.2.2.2.2.2.2.1 x.2.2.2.2.2.2.2.2.2.2.2.2.2.2.2.2.2) (0, [], [], [], [], [], [], [], [], 0, r3.1.1.1, r3.1.1.2.1, r3.1.1.2.2.1, r3.1.1.2.2.2, r3.1.2.1, r3.1.2.2.1, r3.1.2.2.2, r4.2)).bind fun s =>
 s.elim (fun s2 =>
 some ((r4.1.1, r4.1.2), ((s2.2.2.2.2.2.2.2.2.2.1, (s2.2.2.2.2.2.2.2.2.2.2.1, (s2.2.2.2.2.2.2.2.2.2.2.2.1, s2.2.2.2.2.2.2.2.2.2.2.2.2.1))), (s2.2.2.2.2.2.2.2.2.2.2.2.2.2.1, (s2.2.2.2.2.2.2.2.2.2.2.2.2.2.2.1, s2.2.2.2.2.2.2.2.2.2.2.2.2.2.2.2))), 0))
 (fun s3 =>
 some ((s3.2.1, s3.2.2.1), ((s3.2.2.2.1, (s3.2.2.2.2.1, (s3.2.2.2.2.2.1, s3.2.2.2.2.2.2.1))), (s3.2.2.2.2.2.2.2.1, (s3.2.2.2.2.2.2.2.2.1, s3.2.2.2.2.2.2.2.2.2))), s3.1)))

noncomputable def fn_centre_Restart : Fun :=
 ⟨28, 3, 3,
 ⟨[(0, .one (.data (.pair (.sl (.str)) tT0))), (1, ii), (2, .one (.data (.pair (.sl (.int .u8)) (.sl (.int .u8)))))], [], []⟩,
 ⟨[(0, .one (.data (.pair (.sl (.int .u8)) (.sl (.int .u8))))), (1, .one (.data (.pair (.pair (.sl tT4) (.pair (.sl (.int .i64)) (.pair (.sl (.int .i64)) (.sl (.bool))))) (.pair (.sl tT1) (.pair (.sl tT2) (.int .i64)))))), (2, ii)], [], []⟩,
 fun x => centre_Restart x.1 x.2.1 x.2.2⟩
noncomputable def cx_centre_Restart : Cx := ⟨types, [], [fn_slices_Clone_byte_byte, fn_centre_New, fn_journal_Recover, fn_centre_Decode, fn_centre_Apply], 70, []⟩
theorem ok_centre_Restart : FunOk Tryz.prog fn_centre_Restart :=
 FunOk.intro (C := cx_centre_Restart) (p := (nn (nn (nn (nn (nn (mm (nn (mm (.mk [] (some (⟨[(3, .one (.ptr 64 0)), (6, .one (.ptr 112 0)), (7, .one (.ptr 128 0)), (9, .one (.ptr 160 0)), (10, .one (.ptr 176 0)), (12, .one (.ptr 208 0)), (41, .one (.own 624)), (42, kk), (43, ii)], [(64, 50, [.keep, .keep, .keep, .keep, .keep, .keep]), (112, 65, [.data (.sl (.int .u8)), .data (.sl (.int .u8))]), (128, 61, [.data (.sl tT4), .data (.sl (.int .i64)), .data (.sl (.int .i64)), .data (.sl (.bool)), .data (.sl tT1), .data (.sl tT2), .data (.int .i64)]), (160, 65, [.keep, .keep]), (176, 61, [.data (.sl tT4), .data (.sl (.int .i64)), .data (.sl (.int .i64)), .data (.sl (.bool)), .data (.sl tT1), .data (.sl tT2), .data (.int .i64)]), (208, 65, [.keep, .keep])], [(624, .arr 22 (.sl (.int .u8)))]⟩, [⟨.x 0, ⟨[(6, .one (.ptr 112 0)), (7, .one (.ptr 128 0)), (10, .one (.ptr 176 0)), (12, .one (.ptr 208 0))], [(112, 65, [.data (.sl (.int .u8)), .data (.sl (.int .u8))]), (128, 61, [.data (.sl tT4), .data (.sl (.int .i64)), .data (.sl (.int .i64)), .data (.sl (.bool)), .data (.sl tT1), .data (.sl tT2), .data (.int .i64)]), (176, 61, [.data (.sl tT4), .data (.sl (.int .i64)), .data (.sl (.int .i64)), .data (.sl (.bool)), .data (.sl tT1), .data (.sl tT2), .data (.int .i64)]), (208, 65, [.keep, .keep])], []⟩⟩, ⟨.r, ⟨[(6, .one (.ptr 112 0)), (7, .one (.ptr 128 0)), (8, ii)], [(112, 65, [.data (.sl (.int .u8)), .data (.sl (.int .u8))]), (128, 61, [.data (.sl tT4), .data (.sl (.int .i64)), .data (.sl (.int .i64)), .data (.sl (.bool)), .data (.sl tT1), .data (.sl tT2), .data (.int .i64)])], []⟩⟩])) .nil .nil) .nil)) .nil)))))))
  Tryz.func28 rfl (by kernel_rfl) rfl rfl rfl rfl types_ok ⟨⟨ok_slices_Clone_byte_byte, ok_centre_New, ok_journal_Recover, ok_centre_Decode, ok_centre_Apply, trivial⟩, trivial⟩ mx (fun x => by kernel_rfl)

noncomputable def ref23_Same_L0 (a : List (Int × Int × Bool × Bool)) (b : List (Int × Int × Bool × Bool)) (i : Int) : Option (Int ⊕ (Unit ⊕ Bool)) :=
 bif decide (i < (a.length : Int)) then (
 gd (inB i a.length) <|
 gd (inB i b.length) <|
 bif !(decide ((a.getD i.toNat (0, (0, (false, false)))).1 = (b.getD i.toNat (0, (0, (false, false)))).1) && (decide (((a.getD i.toNat (0, (0, (false, false)))).2).1 = ((b.getD i.toNat (0, (0, (false, false)))).2).1) && (((((a.getD i.toNat (0, (0, (false, false)))).2).2).1 == (((b.getD i.toNat (0, (0, (false, false)))).2).2).1) && ((((a.getD i.toNat (0, (0, (false, false)))).2).2).2 == (((b.getD i.toNat (0, (0, (false, false)))).2).2).2)))) then (
 some (.inr (.inr false)))
 else (
 some (.inl (wi64 (i + 1)))))
 else (
 some (.inr (.inl ())))

noncomputable def ref23_Same (a : List (Int × Int × Bool × Bool)) (b : List (Int × Int × Bool × Bool)) : Option (Bool) :=
 bif !decide ((a.length : Int) = (b.length : Int)) then (
 some false)
 else (
 (iter (fun x => ref23_Same_L0 a b x) 0).bind fun s =>
 s.elim (fun s2 =>
 some true)
 (fun s3 =>
 some s3))

noncomputable def fn_ref23_Same : Fun :=
 ⟨81, 2, 1,
 ⟨[(0, .one (.data (.sl tT4))), (1, .one (.data (.sl tT4)))], [], []⟩,
 ⟨[(0, bb)], [], []⟩,
 fun x => ref23_Same x.1 x.2⟩
noncomputable def cx_ref23_Same : Cx := ⟨types, [], [], 26, []⟩
theorem ok_ref23_Same : FunOk Tryz.prog fn_ref23_Same :=
 FunOk.intro (C := cx_ref23_Same) (p := (nn (nn (mm (nn (mm (.mk [] (some (⟨[(0, kk), (1, kk), (5, ii)], [], []⟩, [⟨.x 0, ⟨[], [], []⟩⟩, ⟨.r, ⟨[(4, bb)], [], []⟩⟩])) .nil .nil) .nil)) .nil))))
  Tryz.func81 rfl (by kernel_rfl) rfl rfl rfl rfl types_ok ⟨trivial, trivial⟩ mx (fun x => by kernel_rfl)

noncomputable def ref23_SameInts_L0 (a : List Int) (b : List Int) (i : Int) : Option (Int ⊕ (Unit ⊕ Bool)) :=
 bif decide (i < (a.length : Int)) then (
 gd (inB i a.length) <|
 gd (inB i b.length) <|
 bif !decide (a.getD i.toNat 0 = b.getD i.toNat 0) then (
 some (.inr (.inr false)))
 else (
 some (.inl (wi64 (i + 1)))))
 else (
 some (.inr (.inl ())))

noncomputable def ref23_SameInts (a : List Int) (b : List Int) : Option (Bool) :=
 bif !decide ((a.length : Int) = (b.length : Int)) then (
 some false)
 else (
 (iter (fun x => ref23_SameInts_L0 a b x) 0).bind fun s =>
 s.elim (fun s2 =>
 some true)
 (fun s3 =>
 some s3))

noncomputable def fn_ref23_SameInts : Fun :=
 ⟨51, 2, 1,
 ⟨[(0, .one (.data (.sl (.int .i64)))), (1, .one (.data (.sl (.int .i64))))], [], []⟩,
 ⟨[(0, bb)], [], []⟩,
 fun x => ref23_SameInts x.1 x.2⟩
noncomputable def cx_ref23_SameInts : Cx := ⟨types, [], [], 26, []⟩
theorem ok_ref23_SameInts : FunOk Tryz.prog fn_ref23_SameInts :=
 FunOk.intro (C := cx_ref23_SameInts) (p := (nn (nn (mm (nn (mm (.mk [] (some (⟨[(0, kk), (1, kk), (5, ii)], [], []⟩, [⟨.x 0, ⟨[], [], []⟩⟩, ⟨.r, ⟨[(4, bb)], [], []⟩⟩])) .nil .nil) .nil)) .nil))))
  Tryz.func51 rfl (by kernel_rfl) rfl rfl rfl rfl types_ok ⟨trivial, trivial⟩ mx (fun x => by kernel_rfl)

noncomputable def ref23_SameBools_L0 (a : List Bool) (b : List Bool) (i : Int) : Option (Int ⊕ (Unit ⊕ Bool)) :=
 bif decide (i < (a.length : Int)) then (
 gd (inB i a.length) <|
 gd (inB i b.length) <|
 bif !(a.getD i.toNat false == b.getD i.toNat false) then (
 some (.inr (.inr false)))
 else (
 some (.inl (wi64 (i + 1)))))
 else (
 some (.inr (.inl ())))

noncomputable def ref23_SameBools (a : List Bool) (b : List Bool) : Option (Bool) :=
 bif !decide ((a.length : Int) = (b.length : Int)) then (
 some false)
 else (
 (iter (fun x => ref23_SameBools_L0 a b x) 0).bind fun s =>
 s.elim (fun s2 =>
 some true)
 (fun s3 =>
 some s3))

noncomputable def fn_ref23_SameBools : Fun :=
 ⟨135, 2, 1,
 ⟨[(0, .one (.data (.sl (.bool)))), (1, .one (.data (.sl (.bool))))], [], []⟩,
 ⟨[(0, bb)], [], []⟩,
 fun x => ref23_SameBools x.1 x.2⟩
noncomputable def cx_ref23_SameBools : Cx := ⟨types, [], [], 26, []⟩
theorem ok_ref23_SameBools : FunOk Tryz.prog fn_ref23_SameBools :=
 FunOk.intro (C := cx_ref23_SameBools) (p := (nn (nn (mm (nn (mm (.mk [] (some (⟨[(0, kk), (1, kk), (5, ii)], [], []⟩, [⟨.x 0, ⟨[], [], []⟩⟩, ⟨.r, ⟨[(4, bb)], [], []⟩⟩])) .nil .nil) .nil)) .nil))))
  Tryz.func135 rfl (by kernel_rfl) rfl rfl rfl rfl types_ok ⟨trivial, trivial⟩ mx (fun x => by kernel_rfl)

noncomputable def ref25_SamePlan (a : List Int × List Int × List Bool) (b : List Int × List Int × List Bool) : Option (Bool) :=
 (ref23_SameInts a.1 b.1).bind fun r =>
 bif r then (
 (ref23_SameInts a.2.1 b.2.1).bind fun r2 =>
 bif r2 then (
 (ref23_SameBools a.2.2 b.2.2).bind fun r3 =>
 some r3)
 else (
 some false))
 else (
 some false)

noncomputable def fn_ref25_SamePlan : Fun :=
 ⟨82, 2, 1,
 ⟨[(0, .one (.data (.pair (.sl (.int .i64)) (.pair (.sl (.int .i64)) (.sl (.bool)))))), (1, .one (.data (.pair (.sl (.int .i64)) (.pair (.sl (.int .i64)) (.sl (.bool))))))], [], []⟩,
 ⟨[(0, bb)], [], []⟩,
 fun x => ref25_SamePlan x.1 x.2⟩
noncomputable def cx_ref25_SamePlan : Cx := ⟨types, [], [fn_ref23_SameInts, fn_ref23_SameBools], 24, []⟩
theorem ok_ref25_SamePlan : FunOk Tryz.prog fn_ref25_SamePlan :=
 FunOk.intro (C := cx_ref25_SamePlan) (p := .nil)
  Tryz.func82 rfl (by kernel_rfl) rfl rfl rfl rfl types_ok ⟨⟨ok_ref23_SameInts, ok_ref23_SameBools, trivial⟩, trivial⟩ mx (fun x => by kernel_rfl)

noncomputable def ref26_Same (a : List (Int × Int × Bool × Bool) × List Int × List Int × List Bool) (b : List (Int × Int × Bool × Bool) × List Int × List Int × List Bool) : Option (Bool) :=
 (ref23_Same a.1 b.1).bind fun r =>
 bif r then (
 (ref25_SamePlan (a.2.1, (a.2.2.1, a.2.2.2)) (b.2.1, (b.2.2.1, b.2.2.2))).bind fun r2 =>
 some r2)
 else (
 some false)

noncomputable def fn_ref26_Same : Fun :=
 ⟨35, 2, 1,
 ⟨[(0, .one (.data (.pair (.sl tT4) (.pair (.sl (.int .i64)) (.pair (.sl (.int .i64)) (.sl (.bool))))))), (1, .one (.data (.pair (.sl tT4) (.pair (.sl (.int .i64)) (.pair (.sl (.int .i64)) (.sl (.bool)))))))], [], []⟩,
 ⟨[(0, bb)], [], []⟩,
 fun x => ref26_Same x.1 x.2⟩
noncomputable def cx_ref26_Same : Cx := ⟨types, [], [fn_ref23_Same, fn_ref25_SamePlan], 17, []⟩
theorem ok_ref26_Same : FunOk Tryz.prog fn_ref26_Same :=
 FunOk.intro (C := cx_ref26_Same) (p := .nil)
  Tryz.func35 rfl (by kernel_rfl) rfl rfl rfl rfl types_ok ⟨⟨ok_ref23_Same, ok_ref25_SamePlan, trivial⟩, trivial⟩ mx (fun x => by kernel_rfl)

noncomputable def ref39_Same_L0 (a : List (List UInt8 × Int × Int × Int × Int)) (b : List (List UInt8 × Int × Int × Int × Int)) (i : Int) : Option (Int ⊕ (Unit ⊕ Bool)) :=
 bif decide (i < (a.length : Int)) then (
 gd (inB i a.length) <|
 gd (inB i b.length) <|
 bif !(decide ((a.getD i.toNat ([], (0, (0, (0, 0))))).1 = (b.getD i.toNat ([], (0, (0, (0, 0))))).1) && (decide (((a.getD i.toNat ([], (0, (0, (0, 0))))).2).1 = ((b.getD i.toNat ([], (0, (0, (0, 0))))).2).1) && (decide ((((a.getD i.toNat ([], (0, (0, (0, 0))))).2).2).1 = (((b.getD i.toNat ([], (0, (0, (0, 0))))).2).2).1) && (decide (((((a.getD i.toNat ([], (0, (0, (0, 0))))).2).2).2).1 = ((((b.getD i.toNat ([], (0, (0, (0, 0))))).2).2).2).1) && decide (((((a.getD i.toNat ([], (0, (0, (0, 0))))).2).2).2).2 = ((((b.getD i.toNat ([], (0, (0, (0, 0))))).2).2).2).2))))) then (
 some (.inr (.inr false)))
 else (
 some (.inl (wi64 (i + 1)))))
 else (
 some (.inr (.inl ())))

noncomputable def ref39_Same (a : List (List UInt8 × Int × Int × Int × Int)) (b : List (List UInt8 × Int × Int × Int × Int)) : Option (Bool) :=
 bif !decide ((a.length : Int) = (b.length : Int)) then (
 some false)
 else (
 (iter (fun x => ref39_Same_L0 a b x) 0).bind fun s =>
 s.elim (fun s2 =>
 some true)
 (fun s3 =>
 some s3))

noncomputable def fn_ref39_Same : Fun :=
 ⟨36, 2, 1,
 ⟨[(0, .one (.data (.sl tT2))), (1, .one (.data (.sl tT2)))], [], []⟩,
 ⟨[(0, bb)], [], []⟩,
 fun x => ref39_Same x.1 x.2⟩
noncomputable def cx_ref39_Same : Cx := ⟨types, [], [], 26, []⟩
theorem ok_ref39_Same : FunOk Tryz.prog fn_ref39_Same :=
 FunOk.intro (C := cx_ref39_Same) (p := (nn (nn (mm (nn (mm (.mk [] (some (⟨[(0, kk), (1, kk), (5, ii)], [], []⟩, [⟨.x 0, ⟨[], [], []⟩⟩, ⟨.r, ⟨[(4, bb)], [], []⟩⟩])) .nil .nil) .nil)) .nil))))
  Tryz.func36 rfl (by kernel_rfl) rfl rfl rfl rfl types_ok ⟨trivial, trivial⟩ mx (fun x => by kernel_rfl)

noncomputable def ref41_SameTelegram (a : Int × Int × Int × Int × Int × List Int) (b : Int × Int × Int × Int × Int × List Int) : Option (Bool) :=
 bif decide (a.1 = b.1) then (
 bif decide (a.2.1 = b.2.1) then (
 bif decide (a.2.2.1 = b.2.2.1) then (
 bif decide (a.2.2.2.1 = b.2.2.2.1) then (
 bif decide (a.2.2.2.2.1 = b.2.2.2.2.1) then (
 (ref23_SameInts a.2.2.2.2.2 b.2.2.2.2.2).bind fun r =>
 some r)
 else (
 some false))
 else (
 some false))
 else (
 some false))
 else (
 some false))
 else (
 some false)

noncomputable def fn_ref41_SameTelegram : Fun :=
 ⟨43, 2, 1,
 ⟨[(0, .one (.data tT1)), (1, .one (.data tT1))], [], []⟩,
 ⟨[(0, bb)], [], []⟩,
 fun x => ref41_SameTelegram x.1 x.2⟩
noncomputable def cx_ref41_SameTelegram : Cx := ⟨types, [], [fn_ref23_SameInts], 45, []⟩
theorem ok_ref41_SameTelegram : FunOk Tryz.prog fn_ref41_SameTelegram :=
 FunOk.intro (C := cx_ref41_SameTelegram) (p := .nil)
  Tryz.func43 rfl (by kernel_rfl) rfl rfl rfl rfl types_ok ⟨⟨ok_ref23_SameInts, trivial⟩, trivial⟩ mx (fun x => by kernel_rfl)

noncomputable def ref41_Same_L0 (a : (List (Int × Int × Bool × Bool) × List Int × List Int × List Bool) × List (Int × Int × Int × Int × Int × List Int) × List (List UInt8 × Int × Int × Int × Int) × Int) (b : (List (Int × Int × Bool × Bool) × List Int × List Int × List Bool) × List (Int × Int × Int × Int × Int × List Int) × List (List UInt8 × Int × Int × Int × Int) × Int) (i : Int) : Option (Int ⊕ (Unit ⊕ Bool)) :=
 bif decide (i < (a.2.1.length : Int)) then (
 gd (inB i a.2.1.length) <|
 gd (inB i b.2.1.length) <|
 (ref41_SameTelegram (a.2.1.getD i.toNat (0, (0, (0, (0, (0, [])))))) (b.2.1.getD i.toNat (0, (0, (0, (0, (0, []))))))).bind fun r3 =>
 bif !r3 then (
 some (.inr (.inr false)))
 else (
 some (.inl (wi64 (i + 1)))))
 else (
 some (.inr (.inl ())))

noncomputable def ref41_Same (a : (List (Int × Int × Bool × Bool) × List Int × List Int × List Bool) × List (Int × Int × Int × Int × Int × List Int) × List (List UInt8 × Int × Int × Int × Int) × Int) (b : (List (Int × Int × Bool × Bool) × List Int × List Int × List Bool) × List (Int × Int × Int × Int × Int × List Int) × List (List UInt8 × Int × Int × Int × Int) × Int) : Option (Bool) :=
 Option.bind (α := Bool) (
 bif !decide (a.2.2.2 = b.2.2.2) then (
 some true)
 else (
 (ref26_Same (a.1.1, (a.1.2.1, (a.1.2.2.1, a.1.2.2.2))) (b.1.1, (b.1.2.1, (b.1.2.2.1, b.1.2.2.2)))).bind fun r =>
 bif !r then (
 some true)
 else (
 (ref39_Same a.2.2.1 b.2.2.1).bind fun r2 =>
 bif !r2 then (
 some true)
 else (
 some (!decide ((a.2.1.length : Int) = (b.2.1.length : Int))))))) fun s =>
 bif s then (
 some false)
 else (
 (iter (fun x => ref41_Same_L0 a b x) 0).bind fun s2 =>
 s2.elim (fun s3 =>
 some true)
 (fun s4 =>
 some s4))

noncomputable def fn_ref41_Same : Fun :=
 ⟨22, 2, 1,
 ⟨[(0, .one (.data (.pair (.pair (.sl tT4) (.pair (.sl (.int .i64)) (.pair (.sl (.int .i64)) (.sl (.bool))))) (.pair (.sl tT1) (.pair (.sl tT2) (.int .i64)))))), (1, .one (.data (.pair (.pair (.sl tT4) (.pair (.sl (.int .i64)) (.pair (.sl (.int .i64)) (.sl (.bool))))) (.pair (.sl tT1) (.pair (.sl tT2) (.int .i64))))))], [], []⟩,
 ⟨[(0, bb)], [], []⟩,
 fun x => ref41_Same x.1 x.2⟩
noncomputable def cx_ref41_Same : Cx := ⟨types, [], [fn_ref26_Same, fn_ref39_Same, fn_ref41_SameTelegram], 55, []⟩
theorem ok_ref41_Same : FunOk Tryz.prog fn_ref41_Same :=
 FunOk.intro (C := cx_ref41_Same) (p := (nn (mm (mm (.mk [.join [⟨.n, ⟨[(2, .one (.ptr 48 0)), (3, .one (.ptr 64 0)), (35, bb)], [(48, 61, [.keep, .keep, .keep, .keep, .keep, .keep, .keep]), (64, 61, [.keep, .keep, .keep, .keep, .keep, .keep, .keep])], []⟩⟩]] none .nil .nil) .nil) (mm (nn (mm (.mk [] (some (⟨[(2, .one (.ptr 48 0)), (3, .one (.ptr 64 0)), (5, ii)], [(48, 61, [.keep, .keep, .keep, .keep, .keep, .keep, .keep]), (64, 61, [.keep, .keep, .keep, .keep, .keep, .keep, .keep])], []⟩, [⟨.x 0, ⟨[], [], []⟩⟩, ⟨.r, ⟨[(4, bb)], [], []⟩⟩])) .nil .nil) .nil)) .nil))))
  Tryz.func22 rfl (by kernel_rfl) rfl rfl rfl rfl types_ok ⟨⟨ok_ref26_Same, ok_ref39_Same, ok_ref41_SameTelegram, trivial⟩, trivial⟩ mx (fun x => by kernel_rfl)

noncomputable def law41_awake : Option (Bool) :=
 (centre_New (([[97], [98]] : List (List UInt8)), ([([103], (0, (1, (10, (0, (0, [(0, (0, 1000)), (10, (0, 1000))]))))))], ([([112], (0, 0)), ([113], (1, 0))], ([], (0, 0))))) 2).bind fun r =>
 (centre_Write (([[97], [98]] : List (List UInt8)), ([([103], (0, (1, (10, (0, (0, [(0, (0, 1000)), (10, (0, 1000))]))))))], ([([112], (0, 0)), ([113], (1, 0))], ([], (0, 0))))) ([], []) ((r.1.1.1, (r.1.1.2.1, (r.1.1.2.2.1, r.1.1.2.2.2))), (r.1.2.1, (r.1.2.2.1, r.1.2.2.2))) (3, ([], ((0, (0, (0, (0, (0, ([], 0)))))), ([97], (1, 5)))))).bind fun r2 =>
 (ref40_Crash (r2.1.1, r2.1.2) 0).bind fun r3 =>
 (centre_Restart (([[97], [98]] : List (List UInt8)), ([([103], (0, (1, (10, (0, (0, [(0, (0, 1000)), (10, (0, 1000))]))))))], ([([112], (0, 0)), ([113], (1, 0))], ([], (0, 0))))) 2 r3).bind fun r4 =>
 bif decide (r.2 = 0) then (
 bif decide (r2.2.2 = 0) then (
 bif decide (r4.2.2 = 0) then (
 bif decide (r2.2.1.2.2.2 = 1) then (
 bif decide ((r4.2.1.2.2.1.length : Int) = 1) then (
 gd (inB 0 r4.2.1.2.2.1.length) <|
 bif decide (((r4.2.1.2.2.1.getD 0 ([], (0, (0, (0, 0))))).2).1 = 5) then (
 (ref41_Same ((r2.2.1.1.1, (r2.2.1.1.2.1, (r2.2.1.1.2.2.1, r2.2.1.1.2.2.2))), (r2.2.1.2.1, (r2.2.1.2.2.1, r2.2.1.2.2.2))) ((r4.2.1.1.1, (r4.2.1.1.2.1, (r4.2.1.1.2.2.1, r4.2.1.1.2.2.2))), (r4.2.1.2.1, (r4.2.1.2.2.1, r4.2.1.2.2.2)))).bind fun r5 =>
 some r5)
 else (
 some false))
 else (
 some false))
 else (
 some false))
 else (
 some false))
 else (
 some false))
 else (
 some false)

noncomputable def fn_law41_awake : Fun :=
 ⟨8, 0, 1,
 ⟨[], [], []⟩,
 ⟨[(0, bb)], [], []⟩,
 fun x => law41_awake⟩
noncomputable def cx_law41_awake : Cx := ⟨types, [], [fn_centre_New, fn_centre_Write, fn_ref40_Crash, fn_centre_Restart, fn_ref41_Same], 76, []⟩
theorem ok_law41_awake : FunOk Tryz.prog fn_law41_awake :=
 FunOk.intro (C := cx_law41_awake) (p := .nil)
  Tryz.func8 rfl (by kernel_rfl) rfl rfl rfl rfl types_ok ⟨⟨ok_centre_New, ok_centre_Write, ok_ref40_Crash, ok_centre_Restart, ok_ref41_Same, trivial⟩, trivial⟩ mx (fun x => by kernel_rfl)

noncomputable def keep_New (l : List Int) : Option (List Int × Int) :=
 gd (cutG none (some (.i64, min (l.length : Int) 2000)) l.length) <|
 some (l.take (min (l.length : Int) 2000).toNat, 0)

noncomputable def fn_keep_New : Fun :=
 ⟨16, 1, 1,
 ⟨[(0, .one (.data (.sl (.int .i64))))], [], []⟩,
 ⟨[(0, .one (.ptr 0 0))], [(0, 128, [.data (.sl (.int .i64)), .data (.int .i64)])], []⟩,
 fun x => keep_New x⟩
noncomputable def cx_keep_New : Cx := ⟨types, [], [], 10, []⟩
theorem ok_keep_New : FunOk Tryz.prog fn_keep_New :=
 FunOk.intro (C := cx_keep_New) (p := .nil)
  Tryz.func16 rfl (by kernel_rfl) rfl rfl rfl rfl types_ok ⟨trivial, trivial⟩ mx (fun x => by kernel_rfl)

noncomputable def keep_Src_Raw (s : List Int) (s2 : Int) : Option (Int × List Int × Int) :=
 bif decide ((s.length : Int) ≤ s2) then (
 some (0, s, s2))
 else (
 gd (inB (wi64 ((wi64 (s2 + 1)) - 1)) s.length) <|
 some (s.getD (wi64 ((wi64 (s2 + 1)) - 1)).toNat 0, s, wi64 (s2 + 1)))

noncomputable def fn_keep_Src_Raw : Fun :=
 ⟨66, 1, 1,
 ⟨[(0, .one (.ptr 0 0))], [(0, 128, [.data (.sl (.int .i64)), .data (.int .i64)])], []⟩,
 ⟨[(0, ii)], [(0, 128, [.data (.sl (.int .i64)), .data (.int .i64)])], []⟩,
 fun x => keep_Src_Raw x.1 x.2⟩
noncomputable def cx_keep_Src_Raw : Cx := ⟨types, [], [], 31, []⟩
theorem ok_keep_Src_Raw : FunOk Tryz.prog fn_keep_Src_Raw :=
 FunOk.intro (C := cx_keep_Src_Raw) (p := .nil)
  Tryz.func66 rfl (by kernel_rfl) rfl rfl rfl rfl types_ok ⟨trivial, trivial⟩ mx (fun x => by kernel_rfl)

noncomputable def keep_Mod (x : Int) (n : Int) : Option (Int) :=
 bif decide (n < 1) then (
 some 0)
 else (
 gd (!decide (n = 0)) <|
 bif decide (Int.tmod x n < 0) then (
 some (wi64 ((Int.tmod x n) + n)))
 else (
 some (Int.tmod x n)))

noncomputable def fn_keep_Mod : Fun :=
 ⟨53, 2, 1,
 ⟨[(0, ii), (1, ii)], [], []⟩,
 ⟨[(0, ii)], [], []⟩,
 fun x => keep_Mod x.1 x.2⟩
noncomputable def cx_keep_Mod : Cx := ⟨types, [], [], 16, []⟩
theorem ok_keep_Mod : FunOk Tryz.prog fn_keep_Mod :=
 FunOk.intro (C := cx_keep_Mod) (p := .nil)
  Tryz.func53 rfl (by kernel_rfl) rfl rfl rfl rfl types_ok ⟨trivial, trivial⟩ mx (fun x => by kernel_rfl)

noncomputable def keep_Src_N (n : Int) (s : List Int) (s2 : Int) : Option (Int × List Int × Int) :=
 (keep_Src_Raw s s2).bind fun r =>
 (keep_Mod r.1 n).bind fun r2 =>
 some (r2, r.2.1, r.2.2)

noncomputable def fn_keep_Src_N : Fun :=
 ⟨27, 2, 1,
 ⟨[(0, .one (.ptr 0 0)), (1, ii)], [(0, 128, [.data (.sl (.int .i64)), .data (.int .i64)])], []⟩,
 ⟨[(0, ii)], [(0, 128, [.data (.sl (.int .i64)), .data (.int .i64)])], []⟩,
 fun x => keep_Src_N x.1 x.2.1 x.2.2⟩
noncomputable def cx_keep_Src_N : Cx := ⟨types, [], [fn_keep_Src_Raw, fn_keep_Mod], 9, []⟩
theorem ok_keep_Src_N : FunOk Tryz.prog fn_keep_Src_N :=
 FunOk.intro (C := cx_keep_Src_N) (p := .nil)
  Tryz.func27 rfl (by kernel_rfl) rfl rfl rfl rfl types_ok ⟨⟨ok_keep_Src_Raw, ok_keep_Mod, trivial⟩, trivial⟩ mx (fun x => by kernel_rfl)

noncomputable def keep_Src_Pick (l : List Int) (s : List Int) (s2 : Int) : Option (Int × List Int × Int) :=
 (keep_Src_N (l.length : Int) s s2).bind fun r =>
 gd (inB r.1 l.length) <|
 some (l.getD r.1.toNat 0, r.2.1, r.2.2)

noncomputable def fn_keep_Src_Pick : Fun :=
 ⟨26, 2, 1,
 ⟨[(0, .one (.ptr 0 0)), (1, .one (.data (.sl (.int .i64))))], [(0, 128, [.data (.sl (.int .i64)), .data (.int .i64)])], []⟩,
 ⟨[(0, ii)], [(0, 128, [.data (.sl (.int .i64)), .data (.int .i64)])], []⟩,
 fun x => keep_Src_Pick x.1 x.2.1 x.2.2⟩
noncomputable def cx_keep_Src_Pick : Cx := ⟨types, [], [fn_keep_Src_N], 12, []⟩
theorem ok_keep_Src_Pick : FunOk Tryz.prog fn_keep_Src_Pick :=
 FunOk.intro (C := cx_keep_Src_Pick) (p := .nil)
  Tryz.func26 rfl (by kernel_rfl) rfl rfl rfl rfl types_ok ⟨⟨ok_keep_Src_N, trivial⟩, trivial⟩ mx (fun x => by kernel_rfl)

noncomputable def keep_Src_Range (lo : Int) (hi : Int) (s : List Int) (s2 : Int) : Option (Int × List Int × Int) :=
 (keep_Src_N (wi64 ((wi64 (hi - lo)) + 1)) s s2).bind fun r =>
 some (wi64 (lo + r.1), r.2.1, r.2.2)

noncomputable def fn_keep_Src_Range : Fun :=
 ⟨54, 3, 1,
 ⟨[(0, .one (.ptr 0 0)), (1, ii), (2, ii)], [(0, 128, [.data (.sl (.int .i64)), .data (.int .i64)])], []⟩,
 ⟨[(0, ii)], [(0, 128, [.data (.sl (.int .i64)), .data (.int .i64)])], []⟩,
 fun x => keep_Src_Range x.1 x.2.1 x.2.2.1 x.2.2.2⟩
noncomputable def cx_keep_Src_Range : Cx := ⟨types, [], [fn_keep_Src_N], 15, []⟩
theorem ok_keep_Src_Range : FunOk Tryz.prog fn_keep_Src_Range :=
 FunOk.intro (C := cx_keep_Src_Range) (p := .nil)
  Tryz.func54 rfl (by kernel_rfl) rfl rfl rfl rfl types_ok ⟨⟨ok_keep_Src_N, trivial⟩, trivial⟩ mx (fun x => by kernel_rfl)

noncomputable def keep_name (first : List UInt8) (n : Int) : Option (List UInt8) :=
 gd (Nat.ble (first.length + (toBytes [wu8 (wi64 (97 + (Int.tmod n 26)))]).length) 9223372036854775807) <|
 some (first ++ (toBytes [wu8 (wi64 (97 + (Int.tmod n 26)))]))

noncomputable def fn_keep_name : Fun :=
 ⟨55, 2, 1,
 ⟨[(0, ss), (1, ii)], [], []⟩,
 ⟨[(0, ss)], [], []⟩,
 fun x => keep_name x.1 x.2⟩
noncomputable def cx_keep_name : Cx := ⟨types, [], [], 13, []⟩
theorem ok_keep_name : FunOk Tryz.prog fn_keep_name :=
 FunOk.intro (C := cx_keep_name) (p := .nil)
  Tryz.func55 rfl (by kernel_rfl) rfl rfl rfl rfl types_ok ⟨trivial, trivial⟩ mx (fun x => by kernel_rfl)

noncomputable def keep_Src_Segment_L0 (r3 : Int × List Int × Int) (r6 : Int × List Int × Int) (vat : Int) (s4 : List Int) (s5 : Int) (x : List (Int × Int × Int)) : Option ((Int × List Int × Int × List (Int × Int × Int)) ⊕ (List Int × Int × List (Int × Int × Int))) :=
 Option.bind (α := Bool × List Int × Int × List (Int × Int × Int)) (
 bif decide ((x.length : Int) < 7) then (
 (keep_Src_N 3 s4 s5).bind fun r8 =>
 some (decide (0 < r8.1), r8.2.1, r8.2.2, x))
 else (
 some (false, s4, s5, x))) fun s6 =>
 bif s6.1 then (
 (keep_Src_Range 1 40 s6.2.1 s6.2.2.1).bind fun r9 =>
 bif decide (r3.1 ≤ wi64 (vat + r9.1)) then (
 some (.inr (r9.2.1, r9.2.2, s6.2.2.2)))
 else (
 (keep_Src_Range (-5) 60 r9.2.1 r9.2.2).bind fun r10 =>
 (keep_Src_Pick [1, 1, 10] r10.2.1 r10.2.2).bind fun r11 =>
 (keep_Src_N 3 r11.2.1 r11.2.2).bind fun r12 =>
 gd (fits (s6.2.2.2.length + 1) 24) <|
 some (.inl (wi64 (vat + r9.1), r12.2.1, r12.2.2, s6.2.2.2 ++ [(wi64 (vat + r9.1), (wi64 (r10.1 * r11.1), wi64 (r6.1 - (wi64 (r12.1 * 1000)))))]))))
 else (
 some (.inr (s6.2.1, s6.2.2.1, s6.2.2.2)))

noncomputable def keep_Src_Segment (k : Int) (vfrom : Int) (to : Int) (s : List Int) (s2 : Int) : Option (yT0 × List Int × Int) :=
 (keep_Src_N 4 s s2).bind fun r =>
 Option.bind (α := Int × Int) (
 bif decide (r.1 = 0) then (
 some (to, vfrom))
 else (
 some (vfrom, to))) fun s3 =>
 (keep_name [103] k).bind fun r2 =>
 (keep_Src_Pick [1, 2, 7, 20, 60, 200, 1000] r.2.1 r.2.2).bind fun r3 =>
 (keep_Src_Pick [0, 1, 5, 1000] r3.2.1 r3.2.2).bind fun r4 =>
 (keep_Src_Pick [0, 50, 1000, 100000] r4.2.1 r4.2.2).bind fun r5 =>
 (keep_Src_Pick [1000000, 6000000, 100000000] r5.2.1 r5.2.2).bind fun r6 =>
 (keep_Src_Range (-5) 30 r6.2.1 r6.2.2).bind fun r7 =>
 (iter (fun x2 => keep_Src_Segment_L0 r3 r6 x2.1 x2.2.1 x2.2.2.1 x2.2.2.2) (0, r7.2.1, r7.2.2, [(0, (r7.1, r6.1))])).bind fun s7 =>
 (keep_Src_Range (-5) 30 s7.1 s7.2.1).bind fun r13 =>
 gd (fits (s7.2.2.length + 1) 24) <|
 some ((r2, (s3.1, (s3.2, (r3.1, (r4.1, (r5.1, s7.2.2 ++ [(r3.1, (r13.1, r6.1))])))))), r13.2.1, r13.2.2)

noncomputable def fn_keep_Src_Segment : Fun :=
 ⟨56, 4, 1,
 ⟨[(0, .one (.ptr 0 0)), (1, ii), (2, ii), (3, ii)], [(0, 128, [.data (.sl (.int .i64)), .data (.int .i64)])], []⟩,
 ⟨[(0, .one (.data (.pair (.str) tT3)))], [(0, 128, [.data (.sl (.int .i64)), .data (.int .i64)])], []⟩,
 fun x => keep_Src_Segment x.1 x.2.1 x.2.2.1 x.2.2.2.1 x.2.2.2.2⟩
noncomputable def cx_keep_Src_Segment : Cx := ⟨types, [], [fn_keep_Src_N, fn_keep_name, fn_keep_Src_Pick, fn_keep_Src_Range], 90, []⟩
theorem ok_keep_Src_Segment : FunOk Tryz.prog fn_keep_Src_Segment :=
 FunOk.intro (C := cx_keep_Src_Segment) (p := (nn (mm (nn (.mk [.join [⟨.n, ⟨[(0, .one (.ptr 0 0)), (1, kk), (2, ii), (3, ii), (8, .one (.ptr 144 0))], [(0, 128, [.keep, .keep]), (144, 106, [.keep, .keep, .keep, .keep, .keep, .keep, .keep])], []⟩⟩]] none .nil .nil)) (nn (nn (nn (mm (nn (mm (.mk [] (some (⟨[(0, .one (.ptr 0 0)), (8, .one (.ptr 144 0)), (9, .one (.ptr 160 0)), (10, kk), (11, ii)], [(0, 128, [.data (.sl (.int .i64)), .data (.int .i64)]), (144, 106, [.keep, .keep, .keep, .keep, .keep, .keep, .keep]), (160, 106, [.keep, .keep, .keep, .keep, .keep, .keep, .own 2681])], [(2681, .arr 103 (.pair (.int .i64) (.pair (.int .i64) (.int .i64))))]⟩, [⟨.x 0, ⟨[(0, .one (.ptr 0 0)), (8, .one (.ptr 144 0)), (9, .one (.ptr 160 0)), (10, kk)], [(0, 128, [.data (.sl (.int .i64)), .data (.int .i64)]), (144, 106, [.keep, .keep, .keep, .keep, .keep, .keep, .keep]), (160, 106, [.keep, .keep, .keep, .keep, .keep, .keep, .own 2681])], [(2681, .arr 103 (.pair (.int .i64) (.pair (.int .i64) (.int .i64))))]⟩⟩])) (mm (mm (.mk [.join [⟨.n, ⟨[(0, .one (.ptr 0 0)), (8, .one (.ptr 144 0)), (9, .one (.ptr 160 0)), (10, kk), (11, kk), (51, bb)], [(0, 128, [.data (.sl (.int .i64)), .data (.int .i64)]), (144, 106, [.keep, .keep, .keep, .keep, .keep, .keep, .keep]), (160, 106, [.keep, .keep, .keep, .keep, .keep, .keep, .own 2681])], [(2681, .arr 103 (.pair (.int .i64) (.pair (.int .i64) (.int .i64))))]⟩⟩]] none .nil .nil) .nil) .nil) .nil) .nil)) .nil)))))))
  Tryz.func56 rfl (by kernel_rfl) rfl rfl rfl rfl types_ok ⟨⟨ok_keep_Src_N, ok_keep_name, ok_keep_Src_Pick, ok_keep_Src_Range, trivial⟩, trivial⟩ mx (fun x => by kernel_rfl)

noncomputable def keep_Src_Network_L0 (i : Int) (n : List (List UInt8)) : Option ((Int × List (List UInt8)) ⊕ (List (List UInt8))) :=
 bif decide (0 < i) then (
 (keep_name [110] (n.length : Int)).bind fun r4 =>
 gd (fits (n.length + 1) 16) <|
 some (.inl (wi64 (i - 1), n ++ [r4])))
 else (
 some (.inr n))

noncomputable def keep_Src_Network_L1 (s3 : List (List UInt8)) (i2 : Int) (s4 : List Int) (s5 : Int) (n2 : List (List UInt8)) (n3 : List yT0) : Option ((Int × List Int × Int × List (List UInt8) × List yT0) ⊕ (List Int × Int × List (List UInt8) × List yT0)) :=
 bif decide (i2 < wi64 ((s3.length : Int) - 1)) then (
 (keep_Src_Segment (n3.length : Int) i2 (wi64 (i2 + 1)) s4 s5).bind fun r5 =>
 gd (fits (n3.length + 1) 80) <|
 some (.inl (wi64 (i2 + 1), r5.2.1, r5.2.2, n2, n3 ++ [(r5.1.1, (r5.1.2.1, (r5.1.2.2.1, (r5.1.2.2.2.1, (r5.1.2.2.2.2.1, (r5.1.2.2.2.2.2.1, r5.1.2.2.2.2.2.2))))))])))
 else (
 some (.inr (s4, s5, n2, n3)))

noncomputable def keep_Src_Network_L2 (s3 : List (List UInt8)) (i3 : Int) (s7 : List Int) (s8 : Int) (n4 : List (List UInt8)) (n5 : List yT0) : Option ((Int × List Int × Int × List (List UInt8) × List yT0) ⊕ (List Int × Int × List (List UInt8) × List yT0)) :=
 bif decide (0 < i3) then (
 (keep_Src_N (wi64 ((s3.length : Int) - 1)) s7 s8).bind fun r7 =>
 (keep_Src_Range (wi64 (r7.1 + 1)) (wi64 ((s3.length : Int) - 1)) r7.2.1 r7.2.2).bind fun r8 =>
 (keep_Src_Segment (n5.length : Int) r7.1 r8.1 r8.2.1 r8.2.2).bind fun r9 =>
 gd (fits (n5.length + 1) 80) <|
 some (.inl (wi64 (i3 - 1), r9.2.1, r9.2.2, n4, n5 ++ [(r9.1.1, (r9.1.2.1, (r9.1.2.2.1, (r9.1.2.2.2.1, (r9.1.2.2.2.2.1, (r9.1.2.2.2.2.2.1, r9.1.2.2.2.2.2.2))))))])))
 else (
 some (.inr (s7, s8, n4, n5)))

noncomputable def keep_Src_Network_L3 (s3 : List (List UInt8)) (i4 : Int) (s10 : List Int) (s11 : Int) (n6 : List (List UInt8)) (n7 : List yT0) (n8 : List (List UInt8 × Int × Int)) (n9 : List (List UInt8 × Int × Int × Int × Int)) : Option ((Int × List Int × Int × List (List UInt8) × (List yT0) × (List (List UInt8 × Int × Int)) × List (List UInt8 × Int × Int × Int × Int)) ⊕ (List Int × Int × List (List UInt8) × (List yT0) × (List (List UInt8 × Int × Int)) × List (List UInt8 × Int × Int × Int × Int))) :=
 bif decide (i4 ≤ wi64 ((s3.length : Int) - 1)) then (
 Option.bind (α := Bool × List Int × Int × List (List UInt8) × (List yT0) × (List (List UInt8 × Int × Int)) × List (List UInt8 × Int × Int × Int × Int)) (
 bif decide (i4 = 0) then (
 some (true, s10, s11, n6, n7, n8, n9))
 else (
 bif decide (i4 = wi64 ((s3.length : Int) - 1)) then (
 some (true, s10, s11, n6, n7, n8, n9))
 else (
 (keep_Src_N 2 s10 s11).bind fun r10 =>
 some (decide (r10.1 = 0), r10.2.1, r10.2.2, n6, n7, n8, n9)))) fun s12 =>
 Option.bind (α := List Int × Int × List (List UInt8) × (List yT0) × (List (List UInt8 × Int × Int)) × List (List UInt8 × Int × Int × Int × Int)) (
 bif s12.1 then (
 (keep_name [113] (s12.2.2.2.2.2.1.length : Int)).bind fun r11 =>
 (keep_Src_Pick [300000, 1000000, 0, 5000000] s12.2.1 s12.2.2.1).bind fun r12 =>
 gd (fits (s12.2.2.2.2.2.1.length + 1) 32) <|
 some (r12.2.1, r12.2.2, s12.2.2.2.1, s12.2.2.2.2.1, s12.2.2.2.2.2.1 ++ [(r11, (i4, r12.1))], s12.2.2.2.2.2.2))
 else (
 some (s12.2.1, s12.2.2.1, s12.2.2.2.1, s12.2.2.2.2.1, s12.2.2.2.2.2.1, s12.2.2.2.2.2.2))) fun s13 =>
 Option.bind (α := Bool × List Int × Int × List (List UInt8) × (List yT0) × (List (List UInt8 × Int × Int)) × List (List UInt8 × Int × Int × Int × Int)) (
 bif decide (i4 < wi64 ((s3.length : Int) - 1)) then (
 (keep_Src_N 3 s13.1 s13.2.1).bind fun r13 =>
 some (decide (r13.1 = 0), r13.2.1, r13.2.2, s13.2.2.1, s13.2.2.2.1, s13.2.2.2.2.1, s13.2.2.2.2.2))
 else (
 some (false, s13.1, s13.2.1, s13.2.2.1, s13.2.2.2.1, s13.2.2.2.2.1, s13.2.2.2.2.2))) fun s14 =>
 Option.bind (α := List Int × Int × List (List UInt8) × (List yT0) × (List (List UInt8 × Int × Int)) × List (List UInt8 × Int × Int × Int × Int)) (
 bif s14.1 then (
 (keep_name [115] (s14.2.2.2.2.2.2.length : Int)).bind fun r14 =>
 (keep_Src_Pick [500000, 2000000, 0] s14.2.1 s14.2.2.1).bind fun r15 =>
 (keep_Src_Pick [0, 200, 100000] r15.2.1 r15.2.2).bind fun r16 =>
 (keep_Src_Pick [0, 100000, 400000] r16.2.1 r16.2.2).bind fun r17 =>
 gd (fits (s14.2.2.2.2.2.2.length + 1) 48) <|
 some (r17.2.1, r17.2.2, s14.2.2.2.1, s14.2.2.2.2.1, s14.2.2.2.2.2.1, s14.2.2.2.2.2.2 ++ [(r14, (i4, (r15.1, (r16.1, r17.1))))]))
 else (
 some (s14.2.1, s14.2.2.1, s14.2.2.2.1, s14.2.2.2.2.1, s14.2.2.2.2.2.1, s14.2.2.2.2.2.2))) fun s15 =>
 some (.inl (wi64 (i4 + 1), s15.1, s15.2.1, s15.2.2.1, s15.2.2.2.1, s15.2.2.2.2.1, s15.2.2.2.2.2)))
 else (
 some (.inr (s10, s11, n6, n7, n8, n9)))

noncomputable def keep_Src_Network (s : List Int) (s2 : Int) : Option ((List (List UInt8) × List yT0 × List (List UInt8 × Int × Int) × List (List UInt8 × Int × Int × Int × Int) × Int × Int) × List Int × Int) :=
 (keep_Src_Pick [(-100000), 0, 50000] s s2).bind fun r =>
 (keep_Src_Pick [0, 1, 5, 100] r.2.1 r.2.2).bind fun r2 =>
 (keep_Src_Range 2 6 r2.2.1 r2.2.2).bind fun r3 =>
 (iter (fun x => keep_Src_Network_L0 x.1 x.2) (r3.1, [])).bind fun s3 =>
 (iter (fun x2 => keep_Src_Network_L1 s3 x2.1 x2.2.1 x2.2.2.1 x2.2.2.2.1 x2.2.2.2.2) (0, r3.2.1, r3.2.2, s3, [])).bind fun s6 =>
 (keep_Src_N 4 s6.1 s6.2.1).bind fun r6 =>
 (iter (fun x3 => keep_Src_Network_L2 s3 x3.1 x3.2.1 x3.2.2.1 x3.2.2.2.1 x3.2.2.2.2) (r6.1, r6.2.1, r6.2.2, s6.2.2.1, s6.2.2.2)).bind fun s9 =>
 (iter (fun x4 => keep_Src_Network_L3 s3 x4.1 x4.2.1 x4.2.2.1 x4.2.2.2.1 x4.2.2.2.2.1 x4.2.2.2.2.2.1 x4.2.2.2.2.2.2) (0, s9.1, s9.2.1, s9.2.2.1, s9.2.2.2, [], [])).bind fun s16 =>
 some ((s16.2.2.1, (s16.2.2.2.1, (s16.2.2.2.2.1, (s16.2.2.2.2.2, (r.1, r2.1))))), s16.1, s16.2.1)

noncomputable def fn_keep_Src_Network : Fun :=
 ⟨17, 1, 1,
 ⟨[(0, .one (.ptr 0 0))], [(0, 128, [.data (.sl (.int .i64)), .data (.int .i64)])], []⟩,
 ⟨[(0, .one (.data (.pair (.sl (.str)) tT0)))], [(0, 128, [.data (.sl (.int .i64)), .data (.int .i64)])], []⟩,
 fun x => keep_Src_Network x.1 x.2⟩
noncomputable def cx_keep_Src_Network : Cx := ⟨types, [], [fn_keep_Src_Pick, fn_keep_Src_Range, fn_keep_name, fn_keep_Src_Segment, fn_keep_Src_N], 139, []⟩
theorem ok_keep_Src_Network : FunOk Tryz.prog fn_keep_Src_Network :=
 FunOk.intro (C := cx_keep_Src_Network) (p := (nn (nn (mm (nn (mm (.mk [] (some (⟨[(0, .one (.ptr 0 0)), (2, .one (.ptr 48 0)), (3, .one (.ptr 64 0)), (4, ii)], [(0, 128, [.keep, .keep]), (48, 50, [.keep, .keep, .keep, .keep, .keep, .keep]), (64, 50, [.own 1049, .keep, .keep, .keep, .keep, .keep])], [(1049, .arr 9 (.str))]⟩, [⟨.x 0, ⟨[(0, .one (.ptr 0 0)), (2, .one (.ptr 48 0)), (3, .one (.ptr 64 0))], [(0, 128, [.keep, .keep]), (48, 50, [.keep, .keep, .keep, .keep, .keep, .keep]), (64, 50, [.own 1049, .keep, .keep, .keep, .keep, .keep])], [(1049, .arr 9 (.str))]⟩⟩])) .nil .nil) .nil)) (nn (mm (nn (mm (.mk [] (some (⟨[(0, .one (.ptr 0 0)), (2, .one (.ptr 48 0)), (3, .one (.ptr 64 0)), (5, kk), (6, ii)], [(0, 128, [.data (.sl (.int .i64)), .data (.int .i64)]), (48, 50, [.keep, .keep, .keep, .keep, .keep, .keep]), (64, 50, [.own 1049, .own 1065, .keep, .keep, .keep, .keep])], [(1049, .arr 9 (.str)), (1065, .arr 106 (.pair (.str) tT3))]⟩, [⟨.x 2, ⟨[(0, .one (.ptr 0 0)), (2, .one (.ptr 48 0)), (3, .one (.ptr 64 0)), (5, kk)], [(0, 128, [.data (.sl (.int .i64)), .data (.int .i64)]), (48, 50, [.keep, .keep, .keep, .keep, .keep, .keep]), (64, 50, [.own 1049, .own 1065, .keep, .keep, .keep, .keep])], [(1049, .arr 9 (.str)), (1065, .arr 106 (.pair (.str) tT3))]⟩⟩])) .nil .nil) .nil)) (mm (nn (mm (.mk [] (some (⟨[(0, .one (.ptr 0 0)), (2, .one (.ptr 48 0)), (3, .one (.ptr 64 0)), (5, kk), (7, ii)], [(0, 128, [.data (.sl (.int .i64)), .data (.int .i64)]), (48, 50, [.keep, .keep, .keep, .keep, .keep, .keep]), (64, 50, [.own 1049, .own 1065, .keep, .keep, .keep, .keep])], [(1049, .arr 9 (.str)), (1065, .arr 106 (.pair (.str) tT3))]⟩, [⟨.x 4, ⟨[(0, .one (.ptr 0 0)), (2, .one (.ptr 48 0)), (3, .one (.ptr 64 0)), (5, kk)], [(0, 128, [.data (.sl (.int .i64)), .data (.int .i64)]), (48, 50, [.keep, .keep, .keep, .keep, .keep, .keep]), (64, 50, [.own 1049, .own 1065, .keep, .keep, .keep, .keep])], [(1049, .arr 9 (.str)), (1065, .arr 106 (.pair (.str) tT3))]⟩⟩])) .nil .nil) .nil)) (mm (nn (mm (.mk [] (some (⟨[(0, .one (.ptr 0 0)), (2, .one (.ptr 48 0)), (3, .one (.ptr 64 0)), (5, kk), (9, ii)], [(0, 128, [.data (.sl (.int .i64)), .data (.int .i64)]), (48, 50, [.keep, .keep, .keep, .keep, .keep, .keep]), (64, 50, [.own 1049, .own 1065, .own 1081, .own 1097, .keep, .keep])], [(1049, .arr 9 (.str)), (1065, .arr 106 (.pair (.str) tT3)), (1081, .arr 108 (.pair (.str) (.pair (.int .i64) (.int .i64)))), (1097, .arr 132 tT2)]⟩, [⟨.x 6, ⟨[(2, .one (.ptr 48 0)), (3, .one (.ptr 64 0))], [(48, 50, [.keep, .keep, .keep, .keep, .keep, .keep]), (64, 50, [.own 1049, .own 1065, .own 1081, .own 1097, .keep, .keep]), (0, 128, [.data (.sl (.int .i64)), .data (.int .i64)])], [(1049, .arr 9 (.str)), (1065, .arr 106 (.pair (.str) tT3)), (1081, .arr 108 (.pair (.str) (.pair (.int .i64) (.int .i64)))), (1097, .arr 132 tT2)]⟩⟩])) (nn (mm (mm (mm (mm (.mk [.join [⟨.n, ⟨[(0, .one (.ptr 0 0)), (2, .one (.ptr 48 0)), (3, .one (.ptr 64 0)), (5, kk), (9, kk), (95, bb)], [(0, 128, [.data (.sl (.int .i64)), .data (.int .i64)]), (48, 50, [.keep, .keep, .keep, .keep, .keep, .keep]), (64, 50, [.own 1049, .own 1065, .own 1081, .own 1097, .keep, .keep])], [(1049, .arr 9 (.str)), (1065, .arr 106 (.pair (.str) tT3)), (1081, .arr 108 (.pair (.str) (.pair (.int .i64) (.int .i64)))), (1097, .arr 132 tT2)]⟩⟩]] none .nil .nil) (.mk [.join [⟨.n, ⟨[(0, .one (.ptr 0 0)), (2, .one (.ptr 48 0)), (3, .one (.ptr 64 0)), (5, kk), (9, kk)], [(0, 128, [.data (.sl (.int .i64)), .data (.int .i64)]), (48, 50, [.keep, .keep, .keep, .keep, .keep, .keep]), (64, 50, [.own 1049, .own 1065, .own 1081, .own 1097, .keep, .keep])], [(1049, .arr 9 (.str)), (1065, .arr 106 (.pair (.str) tT3)), (1081, .arr 108 (.pair (.str) (.pair (.int .i64) (.int .i64)))), (1097, .arr 132 tT2)]⟩⟩]] none .nil .nil)) (mm (.mk [.join [⟨.n, ⟨[(0, .one (.ptr 0 0)), (2, .one (.ptr 48 0)), (3, .one (.ptr 64 0)), (5, kk), (9, kk), (117, bb)], [(0, 128, [.data (.sl (.int .i64)), .data (.int .i64)]), (48, 50, [.keep, .keep, .keep, .keep, .keep, .keep]), (64, 50, [.own 1049, .own 1065, .own 1081, .own 1097, .keep, .keep])], [(1049, .arr 9 (.str)), (1065, .arr 106 (.pair (.str) tT3)), (1081, .arr 108 (.pair (.str) (.pair (.int .i64) (.int .i64)))), (1097, .arr 132 tT2)]⟩⟩]] none .nil .nil) (.mk [.join [⟨.n, ⟨[(0, .one (.ptr 0 0)), (2, .one (.ptr 48 0)), (3, .one (.ptr 64 0)), (5, kk), (9, kk)], [(0, 128, [.data (.sl (.int .i64)), .data (.int .i64)]), (48, 50, [.keep, .keep, .keep, .keep, .keep, .keep]), (64, 50, [.own 1049, .own 1065, .own 1081, .own 1097, .keep, .keep])], [(1049, .arr 9 (.str)), (1065, .arr 106 (.pair (.str) tT3)), (1081, .arr 108 (.pair (.str) (.pair (.int .i64) (.int .i64)))), (1097, .arr 132 tT2)]⟩⟩]] none .nil .nil))) .nil) .nil)) .nil) .nil)) .nil))))))))
  Tryz.func17 rfl (by kernel_rfl) rfl rfl rfl rfl types_ok ⟨⟨ok_keep_Src_Pick, ok_keep_Src_Range, ok_keep_name, ok_keep_Src_Segment, ok_keep_Src_N, trivial⟩, trivial⟩ mx (fun x => by kernel_rfl)

noncomputable def keep_Src_Telegram_L0 (i : Int) (s3 : List Int) (s4 : Int) (t : List Int) : Option ((Int × List Int × Int × List Int) ⊕ (List Int × Int × List Int)) :=
 bif decide (0 < i) then (
 (keep_Src_Pick [0, (-1), 62, 63, (-63), (-62), 9007199254740992, (-9007199254740992), 126, 1000] s3 s4).bind fun r6 =>
 gd (fits (t.length + 1) 8) <|
 some (.inl (wi64 (i - 1), r6.2.1, r6.2.2, t ++ [r6.1])))
 else (
 some (.inr (s3, s4, t)))

noncomputable def keep_Src_Telegram (station : Int) (s : List Int) (s2 : Int) : Option ((Int × Int × Int × Int × Int × List Int) × List Int × Int) :=
 (keep_Src_N 3 s s2).bind fun r =>
 (keep_Src_N 6 r.2.1 r.2.2).bind fun r2 =>
 (keep_Src_Pick [0, 125, 63, 62, 1099511627776] r2.2.1 r2.2.2).bind fun r3 =>
 (keep_Src_N 64 r3.2.1 r3.2.2).bind fun r4 =>
 (keep_Src_N 4 r4.2.1 r4.2.2).bind fun r5 =>
 (iter (fun x => keep_Src_Telegram_L0 x.1 x.2.1 x.2.2.1 x.2.2.2) (r5.1, r5.2.1, r5.2.2, [])).bind fun s5 =>
 some ((station, (r.1, (r2.1, (r3.1, (r4.1, s5.2.2))))), s5.1, s5.2.1)

noncomputable def fn_keep_Src_Telegram : Fun :=
 ⟨41, 2, 1,
 ⟨[(0, .one (.ptr 0 0)), (1, ii)], [(0, 128, [.data (.sl (.int .i64)), .data (.int .i64)])], []⟩,
 ⟨[(0, .one (.data tT1))], [(0, 128, [.data (.sl (.int .i64)), .data (.int .i64)])], []⟩,
 fun x => keep_Src_Telegram x.1 x.2.1 x.2.2⟩
noncomputable def cx_keep_Src_Telegram : Cx := ⟨types, [], [fn_keep_Src_N, fn_keep_Src_Pick], 33, []⟩
theorem ok_keep_Src_Telegram : FunOk Tryz.prog fn_keep_Src_Telegram :=
 FunOk.intro (C := cx_keep_Src_Telegram) (p := (nn (nn (mm (nn (mm (.mk [] (some (⟨[(0, .one (.ptr 0 0)), (4, .one (.ptr 80 0)), (5, .one (.ptr 96 0)), (6, ii)], [(0, 128, [.data (.sl (.int .i64)), .data (.int .i64)]), (80, 97, [.keep, .keep, .keep, .keep, .keep, .keep]), (96, 97, [.keep, .keep, .keep, .keep, .keep, .own 1641])], [(1641, .arr 3 (.int .i64))]⟩, [⟨.x 0, ⟨[(4, .one (.ptr 80 0)), (5, .one (.ptr 96 0))], [(80, 97, [.keep, .keep, .keep, .keep, .keep, .keep]), (96, 97, [.keep, .keep, .keep, .keep, .keep, .own 1641]), (0, 128, [.data (.sl (.int .i64)), .data (.int .i64)])], [(1641, .arr 3 (.int .i64))]⟩⟩])) .nil .nil) .nil)) .nil))))
  Tryz.func41 rfl (by kernel_rfl) rfl rfl rfl rfl types_ok ⟨⟨ok_keep_Src_N, ok_keep_Src_Pick, trivial⟩, trivial⟩ mx (fun x => by kernel_rfl)

noncomputable def centre_Stored_1 (t : Int × Int × Int × Int × Int × List Int) (v : Int) : Option (Bool) :=
 some (decide (t.1 = v))

noncomputable def fn_centre_Stored_1 : Fun :=
 ⟨89, 2, 1,
 ⟨[(0, .one (.data tT1)), (1, .one (.sel (.int .i64)))], [], []⟩,
 ⟨[(0, bb)], [], []⟩,
 fun x => centre_Stored_1 x.1 x.2⟩
noncomputable def cx_centre_Stored_1 : Cx := ⟨types, [], [], 8, []⟩
theorem ok_centre_Stored_1 : FunOk Tryz.prog fn_centre_Stored_1 :=
 FunOk.intro (C := cx_centre_Stored_1) (p := .nil)
  Tryz.func89 rfl (by kernel_rfl) rfl rfl rfl rfl types_ok ⟨trivial, trivial⟩ mx (fun x => by kernel_rfl)

noncomputable def slices_IndexFunc_api_Telegram_api_Telegram_L0 (s : List (Int × Int × Int × Int × Int × List Int)) (f : (Int × Int × Int × Int × Int × List Int) × Unit → Option Bool) (v : Int) : Option (Int ⊕ (Unit ⊕ Int)) :=
 bif decide (v < (s.length : Int)) then (
 gd (inB v s.length) <|
 (f (s.getD v.toNat (0, (0, (0, (0, (0, []))))), ())).bind fun r =>
 bif r then (
 some (.inr (.inr v)))
 else (
 some (.inl (wi64 (v + 1)))))
 else (
 some (.inr (.inl ())))

noncomputable def slices_IndexFunc_api_Telegram_api_Telegram (s : List (Int × Int × Int × Int × Int × List Int)) (f : (Int × Int × Int × Int × Int × List Int) × Unit → Option Bool) : Option (Int) :=
 (iter (fun x => slices_IndexFunc_api_Telegram_api_Telegram_L0 s f x) 0).bind fun s2 =>
 s2.elim (fun s3 =>
 some (-1))
 (fun s4 =>
 some s4)

noncomputable def fn_slices_IndexFunc_api_Telegram_api_Telegram : Fun :=
 ⟨88, 2, 1,
 ⟨[(0, .one (.data (.sl tT1))), (1, .one (.fn [.pair (.int .i64) (.pair (.int .i64) (.pair (.int .i64) (.pair (.int .i64) (.pair (.int .i64) (.sl (.int .i64))))))] (.bool)))], [], []⟩,
 ⟨[(0, ii)], [], []⟩,
 fun x => slices_IndexFunc_api_Telegram_api_Telegram x.1 x.2⟩
noncomputable def cx_slices_IndexFunc_api_Telegram_api_Telegram : Cx := ⟨types, [], [], 19, []⟩
theorem ok_slices_IndexFunc_api_Telegram_api_Telegram : FunOk Tryz.prog fn_slices_IndexFunc_api_Telegram_api_Telegram :=
 FunOk.intro (C := cx_slices_IndexFunc_api_Telegram_api_Telegram) (p := (nn (mm (nn (mm (.mk [] (some (⟨[(0, kk), (1, kk), (7, kk), (8, ii)], [], []⟩, [⟨.x 0, ⟨[], [], []⟩⟩, ⟨.r, ⟨[(4, ii)], [], []⟩⟩])) .nil .nil) .nil)) .nil)))
  Tryz.func88 rfl (by kernel_rfl) rfl rfl rfl rfl types_ok ⟨trivial, trivial⟩ mx (fun x => by kernel_rfl)

noncomputable def centre_Stored (c : (List (Int × Int × Bool × Bool) × List Int × List Int × List Bool) × List (Int × Int × Int × Int × Int × List Int) × List (List UInt8 × Int × Int × Int × Int) × Int) (station : Int) : Option ((Int × Int × Int × Int × Int × List Int) × Bool) :=
 (slices_IndexFunc_api_Telegram_api_Telegram c.2.1 (fun h => (centre_Stored_1 h.1 station).bind fun y => some y)).bind fun r =>
 bif decide (r < 0) then (
 some ((0, (0, (0, (0, (0, []))))), false))
 else (
 gd (inB r c.2.1.length) <|
 (slices_Clone_int_d ((((((c.2.1.getD r.toNat (0, (0, (0, (0, (0, [])))))).2).2).2).2).2)).bind fun r2 =>
 some (((c.2.1.getD r.toNat (0, (0, (0, (0, (0, [])))))).1, (((c.2.1.getD r.toNat (0, (0, (0, (0, (0, [])))))).2).1, ((((c.2.1.getD r.toNat (0, (0, (0, (0, (0, [])))))).2).2).1, (((((c.2.1.getD r.toNat (0, (0, (0, (0, (0, [])))))).2).2).2).1, ((((((c.2.1.getD r.toNat (0, (0, (0, (0, (0, [])))))).2).2).2).2).1, r2))))), true))

noncomputable def fn_centre_Stored : Fun :=
 ⟨42, 2, 2,
 ⟨[(0, .one (.data (.pair (.pair (.sl tT4) (.pair (.sl (.int .i64)) (.pair (.sl (.int .i64)) (.sl (.bool))))) (.pair (.sl tT1) (.pair (.sl tT2) (.int .i64)))))), (1, ii)], [], []⟩,
 ⟨[(0, .one (.data tT1)), (1, bb)], [], []⟩,
 fun x => centre_Stored x.1 x.2⟩
noncomputable def cx_centre_Stored : Cx := ⟨types, [], [fn_slices_IndexFunc_api_Telegram_api_Telegram, fn_centre_Stored_1, fn_slices_Clone_int_d], 25, []⟩
theorem ok_centre_Stored : FunOk Tryz.prog fn_centre_Stored :=
 FunOk.intro (C := cx_centre_Stored) (p := (nn (mm (.mk [.fv [(3, .int .i64)]] none .nil .nil) .nil)))
  Tryz.func42 rfl (by kernel_rfl) rfl rfl rfl rfl types_ok ⟨⟨ok_slices_IndexFunc_api_Telegram_api_Telegram, ok_centre_Stored_1, ok_slices_Clone_int_d, trivial⟩, trivial⟩ mx (fun x => by kernel_rfl)

noncomputable def law41_CentreRepeats_L1 (r7 : (Int × Int × Int × Int × Int × List Int) × List Int × Int) (newest : Bool) (k : Int) (all2 : List (Int × Int × Int × Int × Int × List Int)) : Option ((Bool × Int × List (Int × Int × Int × Int × Int × List Int)) ⊕ (Bool × List (Int × Int × Int × Int × Int × List Int))) :=
 bif decide (k < (all2.length : Int)) then (
 gd (inB k all2.length) <|
 Option.bind (α := Bool × List (Int × Int × Int × Int × Int × List Int)) (
 bif newest then (
 bif !decide ((all2.getD k.toNat (0, (0, (0, (0, (0, [])))))).1 = r7.1.1) then (
 some (true, all2))
 else (
 bif decide (((all2.getD k.toNat (0, (0, (0, (0, (0, [])))))).2).1 < r7.1.2.1) then (
 some (true, all2))
 else (
 bif decide (((all2.getD k.toNat (0, (0, (0, (0, (0, [])))))).2).1 = r7.1.2.1) then (
 some (decide ((((all2.getD k.toNat (0, (0, (0, (0, (0, [])))))).2).2).1 < r7.1.2.2.1), all2))
 else (
 some (false, all2)))))
 else (
 some (false, all2))) fun s3 =>
 some (.inl (s3.1, wi64 (k + 1), s3.2)))
 else (
 some (.inr (newest, all2)))

noncomputable def law41_CentreRepeats_L0 (r4 : (List (List UInt8) × List yT0 × List (List UInt8 × Int × Int) × List (List UInt8 × Int × Int × Int × Int) × Int × Int) × List Int × Int) (i : Int) (s : List Int) (s2 : Int) (c : List (Int × Int × Bool × Bool)) (c2 : List Int) (c3 : List Int) (c4 : List Bool) (c5 : List (Int × Int × Int × Int × Int × List Int)) (c6 : List (List UInt8 × Int × Int × Int × Int)) (c7 : Int) (all : List (Int × Int × Int × Int × Int × List Int)) : Option ((Int × List Int × Int × (List (Int × Int × Bool × Bool)) × List Int × List Int × List Bool × (List (Int × Int × Int × Int × Int × List Int)) × (List (List UInt8 × Int × Int × Int × Int)) × Int × List (Int × Int × Int × Int × Int × List Int)) ⊕ (Unit ⊕ Bool)) :=
 bif decide (i < 15) then (
 (keep_Src_N 3 s s2).bind fun r6 =>
 (keep_Src_Telegram r6.1 r6.2.1 r6.2.2).bind fun r7 =>
 gd (fits (5 + r7.1.2.2.2.2.2.length) 8) <|
 (centre_Apply (r4.1.1, (r4.1.2.1, (r4.1.2.2.1, (r4.1.2.2.2.1, (r4.1.2.2.2.2.1, r4.1.2.2.2.2.2))))) ((c, (c2, (c3, c4))), (c5, (c6, c7))) (1, ([r7.1.1, r7.1.2.1, r7.1.2.2.1, r7.1.2.2.2.1, r7.1.2.2.2.2.1] ++ r7.1.2.2.2.2.2, ((0, (0, (0, (0, (0, ([], 0)))))), ([], (0, 0)))))).bind fun r8 =>
 (iter (fun x => law41_CentreRepeats_L1 r7 x.1 x.2.1 x.2.2) (true, 0, all)).bind fun s4 =>
 Option.bind (α := Bool × List (Int × Int × Int × Int × Int × List Int)) (
 bif !(s4.1 == decide (r8.2 = 0)) then (
 some (true, s4.2))
 else (
 bif !s4.1 then (
 bif !decide (r8.2 = 6) then (
 some (true, s4.2))
 else (
 (ref41_Same ((r8.1.1.1, (r8.1.1.2.1, (r8.1.1.2.2.1, r8.1.1.2.2.2))), (r8.1.2.1, (r8.1.2.2.1, r8.1.2.2.2))) ((c, (c2, (c3, c4))), (c5, (c6, c7)))).bind fun r9 =>
 some ((!r9), s4.2)))
 else (
 some (false, s4.2)))) fun s5 =>
 bif s5.1 then (
 some (.inr (.inr false)))
 else (
 Option.bind (α := (List (Int × Int × Int × Int × Int × List Int)) ⊕ Bool) (
 bif s4.1 then (
 (centre_Stored ((r8.1.1.1, (r8.1.1.2.1, (r8.1.1.2.2.1, r8.1.1.2.2.2))), (r8.1.2.1, (r8.1.2.2.1, r8.1.2.2.2))) r7.1.1).bind fun r10 =>
 Option.bind (α := Bool × List (Int × Int × Int × Int × Int × List Int)) (
 bif !r10.2 then (
 some (true, s5.2))
 else (
 (ref41_SameTelegram (r10.1.1, (r10.1.2.1, (r10.1.2.2.1, (r10.1.2.2.2.1, (r10.1.2.2.2.2.1, r10.1.2.2.2.2.2))))) (r7.1.1, (r7.1.2.1, (r7.1.2.2.1, (r7.1.2.2.2.1, (r7.1.2.2.2.2.1, r7.1.2.2.2.2.2)))))).bind fun r11 =>
 bif !r11 then (
 some (true, s5.2))
 else (
 some ((!decide (r8.1.2.2.2 = wi64 (c7 + 1))), s5.2)))) fun s6 =>
 bif s6.1 then (
 some (.inr false))
 else (
 gd (fits (s6.2.length + 1) 64) <|
 some (.inl (s6.2 ++ [(r7.1.1, (r7.1.2.1, (r7.1.2.2.1, (r7.1.2.2.2.1, (r7.1.2.2.2.2.1, r7.1.2.2.2.2.2)))))]))))
 else (
 some (.inl s5.2))) fun s7 =>
 s7.elim (fun s8 =>
 some (.inl (wi64 (i + 1), r7.2.1, r7.2.2, r8.1.1.1, r8.1.1.2.1, r8.1.1.2.2.1, r8.1.1.2.2.2, r8.1.2.1, r8.1.2.2.1, r8.1.2.2.2, s8)))
 (fun s9 =>
 some (.inr (.inr s9)))))
 else (
 some (.inr (.inl ())))

noncomputable def law41_CentreRepeats (l : List Int) : Option (Bool) :=
 (second_Few l).bind fun r =>
 bif !r then (
 (law41_awake).bind fun r2 =>
 some r2)
 else (
 (keep_New l).bind fun r3 =>
 (keep_Src_Network r3.1 r3.2).bind fun r4 =>
 (centre_New (r4.1.1, (r4.1.2.1, (r4.1.2.2.1, (r4.1.2.2.2.1, (r4.1.2.2.2.2.1, r4.1.2.2.2.2.2))))) 1).bind fun r5 =>
 bif !decide (r5.2 = 0) then (
 some false)
 else (
 (iter (fun x2 => law41_CentreRepeats_L0 r4 x2.1 x2.2.1 x2.2.2.1 x2.2.2.2.1 x2.2.2.2.2.1 x2.2.2.2.2.2.1 x2.2.2.2.2.2.2.1 x2.2.2.2.2.2.2.2.1 x2.2.2.2.2.2.2.2.2.1 x2.2.2.2.2.2.2.2.2.2.1 x2.2.2.2.2.2.2.2.2.2.2) (0, r4.2.1, r4.2.2, r5.1.1.1, r5.1.1.2.1, r5.1.1.2.2.1, r5.1.1.2.2.2, r5.1.2.1, r5.1.2.2.1, r5.1.2.2.2, [])).bind fun s10 =>
 s10.elim (fun s11 =>
 (law41_awake).bind fun r12 =>
 some r12)
 (fun s12 =>
 some s12)))

noncomputable def fn_law41_CentreRepeats : Fun :=
 ⟨7, 1, 1,
 ⟨[(0, .one (.data (.sl (.int .i64))))], [], []⟩,
 ⟨[(0, bb)], [], []⟩,
 fun x => law41_CentreRepeats x⟩
noncomputable def cx_law41_CentreRepeats : Cx := ⟨types, [51], [fn_second_Few, fn_law41_awake, fn_keep_New, fn_keep_Src_Network, fn_centre_New, fn_keep_Src_N, fn_keep_Src_Telegram, fn_centre_Apply, fn_ref41_Same, fn_centre_Stored, fn_ref41_SameTelegram], 150, []⟩
theorem ok_law41_CentreRepeats : FunOk Tryz.prog fn_law41_CentreRepeats :=
 FunOk.intro (C := cx_law41_CentreRepeats) (p := (nn (nn (nn (nn (nn (nn (nn (mm (nn (mm (.mk [] (some (⟨[(3, .one (.ptr 384 0)), (4, .one (.ptr 80 0)), (5, .one (.ptr 96 0)), (7, .one (.own 139)), (8, ii)], [(384, 128, [.data (.sl (.int .i64)), .data (.int .i64)]), (80, 50, [.keep, .keep, .keep, .keep, .keep, .keep]), (96, 61, [.data (.sl tT4), .data (.sl (.int .i64)), .data (.sl (.int .i64)), .data (.sl (.bool)), .data (.sl tT1), .data (.sl tT2), .data (.int .i64)])], [(139, .arr 97 tT1)]⟩, [⟨.x 0, ⟨[], [], []⟩⟩, ⟨.r, ⟨[(2, bb)], [], []⟩⟩])) (nn (mm (mm (nn (nn (mm (.mk [.fz [10]] none .nil .nil) (nn (mm (nn (mm (.mk [] (some (⟨[(3, .one (.ptr 384 0)), (4, .one (.ptr 80 0)), (5, .one (.ptr 96 0)), (7, .one (.own 139)), (8, kk), (9, .one (.ptr 160 0)), (11, .one (.ptr 192 0)), (12, kk), (13, bb), (14, ii)], [(384, 128, [.keep, .keep]), (80, 50, [.keep, .keep, .keep, .keep, .keep, .keep]), (96, 61, [.keep, .keep, .keep, .keep, .keep, .keep, .keep]), (160, 97, [.keep, .keep, .keep, .keep, .keep, .keep]), (192, 61, [.keep, .keep, .keep, .keep, .keep, .keep, .keep])], [(139, .arr 97 tT1)]⟩, [⟨.x 2, ⟨[(3, .one (.ptr 384 0)), (4, .one (.ptr 80 0)), (5, .one (.ptr 96 0)), (7, .one (.own 139)), (8, kk), (9, .one (.ptr 160 0)), (11, .one (.ptr 192 0)), (12, kk), (13, bb)], [(384, 128, [.keep, .keep]), (80, 50, [.keep, .keep, .keep, .keep, .keep, .keep]), (96, 61, [.keep, .keep, .keep, .keep, .keep, .keep, .keep]), (160, 97, [.keep, .keep, .keep, .keep, .keep, .keep]), (192, 61, [.keep, .keep, .keep, .keep, .keep, .keep, .keep])], [(139, .arr 97 tT1)]⟩⟩])) (nn (mm (mm (nn (.mk [.join [⟨.n, ⟨[(3, .one (.ptr 384 0)), (4, .one (.ptr 80 0)), (5, .one (.ptr 96 0)), (7, .one (.own 139)), (8, kk), (9, .one (.ptr 160 0)), (11, .one (.ptr 192 0)), (12, kk), (13, bb), (14, kk)], [(384, 128, [.keep, .keep]), (80, 50, [.keep, .keep, .keep, .keep, .keep, .keep]), (96, 61, [.keep, .keep, .keep, .keep, .keep, .keep, .keep]), (160, 97, [.keep, .keep, .keep, .keep, .keep, .keep]), (192, 61, [.keep, .keep, .keep, .keep, .keep, .keep, .keep])], [(139, .arr 97 tT1)]⟩⟩]] none .nil .nil)) .nil) .nil)) .nil) .nil)) (mm (mm (.mk [.join [⟨.n, ⟨[(3, .one (.ptr 384 0)), (4, .one (.ptr 80 0)), (5, .one (.ptr 96 0)), (7, .one (.own 139)), (8, kk), (9, .one (.ptr 160 0)), (11, .one (.ptr 192 0)), (13, kk), (119, bb)], [(384, 128, [.keep, .keep]), (80, 50, [.keep, .keep, .keep, .keep, .keep, .keep]), (96, 61, [.keep, .keep, .keep, .keep, .keep, .keep, .keep]), (160, 97, [.keep, .keep, .keep, .keep, .keep, .keep]), (192, 61, [.keep, .keep, .keep, .keep, .keep, .keep, .keep])], [(139, .arr 97 tT1)]⟩⟩]] none .nil .nil) .nil) (mm (nn (.mk [.join [⟨.n, ⟨[(3, .one (.ptr 384 0)), (4, .one (.ptr 80 0)), (5, .one (.ptr 96 0)), (7, .one (.own 139)), (8, kk), (11, .one (.ptr 192 0))], [(384, 128, [.keep, .keep]), (80, 50, [.keep, .keep, .keep, .keep, .keep, .keep]), (96, 61, [.keep, .keep, .keep, .keep, .keep, .keep, .keep]), (192, 61, [.keep, .keep, .keep, .keep, .keep, .keep, .keep])], [(139, .arr 97 tT1)]⟩⟩, ⟨.r, ⟨[(2, bb)], [], []⟩⟩]] none (nn (mm (mm (.mk [.join [⟨.n, ⟨[(3, .one (.ptr 384 0)), (4, .one (.ptr 80 0)), (5, .one (.ptr 96 0)), (7, .one (.own 139)), (8, kk), (9, .one (.ptr 160 0)), (11, .one (.ptr 192 0)), (143, bb)], [(384, 128, [.keep, .keep]), (80, 50, [.keep, .keep, .keep, .keep, .keep, .keep]), (96, 61, [.keep, .keep, .keep, .keep, .keep, .keep, .keep]), (160, 97, [.keep, .keep, .keep, .keep, .keep, .keep]), (192, 61, [.keep, .keep, .keep, .keep, .keep, .keep, .keep])], [(139, .arr 97 tT1)]⟩⟩]] none .nil .nil) .nil) .nil)) .nil)) .nil))))))) .nil) .nil)) .nil) .nil)) .nil)))))))))
  Tryz.func7 rfl (by kernel_rfl) rfl rfl rfl rfl types_ok ⟨⟨ok_second_Few, ok_law41_awake, ok_keep_New, ok_keep_Src_Network, ok_centre_New, ok_keep_Src_N, ok_keep_Src_Telegram, ok_centre_Apply, ok_ref41_Same, ok_centre_Stored, ok_ref41_SameTelegram, trivial⟩, trivial⟩ mx (fun x => by kernel_rfl)


end Go.Proofs.YtnkfkceghbkkkaaGreat
