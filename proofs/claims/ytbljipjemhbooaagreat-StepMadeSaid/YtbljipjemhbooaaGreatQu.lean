/- Functions, evaluated. No condition. -/
import Derived.Test.YtbljipjemhbooaaGreatProg
import Derived.Test.YtbljipjemhbooaaGreatSqY
namespace Go.Proofs.YtbljipjemhbooaaGreat
open Go Go.Sq
abbrev yT0 : Type := List UInt8 × Int × Int × Int × Int × Int × List (Int × Int × Int)
abbrev tT0 : Ty := .pair (.sl (.str)) (.pair (.sl (.pair (.str) (.pair (.int .i64) (.pair (.int .i64) (.pair (.int .i64) (.pair (.int .i64) (.pair (.int .i64) (.sl (.pair (.int .i64) (.pair (.int .i64) (.int .i64))))))))))) (.pair (.sl (.pair (.str) (.pair (.int .i64) (.int .i64)))) (.pair (.sl (.pair (.str) (.pair (.int .i64) (.pair (.int .i64) (.pair (.int .i64) (.int .i64)))))) (.pair (.int .i64) (.int .i64)))))
abbrev tT1 : Ty := .pair (.int .i64) (.pair (.int .i64) (.pair (.bool) (.bool)))
abbrev tT2 : Ty := .pair (.int .i64) (.pair (.int .i64) (.pair (.int .i64) (.pair (.int .i64) (.pair (.int .i64) (.pair (.sl (.pair (.int .i64) (.bool))) (.int .i64))))))
abbrev tT3 : Ty := .pair (.int .i64) (.pair (.int .i64) (.pair (.int .i64) (.pair (.int .i64) (.pair (.int .i64) (.sl (.pair (.int .i64) (.pair (.int .i64) (.int .i64))))))))
abbrev tT4 : Ty := .pair (.sl (.int .i64)) (.pair (.sl (.int .i64)) (.sl (.bool)))
def ti3 : TI := { t := 3, desc := .int .i64, size := 1, bytes := 8, zero := .int .i64 0, τ := .int .i64, eq := false }
theorem tk3 : ti3.ok Tryz.prog := ⟨Tryz.underlying3, by kernel_rfl, fun h => by cases h⟩
def ti4 : TI := { t := 4, desc := .bool, size := 1, bytes := 1, zero := .bool false, τ := .bool, eq := false }
theorem tk4 : ti4.ok Tryz.prog := ⟨Tryz.underlying4, by kernel_rfl, fun h => by cases h⟩
def ti5 : TI := { t := 5, desc := .int .u8, size := 1, bytes := 1, zero := .int .u8 0, τ := .int .u8, eq := false }
theorem tk5 : ti5.ok Tryz.prog := ⟨Tryz.underlying5, by kernel_rfl, fun h => by cases h⟩
def ti9 : TI := { t := 9, desc := .string, size := 1, bytes := 16, zero := .string ⟨#[]⟩, τ := .str, eq := false }
theorem tk9 : ti9.ok Tryz.prog := ⟨Tryz.underlying9, by kernel_rfl, fun h => by cases h⟩
def ti22 : TI := { t := 22, desc := .slice 3, size := 1, bytes := 24, zero := .slice none 0 0, τ := .sl (.int .i64), eq := false }
theorem tk22 : ti22.ok Tryz.prog := ⟨Tryz.underlying22, by kernel_rfl, fun h => by cases h⟩
def ti27 : TI := { t := 27, desc := .slice 9, size := 1, bytes := 24, zero := .slice none 0 0, τ := .sl (.str), eq := false }
theorem tk27 : ti27.ok Tryz.prog := ⟨Tryz.underlying27, by kernel_rfl, fun h => by cases h⟩
def ti28 : TI := { t := 28, desc := .slice 74, size := 1, bytes := 24, zero := .slice none 0 0, τ := .sl (.pair (.str) tT3), eq := false }
theorem tk28 : ti28.ok Tryz.prog := ⟨Tryz.underlying28, by kernel_rfl, fun h => by cases h⟩
def ti29 : TI := { t := 29, desc := .slice 76, size := 1, bytes := 24, zero := .slice none 0 0, τ := .sl (.pair (.str) (.pair (.int .i64) (.int .i64))), eq := false }
theorem tk29 : ti29.ok Tryz.prog := ⟨Tryz.underlying29, by kernel_rfl, fun h => by cases h⟩
def ti30 : TI := { t := 30, desc := .slice 85, size := 1, bytes := 24, zero := .slice none 0 0, τ := .sl (.pair (.str) (.pair (.int .i64) (.pair (.int .i64) (.pair (.int .i64) (.int .i64))))), eq := false }
theorem tk30 : ti30.ok Tryz.prog := ⟨Tryz.underlying30, by kernel_rfl, fun h => by cases h⟩
def ti32 : TI := { t := 32, desc := .struct #[{ name := "Nodes", type := 27, offset := 0, embedded := false, tag := "", pkgPath := "", byteOffset := 0 }, { name := "Segments", type := 28, offset := 1, embedded := false, tag := "", pkgPath := "", byteOffset := 24 }, { name := "Ports", type := 29, offset := 2, embedded := false, tag := "", pkgPath := "", byteOffset := 48 }, { name := "Stations", type := 30, offset := 3, embedded := false, tag := "", pkgPath := "", byteOffset := 72 }, { name := "Vapour", type := 3, offset := 4, embedded := false, tag := "", pkgPath := "", byteOffset := 96 }, { name := "Settle", type := 3, offset := 5, embedded := false, tag := "", pkgPath := "", byteOffset := 104 }], size := 6, bytes := 112, zero := .agg #[.slice none 0 0, .slice none 0 0, .slice none 0 0, .slice none 0 0, .int .i64 0, .int .i64 0], τ := .pair (.sl (.str)) (.pair (.sl (.pair (.str) tT3)) (.pair (.sl (.pair (.str) (.pair (.int .i64) (.int .i64)))) (.pair (.sl (.pair (.str) (.pair (.int .i64) (.pair (.int .i64) (.pair (.int .i64) (.int .i64)))))) (.pair (.int .i64) (.int .i64))))), eq := true }
theorem tk32 : ti32.ok Tryz.prog := ⟨Tryz.underlying32, by kernel_rfl, fun _ => ⟨Tryz.eqGuardType32, Tryz.stoodInHeld32⟩⟩
def ti34 : TI := { t := 34, desc := .slice 4, size := 1, bytes := 24, zero := .slice none 0 0, τ := .sl (.bool), eq := false }
theorem tk34 : ti34.ok Tryz.prog := ⟨Tryz.underlying34, by kernel_rfl, fun h => by cases h⟩
def ti36 : TI := { t := 36, desc := .struct #[{ name := "Rates", type := 22, offset := 0, embedded := false, tag := "", pkgPath := "", byteOffset := 0 }, { name := "Ports", type := 22, offset := 1, embedded := false, tag := "", pkgPath := "", byteOffset := 24 }, { name := "Pumps", type := 34, offset := 2, embedded := false, tag := "", pkgPath := "", byteOffset := 48 }], size := 3, bytes := 72, zero := .agg #[.slice none 0 0, .slice none 0 0, .slice none 0 0], τ := .pair (.sl (.int .i64)) (.pair (.sl (.int .i64)) (.sl (.bool))), eq := true }
theorem tk36 : ti36.ok Tryz.prog := ⟨Tryz.underlying36, by kernel_rfl, fun _ => ⟨Tryz.eqGuardType36, Tryz.stoodInHeld36⟩⟩
def ti38 : TI := { t := 38, desc := .slice 54, size := 1, bytes := 24, zero := .slice none 0 0, τ := .sl tT1, eq := false }
theorem tk38 : ti38.ok Tryz.prog := ⟨Tryz.underlying38, by kernel_rfl, fun h => by cases h⟩
def ti40 : TI := { t := 40, desc := .struct #[{ name := "Valves", type := 38, offset := 0, embedded := false, tag := "", pkgPath := "", byteOffset := 0 }, { name := "Plan", type := 36, offset := 1, embedded := false, tag := "", pkgPath := "", byteOffset := 24 }], size := 4, bytes := 96, zero := .agg #[.slice none 0 0, .slice none 0 0, .slice none 0 0, .slice none 0 0], τ := .pair (.sl tT1) tT4, eq := true }
theorem tk40 : ti40.ok Tryz.prog := ⟨Tryz.underlying40, by kernel_rfl, fun _ => ⟨Tryz.eqGuardType40, Tryz.stoodInHeld40⟩⟩
def ti43 : TI := { t := 43, desc := .slice 48, size := 1, bytes := 24, zero := .slice none 0 0, τ := .sl tT2, eq := false }
theorem tk43 : ti43.ok Tryz.prog := ⟨Tryz.underlying43, by kernel_rfl, fun h => by cases h⟩
def ti44 : TI := { t := 44, desc := .slice 78, size := 1, bytes := 24, zero := .slice none 0 0, τ := .sl (.pair (.int .i64) (.bool)), eq := false }
theorem tk44 : ti44.ok Tryz.prog := ⟨Tryz.underlying44, by kernel_rfl, fun h => by cases h⟩
def ti46 : TI := { t := 46, desc := .struct #[{ name := "In", type := 3, offset := 0, embedded := false, tag := "", pkgPath := "", byteOffset := 0 }, { name := "Out", type := 3, offset := 1, embedded := false, tag := "", pkgPath := "", byteOffset := 8 }, { name := "Hops", type := 44, offset := 2, embedded := false, tag := "", pkgPath := "", byteOffset := 16 }, { name := "Rate", type := 3, offset := 3, embedded := false, tag := "", pkgPath := "", byteOffset := 40 }], size := 4, bytes := 48, zero := .agg #[.int .i64 0, .int .i64 0, .slice none 0 0, .int .i64 0], τ := .pair (.int .i64) (.pair (.int .i64) (.pair (.sl (.pair (.int .i64) (.bool))) (.int .i64))), eq := true }
theorem tk46 : ti46.ok Tryz.prog := ⟨Tryz.underlying46, by kernel_rfl, fun _ => ⟨Tryz.eqGuardType46, Tryz.stoodInHeld46⟩⟩
def ti48 : TI := { t := 48, desc := .struct #[{ name := "Kind", type := 3, offset := 0, embedded := false, tag := "", pkgPath := "", byteOffset := 0 }, { name := "Index", type := 3, offset := 1, embedded := false, tag := "", pkgPath := "", byteOffset := 8 }, { name := "Value", type := 3, offset := 2, embedded := false, tag := "", pkgPath := "", byteOffset := 16 }, { name := "Path", type := 46, offset := 3, embedded := false, tag := "", pkgPath := "", byteOffset := 24 }], size := 7, bytes := 72, zero := .agg #[.int .i64 0, .int .i64 0, .int .i64 0, .int .i64 0, .int .i64 0, .slice none 0 0, .int .i64 0], τ := .pair (.int .i64) (.pair (.int .i64) (.pair (.int .i64) (.pair (.int .i64) (.pair (.int .i64) (.pair (.sl (.pair (.int .i64) (.bool))) (.int .i64)))))), eq := true }
theorem tk48 : ti48.ok Tryz.prog := ⟨Tryz.underlying48, by kernel_rfl, fun _ => ⟨Tryz.eqGuardType48, Tryz.stoodInHeld48⟩⟩
def ti54 : TI := { t := 54, desc := .struct #[{ name := "Travel", type := 3, offset := 0, embedded := false, tag := "", pkgPath := "", byteOffset := 0 }, { name := "Open", type := 3, offset := 1, embedded := false, tag := "", pkgPath := "", byteOffset := 8 }, { name := "Want", type := 4, offset := 2, embedded := false, tag := "", pkgPath := "", byteOffset := 16 }, { name := "Stuck", type := 4, offset := 3, embedded := false, tag := "", pkgPath := "", byteOffset := 17 }], size := 4, bytes := 24, zero := .agg #[.int .i64 0, .int .i64 0, .bool false, .bool false], τ := .pair (.int .i64) (.pair (.int .i64) (.pair (.bool) (.bool))), eq := true }
theorem tk54 : ti54.ok Tryz.prog := ⟨Tryz.underlying54, by kernel_rfl, fun _ => ⟨Tryz.eqGuardType54, Tryz.stoodInHeld54⟩⟩
def ti71 : TI := { t := 71, desc := .struct #[{ name := "At", type := 3, offset := 0, embedded := false, tag := "", pkgPath := "", byteOffset := 0 }, { name := "Height", type := 3, offset := 1, embedded := false, tag := "", pkgPath := "", byteOffset := 8 }, { name := "Limit", type := 3, offset := 2, embedded := false, tag := "", pkgPath := "", byteOffset := 16 }], size := 3, bytes := 24, zero := .agg #[.int .i64 0, .int .i64 0, .int .i64 0], τ := .pair (.int .i64) (.pair (.int .i64) (.int .i64)), eq := true }
theorem tk71 : ti71.ok Tryz.prog := ⟨Tryz.underlying71, by kernel_rfl, fun _ => ⟨Tryz.eqGuardType71, Tryz.stoodInHeld71⟩⟩
def ti72 : TI := { t := 72, desc := .slice 71, size := 1, bytes := 24, zero := .slice none 0 0, τ := .sl (.pair (.int .i64) (.pair (.int .i64) (.int .i64))), eq := false }
theorem tk72 : ti72.ok Tryz.prog := ⟨Tryz.underlying72, by kernel_rfl, fun h => by cases h⟩
def ti74 : TI := { t := 74, desc := .struct #[{ name := "Name", type := 9, offset := 0, embedded := false, tag := "", pkgPath := "", byteOffset := 0 }, { name := "From", type := 3, offset := 1, embedded := false, tag := "", pkgPath := "", byteOffset := 16 }, { name := "To", type := 3, offset := 2, embedded := false, tag := "", pkgPath := "", byteOffset := 24 }, { name := "Capacity", type := 3, offset := 3, embedded := false, tag := "", pkgPath := "", byteOffset := 32 }, { name := "Resist", type := 3, offset := 4, embedded := false, tag := "", pkgPath := "", byteOffset := 40 }, { name := "Wave", type := 3, offset := 5, embedded := false, tag := "", pkgPath := "", byteOffset := 48 }, { name := "Points", type := 72, offset := 6, embedded := false, tag := "", pkgPath := "", byteOffset := 56 }], size := 7, bytes := 80, zero := .agg #[.string ⟨#[]⟩, .int .i64 0, .int .i64 0, .int .i64 0, .int .i64 0, .int .i64 0, .slice none 0 0], τ := .pair (.str) tT3, eq := true }
theorem tk74 : ti74.ok Tryz.prog := ⟨Tryz.underlying74, by kernel_rfl, fun _ => ⟨Tryz.eqGuardType74, Tryz.stoodInHeld74⟩⟩
def ti76 : TI := { t := 76, desc := .struct #[{ name := "Name", type := 9, offset := 0, embedded := false, tag := "", pkgPath := "", byteOffset := 0 }, { name := "Node", type := 3, offset := 1, embedded := false, tag := "", pkgPath := "", byteOffset := 16 }, { name := "Pressure", type := 3, offset := 2, embedded := false, tag := "", pkgPath := "", byteOffset := 24 }], size := 3, bytes := 32, zero := .agg #[.string ⟨#[]⟩, .int .i64 0, .int .i64 0], τ := .pair (.str) (.pair (.int .i64) (.int .i64)), eq := true }
theorem tk76 : ti76.ok Tryz.prog := ⟨Tryz.underlying76, by kernel_rfl, fun _ => ⟨Tryz.eqGuardType76, Tryz.stoodInHeld76⟩⟩
def ti78 : TI := { t := 78, desc := .struct #[{ name := "Segment", type := 3, offset := 0, embedded := false, tag := "", pkgPath := "", byteOffset := 0 }, { name := "Back", type := 4, offset := 1, embedded := false, tag := "", pkgPath := "", byteOffset := 8 }], size := 2, bytes := 16, zero := .agg #[.int .i64 0, .bool false], τ := .pair (.int .i64) (.bool), eq := true }
theorem tk78 : ti78.ok Tryz.prog := ⟨Tryz.underlying78, by kernel_rfl, fun _ => ⟨Tryz.eqGuardType78, Tryz.stoodInHeld78⟩⟩
def ti80 : TI := { t := 80, desc := .struct #[{ name := "L", type := 22, offset := 0, embedded := false, tag := "", pkgPath := "", byteOffset := 0 }, { name := "At", type := 3, offset := 1, embedded := false, tag := "", pkgPath := "", byteOffset := 24 }], size := 2, bytes := 32, zero := .agg #[.slice none 0 0, .int .i64 0], τ := .pair (.sl (.int .i64)) (.int .i64), eq := true }
theorem tk80 : ti80.ok Tryz.prog := ⟨Tryz.underlying80, by kernel_rfl, fun _ => ⟨Tryz.eqGuardType80, Tryz.stoodInHeld80⟩⟩
def ti85 : TI := { t := 85, desc := .struct #[{ name := "Name", type := 9, offset := 0, embedded := false, tag := "", pkgPath := "", byteOffset := 0 }, { name := "Node", type := 3, offset := 1, embedded := false, tag := "", pkgPath := "", byteOffset := 16 }, { name := "Head", type := 3, offset := 2, embedded := false, tag := "", pkgPath := "", byteOffset := 24 }, { name := "Fall", type := 3, offset := 3, embedded := false, tag := "", pkgPath := "", byteOffset := 32 }, { name := "Suction", type := 3, offset := 4, embedded := false, tag := "", pkgPath := "", byteOffset := 40 }], size := 5, bytes := 48, zero := .agg #[.string ⟨#[]⟩, .int .i64 0, .int .i64 0, .int .i64 0, .int .i64 0], τ := .pair (.str) (.pair (.int .i64) (.pair (.int .i64) (.pair (.int .i64) (.int .i64)))), eq := true }
theorem tk85 : ti85.ok Tryz.prog := ⟨Tryz.underlying85, by kernel_rfl, fun _ => ⟨Tryz.eqGuardType85, Tryz.stoodInHeld85⟩⟩
def ti90 : TI := { t := 90, desc := .struct #[{ name := "Segments", type := 34, offset := 0, embedded := false, tag := "", pkgPath := "", byteOffset := 0 }, { name := "Ports", type := 34, offset := 1, embedded := false, tag := "", pkgPath := "", byteOffset := 24 }], size := 2, bytes := 48, zero := .agg #[.slice none 0 0, .slice none 0 0], τ := .pair (.sl (.bool)) (.sl (.bool)), eq := true }
theorem tk90 : ti90.ok Tryz.prog := ⟨Tryz.underlying90, by kernel_rfl, fun _ => ⟨Tryz.eqGuardType90, Tryz.stoodInHeld90⟩⟩
def ti94 : TI := { t := 94, desc := .slice 46, size := 1, bytes := 24, zero := .slice none 0 0, τ := .sl (.pair (.int .i64) (.pair (.int .i64) (.pair (.sl (.pair (.int .i64) (.bool))) (.int .i64)))), eq := false }
theorem tk94 : ti94.ok Tryz.prog := ⟨Tryz.underlying94, by kernel_rfl, fun h => by cases h⟩
def ti105 : TI := { t := 105, desc := .func #[32, 106, 48] #[55] false, size := 1, bytes := 8, zero := .nilFunc, τ := .unit, eq := false }
theorem tk105 : ti105.ok Tryz.prog := ⟨Tryz.underlying105, by kernel_rfl, fun h => by cases h⟩
def ti116 : TI := { t := 116, desc := .slice 5, size := 1, bytes := 24, zero := .slice none 0 0, τ := .sl (.int .u8), eq := false }
theorem tk116 : ti116.ok Tryz.prog := ⟨Tryz.underlying116, by kernel_rfl, fun h => by cases h⟩
def ti122 : TI := { t := 122, desc := .array 4 27, size := 4, bytes := 96, zero := .agg #[.slice none 0 0, .slice none 0 0, .slice none 0 0, .slice none 0 0], τ := .pair (.sl (.str)) (.pair (.sl (.str)) (.pair (.sl (.str)) (.sl (.str)))), eq := false }
theorem tk122 : ti122.ok Tryz.prog := ⟨Tryz.underlying122, by kernel_rfl, fun h => by cases h⟩
def ti126 : TI := { t := 126, desc := .int .u64, size := 1, bytes := 8, zero := .int .u64 0, τ := .int .u64, eq := false }
theorem tk126 : ti126.ok Tryz.prog := ⟨Tryz.underlying126, by kernel_rfl, fun h => by cases h⟩
def ti141 : TI := { t := 141, desc := .array 7 105, size := 7, bytes := 56, zero := .agg #[.nilFunc, .nilFunc, .nilFunc, .nilFunc, .nilFunc, .nilFunc, .nilFunc], τ := .unit, eq := false }
theorem tk141 : ti141.ok Tryz.prog := ⟨Tryz.underlying141, by kernel_rfl, fun h => by cases h⟩
def ti145 : TI := { t := 145, desc := .func #[3] #[4] false, size := 1, bytes := 8, zero := .nilFunc, τ := .clo 155 (.pair (.sl tT1) tT4), eq := false }
theorem tk145 : ti145.ok Tryz.prog := ⟨Tryz.underlying145, by kernel_rfl, fun h => by cases h⟩
def ti147 : TI := { t := 147, desc := .array 24 3, size := 24, bytes := 192, zero := .agg #[.int .i64 0, .int .i64 0, .int .i64 0, .int .i64 0, .int .i64 0, .int .i64 0, .int .i64 0, .int .i64 0, .int .i64 0, .int .i64 0, .int .i64 0, .int .i64 0, .int .i64 0, .int .i64 0, .int .i64 0, .int .i64 0, .int .i64 0, .int .i64 0, .int .i64 0, .int .i64 0, .int .i64 0, .int .i64 0, .int .i64 0, .int .i64 0], τ := .arr 24 (.int .i64), eq := true }
theorem tk147 : ti147.ok Tryz.prog := ⟨Tryz.underlying147, by kernel_rfl, fun _ => ⟨by kernel_rfl, by kernel_rfl⟩⟩
def ti149 : TI := { t := 149, desc := .struct #[{ name := "come", type := 147, offset := 0, embedded := false, tag := "", pkgPath := "batchline/flow", byteOffset := 0 }, { name := "leave", type := 147, offset := 24, embedded := false, tag := "", pkgPath := "batchline/flow", byteOffset := 192 }], size := 48, bytes := 384, zero := .agg #[.int .i64 0, .int .i64 0, .int .i64 0, .int .i64 0, .int .i64 0, .int .i64 0, .int .i64 0, .int .i64 0, .int .i64 0, .int .i64 0, .int .i64 0, .int .i64 0, .int .i64 0, .int .i64 0, .int .i64 0, .int .i64 0, .int .i64 0, .int .i64 0, .int .i64 0, .int .i64 0, .int .i64 0, .int .i64 0, .int .i64 0, .int .i64 0, .int .i64 0, .int .i64 0, .int .i64 0, .int .i64 0, .int .i64 0, .int .i64 0, .int .i64 0, .int .i64 0, .int .i64 0, .int .i64 0, .int .i64 0, .int .i64 0, .int .i64 0, .int .i64 0, .int .i64 0, .int .i64 0, .int .i64 0, .int .i64 0, .int .i64 0, .int .i64 0, .int .i64 0, .int .i64 0, .int .i64 0, .int .i64 0], τ := .pair (.arr 24 (.int .i64)) (.arr 24 (.int .i64)), eq := true }
theorem tk149 : ti149.ok Tryz.prog := ⟨Tryz.underlying149, by kernel_rfl, fun _ => ⟨Tryz.eqGuardType149, Tryz.stoodInHeld149⟩⟩
def ti166 : TI := { t := 166, desc := .int .u32, size := 1, bytes := 4, zero := .int .u32 0, τ := .int .u32, eq := false }
theorem tk166 : ti166.ok Tryz.prog := ⟨Tryz.underlying166, by kernel_rfl, fun h => by cases h⟩
def ti169 : TI := { t := 169, desc := .int .u64, size := 1, bytes := 8, zero := .int .u64 0, τ := .int .u64, eq := false }
theorem tk169 : ti169.ok Tryz.prog := ⟨Tryz.underlying169, by kernel_rfl, fun h => by cases h⟩
def types : List TI := [ti3, ti4, ti5, ti9, ti22, ti27, ti28, ti29, ti30, ti32, ti34, ti36, ti38, ti40, ti43, ti44, ti46, ti48, ti54, ti71, ti72, ti74, ti76, ti78, ti80, ti85, ti90, ti94, ti105, ti116, ti122, ti126, ti141, ti145, ti147, ti149, ti166, ti169]
theorem types_ok : Tys Tryz.prog types := ⟨tk3, tk4, tk5, tk9, tk22, tk27, tk28, tk29, tk30, tk32, tk34, tk36, tk38, tk40, tk43, tk44, tk46, tk48, tk54, tk71, tk72, tk74, tk76, tk78, tk80, tk85, tk90, tk94, tk105, tk116, tk122, tk126, tk141, tk145, tk147, tk149, tk166, tk169, trivial⟩
theorem mx : Tryz.prog.follows .mixedOrders = true := by kernel_rfl

abbrev kk : Sh := .one .keep
abbrev ii : Sh := .one (.data (.int .i64))
abbrev bb : Sh := .one (.data .bool)
abbrev ss : Sh := .one (.data .str)
abbrev nn (r : Plan) : Plan := .mk [] none .nil r
abbrev mm (l r : Plan) : Plan := .mk [] none l r
noncomputable def second_Few (l : List Int) : Option (Bool) :=
 some (decide ((l.length : Int) ≤ 400))

noncomputable def fn_second_Few : Fun :=
 ⟨8, 1, 1,
 ⟨[(0, .one (.data (.sl (.int .i64))))], [], []⟩,
 ⟨[(0, bb)], [], []⟩,
 fun x => second_Few x⟩
noncomputable def cx_second_Few : Cx := ⟨types, [], [], 6, []⟩
theorem ok_second_Few : FunOk Tryz.prog fn_second_Few :=
 FunOk.intro (C := cx_second_Few) (p := .nil)
  Tryz.func8 rfl (by kernel_rfl) rfl rfl rfl rfl types_ok ⟨trivial, trivial⟩ mx (fun x => by kernel_rfl)

noncomputable def slices_IndexFunc_api_Segment_api_Segment_L0 (s : List yT0) (f : yT0 × Unit → Option Bool) (v : Int) : Option (Int ⊕ (Unit ⊕ Int)) :=
 bif decide (v < (s.length : Int)) then (
 gd (inB v s.length) <|
 (f (s.getD v.toNat ([], (0, (0, (0, (0, (0, [])))))), ())).bind fun r =>
 bif r then (
 some (.inr (.inr v)))
 else (
 some (.inl (wi64 (v + 1)))))
 else (
 some (.inr (.inl ())))

noncomputable def slices_IndexFunc_api_Segment_api_Segment (s : List yT0) (f : yT0 × Unit → Option Bool) : Option (Int) :=
 (iter (fun x => slices_IndexFunc_api_Segment_api_Segment_L0 s f x) 0).bind fun s2 =>
 s2.elim (fun s3 =>
 some (-1))
 (fun s4 =>
 some s4)

noncomputable def fn_slices_IndexFunc_api_Segment_api_Segment : Fun :=
 ⟨151, 2, 1,
 ⟨[(0, .one (.data (.sl (.pair (.str) tT3)))), (1, .one (.fn [.pair (.str) tT3] (.bool)))], [], []⟩,
 ⟨[(0, ii)], [], []⟩,
 fun x => slices_IndexFunc_api_Segment_api_Segment x.1 x.2⟩
noncomputable def cx_slices_IndexFunc_api_Segment_api_Segment : Cx := ⟨types, [], [], 19, []⟩
theorem ok_slices_IndexFunc_api_Segment_api_Segment : FunOk Tryz.prog fn_slices_IndexFunc_api_Segment_api_Segment :=
 FunOk.intro (C := cx_slices_IndexFunc_api_Segment_api_Segment) (p := (nn (mm (nn (mm (.mk [] (some (⟨[(0, kk), (1, kk), (7, kk), (8, ii)], [], []⟩, [⟨.x 0, ⟨[], [], []⟩⟩, ⟨.r, ⟨[(4, ii)], [], []⟩⟩])) .nil .nil) .nil)) .nil)))
  Tryz.func151 rfl (by kernel_rfl) rfl rfl rfl rfl types_ok ⟨trivial, trivial⟩ mx (fun x => by kernel_rfl)

noncomputable def slices_ContainsFunc_api_Segment_api_Segment (s : List yT0) (f : yT0 × Unit → Option Bool) : Option (Bool) :=
 (slices_IndexFunc_api_Segment_api_Segment s f).bind fun r =>
 some (decide (0 ≤ r))

noncomputable def fn_slices_ContainsFunc_api_Segment_api_Segment : Fun :=
 ⟨119, 2, 1,
 ⟨[(0, .one (.data (.sl (.pair (.str) tT3)))), (1, .one (.fn [.pair (.str) tT3] (.bool)))], [], []⟩,
 ⟨[(0, bb)], [], []⟩,
 fun x => slices_ContainsFunc_api_Segment_api_Segment x.1 x.2⟩
noncomputable def cx_slices_ContainsFunc_api_Segment_api_Segment : Cx := ⟨types, [], [fn_slices_IndexFunc_api_Segment_api_Segment], 9, []⟩
theorem ok_slices_ContainsFunc_api_Segment_api_Segment : FunOk Tryz.prog fn_slices_ContainsFunc_api_Segment_api_Segment :=
 FunOk.intro (C := cx_slices_ContainsFunc_api_Segment_api_Segment) (p := .nil)
  Tryz.func119 rfl (by kernel_rfl) rfl rfl rfl rfl types_ok ⟨⟨ok_slices_IndexFunc_api_Segment_api_Segment, trivial⟩, trivial⟩ mx (fun x => by kernel_rfl)

noncomputable def network_limits_1 (s : List UInt8 × Int × Int × Int × Int × Int × List (Int × Int × Int)) : Option (Bool) :=
 bif decide ((s.2.2.2.2.2.2.length : Int) < 2) then (
 some true)
 else (
 some (decide (8 < (s.2.2.2.2.2.2.length : Int))))

noncomputable def fn_network_limits_1 : Fun :=
 ⟨120, 1, 1,
 ⟨[(0, .one (.data (.pair (.str) tT3)))], [], []⟩,
 ⟨[(0, bb)], [], []⟩,
 fun x => network_limits_1 x⟩
noncomputable def cx_network_limits_1 : Cx := ⟨types, [], [], 13, []⟩
theorem ok_network_limits_1 : FunOk Tryz.prog fn_network_limits_1 :=
 FunOk.intro (C := cx_network_limits_1) (p := .nil)
  Tryz.func120 rfl (by kernel_rfl) rfl rfl rfl rfl types_ok ⟨trivial, trivial⟩ mx (fun x => by kernel_rfl)

noncomputable def network_limits (n : List (List UInt8) × List yT0 × List (List UInt8 × Int × Int) × List (List UInt8 × Int × Int × Int × Int) × Int × Int) : Option (Bool) :=
 Option.bind (α := Bool) (
 bif decide ((n.1.length : Int) < 1) then (
 some true)
 else (
 bif decide (24 < (n.1.length : Int)) then (
 some true)
 else (
 bif decide (32 < (n.2.1.length : Int)) then (
 some true)
 else (
 bif decide (24 < (n.2.2.1.length : Int)) then (
 some true)
 else (
 some (decide (12 < (n.2.2.2.1.length : Int)))))))) fun s =>
 bif s then (
 some false)
 else (
 (slices_ContainsFunc_api_Segment_api_Segment n.2.1 (fun h => (network_limits_1 h.1).bind fun y => some y)).bind fun r =>
 some (!r))

noncomputable def fn_network_limits : Fun :=
 ⟨74, 1, 1,
 ⟨[(0, .one (.data tT0))], [], []⟩,
 ⟨[(0, bb)], [], []⟩,
 fun x => network_limits x⟩
noncomputable def cx_network_limits : Cx := ⟨types, [], [fn_slices_ContainsFunc_api_Segment_api_Segment, fn_network_limits_1], 35, []⟩
theorem ok_network_limits : FunOk Tryz.prog fn_network_limits :=
 FunOk.intro (C := cx_network_limits) (p := (nn (mm (mm (.mk [.join [⟨.n, ⟨[(1, .one (.ptr 32 0)), (30, bb)], [(32, 32, [.keep, .keep, .keep, .keep, .keep, .keep])], []⟩⟩]] none .nil .nil) .nil) .nil)))
  Tryz.func74 rfl (by kernel_rfl) rfl rfl rfl rfl types_ok ⟨⟨ok_slices_ContainsFunc_api_Segment_api_Segment, ok_network_limits_1, trivial⟩, trivial⟩ mx (fun x => by kernel_rfl)

noncomputable def network_names_L0 (n : List (List UInt8) × List yT0 × List (List UInt8 × Int × Int) × List (List UInt8 × Int × Int × Int × Int) × Int × Int) (v : Int) (out : List (List UInt8)) : Option ((Int × List (List UInt8)) ⊕ (List (List UInt8))) :=
 bif decide (v < (n.2.1.length : Int)) then (
 gd (inB v n.2.1.length) <|
 gd (fits (out.length + 1) 16) <|
 some (.inl (wi64 (v + 1), out ++ [(n.2.1.getD v.toNat ([], (0, (0, (0, (0, (0, []))))))).1])))
 else (
 some (.inr out))

noncomputable def network_names_L1 (n : List (List UInt8) × List yT0 × List (List UInt8 × Int × Int) × List (List UInt8 × Int × Int × Int × Int) × Int × Int) (v2 : Int) (out2 : List (List UInt8)) (out3 : List (List UInt8)) : Option ((Int × List (List UInt8) × List (List UInt8)) ⊕ (List (List UInt8) × List (List UInt8))) :=
 bif decide (v2 < (n.2.2.1.length : Int)) then (
 gd (inB v2 n.2.2.1.length) <|
 gd (fits (out3.length + 1) 16) <|
 some (.inl (wi64 (v2 + 1), out2, out3 ++ [(n.2.2.1.getD v2.toNat ([], (0, 0))).1])))
 else (
 some (.inr (out2, out3)))

noncomputable def network_names_L2 (n : List (List UInt8) × List yT0 × List (List UInt8 × Int × Int) × List (List UInt8 × Int × Int × Int × Int) × Int × Int) (v3 : Int) (out4 : List (List UInt8)) (out5 : List (List UInt8)) (out6 : List (List UInt8)) : Option ((Int × List (List UInt8) × List (List UInt8) × List (List UInt8)) ⊕ (List (List UInt8) × List (List UInt8) × List (List UInt8))) :=
 bif decide (v3 < (n.2.2.2.1.length : Int)) then (
 gd (inB v3 n.2.2.2.1.length) <|
 gd (fits (out6.length + 1) 16) <|
 some (.inl (wi64 (v3 + 1), out4, out5, out6 ++ [(n.2.2.2.1.getD v3.toNat ([], (0, (0, (0, 0))))).1])))
 else (
 some (.inr (out4, out5, out6)))

noncomputable def network_names (n : List (List UInt8) × List yT0 × List (List UInt8 × Int × Int) × List (List UInt8 × Int × Int × Int × Int) × Int × Int) : Option (List (List UInt8) × List (List UInt8) × List (List UInt8) × List (List UInt8)) :=
 (iter (fun x => network_names_L0 n x.1 x.2) (0, [])).bind fun s =>
 (iter (fun x2 => network_names_L1 n x2.1 x2.2.1 x2.2.2) (0, s, [])).bind fun s2 =>
 (iter (fun x3 => network_names_L2 n x3.1 x3.2.1 x3.2.2.1 x3.2.2.2) (0, s2.1, s2.2, [])).bind fun s3 =>
 some (n.1, (s3.1, (s3.2.1, s3.2.2)))

noncomputable def fn_network_names : Fun :=
 ⟨75, 1, 1,
 ⟨[(0, .one (.data tT0))], [], []⟩,
 ⟨[(0, .one (.data (.pair (.sl (.str)) (.pair (.sl (.str)) (.pair (.sl (.str)) (.sl (.str)))))))], [], []⟩,
 fun x => network_names x⟩
noncomputable def cx_network_names : Cx := ⟨types, [], [], 59, []⟩
theorem ok_network_names : FunOk Tryz.prog fn_network_names :=
 FunOk.intro (C := cx_network_names) (p := (nn (nn (nn (mm (nn (mm (.mk [] (some (⟨[(1, .one (.ptr 32 0)), (2, .one (.ptr 48 0)), (3, .one (.ptr 64 0)), (14, kk), (15, kk), (16, ii)], [(32, 32, [.keep, .keep, .keep, .keep, .keep, .keep]), (48, 122, [.keep, .keep, .keep, .keep]), (64, 122, [.keep, .own 1065, .keep, .keep])], [(1065, .arr 9 (.str))]⟩, [⟨.x 0, ⟨[(1, .one (.ptr 32 0)), (2, .one (.ptr 48 0)), (3, .one (.ptr 64 0))], [(32, 32, [.keep, .keep, .keep, .keep, .keep, .keep]), (48, 122, [.keep, .keep, .keep, .keep]), (64, 122, [.keep, .own 1065, .keep, .keep])], [(1065, .arr 9 (.str))]⟩⟩])) .nil .nil) .nil)) (mm (nn (mm (.mk [] (some (⟨[(1, .one (.ptr 32 0)), (2, .one (.ptr 48 0)), (3, .one (.ptr 64 0)), (29, kk), (30, kk), (31, ii)], [(32, 32, [.keep, .keep, .keep, .keep, .keep, .keep]), (48, 122, [.keep, .keep, .keep, .keep]), (64, 122, [.keep, .own 1065, .own 1081, .keep])], [(1065, .arr 9 (.str)), (1081, .arr 9 (.str))]⟩, [⟨.x 2, ⟨[(1, .one (.ptr 32 0)), (2, .one (.ptr 48 0)), (3, .one (.ptr 64 0))], [(32, 32, [.keep, .keep, .keep, .keep, .keep, .keep]), (48, 122, [.keep, .keep, .keep, .keep]), (64, 122, [.keep, .own 1065, .own 1081, .keep])], [(1065, .arr 9 (.str)), (1081, .arr 9 (.str))]⟩⟩])) .nil .nil) .nil)) (mm (nn (mm (.mk [] (some (⟨[(2, .one (.ptr 48 0)), (3, .one (.ptr 64 0)), (44, kk), (45, kk), (46, ii)], [(48, 122, [.keep, .keep, .keep, .keep]), (64, 122, [.keep, .own 1065, .own 1081, .own 1097])], [(1065, .arr 9 (.str)), (1081, .arr 9 (.str)), (1097, .arr 9 (.str))]⟩, [⟨.x 4, ⟨[(2, .one (.ptr 48 0)), (3, .one (.ptr 64 0))], [(48, 122, [.keep, .keep, .keep, .keep]), (64, 122, [.keep, .own 1065, .own 1081, .own 1097])], [(1065, .arr 9 (.str)), (1081, .arr 9 (.str)), (1097, .arr 9 (.str))]⟩⟩])) .nil .nil) .nil)) .nil)))))))
  Tryz.func75 rfl (by kernel_rfl) rfl rfl rfl rfl types_ok ⟨trivial, trivial⟩ mx (fun x => by kernel_rfl)

noncomputable def slices_IndexFunc_string_string_L0 (s : List (List UInt8)) (f : List UInt8 × Unit → Option Bool) (v : Int) : Option (Int ⊕ (Unit ⊕ Int)) :=
 bif decide (v < (s.length : Int)) then (
 gd (inB v s.length) <|
 (f (s.getD v.toNat [], ())).bind fun r =>
 bif r then (
 some (.inr (.inr v)))
 else (
 some (.inl (wi64 (v + 1)))))
 else (
 some (.inr (.inl ())))

noncomputable def slices_IndexFunc_string_string (s : List (List UInt8)) (f : List UInt8 × Unit → Option Bool) : Option (Int) :=
 (iter (fun x => slices_IndexFunc_string_string_L0 s f x) 0).bind fun s2 =>
 s2.elim (fun s3 =>
 some (-1))
 (fun s4 =>
 some s4)

noncomputable def fn_slices_IndexFunc_string_string : Fun :=
 ⟨121, 2, 1,
 ⟨[(0, .one (.data (.sl (.str)))), (1, .one (.fn [.str] (.bool)))], [], []⟩,
 ⟨[(0, ii)], [], []⟩,
 fun x => slices_IndexFunc_string_string x.1 x.2⟩
noncomputable def cx_slices_IndexFunc_string_string : Cx := ⟨types, [], [], 19, []⟩
theorem ok_slices_IndexFunc_string_string : FunOk Tryz.prog fn_slices_IndexFunc_string_string :=
 FunOk.intro (C := cx_slices_IndexFunc_string_string) (p := (nn (mm (nn (mm (.mk [] (some (⟨[(0, kk), (1, kk), (7, kk), (8, ii)], [], []⟩, [⟨.x 0, ⟨[], [], []⟩⟩, ⟨.r, ⟨[(4, ii)], [], []⟩⟩])) .nil .nil) .nil)) .nil)))
  Tryz.func121 rfl (by kernel_rfl) rfl rfl rfl rfl types_ok ⟨trivial, trivial⟩ mx (fun x => by kernel_rfl)

noncomputable def slices_ContainsFunc_string_string (s : List (List UInt8)) (f : List UInt8 × Unit → Option Bool) : Option (Bool) :=
 (slices_IndexFunc_string_string s f).bind fun r =>
 some (decide (0 ≤ r))

noncomputable def fn_slices_ContainsFunc_string_string : Fun :=
 ⟨76, 2, 1,
 ⟨[(0, .one (.data (.sl (.str)))), (1, .one (.fn [.str] (.bool)))], [], []⟩,
 ⟨[(0, bb)], [], []⟩,
 fun x => slices_ContainsFunc_string_string x.1 x.2⟩
noncomputable def cx_slices_ContainsFunc_string_string : Cx := ⟨types, [], [fn_slices_IndexFunc_string_string], 9, []⟩
theorem ok_slices_ContainsFunc_string_string : FunOk Tryz.prog fn_slices_ContainsFunc_string_string :=
 FunOk.intro (C := cx_slices_ContainsFunc_string_string) (p := .nil)
  Tryz.func76 rfl (by kernel_rfl) rfl rfl rfl rfl types_ok ⟨⟨ok_slices_IndexFunc_string_string, trivial⟩, trivial⟩ mx (fun x => by kernel_rfl)

noncomputable def lines_place (c : Int) : Option (Int) :=
 Option.bind (α := Unit ⊕ Unit ⊕ Int) (
 Option.bind (α := Bool) (
 bif decide (97 ≤ c) then (
 some (decide (c ≤ 122)))
 else (
 some false)) fun s =>
 bif s then (
 some (.inr (.inr 1)))
 else (
 Option.bind (α := Bool) (
 bif decide (48 ≤ c) then (
 some (decide (c ≤ 57)))
 else (
 some false)) fun s2 =>
 bif s2 then (
 some (.inl ()))
 else (
 bif decide (c = 45) then (
 some (.inl ()))
 else (
 some (.inr (.inl ())))))) fun s3 =>
 s3.elim (fun s4 =>
 some 2)
 (fun s5 =>
 s5.elim (fun s6 =>
 some 0)
 (fun s7 =>
 some s7))

noncomputable def fn_lines_place : Fun :=
 ⟨122, 1, 1,
 ⟨[(0, .one (.data (.int .u8)))], [], []⟩,
 ⟨[(0, ii)], [], []⟩,
 fun x => lines_place x⟩
noncomputable def cx_lines_place : Cx := ⟨types, [], [], 20, []⟩
theorem ok_lines_place : FunOk Tryz.prog fn_lines_place :=
 FunOk.intro (C := cx_lines_place) (p := (nn (mm (mm (mm (.mk [.join [⟨.n, ⟨[], [], []⟩⟩, ⟨.x 0, ⟨[], [], []⟩⟩, ⟨.r, ⟨[(2, ii)], [], []⟩⟩]] none (mm (mm (mm (mm (mm (mm (.mk [.join [⟨.n, ⟨[(0, kk), (3, bb)], [], []⟩⟩]] none .nil .nil) .nil) (mm (mm (.mk [.join [⟨.n, ⟨[(0, kk), (10, bb)], [], []⟩⟩]] none .nil .nil) .nil) .nil)) .nil) .nil) .nil) .nil) .nil) .nil) .nil) .nil)))
  Tryz.func122 rfl (by kernel_rfl) rfl rfl rfl rfl types_ok ⟨trivial, trivial⟩ mx (fun x => by kernel_rfl)

noncomputable def lines_Name_L0 (s : List UInt8) (v : Int) : Option (Int ⊕ (Unit ⊕ Bool)) :=
 bif decide (v < (s.length : Int)) then (
 gd (inB v s.length) <|
 (lines_place (Int.ofNat (s.getD v.toNat 0).toNat)).bind fun r2 =>
 bif decide (r2 = 0) then (
 some (.inr (.inr false)))
 else (
 some (.inl (wi64 (v + 1)))))
 else (
 some (.inr (.inl ())))

noncomputable def lines_Name (s : List UInt8) : Option (Bool) :=
 Option.bind (α := Bool) (
 bif decide ((s.length : Int) < 1) then (
 some true)
 else (
 bif decide (12 < (s.length : Int)) then (
 some true)
 else (
 gd (inB 0 s.length) <|
 (lines_place (Int.ofNat (s.getD 0 0).toNat)).bind fun r =>
 some (!decide (r = 1))))) fun s2 =>
 bif s2 then (
 some false)
 else (
 (iter (fun x => lines_Name_L0 s x) 0).bind fun s3 =>
 s3.elim (fun s4 =>
 some true)
 (fun s5 =>
 some s5))

noncomputable def fn_lines_Name : Fun :=
 ⟨78, 1, 1,
 ⟨[(0, ss)], [], []⟩,
 ⟨[(0, bb)], [], []⟩,
 fun x => lines_Name x⟩
noncomputable def cx_lines_Name : Cx := ⟨types, [], [fn_lines_place], 29, []⟩
theorem ok_lines_Name : FunOk Tryz.prog fn_lines_Name :=
 FunOk.intro (C := cx_lines_Name) (p := (nn (mm (mm (.mk [.join [⟨.n, ⟨[(0, kk), (17, bb)], [], []⟩⟩]] none .nil .nil) .nil) (mm (nn (mm (.mk [] (some (⟨[(0, kk), (19, kk), (20, ii)], [], []⟩, [⟨.x 0, ⟨[], [], []⟩⟩, ⟨.r, ⟨[(2, bb)], [], []⟩⟩])) .nil .nil) .nil)) .nil))))
  Tryz.func78 rfl (by kernel_rfl) rfl rfl rfl rfl types_ok ⟨⟨ok_lines_place, trivial⟩, trivial⟩ mx (fun x => by kernel_rfl)

noncomputable def network_Check_1 (s : List UInt8) : Option (Bool) :=
 (lines_Name s).bind fun r =>
 some (!r)

noncomputable def fn_network_Check_1 : Fun :=
 ⟨77, 1, 1,
 ⟨[(0, ss)], [], []⟩,
 ⟨[(0, bb)], [], []⟩,
 fun x => network_Check_1 x⟩
noncomputable def cx_network_Check_1 : Cx := ⟨types, [], [fn_lines_Name], 6, []⟩
theorem ok_network_Check_1 : FunOk Tryz.prog fn_network_Check_1 :=
 FunOk.intro (C := cx_network_Check_1) (p := .nil)
  Tryz.func77 rfl (by kernel_rfl) rfl rfl rfl rfl types_ok ⟨⟨ok_lines_Name, trivial⟩, trivial⟩ mx (fun x => by kernel_rfl)

noncomputable def slices_Index_string_string_L0 (s : List (List UInt8)) (v : List UInt8) (v2 : Int) : Option (Int ⊕ (Unit ⊕ Int)) :=
 bif decide (v2 < (s.length : Int)) then (
 gd (inB v2 s.length) <|
 bif decide (v = s.getD v2.toNat []) then (
 some (.inr (.inr v2)))
 else (
 some (.inl (wi64 (v2 + 1)))))
 else (
 some (.inr (.inl ())))

noncomputable def slices_Index_string_string (s : List (List UInt8)) (v : List UInt8) : Option (Int) :=
 (iter (fun x => slices_Index_string_string_L0 s v x) 0).bind fun s2 =>
 s2.elim (fun s3 =>
 some (-1))
 (fun s4 =>
 some s4)

noncomputable def fn_slices_Index_string_string : Fun :=
 ⟨123, 2, 1,
 ⟨[(0, .one (.data (.sl (.str)))), (1, ss)], [], []⟩,
 ⟨[(0, ii)], [], []⟩,
 fun x => slices_Index_string_string x.1 x.2⟩
noncomputable def cx_slices_Index_string_string : Cx := ⟨types, [], [], 19, []⟩
theorem ok_slices_Index_string_string : FunOk Tryz.prog fn_slices_Index_string_string :=
 FunOk.intro (C := cx_slices_Index_string_string) (p := (nn (mm (nn (mm (.mk [] (some (⟨[(0, kk), (1, kk), (7, kk), (8, ii)], [], []⟩, [⟨.x 0, ⟨[], [], []⟩⟩, ⟨.r, ⟨[(4, ii)], [], []⟩⟩])) .nil .nil) .nil)) .nil)))
  Tryz.func123 rfl (by kernel_rfl) rfl rfl rfl rfl types_ok ⟨trivial, trivial⟩ mx (fun x => by kernel_rfl)

noncomputable def network_twice_1 (x : List UInt8 × Int × Int × Int × Int) (v : List UInt8 × Int × Int × Int × Int) : Option (Bool) :=
 some (decide (x.2.1 = v.2.1))

noncomputable def fn_network_twice_1 : Fun :=
 ⟨125, 2, 1,
 ⟨[(0, .one (.data (.pair (.str) (.pair (.int .i64) (.pair (.int .i64) (.pair (.int .i64) (.int .i64))))))), (1, .one (.sel (.pair (.str) (.pair (.int .i64) (.pair (.int .i64) (.pair (.int .i64) (.int .i64)))))))], [], []⟩,
 ⟨[(0, bb)], [], []⟩,
 fun x => network_twice_1 x.1 x.2⟩
noncomputable def cx_network_twice_1 : Cx := ⟨types, [], [], 9, []⟩
theorem ok_network_twice_1 : FunOk Tryz.prog fn_network_twice_1 :=
 FunOk.intro (C := cx_network_twice_1) (p := .nil)
  Tryz.func125 rfl (by kernel_rfl) rfl rfl rfl rfl types_ok ⟨trivial, trivial⟩ mx (fun x => by kernel_rfl)

noncomputable def slices_IndexFunc_api_Station_api_Station_L0 (s : List (List UInt8 × Int × Int × Int × Int)) (f : (List UInt8 × Int × Int × Int × Int) × Unit → Option Bool) (v : Int) : Option (Int ⊕ (Unit ⊕ Int)) :=
 bif decide (v < (s.length : Int)) then (
 gd (inB v s.length) <|
 (f (s.getD v.toNat ([], (0, (0, (0, 0)))), ())).bind fun r =>
 bif r then (
 some (.inr (.inr v)))
 else (
 some (.inl (wi64 (v + 1)))))
 else (
 some (.inr (.inl ())))

noncomputable def slices_IndexFunc_api_Station_api_Station (s : List (List UInt8 × Int × Int × Int × Int)) (f : (List UInt8 × Int × Int × Int × Int) × Unit → Option Bool) : Option (Int) :=
 (iter (fun x => slices_IndexFunc_api_Station_api_Station_L0 s f x) 0).bind fun s2 =>
 s2.elim (fun s3 =>
 some (-1))
 (fun s4 =>
 some s4)

noncomputable def fn_slices_IndexFunc_api_Station_api_Station : Fun :=
 ⟨124, 2, 1,
 ⟨[(0, .one (.data (.sl (.pair (.str) (.pair (.int .i64) (.pair (.int .i64) (.pair (.int .i64) (.int .i64)))))))), (1, .one (.fn [.pair (.str) (.pair (.int .i64) (.pair (.int .i64) (.pair (.int .i64) (.int .i64))))] (.bool)))], [], []⟩,
 ⟨[(0, ii)], [], []⟩,
 fun x => slices_IndexFunc_api_Station_api_Station x.1 x.2⟩
noncomputable def cx_slices_IndexFunc_api_Station_api_Station : Cx := ⟨types, [], [], 19, []⟩
theorem ok_slices_IndexFunc_api_Station_api_Station : FunOk Tryz.prog fn_slices_IndexFunc_api_Station_api_Station :=
 FunOk.intro (C := cx_slices_IndexFunc_api_Station_api_Station) (p := (nn (mm (nn (mm (.mk [] (some (⟨[(0, kk), (1, kk), (7, kk), (8, ii)], [], []⟩, [⟨.x 0, ⟨[], [], []⟩⟩, ⟨.r, ⟨[(4, ii)], [], []⟩⟩])) .nil .nil) .nil)) .nil)))
  Tryz.func124 rfl (by kernel_rfl) rfl rfl rfl rfl types_ok ⟨trivial, trivial⟩ mx (fun x => by kernel_rfl)

noncomputable def network_twice_L1 (r : List (List UInt8) × List (List UInt8) × List (List UInt8) × List (List UInt8)) (v : Int) (v2 : Int) : Option (Int ⊕ (Unit ⊕ Bool)) :=
 bif decide (v2 < (([r.1, r.2.1, r.2.2.1, r.2.2.2].getD v.toNat []).length : Int)) then (
 gd (inB v2 ([r.1, r.2.1, r.2.2.1, r.2.2.2].getD v.toNat []).length) <|
 (slices_Index_string_string ([r.1, r.2.1, r.2.2.1, r.2.2.2].getD v.toNat []) (([r.1, r.2.1, r.2.2.1, r.2.2.2].getD v.toNat []).getD v2.toNat [])).bind fun r2 =>
 bif decide (r2 < v2) then (
 some (.inr (.inr true)))
 else (
 some (.inl (wi64 (v2 + 1)))))
 else (
 some (.inr (.inl ())))

noncomputable def network_twice_L0 (r : List (List UInt8) × List (List UInt8) × List (List UInt8) × List (List UInt8)) (v : Int) : Option (Int ⊕ (Unit ⊕ Bool)) :=
 bif decide (v < 4) then (
 gd (inB v 4) <|
 (iter (fun x => network_twice_L1 r v x) 0).bind fun s =>
 s.elim (fun s2 =>
 some (.inl (wi64 (v + 1))))
 (fun s3 =>
 some (.inr (.inr s3))))
 else (
 some (.inr (.inl ())))

noncomputable def network_twice_L2 (n : List (List UInt8) × List yT0 × List (List UInt8 × Int × Int) × List (List UInt8 × Int × Int × Int × Int) × Int × Int) (v3 : Int) : Option (Int ⊕ (Unit ⊕ Bool)) :=
 bif decide (v3 < (n.2.2.2.1.length : Int)) then (
 gd (inB v3 n.2.2.2.1.length) <|
 (slices_IndexFunc_api_Station_api_Station n.2.2.2.1 (fun h => (network_twice_1 h.1 ((n.2.2.2.1.getD v3.toNat ([], (0, (0, (0, 0))))).1, (((n.2.2.2.1.getD v3.toNat ([], (0, (0, (0, 0))))).2).1, ((((n.2.2.2.1.getD v3.toNat ([], (0, (0, (0, 0))))).2).2).1, (((((n.2.2.2.1.getD v3.toNat ([], (0, (0, (0, 0))))).2).2).2).1, ((((n.2.2.2.1.getD v3.toNat ([], (0, (0, (0, 0))))).2).2).2).2))))).bind fun y => some y)).bind fun r3 =>
 bif decide (r3 < v3) then (
 some (.inr (.inr true)))
 else (
 some (.inl (wi64 (v3 + 1)))))
 else (
 some (.inr (.inl ())))

noncomputable def network_twice (n : List (List UInt8) × List yT0 × List (List UInt8 × Int × Int) × List (List UInt8 × Int × Int × Int × Int) × Int × Int) : Option (Bool) :=
 (network_names (n.1, (n.2.1, (n.2.2.1, (n.2.2.2.1, (n.2.2.2.2.1, n.2.2.2.2.2)))))).bind fun r =>
 (iter (fun x2 => network_twice_L0 r x2) 0).bind fun s4 =>
 s4.elim (fun s5 =>
 (iter (fun x3 => network_twice_L2 n x3) 0).bind fun s7 =>
 s7.elim (fun s8 =>
 some false)
 (fun s9 =>
 some s9))
 (fun s6 =>
 some s6)

noncomputable def fn_network_twice : Fun :=
 ⟨79, 1, 1,
 ⟨[(0, .one (.data tT0))], [], []⟩,
 ⟨[(0, bb)], [], []⟩,
 fun x => network_twice x⟩
noncomputable def cx_network_twice : Cx := ⟨types, [], [fn_network_names, fn_slices_Index_string_string, fn_slices_IndexFunc_api_Station_api_Station, fn_network_twice_1], 43, []⟩
theorem ok_network_twice : FunOk Tryz.prog fn_network_twice :=
 FunOk.intro (C := cx_network_twice) (p := (nn (mm (nn (mm (.mk [] (some (⟨[(1, .one (.ptr 32 0)), (10, kk), (11, ii)], [(32, 32, [.keep, .keep, .keep, .keep, .keep, .keep])], []⟩, [⟨.x 0, ⟨[(1, .one (.ptr 32 0))], [(32, 32, [.keep, .keep, .keep, .keep, .keep, .keep])], []⟩⟩, ⟨.r, ⟨[(2, bb)], [], []⟩⟩])) (nn (nn (mm (mm (nn (nn (mm (.mk [] (some (⟨[(1, .one (.ptr 32 0)), (4, kk), (10, kk), (11, kk), (14, kk), (15, kk), (16, ii)], [(32, 32, [.keep, .keep, .keep, .keep, .keep, .keep])], []⟩, [⟨.x 2, ⟨[(1, .one (.ptr 32 0)), (10, kk), (11, kk)], [(32, 32, [.keep, .keep, .keep, .keep, .keep, .keep])], []⟩⟩, ⟨.r, ⟨[(2, bb)], [], []⟩⟩])) .nil .nil) .nil))) .nil) .nil))) .nil) .nil)) (mm (nn (mm (.mk [] (some (⟨[(1, .one (.ptr 32 0)), (29, kk), (30, kk), (31, ii)], [(32, 32, [.keep, .keep, .keep, .keep, .keep, .keep])], []⟩, [⟨.x 4, ⟨[], [], []⟩⟩, ⟨.r, ⟨[(2, bb)], [], []⟩⟩])) (nn (nn (mm (mm (nn (mm (.mk [.fv [(8, .pair (.str) (.pair (.int .i64) (.pair (.int .i64) (.pair (.int .i64) (.int .i64)))))]] none .nil .nil) .nil)) .nil) .nil))) .nil) .nil)) .nil))))
  Tryz.func79 rfl (by kernel_rfl) rfl rfl rfl rfl types_ok ⟨⟨ok_network_names, ok_slices_Index_string_string, ok_slices_IndexFunc_api_Station_api_Station, ok_network_twice_1, trivial⟩, trivial⟩ mx (fun x => by kernel_rfl)

noncomputable def network_known_1 (k : Int) (v : List (List UInt8) × List yT0 × List (List UInt8 × Int × Int) × List (List UInt8 × Int × Int × Int × Int) × Int × Int) : Option (Bool) :=
 bif decide (k < 0) then (
 some true)
 else (
 some (decide ((v.1.length : Int) ≤ k)))

noncomputable def fn_network_known_1 : Fun :=
 ⟨126, 2, 1,
 ⟨[(0, ii), (1, .one (.sel tT0))], [], []⟩,
 ⟨[(0, bb)], [], []⟩,
 fun x => network_known_1 x.1 x.2⟩
noncomputable def cx_network_known_1 : Cx := ⟨types, [], [], 13, []⟩
theorem ok_network_known_1 : FunOk Tryz.prog fn_network_known_1 :=
 FunOk.intro (C := cx_network_known_1) (p := .nil)
  Tryz.func126 rfl (by kernel_rfl) rfl rfl rfl rfl types_ok ⟨trivial, trivial⟩ mx (fun x => by kernel_rfl)

noncomputable def slices_IndexFunc_int_int_L0 (s : List Int) (f : Int × Unit → Option Bool) (v : Int) : Option (Int ⊕ (Unit ⊕ Int)) :=
 bif decide (v < (s.length : Int)) then (
 gd (inB v s.length) <|
 (f (s.getD v.toNat 0, ())).bind fun r =>
 bif r then (
 some (.inr (.inr v)))
 else (
 some (.inl (wi64 (v + 1)))))
 else (
 some (.inr (.inl ())))

noncomputable def slices_IndexFunc_int_int (s : List Int) (f : Int × Unit → Option Bool) : Option (Int) :=
 (iter (fun x => slices_IndexFunc_int_int_L0 s f x) 0).bind fun s2 =>
 s2.elim (fun s3 =>
 some (-1))
 (fun s4 =>
 some s4)

noncomputable def fn_slices_IndexFunc_int_int : Fun :=
 ⟨147, 2, 1,
 ⟨[(0, .one (.data (.sl (.int .i64)))), (1, .one (.fn [.int .i64] (.bool)))], [], []⟩,
 ⟨[(0, ii)], [], []⟩,
 fun x => slices_IndexFunc_int_int x.1 x.2⟩
noncomputable def cx_slices_IndexFunc_int_int : Cx := ⟨types, [], [], 19, []⟩
theorem ok_slices_IndexFunc_int_int : FunOk Tryz.prog fn_slices_IndexFunc_int_int :=
 FunOk.intro (C := cx_slices_IndexFunc_int_int) (p := (nn (mm (nn (mm (.mk [] (some (⟨[(0, kk), (1, kk), (7, kk), (8, ii)], [], []⟩, [⟨.x 0, ⟨[], [], []⟩⟩, ⟨.r, ⟨[(4, ii)], [], []⟩⟩])) .nil .nil) .nil)) .nil)))
  Tryz.func147 rfl (by kernel_rfl) rfl rfl rfl rfl types_ok ⟨trivial, trivial⟩ mx (fun x => by kernel_rfl)

noncomputable def slices_ContainsFunc_int_int (s : List Int) (f : Int × Unit → Option Bool) : Option (Bool) :=
 (slices_IndexFunc_int_int s f).bind fun r =>
 some (decide (0 ≤ r))

noncomputable def fn_slices_ContainsFunc_int_int : Fun :=
 ⟨107, 2, 1,
 ⟨[(0, .one (.data (.sl (.int .i64)))), (1, .one (.fn [.int .i64] (.bool)))], [], []⟩,
 ⟨[(0, bb)], [], []⟩,
 fun x => slices_ContainsFunc_int_int x.1 x.2⟩
noncomputable def cx_slices_ContainsFunc_int_int : Cx := ⟨types, [], [fn_slices_IndexFunc_int_int], 9, []⟩
theorem ok_slices_ContainsFunc_int_int : FunOk Tryz.prog fn_slices_ContainsFunc_int_int :=
 FunOk.intro (C := cx_slices_ContainsFunc_int_int) (p := .nil)
  Tryz.func107 rfl (by kernel_rfl) rfl rfl rfl rfl types_ok ⟨⟨ok_slices_IndexFunc_int_int, trivial⟩, trivial⟩ mx (fun x => by kernel_rfl)

noncomputable def network_known_L0 (n : List (List UInt8) × List yT0 × List (List UInt8 × Int × Int) × List (List UInt8 × Int × Int × Int × Int) × Int × Int) (v : Int) (all : List Int) : Option ((Int × List Int) ⊕ (List Int)) :=
 bif decide (v < (n.2.1.length : Int)) then (
 gd (inB v n.2.1.length) <|
 gd (fits (all.length + 2) 8) <|
 some (.inl (wi64 (v + 1), all ++ [((n.2.1.getD v.toNat ([], (0, (0, (0, (0, (0, []))))))).2).1, (((n.2.1.getD v.toNat ([], (0, (0, (0, (0, (0, []))))))).2).2).1])))
 else (
 some (.inr all))

noncomputable def network_known_L1 (n : List (List UInt8) × List yT0 × List (List UInt8 × Int × Int) × List (List UInt8 × Int × Int × Int × Int) × Int × Int) (v2 : Int) (all2 : List Int) : Option ((Int × List Int) ⊕ (List Int)) :=
 bif decide (v2 < (n.2.2.1.length : Int)) then (
 gd (inB v2 n.2.2.1.length) <|
 gd (fits (all2.length + 1) 8) <|
 some (.inl (wi64 (v2 + 1), all2 ++ [((n.2.2.1.getD v2.toNat ([], (0, 0))).2).1])))
 else (
 some (.inr all2))

noncomputable def network_known_L2 (n : List (List UInt8) × List yT0 × List (List UInt8 × Int × Int) × List (List UInt8 × Int × Int × Int × Int) × Int × Int) (v3 : Int) (all3 : List Int) : Option ((Int × List Int) ⊕ (List Int)) :=
 bif decide (v3 < (n.2.2.2.1.length : Int)) then (
 gd (inB v3 n.2.2.2.1.length) <|
 gd (fits (all3.length + 1) 8) <|
 some (.inl (wi64 (v3 + 1), all3 ++ [((n.2.2.2.1.getD v3.toNat ([], (0, (0, (0, 0))))).2).1])))
 else (
 some (.inr all3))

noncomputable def network_known (n : List (List UInt8) × List yT0 × List (List UInt8 × Int × Int) × List (List UInt8 × Int × Int × Int × Int) × Int × Int) : Option (Bool) :=
 (iter (fun x => network_known_L0 n x.1 x.2) (0, [])).bind fun s =>
 (iter (fun x2 => network_known_L1 n x2.1 x2.2) (0, s)).bind fun s2 =>
 (iter (fun x3 => network_known_L2 n x3.1 x3.2) (0, s2)).bind fun s3 =>
 (slices_ContainsFunc_int_int s3 (fun h => (network_known_1 h.1 (n.1, (n.2.1, (n.2.2.1, (n.2.2.2.1, (n.2.2.2.2.1, n.2.2.2.2.2)))))).bind fun y => some y)).bind fun r =>
 some (!r)

noncomputable def fn_network_known : Fun :=
 ⟨80, 1, 1,
 ⟨[(0, .one (.data tT0))], [], []⟩,
 ⟨[(0, bb)], [], []⟩,
 fun x => network_known x⟩
noncomputable def cx_network_known : Cx := ⟨types, [], [fn_slices_ContainsFunc_int_int, fn_network_known_1], 55, []⟩
theorem ok_network_known : FunOk Tryz.prog fn_network_known :=
 FunOk.intro (C := cx_network_known) (p := (nn (nn (mm (nn (mm (.mk [] (some (⟨[(1, .one (.ptr 32 0)), (3, .one (.own 75)), (11, kk), (12, kk), (13, ii)], [(32, 32, [.keep, .keep, .keep, .keep, .keep, .keep])], [(75, .arr 3 (.int .i64))]⟩, [⟨.x 0, ⟨[(1, .one (.ptr 32 0)), (3, .one (.own 75))], [(32, 32, [.keep, .keep, .keep, .keep, .keep, .keep])], [(75, .arr 3 (.int .i64))]⟩⟩])) .nil .nil) .nil)) (mm (nn (mm (.mk [] (some (⟨[(1, .one (.ptr 32 0)), (3, .one (.own 75)), (26, kk), (27, kk), (28, ii)], [(32, 32, [.keep, .keep, .keep, .keep, .keep, .keep])], [(75, .arr 3 (.int .i64))]⟩, [⟨.x 2, ⟨[(1, .one (.ptr 32 0)), (3, .one (.own 75))], [(32, 32, [.keep, .keep, .keep, .keep, .keep, .keep])], [(75, .arr 3 (.int .i64))]⟩⟩])) .nil .nil) .nil)) (mm (nn (mm (.mk [] (some (⟨[(1, .one (.ptr 32 0)), (3, .one (.own 75)), (39, kk), (40, kk), (41, ii)], [(32, 32, [.keep, .keep, .keep, .keep, .keep, .keep])], [(75, .arr 3 (.int .i64))]⟩, [⟨.x 4, ⟨[(1, .one (.ptr 32 0)), (3, .one (.own 75))], [(32, 32, [.keep, .keep, .keep, .keep, .keep, .keep])], [(75, .arr 3 (.int .i64))]⟩⟩])) .nil .nil) .nil)) (mm (.mk [.fv [(1, .pair (.sl (.str)) (.pair (.sl (.pair (.str) tT3)) (.pair (.sl (.pair (.str) (.pair (.int .i64) (.int .i64)))) (.pair (.sl (.pair (.str) (.pair (.int .i64) (.pair (.int .i64) (.pair (.int .i64) (.int .i64)))))) (.pair (.int .i64) (.int .i64))))))]] none .nil .nil) .nil)))))))
  Tryz.func80 rfl (by kernel_rfl) rfl rfl rfl rfl types_ok ⟨⟨ok_slices_ContainsFunc_int_int, ok_network_known_1, trivial⟩, trivial⟩ mx (fun x => by kernel_rfl)

noncomputable def network_in (n : Int) (least : Int) (most : Int) : Option (Bool) :=
 bif decide (least ≤ n) then (
 some (decide (n ≤ most)))
 else (
 some false)

noncomputable def fn_network_in : Fun :=
 ⟨131, 3, 1,
 ⟨[(0, ii), (1, ii), (2, ii)], [], []⟩,
 ⟨[(0, bb)], [], []⟩,
 fun x => network_in x.1 x.2.1 x.2.2⟩
noncomputable def cx_network_in : Cx := ⟨types, [], [], 15, []⟩
theorem ok_network_in : FunOk Tryz.prog fn_network_in :=
 FunOk.intro (C := cx_network_in) (p := .nil)
  Tryz.func131 rfl (by kernel_rfl) rfl rfl rfl rfl types_ok ⟨trivial, trivial⟩ mx (fun x => by kernel_rfl)

noncomputable def network_pipe_L0 (s : List UInt8 × Int × Int × Int × Int × Int × List (Int × Int × Int)) (v : Int) : Option (Int ⊕ (Unit ⊕ Bool)) :=
 bif decide (v < (s.2.2.2.2.2.2.length : Int)) then (
 gd (inB v s.2.2.2.2.2.2.length) <|
 Option.bind (α := Bool) (
 (network_in (((s.2.2.2.2.2.2.getD v.toNat (0, (0, 0))).2).1) (-500) 5000).bind fun r4 =>
 bif !r4 then (
 some true)
 else (
 (network_in (((s.2.2.2.2.2.2.getD v.toNat (0, (0, 0))).2).2) 0 100000000).bind fun r5 =>
 bif !r5 then (
 some true)
 else (
 bif decide (0 < v) then (
 gd (inB (wi64 (v - 1)) s.2.2.2.2.2.2.length) <|
 some (decide ((s.2.2.2.2.2.2.getD v.toNat (0, (0, 0))).1 ≤ (s.2.2.2.2.2.2.getD (wi64 (v - 1)).toNat (0, (0, 0))).1)))
 else (
 some false)))) fun s3 =>
 bif s3 then (
 some (.inr (.inr false)))
 else (
 some (.inl (wi64 (v + 1)))))
 else (
 some (.inr (.inl ())))

noncomputable def network_pipe (s : List UInt8 × Int × Int × Int × Int × Int × List (Int × Int × Int)) : Option (Bool) :=
 Option.bind (α := Bool) (
 bif decide (s.2.1 = s.2.2.1) then (
 some true)
 else (
 (network_in s.2.2.2.1 1 1000000).bind fun r =>
 bif !r then (
 some true)
 else (
 (network_in s.2.2.2.2.1 0 1000).bind fun r2 =>
 bif !r2 then (
 some true)
 else (
 (network_in s.2.2.2.2.2.1 0 100000).bind fun r3 =>
 some (!r3))))) fun s2 =>
 bif s2 then (
 some false)
 else (
 (iter (fun x => network_pipe_L0 s x) 0).bind fun s4 =>
 s4.elim (fun s5 =>
 gd (inB 0 s.2.2.2.2.2.2.length) <|
 bif decide ((s.2.2.2.2.2.2.getD 0 (0, (0, 0))).1 = 0) then (
 gd (inB (wi64 ((s.2.2.2.2.2.2.length : Int) - 1)) s.2.2.2.2.2.2.length) <|
 some (decide ((s.2.2.2.2.2.2.getD (wi64 ((s.2.2.2.2.2.2.length : Int) - 1)).toNat (0, (0, 0))).1 = s.2.2.2.1)))
 else (
 some false))
 (fun s6 =>
 some s6))

noncomputable def fn_network_pipe : Fun :=
 ⟨128, 1, 1,
 ⟨[(0, .one (.data (.pair (.str) tT3)))], [], []⟩,
 ⟨[(0, bb)], [], []⟩,
 fun x => network_pipe x⟩
noncomputable def cx_network_pipe : Cx := ⟨types, [], [fn_network_in], 83, []⟩
theorem ok_network_pipe : FunOk Tryz.prog fn_network_pipe :=
 FunOk.intro (C := cx_network_pipe) (p := (nn (mm (mm (.mk [.join [⟨.n, ⟨[(1, .one (.ptr 32 0)), (27, bb)], [(32, 74, [.keep, .keep, .keep, .keep, .keep, .keep, .keep])], []⟩⟩]] none .nil .nil) .nil) (mm (nn (mm (.mk [] (some (⟨[(1, .one (.ptr 32 0)), (29, kk), (30, kk), (31, ii)], [(32, 74, [.keep, .keep, .keep, .keep, .keep, .keep, .keep])], []⟩, [⟨.x 0, ⟨[(1, .one (.ptr 32 0))], [(32, 74, [.keep, .keep, .keep, .keep, .keep, .keep, .keep])], []⟩⟩, ⟨.r, ⟨[(2, bb)], [], []⟩⟩])) (nn (nn (mm (mm (nn (mm (.mk [.join [⟨.n, ⟨[(1, .one (.ptr 32 0)), (29, kk), (30, kk), (31, kk), (61, bb)], [(32, 74, [.keep, .keep, .keep, .keep, .keep, .keep, .keep])], []⟩⟩]] none .nil .nil) .nil)) .nil) .nil))) .nil) .nil)) .nil))))
  Tryz.func128 rfl (by kernel_rfl) rfl rfl rfl rfl types_ok ⟨⟨ok_network_in, trivial⟩, trivial⟩ mx (fun x => by kernel_rfl)

noncomputable def network_proper_1 (s : List UInt8 × Int × Int × Int × Int × Int × List (Int × Int × Int)) : Option (Bool) :=
 (network_pipe (s.1, (s.2.1, (s.2.2.1, (s.2.2.2.1, (s.2.2.2.2.1, (s.2.2.2.2.2.1, s.2.2.2.2.2.2))))))).bind fun r =>
 some (!r)

noncomputable def fn_network_proper_1 : Fun :=
 ⟨127, 1, 1,
 ⟨[(0, .one (.data (.pair (.str) tT3)))], [], []⟩,
 ⟨[(0, bb)], [], []⟩,
 fun x => network_proper_1 x⟩
noncomputable def cx_network_proper_1 : Cx := ⟨types, [], [fn_network_pipe], 6, []⟩
theorem ok_network_proper_1 : FunOk Tryz.prog fn_network_proper_1 :=
 FunOk.intro (C := cx_network_proper_1) (p := .nil)
  Tryz.func127 rfl (by kernel_rfl) rfl rfl rfl rfl types_ok ⟨⟨ok_network_pipe, trivial⟩, trivial⟩ mx (fun x => by kernel_rfl)

noncomputable def slices_IndexFunc_api_Port_api_Port_L0 (s : List (List UInt8 × Int × Int)) (f : (List UInt8 × Int × Int) × Unit → Option Bool) (v : Int) : Option (Int ⊕ (Unit ⊕ Int)) :=
 bif decide (v < (s.length : Int)) then (
 gd (inB v s.length) <|
 (f (s.getD v.toNat ([], (0, 0)), ())).bind fun r =>
 bif r then (
 some (.inr (.inr v)))
 else (
 some (.inl (wi64 (v + 1)))))
 else (
 some (.inr (.inl ())))

noncomputable def slices_IndexFunc_api_Port_api_Port (s : List (List UInt8 × Int × Int)) (f : (List UInt8 × Int × Int) × Unit → Option Bool) : Option (Int) :=
 (iter (fun x => slices_IndexFunc_api_Port_api_Port_L0 s f x) 0).bind fun s2 =>
 s2.elim (fun s3 =>
 some (-1))
 (fun s4 =>
 some s4)

noncomputable def fn_slices_IndexFunc_api_Port_api_Port : Fun :=
 ⟨152, 2, 1,
 ⟨[(0, .one (.data (.sl (.pair (.str) (.pair (.int .i64) (.int .i64)))))), (1, .one (.fn [.pair (.str) (.pair (.int .i64) (.int .i64))] (.bool)))], [], []⟩,
 ⟨[(0, ii)], [], []⟩,
 fun x => slices_IndexFunc_api_Port_api_Port x.1 x.2⟩
noncomputable def cx_slices_IndexFunc_api_Port_api_Port : Cx := ⟨types, [], [], 19, []⟩
theorem ok_slices_IndexFunc_api_Port_api_Port : FunOk Tryz.prog fn_slices_IndexFunc_api_Port_api_Port :=
 FunOk.intro (C := cx_slices_IndexFunc_api_Port_api_Port) (p := (nn (mm (nn (mm (.mk [] (some (⟨[(0, kk), (1, kk), (7, kk), (8, ii)], [], []⟩, [⟨.x 0, ⟨[], [], []⟩⟩, ⟨.r, ⟨[(4, ii)], [], []⟩⟩])) .nil .nil) .nil)) .nil)))
  Tryz.func152 rfl (by kernel_rfl) rfl rfl rfl rfl types_ok ⟨trivial, trivial⟩ mx (fun x => by kernel_rfl)

noncomputable def slices_ContainsFunc_api_Port_api_Port (s : List (List UInt8 × Int × Int)) (f : (List UInt8 × Int × Int) × Unit → Option Bool) : Option (Bool) :=
 (slices_IndexFunc_api_Port_api_Port s f).bind fun r =>
 some (decide (0 ≤ r))

noncomputable def fn_slices_ContainsFunc_api_Port_api_Port : Fun :=
 ⟨129, 2, 1,
 ⟨[(0, .one (.data (.sl (.pair (.str) (.pair (.int .i64) (.int .i64)))))), (1, .one (.fn [.pair (.str) (.pair (.int .i64) (.int .i64))] (.bool)))], [], []⟩,
 ⟨[(0, bb)], [], []⟩,
 fun x => slices_ContainsFunc_api_Port_api_Port x.1 x.2⟩
noncomputable def cx_slices_ContainsFunc_api_Port_api_Port : Cx := ⟨types, [], [fn_slices_IndexFunc_api_Port_api_Port], 9, []⟩
theorem ok_slices_ContainsFunc_api_Port_api_Port : FunOk Tryz.prog fn_slices_ContainsFunc_api_Port_api_Port :=
 FunOk.intro (C := cx_slices_ContainsFunc_api_Port_api_Port) (p := .nil)
  Tryz.func129 rfl (by kernel_rfl) rfl rfl rfl rfl types_ok ⟨⟨ok_slices_IndexFunc_api_Port_api_Port, trivial⟩, trivial⟩ mx (fun x => by kernel_rfl)

noncomputable def network_proper_2 (p : List UInt8 × Int × Int) : Option (Bool) :=
 (network_in p.2.2 0 100000000).bind fun r =>
 some (!r)

noncomputable def fn_network_proper_2 : Fun :=
 ⟨130, 1, 1,
 ⟨[(0, .one (.data (.pair (.str) (.pair (.int .i64) (.int .i64)))))], [], []⟩,
 ⟨[(0, bb)], [], []⟩,
 fun x => network_proper_2 x⟩
noncomputable def cx_network_proper_2 : Cx := ⟨types, [], [fn_network_in], 7, []⟩
theorem ok_network_proper_2 : FunOk Tryz.prog fn_network_proper_2 :=
 FunOk.intro (C := cx_network_proper_2) (p := .nil)
  Tryz.func130 rfl (by kernel_rfl) rfl rfl rfl rfl types_ok ⟨⟨ok_network_in, trivial⟩, trivial⟩ mx (fun x => by kernel_rfl)

noncomputable def slices_ContainsFunc_api_Station_api_Station (s : List (List UInt8 × Int × Int × Int × Int)) (f : (List UInt8 × Int × Int × Int × Int) × Unit → Option Bool) : Option (Bool) :=
 (slices_IndexFunc_api_Station_api_Station s f).bind fun r =>
 some (decide (0 ≤ r))

noncomputable def fn_slices_ContainsFunc_api_Station_api_Station : Fun :=
 ⟨132, 2, 1,
 ⟨[(0, .one (.data (.sl (.pair (.str) (.pair (.int .i64) (.pair (.int .i64) (.pair (.int .i64) (.int .i64)))))))), (1, .one (.fn [.pair (.str) (.pair (.int .i64) (.pair (.int .i64) (.pair (.int .i64) (.int .i64))))] (.bool)))], [], []⟩,
 ⟨[(0, bb)], [], []⟩,
 fun x => slices_ContainsFunc_api_Station_api_Station x.1 x.2⟩
noncomputable def cx_slices_ContainsFunc_api_Station_api_Station : Cx := ⟨types, [], [fn_slices_IndexFunc_api_Station_api_Station], 9, []⟩
theorem ok_slices_ContainsFunc_api_Station_api_Station : FunOk Tryz.prog fn_slices_ContainsFunc_api_Station_api_Station :=
 FunOk.intro (C := cx_slices_ContainsFunc_api_Station_api_Station) (p := .nil)
  Tryz.func132 rfl (by kernel_rfl) rfl rfl rfl rfl types_ok ⟨⟨ok_slices_IndexFunc_api_Station_api_Station, trivial⟩, trivial⟩ mx (fun x => by kernel_rfl)

noncomputable def network_proper_3 (s : List UInt8 × Int × Int × Int × Int) : Option (Bool) :=
 (network_in s.2.2.1 0 100000000).bind fun r =>
 bif !r then (
 some true)
 else (
 (network_in s.2.2.2.1 0 100000).bind fun r2 =>
 bif !r2 then (
 some true)
 else (
 (network_in s.2.2.2.2 0 100000000).bind fun r3 =>
 some (!r3)))

noncomputable def fn_network_proper_3 : Fun :=
 ⟨133, 1, 1,
 ⟨[(0, .one (.data (.pair (.str) (.pair (.int .i64) (.pair (.int .i64) (.pair (.int .i64) (.int .i64)))))))], [], []⟩,
 ⟨[(0, bb)], [], []⟩,
 fun x => network_proper_3 x⟩
noncomputable def cx_network_proper_3 : Cx := ⟨types, [], [fn_network_in], 19, []⟩
theorem ok_network_proper_3 : FunOk Tryz.prog fn_network_proper_3 :=
 FunOk.intro (C := cx_network_proper_3) (p := .nil)
  Tryz.func133 rfl (by kernel_rfl) rfl rfl rfl rfl types_ok ⟨⟨ok_network_in, trivial⟩, trivial⟩ mx (fun x => by kernel_rfl)

noncomputable def network_proper (n : List (List UInt8) × List yT0 × List (List UInt8 × Int × Int) × List (List UInt8 × Int × Int × Int × Int) × Int × Int) : Option (Bool) :=
 (slices_ContainsFunc_api_Segment_api_Segment n.2.1 (fun h => (network_proper_1 h.1).bind fun y => some y)).bind fun r =>
 bif r then (
 some false)
 else (
 (slices_ContainsFunc_api_Port_api_Port n.2.2.1 (fun h2 => (network_proper_2 h2.1).bind fun y => some y)).bind fun r2 =>
 bif r2 then (
 some false)
 else (
 (slices_ContainsFunc_api_Station_api_Station n.2.2.2.1 (fun h3 => (network_proper_3 h3.1).bind fun y => some y)).bind fun r3 =>
 bif r3 then (
 some false)
 else (
 (network_in n.2.2.2.2.1 (-100000) 100000000).bind fun r4 =>
 bif r4 then (
 (network_in n.2.2.2.2.2 0 100).bind fun r5 =>
 some r5)
 else (
 some false))))

noncomputable def fn_network_proper : Fun :=
 ⟨81, 1, 1,
 ⟨[(0, .one (.data tT0))], [], []⟩,
 ⟨[(0, bb)], [], []⟩,
 fun x => network_proper x⟩
noncomputable def cx_network_proper : Cx := ⟨types, [], [fn_slices_ContainsFunc_api_Segment_api_Segment, fn_network_proper_1, fn_slices_ContainsFunc_api_Port_api_Port, fn_network_proper_2, fn_slices_ContainsFunc_api_Station_api_Station, fn_network_proper_3, fn_network_in], 20, []⟩
theorem ok_network_proper : FunOk Tryz.prog fn_network_proper :=
 FunOk.intro (C := cx_network_proper) (p := .nil)
  Tryz.func81 rfl (by kernel_rfl) rfl rfl rfl rfl types_ok ⟨⟨ok_slices_ContainsFunc_api_Segment_api_Segment, ok_network_proper_1, ok_slices_ContainsFunc_api_Port_api_Port, ok_network_proper_2, ok_slices_ContainsFunc_api_Station_api_Station, ok_network_proper_3, ok_network_in, trivial⟩, trivial⟩ mx (fun x => by kernel_rfl)

noncomputable def network_Check_L0 (r2 : List (List UInt8) × List (List UInt8) × List (List UInt8) × List (List UInt8)) (v : Int) : Option (Int ⊕ (Unit ⊕ Int)) :=
 bif decide (v < 4) then (
 gd (inB v 4) <|
 (slices_ContainsFunc_string_string ([r2.1, r2.2.1, r2.2.2.1, r2.2.2.2].getD v.toNat []) (fun h => (network_Check_1 h.1).bind fun y => some y)).bind fun r3 =>
 bif r3 then (
 some (.inr (.inr 3)))
 else (
 some (.inl (wi64 (v + 1)))))
 else (
 some (.inr (.inl ())))

noncomputable def network_Check (n : List (List UInt8) × List yT0 × List (List UInt8 × Int × Int) × List (List UInt8 × Int × Int × Int × Int) × Int × Int) : Option (Int) :=
 (network_limits (n.1, (n.2.1, (n.2.2.1, (n.2.2.2.1, (n.2.2.2.2.1, n.2.2.2.2.2)))))).bind fun r =>
 bif !r then (
 some 4)
 else (
 (network_names (n.1, (n.2.1, (n.2.2.1, (n.2.2.2.1, (n.2.2.2.2.1, n.2.2.2.2.2)))))).bind fun r2 =>
 (iter (fun x => network_Check_L0 r2 x) 0).bind fun s =>
 s.elim (fun s2 =>
 (network_twice (n.1, (n.2.1, (n.2.2.1, (n.2.2.2.1, (n.2.2.2.2.1, n.2.2.2.2.2)))))).bind fun r4 =>
 bif r4 then (
 some 7)
 else (
 (network_known (n.1, (n.2.1, (n.2.2.1, (n.2.2.2.1, (n.2.2.2.2.1, n.2.2.2.2.2)))))).bind fun r5 =>
 bif !r5 then (
 some 8)
 else (
 (network_proper (n.1, (n.2.1, (n.2.2.1, (n.2.2.2.1, (n.2.2.2.2.1, n.2.2.2.2.2)))))).bind fun r6 =>
 bif !r6 then (
 some 9)
 else (
 some 0))))
 (fun s3 =>
 some s3))

noncomputable def fn_network_Check : Fun :=
 ⟨46, 1, 1,
 ⟨[(0, .one (.data tT0))], [], []⟩,
 ⟨[(0, ii)], [], []⟩,
 fun x => network_Check x⟩
noncomputable def cx_network_Check : Cx := ⟨types, [], [fn_network_limits, fn_network_names, fn_slices_ContainsFunc_string_string, fn_network_Check_1, fn_network_twice, fn_network_known, fn_network_proper], 27, []⟩
theorem ok_network_Check : FunOk Tryz.prog fn_network_Check :=
 FunOk.intro (C := cx_network_Check) (p := (nn (nn (mm (nn (mm (.mk [] (some (⟨[(1, .one (.ptr 32 0)), (9, kk), (10, ii)], [(32, 32, [.keep, .keep, .keep, .keep, .keep, .keep])], []⟩, [⟨.x 0, ⟨[(1, .one (.ptr 32 0))], [(32, 32, [.keep, .keep, .keep, .keep, .keep, .keep])], []⟩⟩, ⟨.r, ⟨[(2, ii)], [], []⟩⟩])) .nil .nil) .nil)) .nil))))
  Tryz.func46 rfl (by kernel_rfl) rfl rfl rfl rfl types_ok ⟨⟨ok_network_limits, ok_network_names, ok_slices_ContainsFunc_string_string, ok_network_Check_1, ok_network_twice, ok_network_known, ok_network_proper, trivial⟩, trivial⟩ mx (fun x => by kernel_rfl)

noncomputable def valve_Valid (v : Int × Int × Bool × Bool) : Option (Bool) :=
 bif decide (1 ≤ v.1) then (
 bif decide (v.1 ≤ 60) then (
 bif decide (0 ≤ v.2.1) then (
 some (decide (v.2.1 ≤ v.1)))
 else (
 some false))
 else (
 some false))
 else (
 some false)

noncomputable def fn_valve_Valid : Fun :=
 ⟨47, 1, 1,
 ⟨[(0, .one (.data tT1))], [], []⟩,
 ⟨[(0, bb)], [], []⟩,
 fun x => valve_Valid x⟩
noncomputable def cx_valve_Valid : Cx := ⟨types, [], [], 23, []⟩
theorem ok_valve_Valid : FunOk Tryz.prog fn_valve_Valid :=
 FunOk.intro (C := cx_valve_Valid) (p := .nil)
  Tryz.func47 rfl (by kernel_rfl) rfl rfl rfl rfl types_ok ⟨trivial, trivial⟩ mx (fun x => by kernel_rfl)

noncomputable def lineup_Count (n : List (List UInt8) × List yT0 × List (List UInt8 × Int × Int) × List (List UInt8 × Int × Int × Int × Int) × Int × Int) : Option (Int) :=
 some (wi64 ((n.2.1.length : Int) + (n.2.2.1.length : Int)))

noncomputable def fn_lineup_Count : Fun :=
 ⟨49, 1, 1,
 ⟨[(0, .one (.data tT0))], [], []⟩,
 ⟨[(0, ii)], [], []⟩,
 fun x => lineup_Count x⟩
noncomputable def cx_lineup_Count : Cx := ⟨types, [], [], 10, []⟩
theorem ok_lineup_Count : FunOk Tryz.prog fn_lineup_Count :=
 FunOk.intro (C := cx_lineup_Count) (p := .nil)
  Tryz.func49 rfl (by kernel_rfl) rfl rfl rfl rfl types_ok ⟨trivial, trivial⟩ mx (fun x => by kernel_rfl)

noncomputable def math_bits_Mul32 (x : Int) (y : Int) : Option (Int × Int) :=
 some (wu32 (Int.fdiv (wu64 ((wu64 x) * (wu64 y))) (2 ^ shAmt .u64 32)), wu32 (wu64 ((wu64 x) * (wu64 y))))

noncomputable def fn_math_bits_Mul32 : Fun :=
 ⟨134, 2, 2,
 ⟨[(0, .one (.data (.int .u32))), (1, .one (.data (.int .u32)))], [], []⟩,
 ⟨[(0, .one (.data (.int .u32))), (1, .one (.data (.int .u32)))], [], []⟩,
 fun x => math_bits_Mul32 x.1 x.2⟩
noncomputable def cx_math_bits_Mul32 : Cx := ⟨types, [], [], 17, []⟩
theorem ok_math_bits_Mul32 : FunOk Tryz.prog fn_math_bits_Mul32 :=
 FunOk.intro (C := cx_math_bits_Mul32) (p := .nil)
  Tryz.func134 rfl (by kernel_rfl) rfl rfl rfl rfl types_ok ⟨trivial, trivial⟩ mx (fun x => by kernel_rfl)

noncomputable def math_bits_Mul64 (x : Int) (y : Int) : Option (Int × Int) :=
 some (wu64 ((wu64 ((wu64 ((Int.fdiv x (2 ^ shAmt .u64 32)) * (Int.fdiv y (2 ^ shAmt .u64 32)))) + (Int.fdiv (wu64 ((wu64 ((Int.fdiv x (2 ^ shAmt .u64 32)) * (bitAnd .u64 y 4294967295))) + (Int.fdiv (wu64 ((bitAnd .u64 x 4294967295) * (bitAnd .u64 y 4294967295))) (2 ^ shAmt .u64 32)))) (2 ^ shAmt .u64 32)))) + (Int.fdiv (wu64 ((bitAnd .u64 (wu64 ((wu64 ((Int.fdiv x (2 ^ shAmt .u64 32)) * (bitAnd .u64 y 4294967295))) + (Int.fdiv (wu64 ((bitAnd .u64 x 4294967295) * (bitAnd .u64 y 4294967295))) (2 ^ shAmt .u64 32)))) 4294967295) + (wu64 ((bitAnd .u64 x 4294967295) * (Int.fdiv y (2 ^ shAmt .u64 32)))))) (2 ^ shAmt .u64 32))), wu64 (x * y))

noncomputable def fn_math_bits_Mul64 : Fun :=
 ⟨135, 2, 2,
 ⟨[(0, .one (.data (.int .u64))), (1, .one (.data (.int .u64)))], [], []⟩,
 ⟨[(0, .one (.data (.int .u64))), (1, .one (.data (.int .u64)))], [], []⟩,
 fun x => math_bits_Mul64 x.1 x.2⟩
noncomputable def cx_math_bits_Mul64 : Cx := ⟨types, [], [], 51, []⟩
theorem ok_math_bits_Mul64 : FunOk Tryz.prog fn_math_bits_Mul64 :=
 FunOk.intro (C := cx_math_bits_Mul64) (p := .nil)
  Tryz.func135 rfl (by kernel_rfl) rfl rfl rfl rfl types_ok ⟨trivial, trivial⟩ mx (fun x => by kernel_rfl)

noncomputable def math_bits_Mul (x : Int) (y : Int) : Option (Int × Int) :=
 (math_bits_Mul64 x y).bind fun r =>
 some (r.1, r.2)

noncomputable def fn_math_bits_Mul : Fun :=
 ⟨82, 2, 2,
 ⟨[(0, .one (.data (.int .u64))), (1, .one (.data (.int .u64)))], [], []⟩,
 ⟨[(0, .one (.data (.int .u64))), (1, .one (.data (.int .u64)))], [], []⟩,
 fun x => math_bits_Mul x.1 x.2⟩
noncomputable def cx_math_bits_Mul : Cx := ⟨types, [], [fn_math_bits_Mul64], 30, []⟩
theorem ok_math_bits_Mul : FunOk Tryz.prog fn_math_bits_Mul :=
 FunOk.intro (C := cx_math_bits_Mul) (p := .nil)
  Tryz.func82 rfl (by kernel_rfl) rfl rfl rfl rfl types_ok ⟨⟨ok_math_bits_Mul64, trivial⟩, trivial⟩ mx (fun x => by kernel_rfl)

noncomputable def slices_Repeat_api_Valve_api_Valve_L0 (n : Int) (newslice : List (Int × Int × Bool × Bool)) : Option ((Int × List (Int × Int × Bool × Bool)) ⊕ (List (Int × Int × Bool × Bool))) :=
 bif decide (n < (newslice.length : Int)) then (
 gd (decide (0 < newslice.length) && inR n (newslice.length : Int) newslice.length) <|
 gd (decide (0 < newslice.length) && inR 0 n newslice.length) <|
 gd ((decide (newslice.length = newslice.length) && (decide (newslice.length = newslice.length) && decide (n.toNat ≤ newslice.length))) && decide (0 < newslice.length)) <|
 some (.inl (wi64 (n + (Int.ofNat (min (newslice.take n.toNat).length (newslice.length - n.toNat)))), cpyD newslice n.toNat (newslice.take n.toNat))))
 else (
 some (.inr newslice))

noncomputable def slices_Repeat_api_Valve_api_Valve (x : List (Int × Int × Bool × Bool)) (count : Int) : Option (List (Int × Int × Bool × Bool)) :=
 Option.bind (α := Unit) (
 bif decide (count < 0) then (
 none)
 else (
 some ())) fun s =>
 (math_bits_Mul (wu64 (x.length : Int)) (wu64 count)).bind fun r =>
 Option.bind (α := Bool) (
 bif decide (0 < r.1) then (
 some true)
 else (
 some (decide (9223372036854775807 < r.2)))) fun s2 =>
 Option.bind (α := Unit) (
 bif s2 then (
 none)
 else (
 some ())) fun s3 =>
 gd (makeG 24 (wi64 r.2)) <|
 gd ((true && true) && decide (0 < (List.replicate (wi64 r.2).toNat ((0, (0, (false, false))) : Int × Int × Bool × Bool)).length)) <|
 (iter (fun x2 => slices_Repeat_api_Valve_api_Valve_L0 x2.1 x2.2) (Int.ofNat (min x.length ((List.replicate (wi64 r.2).toNat ((0, (0, (false, false))) : Int × Int × Bool × Bool)).length - 0)), cpyD (List.replicate (wi64 r.2).toNat ((0, (0, (false, false))) : Int × Int × Bool × Bool)) 0 x)).bind fun s4 =>
 some s4

noncomputable def fn_slices_Repeat_api_Valve_api_Valve : Fun :=
 ⟨48, 2, 1,
 ⟨[(0, .one (.data (.sl tT1))), (1, ii)], [], []⟩,
 ⟨[(0, .one (.own 0))], [], [(0, .arr 54 tT1)]⟩,
 fun x => slices_Repeat_api_Valve_api_Valve x.1 x.2⟩
noncomputable def cx_slices_Repeat_api_Valve_api_Valve : Cx := ⟨types, [5000044], [fn_math_bits_Mul], 48, []⟩
theorem ok_slices_Repeat_api_Valve_api_Valve : FunOk Tryz.prog fn_slices_Repeat_api_Valve_api_Valve :=
 FunOk.intro (C := cx_slices_Repeat_api_Valve_api_Valve) (p := (nn (mm (nn (.mk [.join [⟨.n, ⟨[(0, kk), (1, kk)], [], []⟩⟩]] none .nil .nil)) (nn (mm (mm (.mk [.join [⟨.n, ⟨[(0, kk), (6, kk), (26, bb)], [], []⟩⟩]] none .nil .nil) (.mk [.join [⟨.n, ⟨[(0, kk), (6, kk)], [], []⟩⟩]] none .nil .nil)) (nn (nn (mm (mm (.mk [] (some (⟨[(7, .one (.own 496)), (8, ii)], [], [(496, .arr 54 tT1)]⟩, [⟨.x 0, ⟨[(7, .one (.own 496))], [], [(496, .arr 54 tT1)]⟩⟩])) .nil .nil) .nil) .nil))))))))
  Tryz.func48 rfl (by kernel_rfl) rfl rfl rfl rfl types_ok ⟨⟨ok_math_bits_Mul, trivial⟩, trivial⟩ mx (fun x => by kernel_rfl)

noncomputable def step_Idle (n : List (List UInt8) × List yT0 × List (List UInt8 × Int × Int) × List (List UInt8 × Int × Int × Int × Int) × Int × Int) (travel : Int) : Option ((List (Int × Int × Bool × Bool) × List Int × List Int × List Bool) × Int) :=
 (network_Check (n.1, (n.2.1, (n.2.2.1, (n.2.2.2.1, (n.2.2.2.2.1, n.2.2.2.2.2)))))).bind fun r =>
 bif !decide (r = 0) then (
 some (([], ([], ([], []))), r))
 else (
 (valve_Valid (travel, (0, (false, false)))).bind fun r2 =>
 bif !r2 then (
 some (([], ([], ([], []))), 20))
 else (
 gd (makeG 8 (n.2.1.length : Int)) <|
 gd (makeG 8 (n.2.2.1.length : Int)) <|
 gd (makeG 1 (n.2.2.2.1.length : Int)) <|
 (lineup_Count (n.1, (n.2.1, (n.2.2.1, (n.2.2.2.1, (n.2.2.2.2.1, n.2.2.2.2.2)))))).bind fun r3 =>
 (slices_Repeat_api_Valve_api_Valve [(travel, (0, (false, false)))] r3).bind fun r4 =>
 some ((r4, (List.replicate (n.2.1.length : Int).toNat (0 : Int), (List.replicate (n.2.2.1.length : Int).toNat (0 : Int), List.replicate (n.2.2.2.1.length : Int).toNat (false : Bool)))), 0)))

noncomputable def fn_step_Idle : Fun :=
 ⟨20, 2, 2,
 ⟨[(0, .one (.data tT0)), (1, ii)], [], []⟩,
 ⟨[(0, .one (.data (.pair (.sl tT1) tT4))), (1, ii)], [], []⟩,
 fun x => step_Idle x.1 x.2⟩
noncomputable def cx_step_Idle : Cx := ⟨types, [], [fn_network_Check, fn_valve_Valid, fn_lineup_Count, fn_slices_Repeat_api_Valve_api_Valve], 41, []⟩
theorem ok_step_Idle : FunOk Tryz.prog fn_step_Idle :=
 FunOk.intro (C := cx_step_Idle) (p := .nil)
  Tryz.func20 rfl (by kernel_rfl) rfl rfl rfl rfl types_ok ⟨⟨ok_network_Check, ok_valve_Valid, ok_lineup_Count, ok_slices_Repeat_api_Valve_api_Valve, trivial⟩, trivial⟩ mx (fun x => by kernel_rfl)

noncomputable def slices_IndexFunc_api_Valve_api_Valve_L0 (s : List (Int × Int × Bool × Bool)) (f : (Int × Int × Bool × Bool) × Unit → Option Bool) (v : Int) : Option (Int ⊕ (Unit ⊕ Int)) :=
 bif decide (v < (s.length : Int)) then (
 gd (inB v s.length) <|
 (f (s.getD v.toNat (0, (0, (false, false))), ())).bind fun r =>
 bif r then (
 some (.inr (.inr v)))
 else (
 some (.inl (wi64 (v + 1)))))
 else (
 some (.inr (.inl ())))

noncomputable def slices_IndexFunc_api_Valve_api_Valve (s : List (Int × Int × Bool × Bool)) (f : (Int × Int × Bool × Bool) × Unit → Option Bool) : Option (Int) :=
 (iter (fun x => slices_IndexFunc_api_Valve_api_Valve_L0 s f x) 0).bind fun s2 =>
 s2.elim (fun s3 =>
 some (-1))
 (fun s4 =>
 some s4)

noncomputable def fn_slices_IndexFunc_api_Valve_api_Valve : Fun :=
 ⟨105, 2, 1,
 ⟨[(0, .one (.data (.sl tT1))), (1, .one (.fn [.pair (.int .i64) (.pair (.int .i64) (.pair (.bool) (.bool)))] (.bool)))], [], []⟩,
 ⟨[(0, ii)], [], []⟩,
 fun x => slices_IndexFunc_api_Valve_api_Valve x.1 x.2⟩
noncomputable def cx_slices_IndexFunc_api_Valve_api_Valve : Cx := ⟨types, [], [], 19, []⟩
theorem ok_slices_IndexFunc_api_Valve_api_Valve : FunOk Tryz.prog fn_slices_IndexFunc_api_Valve_api_Valve :=
 FunOk.intro (C := cx_slices_IndexFunc_api_Valve_api_Valve) (p := (nn (mm (nn (mm (.mk [] (some (⟨[(0, kk), (1, kk), (7, kk), (8, ii)], [], []⟩, [⟨.x 0, ⟨[], [], []⟩⟩, ⟨.r, ⟨[(4, ii)], [], []⟩⟩])) .nil .nil) .nil)) .nil)))
  Tryz.func105 rfl (by kernel_rfl) rfl rfl rfl rfl types_ok ⟨trivial, trivial⟩ mx (fun x => by kernel_rfl)

noncomputable def slices_ContainsFunc_api_Valve_api_Valve (s : List (Int × Int × Bool × Bool)) (f : (Int × Int × Bool × Bool) × Unit → Option Bool) : Option (Bool) :=
 (slices_IndexFunc_api_Valve_api_Valve s f).bind fun r =>
 some (decide (0 ≤ r))

noncomputable def fn_slices_ContainsFunc_api_Valve_api_Valve : Fun :=
 ⟨59, 2, 1,
 ⟨[(0, .one (.data (.sl tT1))), (1, .one (.fn [.pair (.int .i64) (.pair (.int .i64) (.pair (.bool) (.bool)))] (.bool)))], [], []⟩,
 ⟨[(0, bb)], [], []⟩,
 fun x => slices_ContainsFunc_api_Valve_api_Valve x.1 x.2⟩
noncomputable def cx_slices_ContainsFunc_api_Valve_api_Valve : Cx := ⟨types, [], [fn_slices_IndexFunc_api_Valve_api_Valve], 9, []⟩
theorem ok_slices_ContainsFunc_api_Valve_api_Valve : FunOk Tryz.prog fn_slices_ContainsFunc_api_Valve_api_Valve :=
 FunOk.intro (C := cx_slices_ContainsFunc_api_Valve_api_Valve) (p := .nil)
  Tryz.func59 rfl (by kernel_rfl) rfl rfl rfl rfl types_ok ⟨⟨ok_slices_IndexFunc_api_Valve_api_Valve, trivial⟩, trivial⟩ mx (fun x => by kernel_rfl)

noncomputable def step_Check_1 (v : Int × Int × Bool × Bool) : Option (Bool) :=
 (valve_Valid (v.1, (v.2.1, (v.2.2.1, v.2.2.2)))).bind fun r =>
 some (!r)

noncomputable def fn_step_Check_1 : Fun :=
 ⟨60, 1, 1,
 ⟨[(0, .one (.data tT1))], [], []⟩,
 ⟨[(0, bb)], [], []⟩,
 fun x => step_Check_1 x⟩
noncomputable def cx_step_Check_1 : Cx := ⟨types, [], [fn_valve_Valid], 6, []⟩
theorem ok_step_Check_1 : FunOk Tryz.prog fn_step_Check_1 :=
 FunOk.intro (C := cx_step_Check_1) (p := .nil)
  Tryz.func60 rfl (by kernel_rfl) rfl rfl rfl rfl types_ok ⟨⟨ok_valve_Valid, trivial⟩, trivial⟩ mx (fun x => by kernel_rfl)

noncomputable def flow_within (rate : Int) (most : Int) : Option (Bool) :=
 bif decide (wi64 (0 - most) ≤ rate) then (
 some (decide (rate ≤ most)))
 else (
 some false)

noncomputable def fn_flow_within : Fun :=
 ⟨106, 2, 1,
 ⟨[(0, ii), (1, ii)], [], []⟩,
 ⟨[(0, bb)], [], []⟩,
 fun x => flow_within x.1 x.2⟩
noncomputable def cx_flow_within : Cx := ⟨types, [], [], 14, []⟩
theorem ok_flow_within : FunOk Tryz.prog fn_flow_within :=
 FunOk.intro (C := cx_flow_within) (p := .nil)
  Tryz.func106 rfl (by kernel_rfl) rfl rfl rfl rfl types_ok ⟨trivial, trivial⟩ mx (fun x => by kernel_rfl)

noncomputable def flow_Check_1 (rate : Int) : Option (Bool) :=
 (flow_within rate 1000).bind fun r =>
 some (!r)

noncomputable def fn_flow_Check_1 : Fun :=
 ⟨108, 1, 1,
 ⟨[(0, ii)], [], []⟩,
 ⟨[(0, bb)], [], []⟩,
 fun x => flow_Check_1 x⟩
noncomputable def cx_flow_Check_1 : Cx := ⟨types, [], [fn_flow_within], 6, []⟩
theorem ok_flow_Check_1 : FunOk Tryz.prog fn_flow_Check_1 :=
 FunOk.intro (C := cx_flow_Check_1) (p := .nil)
  Tryz.func108 rfl (by kernel_rfl) rfl rfl rfl rfl types_ok ⟨⟨ok_flow_within, trivial⟩, trivial⟩ mx (fun x => by kernel_rfl)

noncomputable def flow_streams_add (vfrom : Int) (to : Int) (rate : Int) (s : List Int × List Int) : Option (List Int × List Int) :=
 Option.bind (α := Int × Int × Int × List Int × List Int) (
 bif decide (rate < 0) then (
 some (to, vfrom, wi64 (0 - rate), s))
 else (
 some (vfrom, to, rate, s))) fun s2 =>
 Option.bind (α := List Int × List Int) (
 bif decide (0 ≤ s2.1) then (
 gd (inB s2.1 24) <|
 gd (inB s2.1 24) <|
 some (s2.2.2.2.1, s2.2.2.2.2.set s2.1.toNat (wi64 ((s2.2.2.2.2.getD s2.1.toNat 0) + s2.2.2.1))))
 else (
 some s2.2.2.2)) fun s3 =>
 bif decide (0 ≤ s2.2.1) then (
 gd (inB s2.2.1 24) <|
 gd (inB s2.2.1 24) <|
 some (s3.1.set s2.2.1.toNat (wi64 ((s3.1.getD s2.2.1.toNat 0) + s2.2.2.1)), s3.2))
 else (
 some s3)

noncomputable def fn_flow_streams_add : Fun :=
 ⟨148, 4, 0,
 ⟨[(0, .one (.ael 0 48)), (1, ii), (2, ii), (3, ii)], [], [(0, .one 149 (.pair (.arr 24 (.int .i64)) (.arr 24 (.int .i64))))]⟩,
 ⟨[], [], [(0, .one 149 (.pair (.arr 24 (.int .i64)) (.arr 24 (.int .i64))))]⟩,
 fun x => flow_streams_add x.1 x.2.1 x.2.2.1 x.2.2.2⟩
noncomputable def cx_flow_streams_add : Cx := ⟨types, [], [], 40, []⟩
theorem ok_flow_streams_add : FunOk Tryz.prog fn_flow_streams_add :=
 FunOk.intro (C := cx_flow_streams_add) (p := (mm (nn (.mk [.join [⟨.n, ⟨[(0, .one (.ael 0 48)), (1, ii), (2, ii), (3, ii)], [], [(0, .one 149 (.pair (.arr 24 (.int .i64)) (.arr 24 (.int .i64))))]⟩⟩]] none .nil .nil)) (mm (nn (.mk [.join [⟨.n, ⟨[(0, .one (.ael 0 48)), (2, kk), (3, kk)], [], [(0, .one 149 (.pair (.arr 24 (.int .i64)) (.arr 24 (.int .i64))))]⟩⟩]] none .nil .nil)) .nil)))
  Tryz.func148 rfl (by kernel_rfl) rfl rfl rfl rfl types_ok ⟨trivial, trivial⟩ mx (fun x => by kernel_rfl)

noncomputable def flow_sums_L0 (n : List (List UInt8) × List yT0 × List (List UInt8 × Int × Int) × List (List UInt8 × Int × Int × Int × Int) × Int × Int) (p : List Int × List Int × List Bool) (v : Int) (v2 : List Int × List Int) (out : List Int × List Int) : Option ((Int × (List Int × List Int) × List Int × List Int) ⊕ ((List Int × List Int) × List Int × List Int)) :=
 bif decide (v < (n.2.1.length : Int)) then (
 gd (inB v n.2.1.length) <|
 gd (inB v p.1.length) <|
 (flow_streams_add (((n.2.1.getD v.toNat ([], (0, (0, (0, (0, (0, []))))))).2).1) ((((n.2.1.getD v.toNat ([], (0, (0, (0, (0, (0, []))))))).2).2).1) (p.1.getD v.toNat 0) out).bind fun r =>
 some (.inl (wi64 (v + 1), v2, r)))
 else (
 some (.inr (v2, out)))

noncomputable def flow_sums_L1 (n : List (List UInt8) × List yT0 × List (List UInt8 × Int × Int) × List (List UInt8 × Int × Int × Int × Int) × Int × Int) (p : List Int × List Int × List Bool) (v3 : Int) (v4 : List Int × List Int) (out2 : List Int × List Int) : Option ((Int × (List Int × List Int) × List Int × List Int) ⊕ ((List Int × List Int) × List Int × List Int)) :=
 bif decide (v3 < (n.2.2.1.length : Int)) then (
 gd (inB v3 n.2.2.1.length) <|
 gd (inB v3 p.2.1.length) <|
 (flow_streams_add (-1) (((n.2.2.1.getD v3.toNat ([], (0, 0))).2).1) (p.2.1.getD v3.toNat 0) out2).bind fun r2 =>
 some (.inl (wi64 (v3 + 1), v4, r2)))
 else (
 some (.inr (v4, out2)))

noncomputable def flow_sums (n : List (List UInt8) × List yT0 × List (List UInt8 × Int × Int) × List (List UInt8 × Int × Int × Int × Int) × Int × Int) (p : List Int × List Int × List Bool) : Option (List Int × List Int) :=
 (iter (fun x => flow_sums_L0 n p x.1 x.2.1 x.2.2) (0, ((List.replicate 24 0), (List.replicate 24 0)), ((List.replicate 24 0), (List.replicate 24 0)))).bind fun s =>
 (iter (fun x2 => flow_sums_L1 n p x2.1 x2.2.1 x2.2.2) (0, s.1, s.2)).bind fun s2 =>
 some s2.2

noncomputable def fn_flow_sums : Fun :=
 ⟨109, 2, 1,
 ⟨[(0, .one (.data tT0)), (1, .one (.data tT4))], [], []⟩,
 ⟨[(0, .one (.data (.pair (.arr 24 (.int .i64)) (.arr 24 (.int .i64)))))], [], []⟩,
 fun x => flow_sums x.1 x.2⟩
noncomputable def cx_flow_sums : Cx := ⟨types, [3000004, 3000005], [fn_flow_streams_add], 47, []⟩
theorem ok_flow_sums : FunOk Tryz.prog fn_flow_sums :=
 FunOk.intro (C := cx_flow_sums) (p := (nn (nn (mm (nn (mm (.mk [] (some (⟨[(2, .one (.ptr 48 0)), (3, .one (.ptr 64 0)), (4, .one (.ael 80 48)), (5, .one (.ael 96 48)), (11, kk), (12, kk), (13, ii)], [(48, 32, [.keep, .keep, .keep, .keep, .keep, .keep]), (64, 36, [.keep, .keep, .keep])], [(80, .one 149 (.pair (.arr 24 (.int .i64)) (.arr 24 (.int .i64)))), (96, .one 149 (.pair (.arr 24 (.int .i64)) (.arr 24 (.int .i64))))]⟩, [⟨.x 0, ⟨[(2, .one (.ptr 48 0)), (3, .one (.ptr 64 0)), (4, .one (.ael 80 48)), (5, .one (.ael 96 48))], [(48, 32, [.keep, .keep, .keep, .keep, .keep, .keep]), (64, 36, [.keep, .keep, .keep])], [(80, .one 149 (.pair (.arr 24 (.int .i64)) (.arr 24 (.int .i64)))), (96, .one 149 (.pair (.arr 24 (.int .i64)) (.arr 24 (.int .i64))))]⟩⟩])) .nil .nil) .nil)) (mm (nn (mm (.mk [] (some (⟨[(3, .one (.ptr 64 0)), (4, .one (.ael 80 48)), (5, .one (.ael 96 48)), (30, kk), (31, kk), (32, ii)], [(64, 36, [.keep, .keep, .keep])], [(80, .one 149 (.pair (.arr 24 (.int .i64)) (.arr 24 (.int .i64)))), (96, .one 149 (.pair (.arr 24 (.int .i64)) (.arr 24 (.int .i64))))]⟩, [⟨.x 2, ⟨[(4, .one (.ael 80 48)), (5, .one (.ael 96 48))], [], [(80, .one 149 (.pair (.arr 24 (.int .i64)) (.arr 24 (.int .i64)))), (96, .one 149 (.pair (.arr 24 (.int .i64)) (.arr 24 (.int .i64))))]⟩⟩])) .nil .nil) .nil)) .nil)))))
  Tryz.func109 rfl (by kernel_rfl) rfl rfl rfl rfl types_ok ⟨⟨ok_flow_streams_add, trivial⟩, trivial⟩ mx (fun x => by kernel_rfl)

noncomputable def flow_Ends (s : List UInt8 × Int × Int × Int × Int × Int × List (Int × Int × Int)) (rate : Int) : Option (Int × Int) :=
 bif decide (rate < 0) then (
 some (s.2.2.1, s.2.1))
 else (
 some (s.2.1, s.2.2.1))

noncomputable def fn_flow_Ends : Fun :=
 ⟨149, 2, 2,
 ⟨[(0, .one (.data (.pair (.str) tT3))), (1, ii)], [], []⟩,
 ⟨[(0, ii), (1, ii)], [], []⟩,
 fun x => flow_Ends x.1 x.2⟩
noncomputable def cx_flow_Ends : Cx := ⟨types, [], [], 16, []⟩
theorem ok_flow_Ends : FunOk Tryz.prog fn_flow_Ends :=
 FunOk.intro (C := cx_flow_Ends) (p := .nil)
  Tryz.func149 rfl (by kernel_rfl) rfl rfl rfl rfl types_ok ⟨trivial, trivial⟩ mx (fun x => by kernel_rfl)

noncomputable def flow_order_L1 (n : List (List UInt8) × List yT0 × List (List UInt8 × Int × Int) × List (List UInt8 × Int × Int × Int × Int) × Int × Int) (p : List Int × List Int × List Bool) (k : Int) (v : Int) (out2 : List Int) (there2 : List Bool) : Option ((Int × List Int × List Bool) ⊕ ((List Int × List Bool) ⊕ (List Int × List Bool))) :=
 bif decide (v < (n.2.1.length : Int)) then (
 gd (inB v n.2.1.length) <|
 gd (inB v p.1.length) <|
 (flow_Ends ((n.2.1.getD v.toNat ([], (0, (0, (0, (0, (0, []))))))).1, (((n.2.1.getD v.toNat ([], (0, (0, (0, (0, (0, []))))))).2).1, ((((n.2.1.getD v.toNat ([], (0, (0, (0, (0, (0, []))))))).2).2).1, (((((n.2.1.getD v.toNat ([], (0, (0, (0, (0, (0, []))))))).2).2).2).1, ((((((n.2.1.getD v.toNat ([], (0, (0, (0, (0, (0, []))))))).2).2).2).2).1, (((((((n.2.1.getD v.toNat ([], (0, (0, (0, (0, (0, []))))))).2).2).2).2).2).1, ((((((n.2.1.getD v.toNat ([], (0, (0, (0, (0, (0, []))))))).2).2).2).2).2).2)))))) (p.1.getD v.toNat 0)).bind fun r =>
 Option.bind (α := Bool × List Int × List Bool) (
 gd (inB v p.1.length) <|
 bif !decide (p.1.getD v.toNat 0 = 0) then (
 bif decide (r.2 = k) then (
 gd (inB r.1 there2.length) <|
 some ((!(there2.getD r.1.toNat false)), out2, there2))
 else (
 some (false, out2, there2)))
 else (
 some (false, out2, there2))) fun s =>
 bif s.1 then (
 some (.inr (.inl (s.2.1, s.2.2))))
 else (
 some (.inl (wi64 (v + 1), s.2.1, s.2.2))))
 else (
 some (.inr (.inr (out2, there2))))

noncomputable def flow_order_L0 (n : List (List UInt8) × List yT0 × List (List UInt8 × Int × Int) × List (List UInt8 × Int × Int × Int × Int) × Int × Int) (p : List Int × List Int × List Bool) (k : Int) (out : List Int) (there : List Bool) : Option ((Int × List Int × List Bool) ⊕ (List Int)) :=
 bif decide (k < (n.1.length : Int)) then (
 Option.bind (α := Int × List Int × List Bool) (
 gd (inB k there.length) <|
 bif there.getD k.toNat false then (
 some (k, out, there))
 else (
 (iter (fun x => flow_order_L1 n p k x.1 x.2.1 x.2.2) (0, out, there)).bind fun s2 =>
 s2.elim (fun s3 =>
 some (k, s3.1, s3.2))
 (fun s4 =>
 gd (inB k s4.2.length) <|
 gd (fits (s4.1.length + 1) 8) <|
 some ((-1), s4.1 ++ [k], s4.2.set k.toNat true)))) fun s5 =>
 some (.inl (wi64 (s5.1 + 1), s5.2.1, s5.2.2)))
 else (
 some (.inr out))

noncomputable def flow_order (n : List (List UInt8) × List yT0 × List (List UInt8 × Int × Int) × List (List UInt8 × Int × Int × Int × Int) × Int × Int) (p : List Int × List Int × List Bool) : Option (List Int) :=
 gd (makeG 1 (n.1.length : Int)) <|
 (iter (fun x2 => flow_order_L0 n p x2.1 x2.2.1 x2.2.2) (0, [], List.replicate (n.1.length : Int).toNat (false : Bool))).bind fun s6 =>
 some s6

noncomputable def fn_flow_order : Fun :=
 ⟨110, 2, 1,
 ⟨[(0, .one (.data tT0)), (1, .one (.data tT4))], [], []⟩,
 ⟨[(0, .one (.own 0))], [], [(0, .arr 3 (.int .i64))]⟩,
 fun x => flow_order x.1 x.2⟩
noncomputable def cx_flow_order : Cx := ⟨types, [], [fn_flow_Ends], 72, []⟩
theorem ok_flow_order : FunOk Tryz.prog fn_flow_order :=
 FunOk.intro (C := cx_flow_order) (p := (nn (mm (nn (nn (nn (mm (nn (mm (.mk [] (some (⟨[(2, .one (.ptr 48 0)), (3, .one (.ptr 64 0)), (5, .one (.own 107)), (6, .one (.own 256)), (7, ii)], [(48, 32, [.keep, .keep, .keep, .keep, .keep, .keep]), (64, 36, [.keep, .keep, .keep])], [(107, .arr 3 (.int .i64)), (256, .arr 4 (.bool))]⟩, [⟨.x 0, ⟨[(5, .one (.own 107))], [], [(107, .arr 3 (.int .i64))]⟩⟩])) (nn (mm (.mk [.join [⟨.n, ⟨[(2, .one (.ptr 48 0)), (3, .one (.ptr 64 0)), (5, .one (.own 107)), (6, .one (.own 256)), (7, ii)], [(48, 32, [.keep, .keep, .keep, .keep, .keep, .keep]), (64, 36, [.keep, .keep, .keep])], [(107, .arr 3 (.int .i64)), (256, .arr 4 (.bool))]⟩⟩]] none (nn (mm (nn (mm (.mk [] (some (⟨[(2, .one (.ptr 48 0)), (3, .one (.ptr 64 0)), (5, .one (.own 107)), (6, .one (.own 256)), (7, kk), (28, kk), (29, kk), (30, ii)], [(48, 32, [.keep, .keep, .keep, .keep, .keep, .keep]), (64, 36, [.keep, .keep, .keep])], [(107, .arr 3 (.int .i64)), (256, .arr 4 (.bool))]⟩, [⟨.x 1, ⟨[(2, .one (.ptr 48 0)), (3, .one (.ptr 64 0)), (5, .one (.own 107)), (6, .one (.own 256)), (7, kk)], [(48, 32, [.keep, .keep, .keep, .keep, .keep, .keep]), (64, 36, [.keep, .keep, .keep])], [(107, .arr 3 (.int .i64)), (256, .arr 4 (.bool))]⟩⟩, ⟨.x 2, ⟨[(2, .one (.ptr 48 0)), (3, .one (.ptr 64 0)), (5, .one (.own 107)), (6, .one (.own 256)), (7, kk)], [(48, 32, [.keep, .keep, .keep, .keep, .keep, .keep]), (64, 36, [.keep, .keep, .keep])], [(107, .arr 3 (.int .i64)), (256, .arr 4 (.bool))]⟩⟩])) (nn (nn (mm (mm (nn (nn (mm (.mk [.join [⟨.n, ⟨[(2, .one (.ptr 48 0)), (3, .one (.ptr 64 0)), (5, .one (.own 107)), (6, .one (.own 256)), (7, kk), (28, kk), (29, kk), (30, kk), (62, bb)], [(48, 32, [.keep, .keep, .keep, .keep, .keep, .keep]), (64, 36, [.keep, .keep, .keep])], [(107, .arr 3 (.int .i64)), (256, .arr 4 (.bool))]⟩⟩]] none .nil .nil) .nil))) .nil) .nil))) .nil) .nil)) .nil)) .nil) .nil)) .nil) .nil)) .nil)))) .nil)))
  Tryz.func110 rfl (by kernel_rfl) rfl rfl rfl rfl types_ok ⟨⟨ok_flow_Ends, trivial⟩, trivial⟩ mx (fun x => by kernel_rfl)

noncomputable def flow_Check_L0 (n : List (List UInt8) × List yT0 × List (List UInt8 × Int × Int) × List (List UInt8 × Int × Int × Int × Int) × Int × Int) (p : List Int × List Int × List Bool) (v : Int) : Option (Int ⊕ (Unit ⊕ Int)) :=
 bif decide (v < (n.2.1.length : Int)) then (
 gd (inB v n.2.1.length) <|
 gd (inB v p.1.length) <|
 (flow_within (p.1.getD v.toNat 0) (min 1000 (((((n.2.1.getD v.toNat ([], (0, (0, (0, (0, (0, []))))))).2).2).2).1))).bind fun r2 =>
 bif !r2 then (
 some (.inr (.inr 1)))
 else (
 some (.inl (wi64 (v + 1)))))
 else (
 some (.inr (.inl ())))

noncomputable def flow_Check (n : List (List UInt8) × List yT0 × List (List UInt8 × Int × Int) × List (List UInt8 × Int × Int × Int × Int) × Int × Int) (p : List Int × List Int × List Bool) : Option (Int) :=
 (network_Check (n.1, (n.2.1, (n.2.2.1, (n.2.2.2.1, (n.2.2.2.2.1, n.2.2.2.2.2)))))).bind fun r =>
 bif !decide (r = 0) then (
 some r)
 else (
 Option.bind (α := Bool) (
 bif !decide ((p.1.length : Int) = (n.2.1.length : Int)) then (
 some true)
 else (
 bif !decide ((p.2.1.length : Int) = (n.2.2.1.length : Int)) then (
 some true)
 else (
 some (!decide ((p.2.2.length : Int) = (n.2.2.2.1.length : Int)))))) fun s =>
 bif s then (
 some 9)
 else (
 (iter (fun x => flow_Check_L0 n p x) 0).bind fun s2 =>
 s2.elim (fun s3 =>
 (slices_ContainsFunc_int_int p.2.1 (fun h => (flow_Check_1 h.1).bind fun y => some y)).bind fun r3 =>
 bif r3 then (
 some 1)
 else (
 (flow_sums (n.1, (n.2.1, (n.2.2.1, (n.2.2.2.1, (n.2.2.2.2.1, n.2.2.2.2.2))))) (p.1, (p.2.1, p.2.2))).bind fun r4 =>
 bif !((List.range 24).all fun i => decide ((r4.1.getD i 0) = (r4.2.getD i 0))) then (
 some 12)
 else (
 (flow_order (n.1, (n.2.1, (n.2.2.1, (n.2.2.2.1, (n.2.2.2.2.1, n.2.2.2.2.2))))) (p.1, (p.2.1, p.2.2))).bind fun r5 =>
 bif decide ((r5.length : Int) < (n.1.length : Int)) then (
 some 13)
 else (
 some 0))))
 (fun s4 =>
 some s4)))

noncomputable def fn_flow_Check : Fun :=
 ⟨61, 2, 1,
 ⟨[(0, .one (.data tT0)), (1, .one (.data tT4))], [], []⟩,
 ⟨[(0, ii)], [], []⟩,
 fun x => flow_Check x.1 x.2⟩
noncomputable def cx_flow_Check : Cx := ⟨types, [3000008], [fn_network_Check, fn_flow_within, fn_slices_ContainsFunc_int_int, fn_flow_Check_1, fn_flow_sums, fn_flow_order], 77, []⟩
theorem ok_flow_Check : FunOk Tryz.prog fn_flow_Check :=
 FunOk.intro (C := cx_flow_Check) (p := (nn (nn (mm (mm (.mk [.join [⟨.n, ⟨[(2, .one (.ptr 48 0)), (3, .one (.ptr 64 0)), (38, bb)], [(48, 32, [.keep, .keep, .keep, .keep, .keep, .keep]), (64, 36, [.keep, .keep, .keep])], []⟩⟩]] none .nil .nil) .nil) (mm (nn (mm (.mk [] (some (⟨[(2, .one (.ptr 48 0)), (3, .one (.ptr 64 0)), (40, kk), (41, kk), (42, ii)], [(48, 32, [.keep, .keep, .keep, .keep, .keep, .keep]), (64, 36, [.keep, .keep, .keep])], []⟩, [⟨.x 0, ⟨[(2, .one (.ptr 48 0)), (3, .one (.ptr 64 0))], [(48, 32, [.keep, .keep, .keep, .keep, .keep, .keep]), (64, 36, [.keep, .keep, .keep])], []⟩⟩, ⟨.r, ⟨[(4, ii)], [], []⟩⟩])) .nil .nil) .nil)) .nil)))))
  Tryz.func61 rfl (by kernel_rfl) rfl rfl rfl rfl types_ok ⟨⟨ok_network_Check, ok_flow_within, ok_slices_ContainsFunc_int_int, ok_flow_Check_1, ok_flow_sums, ok_flow_order, trivial⟩, trivial⟩ mx (fun x => by kernel_rfl)

noncomputable def lineup_flows_L0 (rates : List Int) (v : Int) (out : List Bool) : Option ((Int × List Bool) ⊕ (List Bool)) :=
 bif decide (v < (rates.length : Int)) then (
 gd (inB v rates.length) <|
 gd (fits (out.length + 1) 1) <|
 some (.inl (wi64 (v + 1), out ++ [(!decide (rates.getD v.toNat 0 = 0))])))
 else (
 some (.inr out))

noncomputable def lineup_flows (rates : List Int) : Option (List Bool) :=
 (iter (fun x => lineup_flows_L0 rates x.1 x.2) (0, [])).bind fun s =>
 some s

noncomputable def fn_lineup_flows : Fun :=
 ⟨111, 1, 1,
 ⟨[(0, .one (.data (.sl (.int .i64))))], [], []⟩,
 ⟨[(0, .one (.own 0))], [], [(0, .arr 4 (.bool))]⟩,
 fun x => lineup_flows x⟩
noncomputable def cx_lineup_flows : Cx := ⟨types, [], [], 19, []⟩
theorem ok_lineup_flows : FunOk Tryz.prog fn_lineup_flows :=
 FunOk.intro (C := cx_lineup_flows) (p := (nn (nn (mm (nn (mm (.mk [] (some (⟨[(3, .one (.own 75)), (6, kk), (7, kk), (8, ii)], [], [(75, .arr 4 (.bool))]⟩, [⟨.x 0, ⟨[(3, .one (.own 75))], [], [(75, .arr 4 (.bool))]⟩⟩])) .nil .nil) .nil)) .nil))))
  Tryz.func111 rfl (by kernel_rfl) rfl rfl rfl rfl types_ok ⟨trivial, trivial⟩ mx (fun x => by kernel_rfl)

noncomputable def lineup_Need (n : List (List UInt8) × List yT0 × List (List UInt8 × Int × Int) × List (List UInt8 × Int × Int × Int × Int) × Int × Int) (p : List Int × List Int × List Bool) : Option (Int × List Bool × List Bool) :=
 (network_Check (n.1, (n.2.1, (n.2.2.1, (n.2.2.2.1, (n.2.2.2.2.1, n.2.2.2.2.2)))))).bind fun r =>
 bif !decide (r = 0) then (
 some (r, [], []))
 else (
 (flow_Check (n.1, (n.2.1, (n.2.2.1, (n.2.2.2.1, (n.2.2.2.2.1, n.2.2.2.2.2))))) (p.1, (p.2.1, p.2.2))).bind fun r2 =>
 bif !decide (r2 = 0) then (
 some (r2, [], []))
 else (
 (lineup_flows p.1).bind fun r3 =>
 (lineup_flows p.2.1).bind fun r4 =>
 some (0, r3, r4)))

noncomputable def fn_lineup_Need : Fun :=
 ⟨62, 2, 2,
 ⟨[(0, .one (.data tT0)), (1, .one (.data tT4))], [], []⟩,
 ⟨[(0, .agg [.own 0, .own 1]), (1, ii)], [], [(0, .arr 4 (.bool)), (1, .arr 4 (.bool))]⟩,
 fun x => lineup_Need x.1 x.2⟩
noncomputable def cx_lineup_Need : Cx := ⟨types, [], [fn_network_Check, fn_flow_Check, fn_lineup_flows], 28, []⟩
theorem ok_lineup_Need : FunOk Tryz.prog fn_lineup_Need :=
 FunOk.intro (C := cx_lineup_Need) (p := .nil)
  Tryz.func62 rfl (by kernel_rfl) rfl rfl rfl rfl types_ok ⟨⟨ok_network_Check, ok_flow_Check, ok_lineup_flows, trivial⟩, trivial⟩ mx (fun x => by kernel_rfl)

noncomputable def lineup_Numbers (l : List Bool × List Bool) : Option (List Bool) :=
 gd (fits (0 + l.1.length) 1) <|
 gd (fits (([] ++ l.1).length + l.2.length) 1) <|
 some (([] ++ l.1) ++ l.2)

noncomputable def fn_lineup_Numbers : Fun :=
 ⟨63, 1, 1,
 ⟨[(0, .one (.data (.pair (.sl (.bool)) (.sl (.bool)))))], [], []⟩,
 ⟨[(0, .one (.own 0))], [], [(0, .arr 4 (.bool))]⟩,
 fun x => lineup_Numbers x⟩
noncomputable def cx_lineup_Numbers : Cx := ⟨types, [], [], 11, []⟩
theorem ok_lineup_Numbers : FunOk Tryz.prog fn_lineup_Numbers :=
 FunOk.intro (C := cx_lineup_Numbers) (p := .nil)
  Tryz.func63 rfl (by kernel_rfl) rfl rfl rfl rfl types_ok ⟨trivial, trivial⟩ mx (fun x => by kernel_rfl)

noncomputable def valve_Open (v : Int × Int × Bool × Bool) : Option (Bool) :=
 (valve_Valid (v.1, (v.2.1, (v.2.2.1, v.2.2.2)))).bind fun r =>
 bif r then (
 some (decide (v.2.1 = v.1)))
 else (
 some false)

noncomputable def fn_valve_Open : Fun :=
 ⟨112, 1, 1,
 ⟨[(0, .one (.data tT1))], [], []⟩,
 ⟨[(0, bb)], [], []⟩,
 fun x => valve_Open x⟩
noncomputable def cx_valve_Open : Cx := ⟨types, [], [fn_valve_Valid], 12, []⟩
theorem ok_valve_Open : FunOk Tryz.prog fn_valve_Open :=
 FunOk.intro (C := cx_valve_Open) (p := .nil)
  Tryz.func112 rfl (by kernel_rfl) rfl rfl rfl rfl types_ok ⟨⟨ok_valve_Valid, trivial⟩, trivial⟩ mx (fun x => by kernel_rfl)

noncomputable def step_ready (v : Int × Int × Bool × Bool) : Option (Bool) :=
 (valve_Open (v.1, (v.2.1, (v.2.2.1, v.2.2.2)))).bind fun r =>
 bif r then (
 some v.2.2.1)
 else (
 some false)

noncomputable def fn_step_ready : Fun :=
 ⟨64, 1, 1,
 ⟨[(0, .one (.data tT1))], [], []⟩,
 ⟨[(0, bb)], [], []⟩,
 fun x => step_ready x⟩
noncomputable def cx_step_ready : Cx := ⟨types, [], [fn_valve_Open], 9, []⟩
theorem ok_step_ready : FunOk Tryz.prog fn_step_ready :=
 FunOk.intro (C := cx_step_ready) (p := .nil)
  Tryz.func64 rfl (by kernel_rfl) rfl rfl rfl rfl types_ok ⟨⟨ok_valve_Open, trivial⟩, trivial⟩ mx (fun x => by kernel_rfl)

noncomputable def flow_Through (n : List (List UInt8) × List yT0 × List (List UInt8 × Int × Int) × List (List UInt8 × Int × Int × Int × Int) × Int × Int) (p : List Int × List Int × List Bool) (node : Int) : Option (Int × Int) :=
 (flow_Check (n.1, (n.2.1, (n.2.2.1, (n.2.2.2.1, (n.2.2.2.2.1, n.2.2.2.2.2))))) (p.1, (p.2.1, p.2.2))).bind fun r =>
 bif !decide (r = 0) then (
 some (0, r))
 else (
 Option.bind (α := Bool) (
 bif decide (node < 0) then (
 some true)
 else (
 some (decide ((n.1.length : Int) ≤ node)))) fun s =>
 bif s then (
 some (0, 8))
 else (
 (flow_sums (n.1, (n.2.1, (n.2.2.1, (n.2.2.2.1, (n.2.2.2.2.1, n.2.2.2.2.2))))) (p.1, (p.2.1, p.2.2))).bind fun r2 =>
 gd (inB node 24) <|
 some (r2.1.getD node.toNat 0, 0)))

noncomputable def fn_flow_Through : Fun :=
 ⟨150, 3, 2,
 ⟨[(0, .one (.data tT0)), (1, .one (.data tT4)), (2, ii)], [], []⟩,
 ⟨[(0, ii), (1, ii)], [], []⟩,
 fun x => flow_Through x.1 x.2.1 x.2.2⟩
noncomputable def cx_flow_Through : Cx := ⟨types, [], [fn_flow_Check, fn_flow_sums], 30, []⟩
theorem ok_flow_Through : FunOk Tryz.prog fn_flow_Through :=
 FunOk.intro (C := cx_flow_Through) (p := (nn (nn (mm (mm (.mk [.join [⟨.n, ⟨[(2, kk), (3, .one (.ptr 64 0)), (4, .one (.ptr 80 0)), (23, bb)], [(64, 32, [.keep, .keep, .keep, .keep, .keep, .keep]), (80, 36, [.keep, .keep, .keep])], []⟩⟩]] none .nil .nil) .nil) .nil))))
  Tryz.func150 rfl (by kernel_rfl) rfl rfl rfl rfl types_ok ⟨⟨ok_flow_Check, ok_flow_sums, trivial⟩, trivial⟩ mx (fun x => by kernel_rfl)

noncomputable def step_leaves (n : List (List UInt8) × List yT0 × List (List UInt8 × Int × Int) × List (List UInt8 × Int × Int × Int × Int) × Int × Int) (p : List Int × List Int × List Bool) (station : Int) : Option (Bool) :=
 gd (inB station n.2.2.2.1.length) <|
 (flow_Through (n.1, (n.2.1, (n.2.2.1, (n.2.2.2.1, (n.2.2.2.2.1, n.2.2.2.2.2))))) (p.1, (p.2.1, p.2.2)) (((n.2.2.2.1.getD station.toNat ([], (0, (0, (0, 0))))).2).1)).bind fun r =>
 bif decide (r.2 = 0) then (
 some (!decide (r.1 = 0)))
 else (
 some false)

noncomputable def fn_step_leaves : Fun :=
 ⟨113, 3, 1,
 ⟨[(0, .one (.data tT0)), (1, .one (.data tT4)), (2, ii)], [], []⟩,
 ⟨[(0, bb)], [], []⟩,
 fun x => step_leaves x.1 x.2.1 x.2.2⟩
noncomputable def cx_step_leaves : Cx := ⟨types, [], [fn_flow_Through], 27, []⟩
theorem ok_step_leaves : FunOk Tryz.prog fn_step_leaves :=
 FunOk.intro (C := cx_step_leaves) (p := .nil)
  Tryz.func113 rfl (by kernel_rfl) rfl rfl rfl rfl types_ok ⟨⟨ok_flow_Through, trivial⟩, trivial⟩ mx (fun x => by kernel_rfl)

noncomputable def step_idles_L0 (n : List (List UInt8) × List yT0 × List (List UInt8 × Int × Int) × List (List UInt8 × Int × Int × Int × Int) × Int × Int) (p : List Int × List Int × List Bool) (v : Int) : Option (Int ⊕ (Unit ⊕ Bool)) :=
 bif decide (v < (p.2.2.length : Int)) then (
 gd (inB v p.2.2.length) <|
 Option.bind (α := Bool) (
 bif p.2.2.getD v.toNat false then (
 bif decide (v < (n.2.2.2.1.length : Int)) then (
 (step_leaves (n.1, (n.2.1, (n.2.2.1, (n.2.2.2.1, (n.2.2.2.2.1, n.2.2.2.2.2))))) (p.1, (p.2.1, p.2.2)) v).bind fun r =>
 some (!r))
 else (
 some false))
 else (
 some false)) fun s =>
 bif s then (
 some (.inr (.inr true)))
 else (
 some (.inl (wi64 (v + 1)))))
 else (
 some (.inr (.inl ())))

noncomputable def step_idles (n : List (List UInt8) × List yT0 × List (List UInt8 × Int × Int) × List (List UInt8 × Int × Int × Int × Int) × Int × Int) (p : List Int × List Int × List Bool) : Option (Bool) :=
 (iter (fun x => step_idles_L0 n p x) 0).bind fun s2 =>
 s2.elim (fun s3 =>
 some false)
 (fun s4 =>
 some s4)

noncomputable def fn_step_idles : Fun :=
 ⟨65, 2, 1,
 ⟨[(0, .one (.data tT0)), (1, .one (.data tT4))], [], []⟩,
 ⟨[(0, bb)], [], []⟩,
 fun x => step_idles x.1 x.2⟩
noncomputable def cx_step_idles : Cx := ⟨types, [], [fn_step_leaves], 31, []⟩
theorem ok_step_idles : FunOk Tryz.prog fn_step_idles :=
 FunOk.intro (C := cx_step_idles) (p := (nn (mm (nn (mm (.mk [] (some (⟨[(2, .one (.ptr 48 0)), (3, .one (.ptr 64 0)), (8, kk), (9, kk), (10, ii)], [(48, 32, [.keep, .keep, .keep, .keep, .keep, .keep]), (64, 36, [.keep, .keep, .keep])], []⟩, [⟨.x 0, ⟨[], [], []⟩⟩, ⟨.r, ⟨[(4, bb)], [], []⟩⟩])) (nn (nn (mm (mm (nn (mm (.mk [.join [⟨.n, ⟨[(2, .one (.ptr 48 0)), (3, .one (.ptr 64 0)), (8, kk), (9, kk), (10, kk), (29, bb)], [(48, 32, [.keep, .keep, .keep, .keep, .keep, .keep]), (64, 36, [.keep, .keep, .keep])], []⟩⟩]] none .nil .nil) .nil)) .nil) .nil))) .nil) .nil)) .nil)))
  Tryz.func65 rfl (by kernel_rfl) rfl rfl rfl rfl types_ok ⟨⟨ok_step_leaves, trivial⟩, trivial⟩ mx (fun x => by kernel_rfl)

noncomputable def step_Check_L0 (d : List (Int × Int × Bool × Bool) × List Int × List Int × List Bool) (r6 : List Bool) (v : Int) (v2 : List Bool) : Option ((Int × List Bool) ⊕ (Unit ⊕ Int)) :=
 bif decide (v < (r6.length : Int)) then (
 gd (inB v v2.length) <|
 Option.bind (α := Bool × List Bool) (
 bif v2.getD v.toNat false then (
 gd (inB v d.1.length) <|
 (step_ready (d.1.getD v.toNat (0, (0, (false, false))))).bind fun r7 =>
 some ((!r7), v2))
 else (
 some (false, v2))) fun s2 =>
 bif s2.1 then (
 some (.inr (.inr 21)))
 else (
 some (.inl (wi64 (v + 1), s2.2))))
 else (
 some (.inr (.inl ())))

noncomputable def step_Check (n : List (List UInt8) × List yT0 × List (List UInt8 × Int × Int) × List (List UInt8 × Int × Int × Int × Int) × Int × Int) (d : List (Int × Int × Bool × Bool) × List Int × List Int × List Bool) : Option (Int) :=
 (network_Check (n.1, (n.2.1, (n.2.2.1, (n.2.2.2.1, (n.2.2.2.2.1, n.2.2.2.2.2)))))).bind fun r =>
 bif !decide (r = 0) then (
 some r)
 else (
 Option.bind (α := Bool) (
 (lineup_Count (n.1, (n.2.1, (n.2.2.1, (n.2.2.2.1, (n.2.2.2.2.1, n.2.2.2.2.2)))))).bind fun r2 =>
 bif !decide ((d.1.length : Int) = r2) then (
 some true)
 else (
 (slices_ContainsFunc_api_Valve_api_Valve d.1 (fun h => (step_Check_1 h.1).bind fun y => some y)).bind fun r3 =>
 some r3)) fun s =>
 bif s then (
 some 20)
 else (
 (flow_Check (n.1, (n.2.1, (n.2.2.1, (n.2.2.2.1, (n.2.2.2.2.1, n.2.2.2.2.2))))) (d.2.1, (d.2.2.1, d.2.2.2))).bind fun r4 =>
 bif !decide (r4 = 0) then (
 some r4)
 else (
 (lineup_Need (n.1, (n.2.1, (n.2.2.1, (n.2.2.2.1, (n.2.2.2.2.1, n.2.2.2.2.2))))) (d.2.1, (d.2.2.1, d.2.2.2))).bind fun r5 =>
 bif !decide (r5.1 = 0) then (
 some r5.1)
 else (
 (lineup_Numbers (r5.2.1, r5.2.2)).bind fun r6 =>
 (iter (fun x => step_Check_L0 d r6 x.1 x.2) (0, r6)).bind fun s3 =>
 s3.elim (fun s4 =>
 (step_idles (n.1, (n.2.1, (n.2.2.1, (n.2.2.2.1, (n.2.2.2.2.1, n.2.2.2.2.2))))) (d.2.1, (d.2.2.1, d.2.2.2))).bind fun r8 =>
 bif r8 then (
 some 21)
 else (
 some 0))
 (fun s5 =>
 some s5)))))

noncomputable def fn_step_Check : Fun :=
 ⟨26, 2, 1,
 ⟨[(0, .one (.data tT0)), (1, .one (.data (.pair (.sl tT1) tT4)))], [], []⟩,
 ⟨[(0, ii)], [], []⟩,
 fun x => step_Check x.1 x.2⟩
noncomputable def cx_step_Check : Cx := ⟨types, [], [fn_network_Check, fn_lineup_Count, fn_slices_ContainsFunc_api_Valve_api_Valve, fn_step_Check_1, fn_flow_Check, fn_lineup_Need, fn_lineup_Numbers, fn_step_ready, fn_step_idles], 67, []⟩
theorem ok_step_Check : FunOk Tryz.prog fn_step_Check :=
 FunOk.intro (C := cx_step_Check) (p := (nn (nn (mm (mm (.mk [.join [⟨.n, ⟨[(2, .one (.ptr 48 0)), (3, .one (.ptr 64 0)), (26, bb)], [(48, 32, [.keep, .keep, .keep, .keep, .keep, .keep]), (64, 40, [.keep, .keep, .keep, .keep])], []⟩⟩]] none .nil .nil) .nil) (nn (nn (nn (mm (nn (mm (.mk [] (some (⟨[(2, .one (.ptr 48 0)), (3, .one (.ptr 64 0)), (45, .one (.own 736)), (46, kk), (47, ii)], [(48, 32, [.keep, .keep, .keep, .keep, .keep, .keep]), (64, 40, [.keep, .keep, .keep, .keep])], [(736, .arr 4 (.bool))]⟩, [⟨.x 0, ⟨[(2, .one (.ptr 48 0)), (3, .one (.ptr 64 0))], [(48, 32, [.keep, .keep, .keep, .keep, .keep, .keep]), (64, 40, [.keep, .keep, .keep, .keep])], []⟩⟩, ⟨.r, ⟨[(4, ii)], [], []⟩⟩])) (nn (nn (mm (mm (nn (mm (.mk [.join [⟨.n, ⟨[(2, .one (.ptr 48 0)), (3, .one (.ptr 64 0)), (45, .one (.own 736)), (46, kk), (47, kk), (61, bb)], [(48, 32, [.keep, .keep, .keep, .keep, .keep, .keep]), (64, 40, [.keep, .keep, .keep, .keep])], [(736, .arr 4 (.bool))]⟩⟩]] none .nil .nil) .nil)) .nil) .nil))) .nil) .nil)) .nil))))))))
  Tryz.func26 rfl (by kernel_rfl) rfl rfl rfl rfl types_ok ⟨⟨ok_network_Check, ok_lineup_Count, ok_slices_ContainsFunc_api_Valve_api_Valve, ok_step_Check_1, ok_flow_Check, ok_lineup_Need, ok_lineup_Numbers, ok_step_ready, ok_step_idles, trivial⟩, trivial⟩ mx (fun x => by kernel_rfl)

noncomputable def slices_Clone_api_Valve_api_Valve (s : List (Int × Int × Bool × Bool)) : Option (List (Int × Int × Bool × Bool)) :=
 bif Nat.beq s.length 0 then (bothO (
 some []) (
 gd (fits (0 + s.length) 24) <|
 some ([] ++ s)))
 else (
 gd (fits (0 + s.length) 24) <|
 some ([] ++ s))

noncomputable def fn_slices_Clone_api_Valve_api_Valve : Fun :=
 ⟨97, 1, 1,
 ⟨[(0, .one (.data (.sl tT1)))], [], []⟩,
 ⟨[(0, .one (.own 0))], [], [(0, .arr 54 tT1)]⟩,
 fun x => slices_Clone_api_Valve_api_Valve x⟩
noncomputable def cx_slices_Clone_api_Valve_api_Valve : Cx := ⟨types, [5], [], 8, []⟩
theorem ok_slices_Clone_api_Valve_api_Valve : FunOk Tryz.prog fn_slices_Clone_api_Valve_api_Valve :=
 FunOk.intro (C := cx_slices_Clone_api_Valve_api_Valve) (p := .nil)
  Tryz.func97 rfl (by kernel_rfl) rfl rfl rfl rfl types_ok ⟨trivial, trivial⟩ mx (fun x => by kernel_rfl)

noncomputable def slices_Clone_int_int (s : List Int) : Option (List Int) :=
 bif Nat.beq s.length 0 then (bothO (
 some []) (
 gd (fits (0 + s.length) 8) <|
 some ([] ++ s)))
 else (
 gd (fits (0 + s.length) 8) <|
 some ([] ++ s))

noncomputable def fn_slices_Clone_int_int : Fun :=
 ⟨98, 1, 1,
 ⟨[(0, .one (.data (.sl (.int .i64))))], [], []⟩,
 ⟨[(0, .one (.own 0))], [], [(0, .arr 3 (.int .i64))]⟩,
 fun x => slices_Clone_int_int x⟩
noncomputable def cx_slices_Clone_int_int : Cx := ⟨types, [5], [], 8, []⟩
theorem ok_slices_Clone_int_int : FunOk Tryz.prog fn_slices_Clone_int_int :=
 FunOk.intro (C := cx_slices_Clone_int_int) (p := .nil)
  Tryz.func98 rfl (by kernel_rfl) rfl rfl rfl rfl types_ok ⟨trivial, trivial⟩ mx (fun x => by kernel_rfl)

noncomputable def slices_Clone_bool_bool (s : List Bool) : Option (List Bool) :=
 bif Nat.beq s.length 0 then (bothO (
 some []) (
 gd (fits (0 + s.length) 1) <|
 some ([] ++ s)))
 else (
 gd (fits (0 + s.length) 1) <|
 some ([] ++ s))

noncomputable def fn_slices_Clone_bool_bool : Fun :=
 ⟨99, 1, 1,
 ⟨[(0, .one (.data (.sl (.bool))))], [], []⟩,
 ⟨[(0, .one (.own 0))], [], [(0, .arr 4 (.bool))]⟩,
 fun x => slices_Clone_bool_bool x⟩
noncomputable def cx_slices_Clone_bool_bool : Cx := ⟨types, [5], [], 8, []⟩
theorem ok_slices_Clone_bool_bool : FunOk Tryz.prog fn_slices_Clone_bool_bool :=
 FunOk.intro (C := cx_slices_Clone_bool_bool) (p := .nil)
  Tryz.func99 rfl (by kernel_rfl) rfl rfl rfl rfl types_ok ⟨trivial, trivial⟩ mx (fun x => by kernel_rfl)

noncomputable def step_Copy (d : List (Int × Int × Bool × Bool) × List Int × List Int × List Bool) : Option ((List (Int × Int × Bool × Bool)) × List Int × List Int × List Bool) :=
 (slices_Clone_api_Valve_api_Valve d.1).bind fun r =>
 (slices_Clone_int_int d.2.1).bind fun r2 =>
 (slices_Clone_int_int d.2.2.1).bind fun r3 =>
 (slices_Clone_bool_bool d.2.2.2).bind fun r4 =>
 some (r, r2, r3, r4)

noncomputable def fn_step_Copy : Fun :=
 ⟨57, 1, 1,
 ⟨[(0, .one (.data (.pair (.sl tT1) tT4)))], [], []⟩,
 ⟨[(0, .agg [.own 0, .own 1, .own 2, .own 3])], [], [(0, .arr 54 tT1), (1, .arr 3 (.int .i64)), (2, .arr 3 (.int .i64)), (3, .arr 4 (.bool))]⟩,
 fun x => step_Copy x⟩
noncomputable def cx_step_Copy : Cx := ⟨types, [], [fn_slices_Clone_api_Valve_api_Valve, fn_slices_Clone_int_int, fn_slices_Clone_bool_bool], 34, []⟩
theorem ok_step_Copy : FunOk Tryz.prog fn_step_Copy :=
 FunOk.intro (C := cx_step_Copy) (p := .nil)
  Tryz.func57 rfl (by kernel_rfl) rfl rfl rfl rfl types_ok ⟨⟨ok_slices_Clone_api_Valve_api_Valve, ok_slices_Clone_int_int, ok_slices_Clone_bool_bool, trivial⟩, trivial⟩ mx (fun x => by kernel_rfl)

noncomputable def step_blank (s : Int × Int × Int × Int × Int × List (Int × Bool) × Int) : Option (Bool) :=
 Option.bind (α := Bool) (
 bif decide (s.2.2.2.1 = 0) then (
 bif decide (s.2.2.2.2.1 = 0) then (
 bif decide ((s.2.2.2.2.2.1.length : Int) = 0) then (
 some (decide (s.2.2.2.2.2.2 = 0)))
 else (
 some false))
 else (
 some false))
 else (
 some false)) fun s2 =>
 Option.bind (α := Bool) (
 bif decide (s.1 = 1) then (
 some (decide (s.1 = 1)))
 else (
 Option.bind (α := Bool) (
 bif decide (s.1 = 2) then (
 some (decide (s.1 = 2)))
 else (
 Option.bind (α := Bool) (
 bif decide (s.1 = 3) then (
 some (decide (s.1 = 3)))
 else (
 some (decide (s.1 = 4)))) fun s3 =>
 some s3)) fun s4 =>
 some s4)) fun s5 =>
 bif s5 then (
 bif decide (s.2.2.1 = 0) then (
 some s2)
 else (
 some false))
 else (
 bif decide (s.1 = 5) then (
 bif decide (s.2.1 = 0) then (
 some (decide (s.2.2.2.2.2.2 = 0)))
 else (
 some false))
 else (
 bif decide (s.1 = 6) then (
 bif decide (s.2.1 = 0) then (
 some s2)
 else (
 some false))
 else (
 some false)))

noncomputable def fn_step_blank : Fun :=
 ⟨100, 1, 1,
 ⟨[(0, .one (.data tT2))], [], []⟩,
 ⟨[(0, bb)], [], []⟩,
 fun x => step_blank x⟩
noncomputable def cx_step_blank : Cx := ⟨types, [], [], 57, []⟩
theorem ok_step_blank : FunOk Tryz.prog fn_step_blank :=
 FunOk.intro (C := cx_step_blank) (p := (nn (nn (mm (.mk [.join [⟨.n, ⟨[(1, .one (.ptr 32 0)), (3, .one (.ptr 64 0)), (4, bb)], [(32, 48, [.keep, .keep, .keep, .keep, .keep, .keep, .keep]), (64, 46, [.keep, .keep, .keep, .keep])], []⟩⟩]] none .nil .nil) (mm (nn (mm (mm (nn (.mk [.join [⟨.n, ⟨[(1, .one (.ptr 32 0)), (3, .one (.ptr 64 0)), (4, kk), (27, kk), (28, bb)], [(32, 48, [.keep, .keep, .keep, .keep, .keep, .keep, .keep]), (64, 46, [.keep, .keep, .keep, .keep])], []⟩⟩]] none .nil (nn (.mk [.join [⟨.n, ⟨[(1, .one (.ptr 32 0)), (3, .one (.ptr 64 0)), (4, kk), (27, kk), (28, bb)], [(32, 48, [.keep, .keep, .keep, .keep, .keep, .keep, .keep]), (64, 46, [.keep, .keep, .keep, .keep])], []⟩⟩]] none .nil (nn (.mk [.join [⟨.n, ⟨[(1, .one (.ptr 32 0)), (3, .one (.ptr 64 0)), (4, kk), (27, kk), (28, bb)], [(32, 48, [.keep, .keep, .keep, .keep, .keep, .keep, .keep]), (64, 46, [.keep, .keep, .keep, .keep])], []⟩⟩]] none .nil .nil)))))) .nil) .nil)) .nil)))))
  Tryz.func100 rfl (by kernel_rfl) rfl rfl rfl rfl types_ok ⟨trivial, trivial⟩ mx (fun x => by kernel_rfl)

noncomputable def valve_Command (v : Int × Int × Bool × Bool) (vopen : Bool) : Option ((Int × Int × Bool × Bool) × Int) :=
 (valve_Valid (v.1, (v.2.1, (v.2.2.1, v.2.2.2)))).bind fun r =>
 bif !r then (
 some ((v.1, (v.2.1, (v.2.2.1, v.2.2.2))), 20))
 else (
 some ((v.1, (v.2.1, (vopen, v.2.2.2))), 0))

noncomputable def fn_valve_Command : Fun :=
 ⟨142, 2, 2,
 ⟨[(0, .one (.data tT1)), (1, bb)], [], []⟩,
 ⟨[(0, .one (.data tT1)), (1, ii)], [], []⟩,
 fun x => valve_Command x.1 x.2⟩
noncomputable def cx_valve_Command : Cx := ⟨types, [], [fn_valve_Valid], 13, []⟩
theorem ok_valve_Command : FunOk Tryz.prog fn_valve_Command :=
 FunOk.intro (C := cx_valve_Command) (p := .nil)
  Tryz.func142 rfl (by kernel_rfl) rfl rfl rfl rfl types_ok ⟨⟨ok_valve_Valid, trivial⟩, trivial⟩ mx (fun x => by kernel_rfl)

noncomputable def step_turn (n : List (List UInt8) × List yT0 × List (List UInt8 × Int × Int) × List (List UInt8 × Int × Int × Int × Int) × Int × Int) (s : Int × Int × Int × Int × Int × List (Int × Bool) × Int) (d : List (Int × Int × Bool × Bool)) (d2 : List Int) (d3 : List Int) (d4 : List Bool) : Option (Int × (List (Int × Int × Bool × Bool)) × List Int × List Int × List Bool) :=
 Option.bind (α := Bool × (List (Int × Int × Bool × Bool)) × List Int × List Int × List Bool) (
 bif decide (s.2.1 < 0) then (
 some (true, d, d2, d3, d4))
 else (
 some (decide ((d.length : Int) ≤ s.2.1), d, d2, d3, d4))) fun s2 =>
 bif s2.1 then (
 some (8, s2.2.1, s2.2.2.1, s2.2.2.2.1, s2.2.2.2.2))
 else (
 Option.bind (α := ((List (Int × Int × Bool × Bool)) × List Int × List Int × List Bool) ⊕ (Int × (List (Int × Int × Bool × Bool)) × List Int × List Int × List Bool)) (
 bif decide (s.1 = 2) then (
 (lineup_Need (n.1, (n.2.1, (n.2.2.1, (n.2.2.2.1, (n.2.2.2.2.1, n.2.2.2.2.2))))) (s2.2.2.1, (s2.2.2.2.1, s2.2.2.2.2))).bind fun r =>
 bif !decide (r.1 = 0) then (
 some (.inr (r.1, s2.2.1, s2.2.2.1, s2.2.2.2.1, s2.2.2.2.2)))
 else (
 (lineup_Numbers (r.2.1, r.2.2)).bind fun r2 =>
 gd (inB s.2.1 r2.length) <|
 bif r2.getD s.2.1.toNat false then (
 some (.inr (22, s2.2.1, s2.2.2.1, s2.2.2.2.1, s2.2.2.2.2)))
 else (
 some (.inl (s2.2.1, s2.2.2.1, s2.2.2.2.1, s2.2.2.2.2)))))
 else (
 some (.inl (s2.2.1, s2.2.2.1, s2.2.2.2.1, s2.2.2.2.2)))) fun s3 =>
 s3.elim (fun s4 =>
 gd (inB s.2.1 s4.1.length) <|
 (valve_Command (s4.1.getD s.2.1.toNat (0, (0, (false, false)))) (decide (s.1 = 1))).bind fun r3 =>
 gd (inB s.2.1 s4.1.length) <|
 some (r3.2, s4.1.set s.2.1.toNat (r3.1.1, (r3.1.2.1, (r3.1.2.2.1, r3.1.2.2.2))), s4.2.1, s4.2.2.1, s4.2.2.2))
 (fun s5 =>
 some (s5.1, s5.2.1, s5.2.2.1, s5.2.2.2.1, s5.2.2.2.2)))

noncomputable def fn_step_turn : Fun :=
 ⟨101, 3, 1,
 ⟨[(0, .one (.data tT0)), (1, .one (.ptr 0 0)), (2, .one (.data tT2))], [(0, 40, [.own 1, .own 2, .own 3, .own 4])], [(1, .arr 54 tT1), (2, .arr 3 (.int .i64)), (3, .arr 3 (.int .i64)), (4, .arr 4 (.bool))]⟩,
 ⟨[(0, ii)], [(0, 40, [.own 1, .own 2, .own 3, .own 4])], [(1, .arr 54 tT1), (2, .arr 3 (.int .i64)), (3, .arr 3 (.int .i64)), (4, .arr 4 (.bool))]⟩,
 fun x => step_turn x.1 x.2.1 x.2.2.1 x.2.2.2.1 x.2.2.2.2.1 x.2.2.2.2.2⟩
noncomputable def cx_step_turn : Cx := ⟨types, [], [fn_lineup_Need, fn_lineup_Numbers, fn_valve_Command], 69, []⟩
theorem ok_step_turn : FunOk Tryz.prog fn_step_turn :=
 FunOk.intro (C := cx_step_turn) (p := (nn (mm (mm (.mk [.join [⟨.n, ⟨[(1, .one (.ptr 0 0)), (3, .one (.ptr 64 0)), (5, .one (.ptr 96 0)), (23, bb)], [(0, 40, [.own 1, .own 2, .own 3, .own 4]), (64, 32, [.keep, .keep, .keep, .keep, .keep, .keep]), (96, 48, [.keep, .keep, .keep, .keep, .keep, .keep, .keep])], [(1, .arr 54 tT1), (2, .arr 3 (.int .i64)), (3, .arr 3 (.int .i64)), (4, .arr 4 (.bool))]⟩⟩]] none .nil .nil) .nil) (mm (nn (.mk [.join [⟨.n, ⟨[(1, .one (.ptr 0 0)), (5, .one (.ptr 96 0))], [(0, 40, [.own 1, .own 2, .own 3, .own 4]), (96, 48, [.keep, .keep, .keep, .keep, .keep, .keep, .keep])], [(1, .arr 54 tT1), (2, .arr 3 (.int .i64)), (3, .arr 3 (.int .i64)), (4, .arr 4 (.bool))]⟩⟩, ⟨.r, ⟨[(6, ii)], [(0, 40, [.own 1, .own 2, .own 3, .own 4])], [(1, .arr 54 tT1), (2, .arr 3 (.int .i64)), (3, .arr 3 (.int .i64)), (4, .arr 4 (.bool))]⟩⟩]] none .nil .nil)) .nil))))
  Tryz.func101 rfl (by kernel_rfl) rfl rfl rfl rfl types_ok ⟨⟨ok_lineup_Need, ok_lineup_Numbers, ok_valve_Command, trivial⟩, trivial⟩ mx (fun x => by kernel_rfl)

noncomputable def step_run (n : List (List UInt8) × List yT0 × List (List UInt8 × Int × Int) × List (List UInt8 × Int × Int × Int × Int) × Int × Int) (s : Int × Int × Int × Int × Int × List (Int × Bool) × Int) (d : List (Int × Int × Bool × Bool)) (d2 : List Int) (d3 : List Int) (d4 : List Bool) : Option (Int × (List (Int × Int × Bool × Bool)) × List Int × List Int × List Bool) :=
 Option.bind (α := Bool × (List (Int × Int × Bool × Bool)) × List Int × List Int × List Bool) (
 bif decide (s.2.1 < 0) then (
 some (true, d, d2, d3, d4))
 else (
 some (decide ((n.2.2.2.1.length : Int) ≤ s.2.1), d, d2, d3, d4))) fun s2 =>
 bif s2.1 then (
 some (8, s2.2.1, s2.2.2.1, s2.2.2.2.1, s2.2.2.2.2))
 else (
 Option.bind (α := Bool × (List (Int × Int × Bool × Bool)) × List Int × List Int × List Bool) (
 bif decide (s.1 = 3) then (
 (step_leaves (n.1, (n.2.1, (n.2.2.1, (n.2.2.2.1, (n.2.2.2.2.1, n.2.2.2.2.2))))) (s2.2.2.1, (s2.2.2.2.1, s2.2.2.2.2)) s.2.1).bind fun r =>
 some ((!r), s2.2.1, s2.2.2.1, s2.2.2.2.1, s2.2.2.2.2))
 else (
 some (false, s2.2.1, s2.2.2.1, s2.2.2.2.1, s2.2.2.2.2))) fun s3 =>
 bif s3.1 then (
 some (22, s3.2.1, s3.2.2.1, s3.2.2.2.1, s3.2.2.2.2))
 else (
 gd (inB s.2.1 s3.2.2.2.2.length) <|
 some (0, s3.2.1, s3.2.2.1, s3.2.2.2.1, s3.2.2.2.2.set s.2.1.toNat (decide (s.1 = 3)))))

noncomputable def fn_step_run : Fun :=
 ⟨102, 3, 1,
 ⟨[(0, .one (.data tT0)), (1, .one (.ptr 0 0)), (2, .one (.data tT2))], [(0, 40, [.own 1, .own 2, .own 3, .own 4])], [(1, .arr 54 tT1), (2, .arr 3 (.int .i64)), (3, .arr 3 (.int .i64)), (4, .arr 4 (.bool))]⟩,
 ⟨[(0, ii)], [(0, 40, [.own 1, .own 2, .own 3, .own 4])], [(1, .arr 54 tT1), (2, .arr 3 (.int .i64)), (3, .arr 3 (.int .i64)), (4, .arr 4 (.bool))]⟩,
 fun x => step_run x.1 x.2.1 x.2.2.1 x.2.2.2.1 x.2.2.2.2.1 x.2.2.2.2.2⟩
noncomputable def cx_step_run : Cx := ⟨types, [], [fn_step_leaves], 43, []⟩
theorem ok_step_run : FunOk Tryz.prog fn_step_run :=
 FunOk.intro (C := cx_step_run) (p := (nn (mm (mm (.mk [.join [⟨.n, ⟨[(1, .one (.ptr 0 0)), (3, .one (.ptr 64 0)), (5, .one (.ptr 96 0)), (17, bb)], [(0, 40, [.own 1, .own 2, .own 3, .own 4]), (64, 32, [.keep, .keep, .keep, .keep, .keep, .keep]), (96, 48, [.keep, .keep, .keep, .keep, .keep, .keep, .keep])], [(1, .arr 54 tT1), (2, .arr 3 (.int .i64)), (3, .arr 3 (.int .i64)), (4, .arr 4 (.bool))]⟩⟩]] none .nil .nil) .nil) (mm (mm (.mk [.join [⟨.n, ⟨[(1, .one (.ptr 0 0)), (5, .one (.ptr 96 0)), (31, bb)], [(0, 40, [.own 1, .own 2, .own 3, .own 4]), (96, 48, [.keep, .keep, .keep, .keep, .keep, .keep, .keep])], [(1, .arr 54 tT1), (2, .arr 3 (.int .i64)), (3, .arr 3 (.int .i64)), (4, .arr 4 (.bool))]⟩⟩]] none .nil .nil) .nil) .nil))))
  Tryz.func102 rfl (by kernel_rfl) rfl rfl rfl rfl types_ok ⟨⟨ok_step_leaves, trivial⟩, trivial⟩ mx (fun x => by kernel_rfl)

noncomputable def paths_valid_1 (i : Int) (v : List (List UInt8) × List yT0 × List (List UInt8 × Int × Int) × List (List UInt8 × Int × Int × Int × Int) × Int × Int) : Option (Bool) :=
 bif decide (0 ≤ i) then (
 some (decide (i < (v.2.2.1.length : Int))))
 else (
 some false)

noncomputable def fn_paths_valid_1 : Fun :=
 ⟨161, 2, 1,
 ⟨[(0, ii), (1, .one (.sel tT0))], [], []⟩,
 ⟨[(0, bb)], [], []⟩,
 fun x => paths_valid_1 x.1 x.2⟩
noncomputable def cx_paths_valid_1 : Cx := ⟨types, [], [], 13, []⟩
theorem ok_paths_valid_1 : FunOk Tryz.prog fn_paths_valid_1 :=
 FunOk.intro (C := cx_paths_valid_1) (p := .nil)
  Tryz.func161 rfl (by kernel_rfl) rfl rfl rfl rfl types_ok ⟨trivial, trivial⟩ mx (fun x => by kernel_rfl)

noncomputable def paths_ends (n : List (List UInt8) × List yT0 × List (List UInt8 × Int × Int) × List (List UInt8 × Int × Int × Int × Int) × Int × Int) (h : Int × Bool) : Option (Int × Int) :=
 gd (inB h.1 n.2.1.length) <|
 bif h.2 then (
 some ((((n.2.1.getD h.1.toNat ([], (0, (0, (0, (0, (0, []))))))).2).2).1, ((n.2.1.getD h.1.toNat ([], (0, (0, (0, (0, (0, []))))))).2).1))
 else (
 some (((n.2.1.getD h.1.toNat ([], (0, (0, (0, (0, (0, []))))))).2).1, (((n.2.1.getD h.1.toNat ([], (0, (0, (0, (0, (0, []))))))).2).2).1))

noncomputable def fn_paths_ends : Fun :=
 ⟨162, 2, 2,
 ⟨[(0, .one (.data tT0)), (1, .one (.data (.pair (.int .i64) (.bool))))], [], []⟩,
 ⟨[(0, ii), (1, ii)], [], []⟩,
 fun x => paths_ends x.1 x.2⟩
noncomputable def cx_paths_ends : Cx := ⟨types, [], [], 23, []⟩
theorem ok_paths_ends : FunOk Tryz.prog fn_paths_ends :=
 FunOk.intro (C := cx_paths_ends) (p := .nil)
  Tryz.func162 rfl (by kernel_rfl) rfl rfl rfl rfl types_ok ⟨trivial, trivial⟩ mx (fun x => by kernel_rfl)

noncomputable def slices_Index_int_int_L0 (s : List Int) (v : Int) (v2 : Int) : Option (Int ⊕ (Unit ⊕ Int)) :=
 bif decide (v2 < (s.length : Int)) then (
 gd (inB v2 s.length) <|
 bif decide (v = s.getD v2.toNat 0) then (
 some (.inr (.inr v2)))
 else (
 some (.inl (wi64 (v2 + 1)))))
 else (
 some (.inr (.inl ())))

noncomputable def slices_Index_int_int (s : List Int) (v : Int) : Option (Int) :=
 (iter (fun x => slices_Index_int_int_L0 s v x) 0).bind fun s2 =>
 s2.elim (fun s3 =>
 some (-1))
 (fun s4 =>
 some s4)

noncomputable def fn_slices_Index_int_int : Fun :=
 ⟨166, 2, 1,
 ⟨[(0, .one (.data (.sl (.int .i64)))), (1, ii)], [], []⟩,
 ⟨[(0, ii)], [], []⟩,
 fun x => slices_Index_int_int x.1 x.2⟩
noncomputable def cx_slices_Index_int_int : Cx := ⟨types, [], [], 19, []⟩
theorem ok_slices_Index_int_int : FunOk Tryz.prog fn_slices_Index_int_int :=
 FunOk.intro (C := cx_slices_Index_int_int) (p := (nn (mm (nn (mm (.mk [] (some (⟨[(0, kk), (1, kk), (7, kk), (8, ii)], [], []⟩, [⟨.x 0, ⟨[], [], []⟩⟩, ⟨.r, ⟨[(4, ii)], [], []⟩⟩])) .nil .nil) .nil)) .nil)))
  Tryz.func166 rfl (by kernel_rfl) rfl rfl rfl rfl types_ok ⟨trivial, trivial⟩ mx (fun x => by kernel_rfl)

noncomputable def slices_Contains_int_int (s : List Int) (v : Int) : Option (Bool) :=
 (slices_Index_int_int s v).bind fun r =>
 some (decide (0 ≤ r))

noncomputable def fn_slices_Contains_int_int : Fun :=
 ⟨163, 2, 1,
 ⟨[(0, .one (.data (.sl (.int .i64)))), (1, ii)], [], []⟩,
 ⟨[(0, bb)], [], []⟩,
 fun x => slices_Contains_int_int x.1 x.2⟩
noncomputable def cx_slices_Contains_int_int : Cx := ⟨types, [], [fn_slices_Index_int_int], 9, []⟩
theorem ok_slices_Contains_int_int : FunOk Tryz.prog fn_slices_Contains_int_int :=
 FunOk.intro (C := cx_slices_Contains_int_int) (p := .nil)
  Tryz.func163 rfl (by kernel_rfl) rfl rfl rfl rfl types_ok ⟨⟨ok_slices_Index_int_int, trivial⟩, trivial⟩ mx (fun x => by kernel_rfl)

noncomputable def paths_valid_L0 (n : List (List UInt8) × List yT0 × List (List UInt8 × Int × Int) × List (List UInt8 × Int × Int × Int × Int) × Int × Int) (p : Int × Int × List (Int × Bool) × Int) (vat : Int) (v : Int) (passed : List Int) : Option ((Int × Int × List Int) ⊕ (Int ⊕ Bool)) :=
 bif decide (v < (p.2.2.1.length : Int)) then (
 gd (inB v p.2.2.1.length) <|
 Option.bind (α := Bool × List Int) (
 bif decide ((p.2.2.1.getD v.toNat (0, false)).1 < 0) then (
 some (true, passed))
 else (
 some (decide ((n.2.1.length : Int) ≤ (p.2.2.1.getD v.toNat (0, false)).1), passed))) fun s2 =>
 bif s2.1 then (
 some (.inr (.inr false)))
 else (
 (paths_ends (n.1, (n.2.1, (n.2.2.1, (n.2.2.2.1, (n.2.2.2.2.1, n.2.2.2.2.2))))) ((p.2.2.1.getD v.toNat (0, false)).1, (p.2.2.1.getD v.toNat (0, false)).2)).bind fun r3 =>
 Option.bind (α := Bool × List Int) (
 bif !decide (r3.1 = vat) then (
 some (true, s2.2))
 else (
 (slices_Contains_int_int s2.2 r3.2).bind fun r4 =>
 some (r4, s2.2))) fun s3 =>
 bif s3.1 then (
 some (.inr (.inr false)))
 else (
 gd (fits (s3.2.length + 1) 8) <|
 some (.inl (r3.2, wi64 (v + 1), s3.2 ++ [r3.2])))))
 else (
 some (.inr (.inl vat)))

noncomputable def paths_valid (n : List (List UInt8) × List yT0 × List (List UInt8 × Int × Int) × List (List UInt8 × Int × Int × Int × Int) × Int × Int) (p : Int × Int × List (Int × Bool) × Int) : Option (Bool) :=
 Option.bind (α := Bool) (
 (paths_valid_1 p.1 (n.1, (n.2.1, (n.2.2.1, (n.2.2.2.1, (n.2.2.2.2.1, n.2.2.2.2.2)))))).bind fun r =>
 bif !r then (
 some true)
 else (
 (paths_valid_1 p.2.1 (n.1, (n.2.1, (n.2.2.1, (n.2.2.2.1, (n.2.2.2.2.1, n.2.2.2.2.2)))))).bind fun r2 =>
 bif !r2 then (
 some true)
 else (
 bif decide (p.1 = p.2.1) then (
 some true)
 else (
 bif decide (p.2.2.2 < 1) then (
 some true)
 else (
 bif decide (1000 < p.2.2.2) then (
 some true)
 else (
 some (decide (32 < (p.2.2.1.length : Int))))))))) fun s =>
 bif s then (
 some false)
 else (
 gd (inB p.1 n.2.2.1.length) <|
 (iter (fun x => paths_valid_L0 n p x.1 x.2.1 x.2.2) (((n.2.2.1.getD p.1.toNat ([], (0, 0))).2).1, 0, [((n.2.2.1.getD p.1.toNat ([], (0, 0))).2).1])).bind fun s4 =>
 s4.elim (fun s5 =>
 gd (inB p.2.1 n.2.2.1.length) <|
 some (decide (s5 = ((n.2.2.1.getD p.2.1.toNat ([], (0, 0))).2).1)))
 (fun s6 =>
 some s6))

noncomputable def fn_paths_valid : Fun :=
 ⟨154, 2, 1,
 ⟨[(0, .one (.data tT0)), (1, .one (.data (.pair (.int .i64) (.pair (.int .i64) (.pair (.sl (.pair (.int .i64) (.bool))) (.int .i64))))))], [], []⟩,
 ⟨[(0, bb)], [], []⟩,
 fun x => paths_valid x.1 x.2⟩
noncomputable def cx_paths_valid : Cx := ⟨types, [56], [fn_paths_valid_1, fn_paths_ends, fn_slices_Contains_int_int], 104, []⟩
theorem ok_paths_valid : FunOk Tryz.prog fn_paths_valid :=
 FunOk.intro (C := cx_paths_valid) (p := (nn (mm (.mk [.fv [(2, .pair (.sl (.str)) (.pair (.sl (.pair (.str) tT3)) (.pair (.sl (.pair (.str) (.pair (.int .i64) (.int .i64)))) (.pair (.sl (.pair (.str) (.pair (.int .i64) (.pair (.int .i64) (.pair (.int .i64) (.int .i64)))))) (.pair (.int .i64) (.int .i64))))))]] none .nil .nil) (mm (mm (.mk [.join [⟨.n, ⟨[(2, kk), (3, .one (.ptr 64 0)), (47, bb)], [(64, 46, [.keep, .keep, .keep, .keep])], []⟩⟩]] none .nil .nil) .nil) (nn (nn (mm (nn (mm (.mk [] (some (⟨[(2, kk), (3, .one (.ptr 64 0)), (6, ii), (7, .one (.own 139)), (58, kk), (59, kk), (60, ii)], [(64, 46, [.keep, .keep, .keep, .keep])], [(139, .arr 3 (.int .i64))]⟩, [⟨.x 0, ⟨[(2, kk), (3, .one (.ptr 64 0)), (6, ii)], [(64, 46, [.keep, .keep, .keep, .keep])], []⟩⟩, ⟨.r, ⟨[(4, bb)], [], []⟩⟩])) (nn (nn (mm (mm (nn (mm (mm (.mk [.join [⟨.n, ⟨[(2, kk), (3, .one (.ptr 64 0)), (6, kk), (7, .one (.own 139)), (9, .one (.ptr 160 0)), (58, kk), (59, kk), (60, kk), (74, bb)], [(64, 46, [.keep, .keep, .keep, .keep]), (160, 78, [.keep, .keep])], [(139, .arr 3 (.int .i64))]⟩⟩]] none .nil .nil) .nil) (nn (mm (mm (.mk [.join [⟨.n, ⟨[(2, kk), (3, .one (.ptr 64 0)), (7, .one (.own 139)), (11, kk), (58, kk), (59, kk), (60, kk), (88, bb)], [(64, 46, [.keep, .keep, .keep, .keep])], [(139, .arr 3 (.int .i64))]⟩⟩]] none .nil .nil) .nil) .nil)))) .nil) .nil))) .nil) .nil)) .nil)))))))
  Tryz.func154 rfl (by kernel_rfl) rfl rfl rfl rfl types_ok ⟨⟨ok_paths_valid_1, ok_paths_ends, ok_slices_Contains_int_int, trivial⟩, trivial⟩ mx (fun x => by kernel_rfl)

noncomputable def paths_Valid (n : List (List UInt8) × List yT0 × List (List UInt8 × Int × Int) × List (List UInt8 × Int × Int × Int × Int) × Int × Int) (p : Int × Int × List (Int × Bool) × Int) : Option (Bool) :=
 (network_Check (n.1, (n.2.1, (n.2.2.1, (n.2.2.2.1, (n.2.2.2.2.1, n.2.2.2.2.2)))))).bind fun r =>
 bif decide (r = 0) then (
 (paths_valid (n.1, (n.2.1, (n.2.2.1, (n.2.2.2.1, (n.2.2.2.2.1, n.2.2.2.2.2))))) (p.1, (p.2.1, (p.2.2.1, p.2.2.2)))).bind fun r2 =>
 some r2)
 else (
 some false)

noncomputable def fn_paths_Valid : Fun :=
 ⟨143, 2, 1,
 ⟨[(0, .one (.data tT0)), (1, .one (.data (.pair (.int .i64) (.pair (.int .i64) (.pair (.sl (.pair (.int .i64) (.bool))) (.int .i64))))))], [], []⟩,
 ⟨[(0, bb)], [], []⟩,
 fun x => paths_Valid x.1 x.2⟩
noncomputable def cx_paths_Valid : Cx := ⟨types, [], [fn_network_Check, fn_paths_valid], 13, []⟩
theorem ok_paths_Valid : FunOk Tryz.prog fn_paths_Valid :=
 FunOk.intro (C := cx_paths_Valid) (p := .nil)
  Tryz.func143 rfl (by kernel_rfl) rfl rfl rfl rfl types_ok ⟨⟨ok_network_Check, ok_paths_valid, trivial⟩, trivial⟩ mx (fun x => by kernel_rfl)

noncomputable def step_grows_1 (i : Int) (v : List (Int × Int × Bool × Bool) × List Int × List Int × List Bool) : Option (Bool) :=
 gd (inB i v.1.length) <|
 (step_ready (v.1.getD i.toNat (0, (0, (false, false))))).bind fun r =>
 some r

noncomputable def fn_step_grows_1 : Fun :=
 ⟨155, 2, 1,
 ⟨[(0, ii), (1, .one (.sel (.pair (.sl tT1) tT4)))], [], []⟩,
 ⟨[(0, bb)], [], []⟩,
 fun x => step_grows_1 x.1 x.2⟩
noncomputable def cx_step_grows_1 : Cx := ⟨types, [], [fn_step_ready], 10, []⟩
theorem ok_step_grows_1 : FunOk Tryz.prog fn_step_grows_1 :=
 FunOk.intro (C := cx_step_grows_1) (p := .nil)
  Tryz.func155 rfl (by kernel_rfl) rfl rfl rfl rfl types_ok ⟨⟨ok_step_ready, trivial⟩, trivial⟩ mx (fun x => by kernel_rfl)

noncomputable def step_along (p : List Int × List Int × List Bool) (h : Int × Bool) : Option (Int) :=
 bif h.2 then (
 gd (inB h.1 p.1.length) <|
 some (wi64 (0 - (p.1.getD h.1.toNat 0))))
 else (
 gd (inB h.1 p.1.length) <|
 some (p.1.getD h.1.toNat 0))

noncomputable def fn_step_along : Fun :=
 ⟨158, 2, 1,
 ⟨[(0, .one (.data tT4)), (1, .one (.data (.pair (.int .i64) (.bool))))], [], []⟩,
 ⟨[(0, ii)], [], []⟩,
 fun x => step_along x.1 x.2⟩
noncomputable def cx_step_along : Cx := ⟨types, [], [], 20, []⟩
theorem ok_step_along : FunOk Tryz.prog fn_step_along :=
 FunOk.intro (C := cx_step_along) (p := .nil)
  Tryz.func158 rfl (by kernel_rfl) rfl rfl rfl rfl types_ok ⟨trivial, trivial⟩ mx (fun x => by kernel_rfl)

noncomputable def step_grows_2 (h : Int × Bool) (v : List (Int × Int × Bool × Bool) × List Int × List Int × List Bool) (v2 : List (Int × Int × Bool × Bool) × List Int × List Int × List Bool) (v3 : Int) : Option (Bool) :=
 (step_along v.2 (h.1, h.2)).bind fun r =>
 (step_grows_1 h.1 v2).bind fun r2 =>
 bif !r2 then (
 some true)
 else (
 bif decide (r < 0) then (
 some true)
 else (
 some (decide (wi64 (r + v3) < 0))))

noncomputable def fn_step_grows_2 : Fun :=
 ⟨157, 4, 1,
 ⟨[(0, .one (.data (.pair (.int .i64) (.bool)))), (1, .one (.sel (.pair (.sl tT1) tT4))), (2, .one (.sel (.clo 155 (.pair (.sl tT1) tT4)))), (3, .one (.sel (.int .i64)))], [], []⟩,
 ⟨[(0, bb)], [], []⟩,
 fun x => step_grows_2 x.1 x.2.1 x.2.2.1 x.2.2.2⟩
noncomputable def cx_step_grows_2 : Cx := ⟨types, [], [fn_step_along, fn_step_grows_1], 26, []⟩
theorem ok_step_grows_2 : FunOk Tryz.prog fn_step_grows_2 :=
 FunOk.intro (C := cx_step_grows_2) (p := .nil)
  Tryz.func157 rfl (by kernel_rfl) rfl rfl rfl rfl types_ok ⟨⟨ok_step_along, ok_step_grows_1, trivial⟩, trivial⟩ mx (fun x => by kernel_rfl)

noncomputable def slices_IndexFunc_api_Hop_api_Hop_L0 (s : List (Int × Bool)) (f : (Int × Bool) × Unit → Option Bool) (v : Int) : Option (Int ⊕ (Unit ⊕ Int)) :=
 bif decide (v < (s.length : Int)) then (
 gd (inB v s.length) <|
 (f (s.getD v.toNat (0, false), ())).bind fun r =>
 bif r then (
 some (.inr (.inr v)))
 else (
 some (.inl (wi64 (v + 1)))))
 else (
 some (.inr (.inl ())))

noncomputable def slices_IndexFunc_api_Hop_api_Hop (s : List (Int × Bool)) (f : (Int × Bool) × Unit → Option Bool) : Option (Int) :=
 (iter (fun x => slices_IndexFunc_api_Hop_api_Hop_L0 s f x) 0).bind fun s2 =>
 s2.elim (fun s3 =>
 some (-1))
 (fun s4 =>
 some s4)

noncomputable def fn_slices_IndexFunc_api_Hop_api_Hop : Fun :=
 ⟨164, 2, 1,
 ⟨[(0, .one (.data (.sl (.pair (.int .i64) (.bool))))), (1, .one (.fn [.pair (.int .i64) (.bool)] (.bool)))], [], []⟩,
 ⟨[(0, ii)], [], []⟩,
 fun x => slices_IndexFunc_api_Hop_api_Hop x.1 x.2⟩
noncomputable def cx_slices_IndexFunc_api_Hop_api_Hop : Cx := ⟨types, [], [], 19, []⟩
theorem ok_slices_IndexFunc_api_Hop_api_Hop : FunOk Tryz.prog fn_slices_IndexFunc_api_Hop_api_Hop :=
 FunOk.intro (C := cx_slices_IndexFunc_api_Hop_api_Hop) (p := (nn (mm (nn (mm (.mk [] (some (⟨[(0, kk), (1, kk), (7, kk), (8, ii)], [], []⟩, [⟨.x 0, ⟨[], [], []⟩⟩, ⟨.r, ⟨[(4, ii)], [], []⟩⟩])) .nil .nil) .nil)) .nil)))
  Tryz.func164 rfl (by kernel_rfl) rfl rfl rfl rfl types_ok ⟨trivial, trivial⟩ mx (fun x => by kernel_rfl)

noncomputable def slices_ContainsFunc_api_Hop_api_Hop (s : List (Int × Bool)) (f : (Int × Bool) × Unit → Option Bool) : Option (Bool) :=
 (slices_IndexFunc_api_Hop_api_Hop s f).bind fun r =>
 some (decide (0 ≤ r))

noncomputable def fn_slices_ContainsFunc_api_Hop_api_Hop : Fun :=
 ⟨156, 2, 1,
 ⟨[(0, .one (.data (.sl (.pair (.int .i64) (.bool))))), (1, .one (.fn [.pair (.int .i64) (.bool)] (.bool)))], [], []⟩,
 ⟨[(0, bb)], [], []⟩,
 fun x => slices_ContainsFunc_api_Hop_api_Hop x.1 x.2⟩
noncomputable def cx_slices_ContainsFunc_api_Hop_api_Hop : Cx := ⟨types, [], [fn_slices_IndexFunc_api_Hop_api_Hop], 9, []⟩
theorem ok_slices_ContainsFunc_api_Hop_api_Hop : FunOk Tryz.prog fn_slices_ContainsFunc_api_Hop_api_Hop :=
 FunOk.intro (C := cx_slices_ContainsFunc_api_Hop_api_Hop) (p := .nil)
  Tryz.func156 rfl (by kernel_rfl) rfl rfl rfl rfl types_ok ⟨⟨ok_slices_IndexFunc_api_Hop_api_Hop, trivial⟩, trivial⟩ mx (fun x => by kernel_rfl)

noncomputable def step_grows (n : List (List UInt8) × List yT0 × List (List UInt8 × Int × Int) × List (List UInt8 × Int × Int × Int × Int) × Int × Int) (d : List (Int × Int × Bool × Bool) × List Int × List Int × List Bool) (x : Int × Int × List (Int × Bool) × Int) (vby : Int) : Option (Bool) :=
 gd (inB x.1 d.2.2.1.length) <|
 gd (inB x.2.1 d.2.2.1.length) <|
 Option.bind (α := Bool × List (Int × Int × Bool × Bool) × List Int × List Int × List Bool) (
 (step_grows_1 (wi64 ((n.2.1.length : Int) + x.1)) (d.1, (d.2.1, (d.2.2.1, d.2.2.2)))).bind fun r =>
 bif !r then (
 some (true, (d.1, (d.2.1, (d.2.2.1, d.2.2.2)))))
 else (
 (step_grows_1 (wi64 ((n.2.1.length : Int) + x.2.1)) (d.1, (d.2.1, (d.2.2.1, d.2.2.2)))).bind fun r2 =>
 bif !r2 then (
 some (true, (d.1, (d.2.1, (d.2.2.1, d.2.2.2)))))
 else (
 bif decide (d.2.2.1.getD x.1.toNat 0 < 0) then (
 some (true, (d.1, (d.2.1, (d.2.2.1, d.2.2.2)))))
 else (
 bif decide (wi64 (0 - (d.2.2.1.getD x.2.1.toNat 0)) < 0) then (
 some (true, (d.1, (d.2.1, (d.2.2.1, d.2.2.2)))))
 else (
 bif decide (wi64 ((d.2.2.1.getD x.1.toNat 0) + vby) < 0) then (
 some (true, (d.1, (d.2.1, (d.2.2.1, d.2.2.2)))))
 else (
 some (decide (wi64 ((wi64 (0 - (d.2.2.1.getD x.2.1.toNat 0))) + vby) < 0), (d.1, (d.2.1, (d.2.2.1, d.2.2.2)))))))))) fun s =>
 bif s.1 then (
 some false)
 else (
 (slices_ContainsFunc_api_Hop_api_Hop x.2.2.1 (fun h => (step_grows_2 h.1 (d.1, (d.2.1, (d.2.2.1, d.2.2.2))) s.2 vby).bind fun y => some y)).bind fun r3 =>
 some (!r3))

noncomputable def fn_step_grows : Fun :=
 ⟨144, 4, 1,
 ⟨[(0, .one (.data tT0)), (1, .one (.data (.pair (.sl tT1) tT4))), (2, .one (.data (.pair (.int .i64) (.pair (.int .i64) (.pair (.sl (.pair (.int .i64) (.bool))) (.int .i64)))))), (3, ii)], [], []⟩,
 ⟨[(0, bb)], [], []⟩,
 fun x => step_grows x.1 x.2.1 x.2.2.1 x.2.2.2⟩
noncomputable def cx_step_grows : Cx := ⟨types, [], [fn_step_grows_1, fn_slices_ContainsFunc_api_Hop_api_Hop, fn_step_grows_2], 73, []⟩
theorem ok_step_grows : FunOk Tryz.prog fn_step_grows :=
 FunOk.intro (C := cx_step_grows) (p := (nn (mm (.mk [.fv [(5, .pair (.sl tT1) tT4)]] none .nil .nil) (nn (nn (mm (mm (.mk [.join [⟨.n, ⟨[(5, kk), (6, .one (.ptr 112 0)), (7, .one (.ptr 128 0)), (9, .one (.ptr 160 0)), (67, bb)], [(112, 46, [.keep, .keep, .keep, .keep]), (128, 3, [.keep]), (160, 145, [.data (.clo 155 (.pair (.sl tT1) tT4))])], []⟩⟩]] none .nil .nil) .nil) (mm (.mk [.fv [(9, .clo 155 (.pair (.sl tT1) tT4)), (7, .int .i64)]] none .nil .nil) .nil)))))))
  Tryz.func144 rfl (by kernel_rfl) rfl rfl rfl rfl types_ok ⟨⟨ok_step_grows_1, ok_slices_ContainsFunc_api_Hop_api_Hop, ok_step_grows_2, trivial⟩, trivial⟩ mx (fun x => by kernel_rfl)

noncomputable def paths_signed (h : Int × Bool) (rate : Int) : Option (Int) :=
 bif h.2 then (
 some (wi64 (0 - rate)))
 else (
 some rate)

noncomputable def fn_paths_signed : Fun :=
 ⟨159, 2, 1,
 ⟨[(0, .one (.data (.pair (.int .i64) (.bool)))), (1, ii)], [], []⟩,
 ⟨[(0, ii)], [], []⟩,
 fun x => paths_signed x.1 x.2⟩
noncomputable def cx_paths_signed : Cx := ⟨types, [], [], 10, []⟩
theorem ok_paths_signed : FunOk Tryz.prog fn_paths_signed :=
 FunOk.intro (C := cx_paths_signed) (p := .nil)
  Tryz.func159 rfl (by kernel_rfl) rfl rfl rfl rfl types_ok ⟨trivial, trivial⟩ mx (fun x => by kernel_rfl)

noncomputable def paths_Grow_L0 (x : Int × Int × List (Int × Bool) × Int) (rate : Int) (v : Int) (p5 : List (Int × Int × Bool × Bool)) (p6 : List Int) (p7 : List Int) (p8 : List Bool) : Option ((Int × (List (Int × Int × Bool × Bool)) × List Int × List Int × List Bool) ⊕ ((List (Int × Int × Bool × Bool)) × List Int × List Int × List Bool)) :=
 bif decide (v < (x.2.2.1.length : Int)) then (
 gd (inB v x.2.2.1.length) <|
 gd (inB ((x.2.2.1.getD v.toNat (0, false)).1) p6.length) <|
 (paths_signed ((x.2.2.1.getD v.toNat (0, false)).1, (x.2.2.1.getD v.toNat (0, false)).2) rate).bind fun r =>
 gd (inB ((x.2.2.1.getD v.toNat (0, false)).1) p6.length) <|
 some (.inl (wi64 (v + 1), p5, p6.set (((x.2.2.1.getD v.toNat (0, false)).1).toNat) (wi64 ((p6.getD (((x.2.2.1.getD v.toNat (0, false)).1).toNat) 0) + r)), p7, p8)))
 else (
 some (.inr (p5, p6, p7, p8)))

noncomputable def paths_Grow (x : Int × Int × List (Int × Bool) × Int) (rate : Int) (p : List (Int × Int × Bool × Bool)) (p2 : List Int) (p3 : List Int) (p4 : List Bool) : Option ((List (Int × Int × Bool × Bool)) × List Int × List Int × List Bool) :=
 gd (inB x.1 p3.length) <|
 gd (inB x.1 p3.length) <|
 gd (inB x.2.1 (p3.set x.1.toNat (wi64 ((p3.getD x.1.toNat 0) + rate))).length) <|
 gd (inB x.2.1 (p3.set x.1.toNat (wi64 ((p3.getD x.1.toNat 0) + rate))).length) <|
 (iter (fun x2 => paths_Grow_L0 x rate x2.1 x2.2.1 x2.2.2.1 x2.2.2.2.1 x2.2.2.2.2) (0, p, p2, (p3.set x.1.toNat (wi64 ((p3.getD x.1.toNat 0) + rate))).set x.2.1.toNat (wi64 (((p3.set x.1.toNat (wi64 ((p3.getD x.1.toNat 0) + rate))).getD x.2.1.toNat 0) - rate)), p4)).bind fun s =>
 some (s.1, s.2.1, s.2.2.1, s.2.2.2)

noncomputable def fn_paths_Grow : Fun :=
 ⟨145, 3, 0,
 ⟨[(0, .one (.ptr 0 1)), (1, .one (.data (.pair (.int .i64) (.pair (.int .i64) (.pair (.sl (.pair (.int .i64) (.bool))) (.int .i64)))))), (2, ii)], [(0, 40, [.own 1, .own 2, .own 3, .own 4])], [(1, .arr 54 tT1), (2, .arr 3 (.int .i64)), (3, .arr 3 (.int .i64)), (4, .arr 4 (.bool))]⟩,
 ⟨[], [(0, 40, [.own 1, .own 2, .own 3, .own 4])], [(1, .arr 54 tT1), (2, .arr 3 (.int .i64)), (3, .arr 3 (.int .i64)), (4, .arr 4 (.bool))]⟩,
 fun x => paths_Grow x.1 x.2.1 x.2.2.1 x.2.2.2.1 x.2.2.2.2.1 x.2.2.2.2.2⟩
noncomputable def cx_paths_Grow : Cx := ⟨types, [], [fn_paths_signed], 51, []⟩
theorem ok_paths_Grow : FunOk Tryz.prog fn_paths_Grow :=
 FunOk.intro (C := cx_paths_Grow) (p := (nn (nn (nn (nn (mm (.mk [] (some (⟨[(0, .one (.ptr 0 1)), (2, kk), (31, kk), (32, kk), (33, ii)], [(0, 40, [.own 1, .own 2, .own 3, .own 4])], [(1, .arr 54 tT1), (2, .arr 3 (.int .i64)), (3, .arr 3 (.int .i64)), (4, .arr 4 (.bool))]⟩, [⟨.x 0, ⟨[], [(0, 40, [.own 1, .own 2, .own 3, .own 4])], [(1, .arr 54 tT1), (2, .arr 3 (.int .i64)), (3, .arr 3 (.int .i64)), (4, .arr 4 (.bool))]⟩⟩])) .nil .nil) .nil))))))
  Tryz.func145 rfl (by kernel_rfl) rfl rfl rfl rfl types_ok ⟨⟨ok_paths_signed, trivial⟩, trivial⟩ mx (fun x => by kernel_rfl)

noncomputable def step_change (n : List (List UInt8) × List yT0 × List (List UInt8 × Int × Int) × List (List UInt8 × Int × Int × Int × Int) × Int × Int) (s : Int × Int × Int × Int × Int × List (Int × Bool) × Int) (d : List (Int × Int × Bool × Bool)) (d2 : List Int) (d3 : List Int) (d4 : List Bool) : Option (Int × (List (Int × Int × Bool × Bool)) × List Int × List Int × List Bool) :=
 Option.bind (α := Bool × (List (Int × Int × Bool × Bool)) × List Int × List Int × List Bool) (
 bif decide (s.2.2.1 < (-1000)) then (
 some (true, d, d2, d3, d4))
 else (
 some (decide (1000 < s.2.2.1), d, d2, d3, d4))) fun s2 =>
 bif s2.1 then (
 some (23, s2.2.1, s2.2.2.1, s2.2.2.2.1, s2.2.2.2.2))
 else (
 (paths_Valid (n.1, (n.2.1, (n.2.2.1, (n.2.2.2.1, (n.2.2.2.2.1, n.2.2.2.2.2))))) (s.2.2.2.1, (s.2.2.2.2.1, (s.2.2.2.2.2.1, max s.2.2.1 (wi64 (0 - s.2.2.1)))))).bind fun r =>
 bif !r then (
 some (23, s2.2.1, s2.2.2.1, s2.2.2.2.1, s2.2.2.2.2))
 else (
 (step_grows (n.1, (n.2.1, (n.2.2.1, (n.2.2.2.1, (n.2.2.2.2.1, n.2.2.2.2.2))))) (s2.2.1, (s2.2.2.1, (s2.2.2.2.1, s2.2.2.2.2))) (s.2.2.2.1, (s.2.2.2.2.1, (s.2.2.2.2.2.1, max s.2.2.1 (wi64 (0 - s.2.2.1))))) s.2.2.1).bind fun r2 =>
 bif !r2 then (
 some (22, s2.2.1, s2.2.2.1, s2.2.2.2.1, s2.2.2.2.2))
 else (
 (paths_Grow (s.2.2.2.1, (s.2.2.2.2.1, (s.2.2.2.2.2.1, max s.2.2.1 (wi64 (0 - s.2.2.1))))) s.2.2.1 s2.2.1 s2.2.2.1 s2.2.2.2.1 s2.2.2.2.2).bind fun r3 =>
 (flow_Check (n.1, (n.2.1, (n.2.2.1, (n.2.2.2.1, (n.2.2.2.2.1, n.2.2.2.2.2))))) (r3.2.1, (r3.2.2.1, r3.2.2.2))).bind fun r4 =>
 bif !decide (r4 = 0) then (
 some (r4, r3.1, r3.2.1, r3.2.2.1, r3.2.2.2))
 else (
 (step_idles (n.1, (n.2.1, (n.2.2.1, (n.2.2.2.1, (n.2.2.2.2.1, n.2.2.2.2.2))))) (r3.2.1, (r3.2.2.1, r3.2.2.2))).bind fun r5 =>
 bif r5 then (
 some (22, r3.1, r3.2.1, r3.2.2.1, r3.2.2.2))
 else (
 some (0, r3.1, r3.2.1, r3.2.2.1, r3.2.2.2))))))

noncomputable def fn_step_change : Fun :=
 ⟨103, 3, 1,
 ⟨[(0, .one (.data tT0)), (1, .one (.ptr 0 0)), (2, .one (.data tT2))], [(0, 40, [.own 1, .own 2, .own 3, .own 4])], [(1, .arr 54 tT1), (2, .arr 3 (.int .i64)), (3, .arr 3 (.int .i64)), (4, .arr 4 (.bool))]⟩,
 ⟨[(0, ii)], [(0, 40, [.own 1, .own 2, .own 3, .own 4])], [(1, .arr 54 tT1), (2, .arr 3 (.int .i64)), (3, .arr 3 (.int .i64)), (4, .arr 4 (.bool))]⟩,
 fun x => step_change x.1 x.2.1 x.2.2.1 x.2.2.2.1 x.2.2.2.2.1 x.2.2.2.2.2⟩
noncomputable def cx_step_change : Cx := ⟨types, [], [fn_paths_Valid, fn_step_grows, fn_paths_Grow, fn_flow_Check, fn_step_idles], 61, []⟩
theorem ok_step_change : FunOk Tryz.prog fn_step_change :=
 FunOk.intro (C := cx_step_change) (p := (nn (nn (mm (mm (.mk [.join [⟨.n, ⟨[(1, .one (.ptr 0 0)), (3, .one (.ptr 64 0)), (5, .one (.ptr 96 0)), (7, .one (.ptr 128 0)), (18, bb)], [(0, 40, [.own 1, .own 2, .own 3, .own 4]), (64, 32, [.keep, .keep, .keep, .keep, .keep, .keep]), (96, 48, [.keep, .keep, .keep, .keep, .keep, .keep, .keep]), (128, 46, [.keep, .keep, .keep, .keep])], [(1, .arr 54 tT1), (2, .arr 3 (.int .i64)), (3, .arr 3 (.int .i64)), (4, .arr 4 (.bool))]⟩⟩]] none .nil .nil) .nil) .nil))))
  Tryz.func103 rfl (by kernel_rfl) rfl rfl rfl rfl types_ok ⟨⟨ok_paths_Valid, ok_step_grows, ok_paths_Grow, ok_flow_Check, ok_step_idles, trivial⟩, trivial⟩ mx (fun x => by kernel_rfl)

noncomputable def valve_goal (v : Int × Int × Bool × Bool) : Option (Int) :=
 bif v.2.2.1 then (
 some v.1)
 else (
 some 0)

noncomputable def fn_valve_goal : Fun :=
 ⟨165, 1, 1,
 ⟨[(0, .one (.data tT1))], [], []⟩,
 ⟨[(0, ii)], [], []⟩,
 fun x => valve_goal x⟩
noncomputable def cx_valve_goal : Cx := ⟨types, [], [], 7, []⟩
theorem ok_valve_goal : FunOk Tryz.prog fn_valve_goal :=
 FunOk.intro (C := cx_valve_goal) (p := .nil)
  Tryz.func165 rfl (by kernel_rfl) rfl rfl rfl rfl types_ok ⟨trivial, trivial⟩ mx (fun x => by kernel_rfl)

noncomputable def valve_moved (v : Int × Int × Bool × Bool) (ticks : Int) : Option (Int × Int × Bool × Bool) :=
 (valve_goal (v.1, (v.2.1, (v.2.2.1, v.2.2.2)))).bind fun r =>
 Option.bind (α := Int) (
 bif v.2.2.2 then (
 some v.2.1)
 else (
 Option.bind (α := Int) (
 bif decide (v.2.1 < r) then (
 some (min r (wi64 (v.2.1 + ticks))))
 else (
 some (max r (wi64 (v.2.1 - ticks))))) fun s =>
 some s)) fun s2 =>
 bif decide (v.1 = v.1) && (decide (s2 = v.2.1) && ((v.2.2.1 == v.2.2.1) && (v.2.2.2 == v.2.2.2))) then (
 some (v.1, (v.2.1, (v.2.2.1, v.2.2.2))))
 else (
 some (v.1, (s2, (v.2.2.1, v.2.2.2))))

noncomputable def fn_valve_moved : Fun :=
 ⟨160, 2, 1,
 ⟨[(0, .one (.data tT1)), (1, ii)], [], []⟩,
 ⟨[(0, .one (.data tT1))], [], []⟩,
 fun x => valve_moved x.1 x.2⟩
noncomputable def cx_valve_moved : Cx := ⟨types, [], [fn_valve_goal], 37, []⟩
theorem ok_valve_moved : FunOk Tryz.prog fn_valve_moved :=
 FunOk.intro (C := cx_valve_moved) (p := (nn (nn (mm (nn (mm (nn (.mk [.join [⟨.n, ⟨[(2, .one (.ptr 48 0)), (4, .one (.ptr 80 0)), (5, .one (.ptr 96 0))], [(48, 54, [.keep, .data (.int .i64), .keep, .keep]), (80, 54, [.keep, .keep, .keep, .keep]), (96, 54, [.keep, .keep, .keep, .keep])], []⟩⟩]] none .nil (nn (.mk [.join [⟨.n, ⟨[(2, .one (.ptr 48 0)), (4, .one (.ptr 80 0)), (5, .one (.ptr 96 0))], [(48, 54, [.keep, .data (.int .i64), .keep, .keep]), (80, 54, [.keep, .keep, .keep, .keep]), (96, 54, [.keep, .keep, .keep, .keep])], []⟩⟩]] none .nil .nil)))) .nil)) .nil))))
  Tryz.func160 rfl (by kernel_rfl) rfl rfl rfl rfl types_ok ⟨⟨ok_valve_goal, trivial⟩, trivial⟩ mx (fun x => by kernel_rfl)

noncomputable def valve_Pass (v : Int × Int × Bool × Bool) (ticks : Int) : Option ((Int × Int × Bool × Bool) × Int) :=
 (valve_Valid (v.1, (v.2.1, (v.2.2.1, v.2.2.2)))).bind fun r =>
 bif !r then (
 some ((v.1, (v.2.1, (v.2.2.1, v.2.2.2))), 20))
 else (
 Option.bind (α := Bool) (
 bif decide (ticks < 0) then (
 some true)
 else (
 some (decide (400 < ticks)))) fun s =>
 bif s then (
 some ((v.1, (v.2.1, (v.2.2.1, v.2.2.2))), 1))
 else (
 (valve_moved (v.1, (v.2.1, (v.2.2.1, v.2.2.2))) ticks).bind fun r2 =>
 some ((r2.1, (r2.2.1, (r2.2.2.1, r2.2.2.2))), 0)))

noncomputable def fn_valve_Pass : Fun :=
 ⟨146, 2, 2,
 ⟨[(0, .one (.data tT1)), (1, ii)], [], []⟩,
 ⟨[(0, .one (.data tT1)), (1, ii)], [], []⟩,
 fun x => valve_Pass x.1 x.2⟩
noncomputable def cx_valve_Pass : Cx := ⟨types, [], [fn_valve_Valid, fn_valve_moved], 22, []⟩
theorem ok_valve_Pass : FunOk Tryz.prog fn_valve_Pass :=
 FunOk.intro (C := cx_valve_Pass) (p := (nn (mm (mm (nn (nn (mm (.mk [.join [⟨.n, ⟨[(1, kk), (2, .one (.ptr 48 0)), (4, .one (.ptr 80 0)), (11, bb)], [(48, 54, [.keep, .keep, .keep, .keep]), (80, 54, [.keep, .keep, .keep, .keep])], []⟩⟩]] none .nil .nil) .nil))) .nil) .nil)))
  Tryz.func146 rfl (by kernel_rfl) rfl rfl rfl rfl types_ok ⟨⟨ok_valve_Valid, ok_valve_moved, trivial⟩, trivial⟩ mx (fun x => by kernel_rfl)

noncomputable def step_wait_L0 (s : Int × Int × Int × Int × Int × List (Int × Bool) × Int) (s2 : Bool × (List (Int × Int × Bool × Bool)) × List Int × List Int × List Bool) (v2 : Int) (d5 : List (Int × Int × Bool × Bool)) (d6 : List Int) (d7 : List Int) (d8 : List Bool) : Option ((Int × (List (Int × Int × Bool × Bool)) × List Int × List Int × List Bool) ⊕ (((List (Int × Int × Bool × Bool)) × List Int × List Int × List Bool) ⊕ (Int × (List (Int × Int × Bool × Bool)) × List Int × List Int × List Bool))) :=
 bif decide (v2 < (s2.2.1.length : Int)) then (
 gd (inB v2 d5.length) <|
 (valve_Pass ((d5.getD v2.toNat (0, (0, (false, false)))).1, (((d5.getD v2.toNat (0, (0, (false, false)))).2).1, ((((d5.getD v2.toNat (0, (0, (false, false)))).2).2).1, (((d5.getD v2.toNat (0, (0, (false, false)))).2).2).2))) s.2.2.1).bind fun r =>
 bif !decide (r.2 = 0) then (
 some (.inr (.inr (r.2, d5, d6, d7, d8))))
 else (
 gd (inB v2 d5.length) <|
 some (.inl (wi64 (v2 + 1), d5.set v2.toNat (r.1.1, (r.1.2.1, (r.1.2.2.1, r.1.2.2.2))), d6, d7, d8))))
 else (
 some (.inr (.inl (d5, d6, d7, d8))))

noncomputable def step_wait (v : List (List UInt8) × List yT0 × List (List UInt8 × Int × Int) × List (List UInt8 × Int × Int × Int × Int) × Int × Int) (s : Int × Int × Int × Int × Int × List (Int × Bool) × Int) (d : List (Int × Int × Bool × Bool)) (d2 : List Int) (d3 : List Int) (d4 : List Bool) : Option (Int × (List (Int × Int × Bool × Bool)) × List Int × List Int × List Bool) :=
 Option.bind (α := Bool × (List (Int × Int × Bool × Bool)) × List Int × List Int × List Bool) (
 bif decide (s.2.2.1 < 1) then (
 some (true, d, d2, d3, d4))
 else (
 some (decide (100 < s.2.2.1), d, d2, d3, d4))) fun s2 =>
 bif s2.1 then (
 some (1, s2.2.1, s2.2.2.1, s2.2.2.2.1, s2.2.2.2.2))
 else (
 (iter (fun x => step_wait_L0 s s2 x.1 x.2.1 x.2.2.1 x.2.2.2.1 x.2.2.2.2) (0, s2.2.1, s2.2.2.1, s2.2.2.2.1, s2.2.2.2.2)).bind fun s3 =>
 s3.elim (fun s4 =>
 some (0, s4.1, s4.2.1, s4.2.2.1, s4.2.2.2))
 (fun s5 =>
 some (s5.1, s5.2.1, s5.2.2.1, s5.2.2.2.1, s5.2.2.2.2)))

noncomputable def fn_step_wait : Fun :=
 ⟨104, 3, 1,
 ⟨[(0, .one (.data tT0)), (1, .one (.ptr 0 0)), (2, .one (.data tT2))], [(0, 40, [.own 1, .own 2, .own 3, .own 4])], [(1, .arr 54 tT1), (2, .arr 3 (.int .i64)), (3, .arr 3 (.int .i64)), (4, .arr 4 (.bool))]⟩,
 ⟨[(0, ii)], [(0, 40, [.own 1, .own 2, .own 3, .own 4])], [(1, .arr 54 tT1), (2, .arr 3 (.int .i64)), (3, .arr 3 (.int .i64)), (4, .arr 4 (.bool))]⟩,
 fun x => step_wait x.1 x.2.1 x.2.2.1 x.2.2.2.1 x.2.2.2.2.1 x.2.2.2.2.2⟩
noncomputable def cx_step_wait : Cx := ⟨types, [], [fn_valve_Pass], 47, []⟩
theorem ok_step_wait : FunOk Tryz.prog fn_step_wait :=
 FunOk.intro (C := cx_step_wait) (p := (nn (mm (mm (.mk [.join [⟨.n, ⟨[(1, .one (.ptr 0 0)), (5, .one (.ptr 96 0)), (18, bb)], [(0, 40, [.own 1, .own 2, .own 3, .own 4]), (96, 48, [.keep, .keep, .keep, .keep, .keep, .keep, .keep])], [(1, .arr 54 tT1), (2, .arr 3 (.int .i64)), (3, .arr 3 (.int .i64)), (4, .arr 4 (.bool))]⟩⟩]] none .nil .nil) .nil) (mm (nn (mm (.mk [] (some (⟨[(1, .one (.ptr 0 0)), (5, .one (.ptr 96 0)), (22, .one (.own 1)), (23, kk), (24, ii)], [(0, 40, [.own 1, .own 2, .own 3, .own 4]), (96, 48, [.keep, .keep, .keep, .keep, .keep, .keep, .keep])], [(1, .arr 54 tT1), (2, .arr 3 (.int .i64)), (3, .arr 3 (.int .i64)), (4, .arr 4 (.bool))]⟩, [⟨.x 0, ⟨[], [(0, 40, [.own 1, .own 2, .own 3, .own 4])], [(1, .arr 54 tT1), (2, .arr 3 (.int .i64)), (3, .arr 3 (.int .i64)), (4, .arr 4 (.bool))]⟩⟩, ⟨.r, ⟨[(6, ii)], [(0, 40, [.own 1, .own 2, .own 3, .own 4])], [(1, .arr 54 tT1), (2, .arr 3 (.int .i64)), (3, .arr 3 (.int .i64)), (4, .arr 4 (.bool))]⟩⟩])) .nil .nil) .nil)) .nil))))
  Tryz.func104 rfl (by kernel_rfl) rfl rfl rfl rfl types_ok ⟨⟨ok_valve_Pass, trivial⟩, trivial⟩ mx (fun x => by kernel_rfl)

noncomputable def step_apply (n : List (List UInt8) × List yT0 × List (List UInt8 × Int × Int) × List (List UInt8 × Int × Int × Int × Int) × Int × Int) (s : Int × Int × Int × Int × Int × List (Int × Bool) × Int) (d : List (Int × Int × Bool × Bool)) (d2 : List Int) (d3 : List Int) (d4 : List Bool) : Option (Int × (List (Int × Int × Bool × Bool)) × List Int × List Int × List Bool) :=
 (step_blank (s.1, (s.2.1, (s.2.2.1, (s.2.2.2.1, (s.2.2.2.2.1, (s.2.2.2.2.2.1, s.2.2.2.2.2.2))))))).bind fun r =>
 bif !r then (
 some (22, d, d2, d3, d4))
 else (
 bif decide (s.1 = 0) then (gd (inB 0 7) <|
 none)
 else (
 bif decide (s.1 = 1) then (gd (inB 1 7) <|
 (step_turn (n.1, (n.2.1, (n.2.2.1, (n.2.2.2.1, (n.2.2.2.2.1, n.2.2.2.2.2))))) (s.1, (s.2.1, (s.2.2.1, (s.2.2.2.1, (s.2.2.2.2.1, (s.2.2.2.2.2.1, s.2.2.2.2.2.2)))))) d d2 d3 d4).bind fun r2 =>
 some (r2.1, r2.2.1, r2.2.2.1, r2.2.2.2.1, r2.2.2.2.2))
 else (
 bif decide (s.1 = 2) then (gd (inB 2 7) <|
 (step_turn (n.1, (n.2.1, (n.2.2.1, (n.2.2.2.1, (n.2.2.2.2.1, n.2.2.2.2.2))))) (s.1, (s.2.1, (s.2.2.1, (s.2.2.2.1, (s.2.2.2.2.1, (s.2.2.2.2.2.1, s.2.2.2.2.2.2)))))) d d2 d3 d4).bind fun r3 =>
 some (r3.1, r3.2.1, r3.2.2.1, r3.2.2.2.1, r3.2.2.2.2))
 else (
 bif decide (s.1 = 3) then (gd (inB 3 7) <|
 (step_run (n.1, (n.2.1, (n.2.2.1, (n.2.2.2.1, (n.2.2.2.2.1, n.2.2.2.2.2))))) (s.1, (s.2.1, (s.2.2.1, (s.2.2.2.1, (s.2.2.2.2.1, (s.2.2.2.2.2.1, s.2.2.2.2.2.2)))))) d d2 d3 d4).bind fun r4 =>
 some (r4.1, r4.2.1, r4.2.2.1, r4.2.2.2.1, r4.2.2.2.2))
 else (
 bif decide (s.1 = 4) then (gd (inB 4 7) <|
 (step_run (n.1, (n.2.1, (n.2.2.1, (n.2.2.2.1, (n.2.2.2.2.1, n.2.2.2.2.2))))) (s.1, (s.2.1, (s.2.2.1, (s.2.2.2.1, (s.2.2.2.2.1, (s.2.2.2.2.2.1, s.2.2.2.2.2.2)))))) d d2 d3 d4).bind fun r5 =>
 some (r5.1, r5.2.1, r5.2.2.1, r5.2.2.2.1, r5.2.2.2.2))
 else (
 bif decide (s.1 = 5) then (gd (inB 5 7) <|
 (step_change (n.1, (n.2.1, (n.2.2.1, (n.2.2.2.1, (n.2.2.2.2.1, n.2.2.2.2.2))))) (s.1, (s.2.1, (s.2.2.1, (s.2.2.2.1, (s.2.2.2.2.1, (s.2.2.2.2.2.1, s.2.2.2.2.2.2)))))) d d2 d3 d4).bind fun r6 =>
 some (r6.1, r6.2.1, r6.2.2.1, r6.2.2.2.1, r6.2.2.2.2))
 else (
 bif decide (s.1 = 6) then (gd (inB 6 7) <|
 (step_wait (n.1, (n.2.1, (n.2.2.1, (n.2.2.2.1, (n.2.2.2.2.1, n.2.2.2.2.2))))) (s.1, (s.2.1, (s.2.2.1, (s.2.2.2.1, (s.2.2.2.2.1, (s.2.2.2.2.2.1, s.2.2.2.2.2.2)))))) d d2 d3 d4).bind fun r7 =>
 some (r7.1, r7.2.1, r7.2.2.1, r7.2.2.2.1, r7.2.2.2.2))
 else (
 none))))))))

noncomputable def fn_step_apply : Fun :=
 ⟨58, 3, 1,
 ⟨[(0, .one (.data tT0)), (1, .one (.ptr 0 0)), (2, .one (.data tT2))], [(0, 40, [.own 1, .own 2, .own 3, .own 4])], [(1, .arr 54 tT1), (2, .arr 3 (.int .i64)), (3, .arr 3 (.int .i64)), (4, .arr 4 (.bool))]⟩,
 ⟨[(0, ii)], [(0, 40, [.own 1, .own 2, .own 3, .own 4])], [(1, .arr 54 tT1), (2, .arr 3 (.int .i64)), (3, .arr 3 (.int .i64)), (4, .arr 4 (.bool))]⟩,
 fun x => step_apply x.1 x.2.1 x.2.2.1 x.2.2.2.1 x.2.2.2.2.1 x.2.2.2.2.2⟩
noncomputable def cx_step_apply : Cx := ⟨types, [4000014], [fn_step_blank, fn_step_turn, fn_step_run, fn_step_change, fn_step_wait], 20, []⟩
theorem ok_step_apply : FunOk Tryz.prog fn_step_apply :=
 FunOk.intro (C := cx_step_apply) (p := .nil)
  Tryz.func58 rfl (by kernel_rfl) rfl rfl rfl rfl types_ok ⟨⟨ok_step_blank, ok_step_turn, ok_step_run, ok_step_change, ok_step_wait, trivial⟩, trivial⟩ mx (fun x => by kernel_rfl)

noncomputable def step_Apply (n : List (List UInt8) × List yT0 × List (List UInt8 × Int × Int) × List (List UInt8 × Int × Int × Int × Int) × Int × Int) (d : List (Int × Int × Bool × Bool) × List Int × List Int × List Bool) (s : Int × Int × Int × Int × Int × List (Int × Bool) × Int) : Option ((List (Int × Int × Bool × Bool) × List Int × List Int × List Bool) × Int) :=
 (step_Check (n.1, (n.2.1, (n.2.2.1, (n.2.2.2.1, (n.2.2.2.2.1, n.2.2.2.2.2))))) (d.1, (d.2.1, (d.2.2.1, d.2.2.2)))).bind fun r =>
 bif !decide (r = 0) then (
 (step_Copy (d.1, (d.2.1, (d.2.2.1, d.2.2.2)))).bind fun r2 =>
 some ((r2.1, (r2.2.1, (r2.2.2.1, r2.2.2.2))), r))
 else (
 (step_Copy (d.1, (d.2.1, (d.2.2.1, d.2.2.2)))).bind fun r3 =>
 (step_apply (n.1, (n.2.1, (n.2.2.1, (n.2.2.2.1, (n.2.2.2.2.1, n.2.2.2.2.2))))) (s.1, (s.2.1, (s.2.2.1, (s.2.2.2.1, (s.2.2.2.2.1, (s.2.2.2.2.2.1, s.2.2.2.2.2.2)))))) r3.1 r3.2.1 r3.2.2.1 r3.2.2.2).bind fun r4 =>
 bif !decide (r4.1 = 0) then (
 (step_Copy (d.1, (d.2.1, (d.2.2.1, d.2.2.2)))).bind fun r5 =>
 some ((r5.1, (r5.2.1, (r5.2.2.1, r5.2.2.2))), r4.1))
 else (
 some ((r4.2.1, (r4.2.2.1, (r4.2.2.2.1, r4.2.2.2.2))), 0)))

noncomputable def fn_step_Apply : Fun :=
 ⟨25, 3, 2,
 ⟨[(0, .one (.data tT0)), (1, .one (.data (.pair (.sl tT1) tT4))), (2, .one (.data tT2))], [], []⟩,
 ⟨[(0, .one (.data (.pair (.sl tT1) tT4))), (1, ii)], [], []⟩,
 fun x => step_Apply x.1 x.2.1 x.2.2⟩
noncomputable def cx_step_Apply : Cx := ⟨types, [], [fn_step_Check, fn_step_Copy, fn_step_apply], 30, []⟩
theorem ok_step_Apply : FunOk Tryz.prog fn_step_Apply :=
 FunOk.intro (C := cx_step_Apply) (p := .nil)
  Tryz.func25 rfl (by kernel_rfl) rfl rfl rfl rfl types_ok ⟨⟨ok_step_Check, ok_step_Copy, ok_step_apply, trivial⟩, trivial⟩ mx (fun x => by kernel_rfl)

noncomputable def step_Run_L0 (n : List (List UInt8) × List yT0 × List (List UInt8 × Int × Int) × List (List UInt8 × Int × Int × Int × Int) × Int × Int) (l : List (Int × Int × Int × Int × Int × List (Int × Bool) × Int)) (v : Int) (d2 : List (Int × Int × Bool × Bool)) (d3 : List Int) (d4 : List Int) (d5 : List Bool) (v2 : List (Int × Int × Bool × Bool)) (v3 : List Int) (v4 : List Int) (v5 : List Bool) : Option ((Int × (List (Int × Int × Bool × Bool)) × List Int × List Int × List Bool × (List (Int × Int × Bool × Bool)) × List Int × List Int × List Bool) ⊕ (((List (Int × Int × Bool × Bool)) × List Int × List Int × List Bool × (List (Int × Int × Bool × Bool)) × List Int × List Int × List Bool) ⊕ (Int × Int × (List (Int × Int × Bool × Bool)) × List Int × List Int × List Bool))) :=
 bif decide (v < (l.length : Int)) then (
 gd (inB v l.length) <|
 (step_Apply (n.1, (n.2.1, (n.2.2.1, (n.2.2.2.1, (n.2.2.2.2.1, n.2.2.2.2.2))))) (d2, (d3, (d4, d5))) ((l.getD v.toNat (0, (0, (0, (0, (0, ([], 0))))))).1, (((l.getD v.toNat (0, (0, (0, (0, (0, ([], 0))))))).2).1, ((((l.getD v.toNat (0, (0, (0, (0, (0, ([], 0))))))).2).2).1, (((((l.getD v.toNat (0, (0, (0, (0, (0, ([], 0))))))).2).2).2).1, ((((((l.getD v.toNat (0, (0, (0, (0, (0, ([], 0))))))).2).2).2).2).1, (((((((l.getD v.toNat (0, (0, (0, (0, (0, ([], 0))))))).2).2).2).2).2).1, ((((((l.getD v.toNat (0, (0, (0, (0, (0, ([], 0))))))).2).2).2).2).2).2))))))).bind fun r2 =>
 bif !decide (r2.2 = 0) then (
 (step_Copy (d2, (d3, (d4, d5)))).bind fun r3 =>
 some (.inr (.inr (v, r2.2, r3.1, r3.2.1, r3.2.2.1, r3.2.2.2))))
 else (
 some (.inl (wi64 (v + 1), r2.1.1, r2.1.2.1, r2.1.2.2.1, r2.1.2.2.2, v2, v3, v4, v5))))
 else (
 some (.inr (.inl (d2, d3, d4, d5, v2, v3, v4, v5))))

noncomputable def step_Run (n : List (List UInt8) × List yT0 × List (List UInt8 × Int × Int) × List (List UInt8 × Int × Int × Int × Int) × Int × Int) (d : List (Int × Int × Bool × Bool) × List Int × List Int × List Bool) (l : List (Int × Int × Int × Int × Int × List (Int × Bool) × Int)) : Option ((List (Int × Int × Bool × Bool) × List Int × List Int × List Bool) × Int × Int) :=
 bif decide (400 < (l.length : Int)) then (
 (step_Copy (d.1, (d.2.1, (d.2.2.1, d.2.2.2)))).bind fun r =>
 some ((r.1, (r.2.1, (r.2.2.1, r.2.2.2))), 0, 4))
 else (
 (iter (fun x => step_Run_L0 n l x.1 x.2.1 x.2.2.1 x.2.2.2.1 x.2.2.2.2.1 x.2.2.2.2.2.1 x.2.2.2.2.2.2.1 x.2.2.2.2.2.2.2.1 x.2.2.2.2.2.2.2.2) (0, d.1, d.2.1, d.2.2.1, d.2.2.2, [], [], [], [])).bind fun s =>
 s.elim (fun s2 =>
 (step_Copy (s2.1, (s2.2.1, (s2.2.2.1, s2.2.2.2.1)))).bind fun r4 =>
 some ((r4.1, (r4.2.1, (r4.2.2.1, r4.2.2.2))), (l.length : Int), 0))
 (fun s3 =>
 some ((s3.2.2.1, (s3.2.2.2.1, (s3.2.2.2.2.1, s3.2.2.2.2.2))), s3.1, s3.2.1)))

noncomputable def fn_step_Run : Fun :=
 ⟨29, 3, 3,
 ⟨[(0, .one (.data tT0)), (1, .one (.data (.pair (.sl tT1) tT4))), (2, .one (.data (.sl tT2)))], [], []⟩,
 ⟨[(0, .one (.data (.pair (.sl tT1) tT4))), (1, ii), (2, ii)], [], []⟩,
 fun x => step_Run x.1 x.2.1 x.2.2⟩
noncomputable def cx_step_Run : Cx := ⟨types, [], [fn_step_Copy, fn_step_Apply], 44, []⟩
theorem ok_step_Run : FunOk Tryz.prog fn_step_Run :=
 FunOk.intro (C := cx_step_Run) (p := (nn (nn (mm (nn (mm (.mk [] (some (⟨[(2, kk), (3, .one (.ptr 64 0)), (4, .one (.ptr 80 0)), (6, .one (.ptr 112 0)), (18, kk), (19, kk), (20, ii)], [(64, 32, [.keep, .keep, .keep, .keep, .keep, .keep]), (80, 40, [.data (.sl tT1), .data (.sl (.int .i64)), .data (.sl (.int .i64)), .data (.sl (.bool))]), (112, 40, [.data (.sl tT1), .data (.sl (.int .i64)), .data (.sl (.int .i64)), .data (.sl (.bool))])], []⟩, [⟨.x 0, ⟨[(2, kk), (4, .one (.ptr 80 0)), (6, .one (.ptr 112 0))], [(80, 40, [.data (.sl tT1), .data (.sl (.int .i64)), .data (.sl (.int .i64)), .data (.sl (.bool))]), (112, 40, [.data (.sl tT1), .data (.sl (.int .i64)), .data (.sl (.int .i64)), .data (.sl (.bool))])], []⟩⟩, ⟨.r, ⟨[(6, .one (.ptr 112 0)), (7, ii), (8, ii)], [(112, 40, [.own 1817, .own 1833, .own 1849, .own 1865])], [(1817, .arr 54 tT1), (1833, .arr 3 (.int .i64)), (1849, .arr 3 (.int .i64)), (1865, .arr 4 (.bool))]⟩⟩])) .nil .nil) .nil)) .nil))))
  Tryz.func29 rfl (by kernel_rfl) rfl rfl rfl rfl types_ok ⟨⟨ok_step_Copy, ok_step_Apply, trivial⟩, trivial⟩ mx (fun x => by kernel_rfl)

noncomputable def step_Ticks_L0 (l : List (Int × Int × Int × Int × Int × List (Int × Bool) × Int)) (sum : Int) (v : Int) : Option ((Int × Int) ⊕ Int) :=
 bif decide (v < (l.length : Int)) then (
 gd (inB v l.length) <|
 Option.bind (α := Bool) (
 bif decide ((l.getD v.toNat (0, (0, (0, (0, (0, ([], 0))))))).1 = 6) then (
 bif decide (1 ≤ (((l.getD v.toNat (0, (0, (0, (0, (0, ([], 0))))))).2).2).1) then (
 some (decide ((((l.getD v.toNat (0, (0, (0, (0, (0, ([], 0))))))).2).2).1 ≤ 100)))
 else (
 some false))
 else (
 some false)) fun s =>
 Option.bind (α := Int) (
 bif s then (
 some (wi64 (sum + ((((l.getD v.toNat (0, (0, (0, (0, (0, ([], 0))))))).2).2).1))))
 else (
 some sum)) fun s2 =>
 some (.inl (s2, wi64 (v + 1))))
 else (
 some (.inr sum))

noncomputable def step_Ticks (l : List (Int × Int × Int × Int × Int × List (Int × Bool) × Int)) : Option (Int) :=
 (iter (fun x => step_Ticks_L0 l x.1 x.2) (0, 0)).bind fun s3 =>
 some s3

noncomputable def fn_step_Ticks : Fun :=
 ⟨30, 1, 1,
 ⟨[(0, .one (.data (.sl tT2)))], [], []⟩,
 ⟨[(0, ii)], [], []⟩,
 fun x => step_Ticks x⟩
noncomputable def cx_step_Ticks : Cx := ⟨types, [], [], 31, []⟩
theorem ok_step_Ticks : FunOk Tryz.prog fn_step_Ticks :=
 FunOk.intro (C := cx_step_Ticks) (p := (nn (nn (mm (nn (mm (.mk [] (some (⟨[(3, ii), (6, kk), (7, kk), (8, ii)], [], []⟩, [⟨.x 0, ⟨[(3, ii)], [], []⟩⟩])) (nn (nn (mm (mm (nn (mm (.mk [.join [⟨.n, ⟨[(3, kk), (5, .one (.ptr 96 0)), (6, kk), (7, kk), (8, kk), (24, bb)], [(96, 48, [.keep, .keep, .keep, .keep, .keep, .keep, .keep])], []⟩⟩]] none .nil .nil) (.mk [.join [⟨.n, ⟨[(3, ii), (6, kk), (7, kk), (8, kk)], [], []⟩⟩]] none .nil .nil))) .nil) .nil))) .nil) .nil)) .nil))))
  Tryz.func30 rfl (by kernel_rfl) rfl rfl rfl rfl types_ok ⟨trivial, trivial⟩ mx (fun x => by kernel_rfl)

noncomputable def law26_awake : Option (Bool) :=
 (step_Idle (([[97], [98]] : List (List UInt8)), ([([103], (0, (1, (10, (0, (0, [(0, (0, 1000)), (10, (0, 1000))]))))))], ([([112], (0, 0)), ([113], (1, 0))], ([], (0, 0))))) 2).bind fun r =>
 (step_Apply (([[97], [98]] : List (List UInt8)), ([([103], (0, (1, (10, (0, (0, [(0, (0, 1000)), (10, (0, 1000))]))))))], ([([112], (0, 0)), ([113], (1, 0))], ([], (0, 0))))) (r.1.1, (r.1.2.1, (r.1.2.2.1, r.1.2.2.2))) (5, (0, (3, (0, (1, ([(0, false)], 0))))))).bind fun r2 =>
 (step_Run (([[97], [98]] : List (List UInt8)), ([([103], (0, (1, (10, (0, (0, [(0, (0, 1000)), (10, (0, 1000))]))))))], ([([112], (0, 0)), ([113], (1, 0))], ([], (0, 0))))) (r.1.1, (r.1.2.1, (r.1.2.2.1, r.1.2.2.2))) [(1, (0, (0, (0, (0, ([], 0)))))), (1, (1, (0, (0, (0, ([], 0)))))), (1, (2, (0, (0, (0, ([], 0)))))), (6, (0, (2, (0, (0, ([], 0)))))), (5, (0, (3, (0, (1, ([(0, false)], 0))))))]).bind fun r3 =>
 bif decide (r.2 = 0) then (
 bif decide (r2.2 = 22) then (
 bif decide (r3.2.2 = 0) then (
 bif decide (r3.2.1 = 5) then (
 gd (inB 0 r3.1.2.1.length) <|
 bif decide (r3.1.2.1.getD 0 0 = 3) then (
 gd (inB 1 r3.1.2.2.1.length) <|
 bif decide (r3.1.2.2.1.getD 1 0 = (-3)) then (
 (step_Ticks [(1, (0, (0, (0, (0, ([], 0)))))), (1, (1, (0, (0, (0, ([], 0)))))), (1, (2, (0, (0, (0, ([], 0)))))), (6, (0, (2, (0, (0, ([], 0)))))), (5, (0, (3, (0, (1, ([(0, false)], 0))))))]).bind fun r4 =>
 some (decide (r4 = 2)))
 else (
 some false))
 else (
 some false))
 else (
 some false))
 else (
 some false))
 else (
 some false))
 else (
 some false)

noncomputable def fn_law26_awake : Fun :=
 ⟨9, 0, 1,
 ⟨[], [], []⟩,
 ⟨[(0, bb)], [], []⟩,
 fun x => law26_awake⟩
noncomputable def cx_law26_awake : Cx := ⟨types, [], [fn_step_Idle, fn_step_Apply, fn_step_Run, fn_step_Ticks], 86, []⟩
theorem ok_law26_awake : FunOk Tryz.prog fn_law26_awake :=
 FunOk.intro (C := cx_law26_awake) (p := .nil)
  Tryz.func9 rfl (by kernel_rfl) rfl rfl rfl rfl types_ok ⟨⟨ok_step_Idle, ok_step_Apply, ok_step_Run, ok_step_Ticks, trivial⟩, trivial⟩ mx (fun x => by kernel_rfl)

noncomputable def keep_New (l : List Int) : Option (List Int × Int) :=
 gd (cutG none (some (.i64, min (l.length : Int) 2000)) l.length) <|
 some (l.take (min (l.length : Int) 2000).toNat, 0)

noncomputable def fn_keep_New : Fun :=
 ⟨10, 1, 1,
 ⟨[(0, .one (.data (.sl (.int .i64))))], [], []⟩,
 ⟨[(0, .one (.ptr 0 0))], [(0, 80, [.data (.sl (.int .i64)), .data (.int .i64)])], []⟩,
 fun x => keep_New x⟩
noncomputable def cx_keep_New : Cx := ⟨types, [], [], 10, []⟩
theorem ok_keep_New : FunOk Tryz.prog fn_keep_New :=
 FunOk.intro (C := cx_keep_New) (p := .nil)
  Tryz.func10 rfl (by kernel_rfl) rfl rfl rfl rfl types_ok ⟨trivial, trivial⟩ mx (fun x => by kernel_rfl)

noncomputable def keep_Src_Raw (s : List Int) (s2 : Int) : Option (Int × List Int × Int) :=
 bif decide ((s.length : Int) ≤ s2) then (
 some (0, s, s2))
 else (
 gd (inB (wi64 ((wi64 (s2 + 1)) - 1)) s.length) <|
 some (s.getD (wi64 ((wi64 (s2 + 1)) - 1)).toNat 0, s, wi64 (s2 + 1)))

noncomputable def fn_keep_Src_Raw : Fun :=
 ⟨42, 1, 1,
 ⟨[(0, .one (.ptr 0 0))], [(0, 80, [.data (.sl (.int .i64)), .data (.int .i64)])], []⟩,
 ⟨[(0, ii)], [(0, 80, [.data (.sl (.int .i64)), .data (.int .i64)])], []⟩,
 fun x => keep_Src_Raw x.1 x.2⟩
noncomputable def cx_keep_Src_Raw : Cx := ⟨types, [], [], 31, []⟩
theorem ok_keep_Src_Raw : FunOk Tryz.prog fn_keep_Src_Raw :=
 FunOk.intro (C := cx_keep_Src_Raw) (p := .nil)
  Tryz.func42 rfl (by kernel_rfl) rfl rfl rfl rfl types_ok ⟨trivial, trivial⟩ mx (fun x => by kernel_rfl)

noncomputable def keep_Mod (x : Int) (n : Int) : Option (Int) :=
 bif decide (n < 1) then (
 some 0)
 else (
 gd (!decide (n = 0)) <|
 bif decide (Int.tmod x n < 0) then (
 some (wi64 ((Int.tmod x n) + n)))
 else (
 some (Int.tmod x n)))

noncomputable def fn_keep_Mod : Fun :=
 ⟨41, 2, 1,
 ⟨[(0, ii), (1, ii)], [], []⟩,
 ⟨[(0, ii)], [], []⟩,
 fun x => keep_Mod x.1 x.2⟩
noncomputable def cx_keep_Mod : Cx := ⟨types, [], [], 16, []⟩
theorem ok_keep_Mod : FunOk Tryz.prog fn_keep_Mod :=
 FunOk.intro (C := cx_keep_Mod) (p := .nil)
  Tryz.func41 rfl (by kernel_rfl) rfl rfl rfl rfl types_ok ⟨trivial, trivial⟩ mx (fun x => by kernel_rfl)

noncomputable def keep_Src_N (n : Int) (s : List Int) (s2 : Int) : Option (Int × List Int × Int) :=
 (keep_Src_Raw s s2).bind fun r =>
 (keep_Mod r.1 n).bind fun r2 =>
 some (r2, r.2.1, r.2.2)

noncomputable def fn_keep_Src_N : Fun :=
 ⟨14, 2, 1,
 ⟨[(0, .one (.ptr 0 0)), (1, ii)], [(0, 80, [.data (.sl (.int .i64)), .data (.int .i64)])], []⟩,
 ⟨[(0, ii)], [(0, 80, [.data (.sl (.int .i64)), .data (.int .i64)])], []⟩,
 fun x => keep_Src_N x.1 x.2.1 x.2.2⟩
noncomputable def cx_keep_Src_N : Cx := ⟨types, [], [fn_keep_Src_Raw, fn_keep_Mod], 9, []⟩
theorem ok_keep_Src_N : FunOk Tryz.prog fn_keep_Src_N :=
 FunOk.intro (C := cx_keep_Src_N) (p := .nil)
  Tryz.func14 rfl (by kernel_rfl) rfl rfl rfl rfl types_ok ⟨⟨ok_keep_Src_Raw, ok_keep_Mod, trivial⟩, trivial⟩ mx (fun x => by kernel_rfl)

noncomputable def keep_Src_Pick (l : List Int) (s : List Int) (s2 : Int) : Option (Int × List Int × Int) :=
 (keep_Src_N (l.length : Int) s s2).bind fun r =>
 gd (inB r.1 l.length) <|
 some (l.getD r.1.toNat 0, r.2.1, r.2.2)

noncomputable def fn_keep_Src_Pick : Fun :=
 ⟨32, 2, 1,
 ⟨[(0, .one (.ptr 0 0)), (1, .one (.data (.sl (.int .i64))))], [(0, 80, [.data (.sl (.int .i64)), .data (.int .i64)])], []⟩,
 ⟨[(0, ii)], [(0, 80, [.data (.sl (.int .i64)), .data (.int .i64)])], []⟩,
 fun x => keep_Src_Pick x.1 x.2.1 x.2.2⟩
noncomputable def cx_keep_Src_Pick : Cx := ⟨types, [], [fn_keep_Src_N], 12, []⟩
theorem ok_keep_Src_Pick : FunOk Tryz.prog fn_keep_Src_Pick :=
 FunOk.intro (C := cx_keep_Src_Pick) (p := .nil)
  Tryz.func32 rfl (by kernel_rfl) rfl rfl rfl rfl types_ok ⟨⟨ok_keep_Src_N, trivial⟩, trivial⟩ mx (fun x => by kernel_rfl)

noncomputable def keep_Src_Range (lo : Int) (hi : Int) (s : List Int) (s2 : Int) : Option (Int × List Int × Int) :=
 (keep_Src_N (wi64 ((wi64 (hi - lo)) + 1)) s s2).bind fun r =>
 some (wi64 (lo + r.1), r.2.1, r.2.2)

noncomputable def fn_keep_Src_Range : Fun :=
 ⟨33, 3, 1,
 ⟨[(0, .one (.ptr 0 0)), (1, ii), (2, ii)], [(0, 80, [.data (.sl (.int .i64)), .data (.int .i64)])], []⟩,
 ⟨[(0, ii)], [(0, 80, [.data (.sl (.int .i64)), .data (.int .i64)])], []⟩,
 fun x => keep_Src_Range x.1 x.2.1 x.2.2.1 x.2.2.2⟩
noncomputable def cx_keep_Src_Range : Cx := ⟨types, [], [fn_keep_Src_N], 15, []⟩
theorem ok_keep_Src_Range : FunOk Tryz.prog fn_keep_Src_Range :=
 FunOk.intro (C := cx_keep_Src_Range) (p := .nil)
  Tryz.func33 rfl (by kernel_rfl) rfl rfl rfl rfl types_ok ⟨⟨ok_keep_Src_N, trivial⟩, trivial⟩ mx (fun x => by kernel_rfl)

noncomputable def keep_name (first : List UInt8) (n : Int) : Option (List UInt8) :=
 gd (Nat.ble (first.length + (toBytes [wu8 (wi64 (97 + (Int.tmod n 26)))]).length) 9223372036854775807) <|
 some (first ++ (toBytes [wu8 (wi64 (97 + (Int.tmod n 26)))]))

noncomputable def fn_keep_name : Fun :=
 ⟨34, 2, 1,
 ⟨[(0, ss), (1, ii)], [], []⟩,
 ⟨[(0, ss)], [], []⟩,
 fun x => keep_name x.1 x.2⟩
noncomputable def cx_keep_name : Cx := ⟨types, [], [], 13, []⟩
theorem ok_keep_name : FunOk Tryz.prog fn_keep_name :=
 FunOk.intro (C := cx_keep_name) (p := .nil)
  Tryz.func34 rfl (by kernel_rfl) rfl rfl rfl rfl types_ok ⟨trivial, trivial⟩ mx (fun x => by kernel_rfl)

noncomputable def keep_Src_Segment_L0 (r3 : Int × List Int × Int) (r6 : Int × List Int × Int) (vat : Int) (s4 : List Int) (s5 : Int) (x : List (Int × Int × Int)) : Option ((Int × List Int × Int × List (Int × Int × Int)) ⊕ (List Int × Int × List (Int × Int × Int))) :=
 Option.bind (α := Bool × List Int × Int × List (Int × Int × Int)) (
 bif decide ((x.length : Int) < 7) then (
 (keep_Src_N 3 s4 s5).bind fun r8 =>
 some (decide (0 < r8.1), r8.2.1, r8.2.2, x))
 else (
 some (false, s4, s5, x))) fun s6 =>
 bif s6.1 then (
 (keep_Src_Range 1 40 s6.2.1 s6.2.2.1).bind fun r9 =>
 bif decide (r3.1 ≤ wi64 (vat + r9.1)) then (
 some (.inr (r9.2.1, r9.2.2, s6.2.2.2)))
 else (
 (keep_Src_Range (-5) 60 r9.2.1 r9.2.2).bind fun r10 =>
 (keep_Src_Pick [1, 1, 10] r10.2.1 r10.2.2).bind fun r11 =>
 (keep_Src_N 3 r11.2.1 r11.2.2).bind fun r12 =>
 gd (fits (s6.2.2.2.length + 1) 24) <|
 some (.inl (wi64 (vat + r9.1), r12.2.1, r12.2.2, s6.2.2.2 ++ [(wi64 (vat + r9.1), (wi64 (r10.1 * r11.1), wi64 (r6.1 - (wi64 (r12.1 * 1000)))))]))))
 else (
 some (.inr (s6.2.1, s6.2.2.1, s6.2.2.2)))

noncomputable def keep_Src_Segment (k : Int) (vfrom : Int) (to : Int) (s : List Int) (s2 : Int) : Option (yT0 × List Int × Int) :=
 (keep_Src_N 4 s s2).bind fun r =>
 Option.bind (α := Int × Int) (
 bif decide (r.1 = 0) then (
 some (to, vfrom))
 else (
 some (vfrom, to))) fun s3 =>
 (keep_name [103] k).bind fun r2 =>
 (keep_Src_Pick [1, 2, 7, 20, 60, 200, 1000] r.2.1 r.2.2).bind fun r3 =>
 (keep_Src_Pick [0, 1, 5, 1000] r3.2.1 r3.2.2).bind fun r4 =>
 (keep_Src_Pick [0, 50, 1000, 100000] r4.2.1 r4.2.2).bind fun r5 =>
 (keep_Src_Pick [1000000, 6000000, 100000000] r5.2.1 r5.2.2).bind fun r6 =>
 (keep_Src_Range (-5) 30 r6.2.1 r6.2.2).bind fun r7 =>
 (iter (fun x2 => keep_Src_Segment_L0 r3 r6 x2.1 x2.2.1 x2.2.2.1 x2.2.2.2) (0, r7.2.1, r7.2.2, [(0, (r7.1, r6.1))])).bind fun s7 =>
 (keep_Src_Range (-5) 30 s7.1 s7.2.1).bind fun r13 =>
 gd (fits (s7.2.2.length + 1) 24) <|
 some ((r2, (s3.1, (s3.2, (r3.1, (r4.1, (r5.1, s7.2.2 ++ [(r3.1, (r13.1, r6.1))])))))), r13.2.1, r13.2.2)

noncomputable def fn_keep_Src_Segment : Fun :=
 ⟨35, 4, 1,
 ⟨[(0, .one (.ptr 0 0)), (1, ii), (2, ii), (3, ii)], [(0, 80, [.data (.sl (.int .i64)), .data (.int .i64)])], []⟩,
 ⟨[(0, .one (.data (.pair (.str) tT3)))], [(0, 80, [.data (.sl (.int .i64)), .data (.int .i64)])], []⟩,
 fun x => keep_Src_Segment x.1 x.2.1 x.2.2.1 x.2.2.2.1 x.2.2.2.2⟩
noncomputable def cx_keep_Src_Segment : Cx := ⟨types, [], [fn_keep_Src_N, fn_keep_name, fn_keep_Src_Pick, fn_keep_Src_Range], 90, []⟩
theorem ok_keep_Src_Segment : FunOk Tryz.prog fn_keep_Src_Segment :=
 FunOk.intro (C := cx_keep_Src_Segment) (p := (nn (mm (nn (.mk [.join [⟨.n, ⟨[(0, .one (.ptr 0 0)), (1, kk), (2, ii), (3, ii), (8, .one (.ptr 144 0))], [(0, 80, [.keep, .keep]), (144, 74, [.keep, .keep, .keep, .keep, .keep, .keep, .keep])], []⟩⟩]] none .nil .nil)) (nn (nn (nn (mm (nn (mm (.mk [] (some (⟨[(0, .one (.ptr 0 0)), (8, .one (.ptr 144 0)), (9, .one (.ptr 160 0)), (10, kk), (11, ii)], [(0, 80, [.data (.sl (.int .i64)), .data (.int .i64)]), (144, 74, [.keep, .keep, .keep, .keep, .keep, .keep, .keep]), (160, 74, [.keep, .keep, .keep, .keep, .keep, .keep, .own 2681])], [(2681, .arr 71 (.pair (.int .i64) (.pair (.int .i64) (.int .i64))))]⟩, [⟨.x 0, ⟨[(0, .one (.ptr 0 0)), (8, .one (.ptr 144 0)), (9, .one (.ptr 160 0)), (10, kk)], [(0, 80, [.data (.sl (.int .i64)), .data (.int .i64)]), (144, 74, [.keep, .keep, .keep, .keep, .keep, .keep, .keep]), (160, 74, [.keep, .keep, .keep, .keep, .keep, .keep, .own 2681])], [(2681, .arr 71 (.pair (.int .i64) (.pair (.int .i64) (.int .i64))))]⟩⟩])) (mm (mm (.mk [.join [⟨.n, ⟨[(0, .one (.ptr 0 0)), (8, .one (.ptr 144 0)), (9, .one (.ptr 160 0)), (10, kk), (11, kk), (51, bb)], [(0, 80, [.data (.sl (.int .i64)), .data (.int .i64)]), (144, 74, [.keep, .keep, .keep, .keep, .keep, .keep, .keep]), (160, 74, [.keep, .keep, .keep, .keep, .keep, .keep, .own 2681])], [(2681, .arr 71 (.pair (.int .i64) (.pair (.int .i64) (.int .i64))))]⟩⟩]] none .nil .nil) .nil) .nil) .nil) .nil)) .nil)))))))
  Tryz.func35 rfl (by kernel_rfl) rfl rfl rfl rfl types_ok ⟨⟨ok_keep_Src_N, ok_keep_name, ok_keep_Src_Pick, ok_keep_Src_Range, trivial⟩, trivial⟩ mx (fun x => by kernel_rfl)

noncomputable def keep_Src_Network_L0 (i : Int) (n : List (List UInt8)) : Option ((Int × List (List UInt8)) ⊕ (List (List UInt8))) :=
 bif decide (0 < i) then (
 (keep_name [110] (n.length : Int)).bind fun r4 =>
 gd (fits (n.length + 1) 16) <|
 some (.inl (wi64 (i - 1), n ++ [r4])))
 else (
 some (.inr n))

noncomputable def keep_Src_Network_L1 (s3 : List (List UInt8)) (i2 : Int) (s4 : List Int) (s5 : Int) (n2 : List (List UInt8)) (n3 : List yT0) : Option ((Int × List Int × Int × List (List UInt8) × List yT0) ⊕ (List Int × Int × List (List UInt8) × List yT0)) :=
 bif decide (i2 < wi64 ((s3.length : Int) - 1)) then (
 (keep_Src_Segment (n3.length : Int) i2 (wi64 (i2 + 1)) s4 s5).bind fun r5 =>
 gd (fits (n3.length + 1) 80) <|
 some (.inl (wi64 (i2 + 1), r5.2.1, r5.2.2, n2, n3 ++ [(r5.1.1, (r5.1.2.1, (r5.1.2.2.1, (r5.1.2.2.2.1, (r5.1.2.2.2.2.1, (r5.1.2.2.2.2.2.1, r5.1.2.2.2.2.2.2))))))])))
 else (
 some (.inr (s4, s5, n2, n3)))

noncomputable def keep_Src_Network_L2 (s3 : List (List UInt8)) (i3 : Int) (s7 : List Int) (s8 : Int) (n4 : List (List UInt8)) (n5 : List yT0) : Option ((Int × List Int × Int × List (List UInt8) × List yT0) ⊕ (List Int × Int × List (List UInt8) × List yT0)) :=
 bif decide (0 < i3) then (
 (keep_Src_N (wi64 ((s3.length : Int) - 1)) s7 s8).bind fun r7 =>
 (keep_Src_Range (wi64 (r7.1 + 1)) (wi64 ((s3.length : Int) - 1)) r7.2.1 r7.2.2).bind fun r8 =>
 (keep_Src_Segment (n5.length : Int) r7.1 r8.1 r8.2.1 r8.2.2).bind fun r9 =>
 gd (fits (n5.length + 1) 80) <|
 some (.inl (wi64 (i3 - 1), r9.2.1, r9.2.2, n4, n5 ++ [(r9.1.1, (r9.1.2.1, (r9.1.2.2.1, (r9.1.2.2.2.1, (r9.1.2.2.2.2.1, (r9.1.2.2.2.2.2.1, r9.1.2.2.2.2.2.2))))))])))
 else (
 some (.inr (s7, s8, n4, n5)))

noncomputable def keep_Src_Network_L3 (s3 : List (List UInt8)) (i4 : Int) (s10 : List Int) (s11 : Int) (n6 : List (List UInt8)) (n7 : List yT0) (n8 : List (List UInt8 × Int × Int)) (n9 : List (List UInt8 × Int × Int × Int × Int)) : Option ((Int × List Int × Int × List (List UInt8) × (List yT0) × (List (List UInt8 × Int × Int)) × List (List UInt8 × Int × Int × Int × Int)) ⊕ (List Int × Int × List (List UInt8) × (List yT0) × (List (List UInt8 × Int × Int)) × List (List UInt8 × Int × Int × Int × Int))) :=
 bif decide (i4 ≤ wi64 ((s3.length : Int) - 1)) then (
 Option.bind (α := Bool × List Int × Int × List (List UInt8) × (List yT0) × (List (List UInt8 × Int × Int)) × List (List UInt8 × Int × Int × Int × Int)) (
 bif decide (i4 = 0) then (
 some (true, s10, s11, n6, n7, n8, n9))
 else (
 bif decide (i4 = wi64 ((s3.length : Int) - 1)) then (
 some (true, s10, s11, n6, n7, n8, n9))
 else (
 (keep_Src_N 2 s10 s11).bind fun r10 =>
 some (decide (r10.1 = 0), r10.2.1, r10.2.2, n6, n7, n8, n9)))) fun s12 =>
 Option.bind (α := List Int × Int × List (List UInt8) × (List yT0) × (List (List UInt8 × Int × Int)) × List (List UInt8 × Int × Int × Int × Int)) (
 bif s12.1 then (
 (keep_name [113] (s12.2.2.2.2.2.1.length : Int)).bind fun r11 =>
 (keep_Src_Pick [300000, 1000000, 0, 5000000] s12.2.1 s12.2.2.1).bind fun r12 =>
 gd (fits (s12.2.2.2.2.2.1.length + 1) 32) <|
 some (r12.2.1, r12.2.2, s12.2.2.2.1, s12.2.2.2.2.1, s12.2.2.2.2.2.1 ++ [(r11, (i4, r12.1))], s12.2.2.2.2.2.2))
 else (
 some (s12.2.1, s12.2.2.1, s12.2.2.2.1, s12.2.2.2.2.1, s12.2.2.2.2.2.1, s12.2.2.2.2.2.2))) fun s13 =>
 Option.bind (α := Bool × List Int × Int × List (List UInt8) × (List yT0) × (List (List UInt8 × Int × Int)) × List (List UInt8 × Int × Int × Int × Int)) (
 bif decide (i4 < wi64 ((s3.length : Int) - 1)) then (
 (keep_Src_N 3 s13.1 s13.2.1).bind fun r13 =>
 some (decide (r13.1 = 0), r13.2.1, r13.2.2, s13.2.2.1, s13.2.2.2.1, s13.2.2.2.2.1, s13.2.2.2.2.2))
 else (
 some (false, s13.1, s13.2.1, s13.2.2.1, s13.2.2.2.1, s13.2.2.2.2.1, s13.2.2.2.2.2))) fun s14 =>
 Option.bind (α := List Int × Int × List (List UInt8) × (List yT0) × (List (List UInt8 × Int × Int)) × List (List UInt8 × Int × Int × Int × Int)) (
 bif s14.1 then (
 (keep_name [115] (s14.2.2.2.2.2.2.length : Int)).bind fun r14 =>
 (keep_Src_Pick [500000, 2000000, 0] s14.2.1 s14.2.2.1).bind fun r15 =>
 (keep_Src_Pick [0, 200, 100000] r15.2.1 r15.2.2).bind fun r16 =>
 (keep_Src_Pick [0, 100000, 400000] r16.2.1 r16.2.2).bind fun r17 =>
 gd (fits (s14.2.2.2.2.2.2.length + 1) 48) <|
 some (r17.2.1, r17.2.2, s14.2.2.2.1, s14.2.2.2.2.1, s14.2.2.2.2.2.1, s14.2.2.2.2.2.2 ++ [(r14, (i4, (r15.1, (r16.1, r17.1))))]))
 else (
 some (s14.2.1, s14.2.2.1, s14.2.2.2.1, s14.2.2.2.2.1, s14.2.2.2.2.2.1, s14.2.2.2.2.2.2))) fun s15 =>
 some (.inl (wi64 (i4 + 1), s15.1, s15.2.1, s15.2.2.1, s15.2.2.2.1, s15.2.2.2.2.1, s15.2.2.2.2.2)))
 else (
 some (.inr (s10, s11, n6, n7, n8, n9)))

noncomputable def keep_Src_Network (s : List Int) (s2 : Int) : Option ((List (List UInt8) × List yT0 × List (List UInt8 × Int × Int) × List (List UInt8 × Int × Int × Int × Int) × Int × Int) × List Int × Int) :=
 (keep_Src_Pick [(-100000), 0, 50000] s s2).bind fun r =>
 (keep_Src_Pick [0, 1, 5, 100] r.2.1 r.2.2).bind fun r2 =>
 (keep_Src_Range 2 6 r2.2.1 r2.2.2).bind fun r3 =>
 (iter (fun x => keep_Src_Network_L0 x.1 x.2) (r3.1, [])).bind fun s3 =>
 (iter (fun x2 => keep_Src_Network_L1 s3 x2.1 x2.2.1 x2.2.2.1 x2.2.2.2.1 x2.2.2.2.2) (0, r3.2.1, r3.2.2, s3, [])).bind fun s6 =>
 (keep_Src_N 4 s6.1 s6.2.1).bind fun r6 =>
 (iter (fun x3 => keep_Src_Network_L2 s3 x3.1 x3.2.1 x3.2.2.1 x3.2.2.2.1 x3.2.2.2.2) (r6.1, r6.2.1, r6.2.2, s6.2.2.1, s6.2.2.2)).bind fun s9 =>
 (iter (fun x4 => keep_Src_Network_L3 s3 x4.1 x4.2.1 x4.2.2.1 x4.2.2.2.1 x4.2.2.2.2.1 x4.2.2.2.2.2.1 x4.2.2.2.2.2.2) (0, s9.1, s9.2.1, s9.2.2.1, s9.2.2.2, [], [])).bind fun s16 =>
 some ((s16.2.2.1, (s16.2.2.2.1, (s16.2.2.2.2.1, (s16.2.2.2.2.2, (r.1, r2.1))))), s16.1, s16.2.1)

noncomputable def fn_keep_Src_Network : Fun :=
 ⟨11, 1, 1,
 ⟨[(0, .one (.ptr 0 0))], [(0, 80, [.data (.sl (.int .i64)), .data (.int .i64)])], []⟩,
 ⟨[(0, .one (.data tT0))], [(0, 80, [.data (.sl (.int .i64)), .data (.int .i64)])], []⟩,
 fun x => keep_Src_Network x.1 x.2⟩
noncomputable def cx_keep_Src_Network : Cx := ⟨types, [], [fn_keep_Src_Pick, fn_keep_Src_Range, fn_keep_name, fn_keep_Src_Segment, fn_keep_Src_N], 139, []⟩
theorem ok_keep_Src_Network : FunOk Tryz.prog fn_keep_Src_Network :=
 FunOk.intro (C := cx_keep_Src_Network) (p := (nn (nn (mm (nn (mm (.mk [] (some (⟨[(0, .one (.ptr 0 0)), (2, .one (.ptr 48 0)), (3, .one (.ptr 64 0)), (4, ii)], [(0, 80, [.keep, .keep]), (48, 32, [.keep, .keep, .keep, .keep, .keep, .keep]), (64, 32, [.own 1049, .keep, .keep, .keep, .keep, .keep])], [(1049, .arr 9 (.str))]⟩, [⟨.x 0, ⟨[(0, .one (.ptr 0 0)), (2, .one (.ptr 48 0)), (3, .one (.ptr 64 0))], [(0, 80, [.keep, .keep]), (48, 32, [.keep, .keep, .keep, .keep, .keep, .keep]), (64, 32, [.own 1049, .keep, .keep, .keep, .keep, .keep])], [(1049, .arr 9 (.str))]⟩⟩])) .nil .nil) .nil)) (nn (mm (nn (mm (.mk [] (some (⟨[(0, .one (.ptr 0 0)), (2, .one (.ptr 48 0)), (3, .one (.ptr 64 0)), (5, kk), (6, ii)], [(0, 80, [.data (.sl (.int .i64)), .data (.int .i64)]), (48, 32, [.keep, .keep, .keep, .keep, .keep, .keep]), (64, 32, [.own 1049, .own 1065, .keep, .keep, .keep, .keep])], [(1049, .arr 9 (.str)), (1065, .arr 74 (.pair (.str) tT3))]⟩, [⟨.x 2, ⟨[(0, .one (.ptr 0 0)), (2, .one (.ptr 48 0)), (3, .one (.ptr 64 0)), (5, kk)], [(0, 80, [.data (.sl (.int .i64)), .data (.int .i64)]), (48, 32, [.keep, .keep, .keep, .keep, .keep, .keep]), (64, 32, [.own 1049, .own 1065, .keep, .keep, .keep, .keep])], [(1049, .arr 9 (.str)), (1065, .arr 74 (.pair (.str) tT3))]⟩⟩])) .nil .nil) .nil)) (mm (nn (mm (.mk [] (some (⟨[(0, .one (.ptr 0 0)), (2, .one (.ptr 48 0)), (3, .one (.ptr 64 0)), (5, kk), (7, ii)], [(0, 80, [.data (.sl (.int .i64)), .data (.int .i64)]), (48, 32, [.keep, .keep, .keep, .keep, .keep, .keep]), (64, 32, [.own 1049, .own 1065, .keep, .keep, .keep, .keep])], [(1049, .arr 9 (.str)), (1065, .arr 74 (.pair (.str) tT3))]⟩, [⟨.x 4, ⟨[(0, .one (.ptr 0 0)), (2, .one (.ptr 48 0)), (3, .one (.ptr 64 0)), (5, kk)], [(0, 80, [.data (.sl (.int .i64)), .data (.int .i64)]), (48, 32, [.keep, .keep, .keep, .keep, .keep, .keep]), (64, 32, [.own 1049, .own 1065, .keep, .keep, .keep, .keep])], [(1049, .arr 9 (.str)), (1065, .arr 74 (.pair (.str) tT3))]⟩⟩])) .nil .nil) .nil)) (mm (nn (mm (.mk [] (some (⟨[(0, .one (.ptr 0 0)), (2, .one (.ptr 48 0)), (3, .one (.ptr 64 0)), (5, kk), (9, ii)], [(0, 80, [.data (.sl (.int .i64)), .data (.int .i64)]), (48, 32, [.keep, .keep, .keep, .keep, .keep, .keep]), (64, 32, [.own 1049, .own 1065, .own 1081, .own 1097, .keep, .keep])], [(1049, .arr 9 (.str)), (1065, .arr 74 (.pair (.str) tT3)), (1081, .arr 76 (.pair (.str) (.pair (.int .i64) (.int .i64)))), (1097, .arr 85 (.pair (.str) (.pair (.int .i64) (.pair (.int .i64) (.pair (.int .i64) (.int .i64))))))]⟩, [⟨.x 6, ⟨[(2, .one (.ptr 48 0)), (3, .one (.ptr 64 0))], [(48, 32, [.keep, .keep, .keep, .keep, .keep, .keep]), (64, 32, [.own 1049, .own 1065, .own 1081, .own 1097, .keep, .keep]), (0, 80, [.data (.sl (.int .i64)), .data (.int .i64)])], [(1049, .arr 9 (.str)), (1065, .arr 74 (.pair (.str) tT3)), (1081, .arr 76 (.pair (.str) (.pair (.int .i64) (.int .i64)))), (1097, .arr 85 (.pair (.str) (.pair (.int .i64) (.pair (.int .i64) (.pair (.int .i64) (.int .i64))))))]⟩⟩])) (nn (mm (mm (mm (mm (.mk [.join [⟨.n, ⟨[(0, .one (.ptr 0 0)), (2, .one (.ptr 48 0)), (3, .one (.ptr 64 0)), (5, kk), (9, kk), (95, bb)], [(0, 80, [.data (.sl (.int .i64)), .data (.int .i64)]), (48, 32, [.keep, .keep, .keep, .keep, .keep, .keep]), (64, 32, [.own 1049, .own 1065, .own 1081, .own 1097, .keep, .keep])], [(1049, .arr 9 (.str)), (1065, .arr 74 (.pair (.str) tT3)), (1081, .arr 76 (.pair (.str) (.pair (.int .i64) (.int .i64)))), (1097, .arr 85 (.pair (.str) (.pair (.int .i64) (.pair (.int .i64) (.pair (.int .i64) (.int .i64))))))]⟩⟩]] none .nil .nil) (.mk [.join [⟨.n, ⟨[(0, .one (.ptr 0 0)), (2, .one (.ptr 48 0)), (3, .one (.ptr 64 0)), (5, kk), (9, kk)], [(0, 80, [.data (.sl (.int .i64)), .data (.int .i64)]), (48, 32, [.keep, .keep, .keep, .keep, .keep, .keep]), (64, 32, [.own 1049, .own 1065, .own 1081, .own 1097, .keep, .keep])], [(1049, .arr 9 (.str)), (1065, .arr 74 (.pair (.str) tT3)), (1081, .arr 76 (.pair (.str) (.pair (.int .i64) (.int .i64)))), (1097, .arr 85 (.pair (.str) (.pair (.int .i64) (.pair (.int .i64) (.pair (.int .i64) (.int .i64))))))]⟩⟩]] none .nil .nil)) (mm (.mk [.join [⟨.n, ⟨[(0, .one (.ptr 0 0)), (2, .one (.ptr 48 0)), (3, .one (.ptr 64 0)), (5, kk), (9, kk), (117, bb)], [(0, 80, [.data (.sl (.int .i64)), .data (.int .i64)]), (48, 32, [.keep, .keep, .keep, .keep, .keep, .keep]), (64, 32, [.own 1049, .own 1065, .own 1081, .own 1097, .keep, .keep])], [(1049, .arr 9 (.str)), (1065, .arr 74 (.pair (.str) tT3)), (1081, .arr 76 (.pair (.str) (.pair (.int .i64) (.int .i64)))), (1097, .arr 85 (.pair (.str) (.pair (.int .i64) (.pair (.int .i64) (.pair (.int .i64) (.int .i64))))))]⟩⟩]] none .nil .nil) (.mk [.join [⟨.n, ⟨[(0, .one (.ptr 0 0)), (2, .one (.ptr 48 0)), (3, .one (.ptr 64 0)), (5, kk), (9, kk)], [(0, 80, [.data (.sl (.int .i64)), .data (.int .i64)]), (48, 32, [.keep, .keep, .keep, .keep, .keep, .keep]), (64, 32, [.own 1049, .own 1065, .own 1081, .own 1097, .keep, .keep])], [(1049, .arr 9 (.str)), (1065, .arr 74 (.pair (.str) tT3)), (1081, .arr 76 (.pair (.str) (.pair (.int .i64) (.int .i64)))), (1097, .arr 85 (.pair (.str) (.pair (.int .i64) (.pair (.int .i64) (.pair (.int .i64) (.int .i64))))))]⟩⟩]] none .nil .nil))) .nil) .nil)) .nil) .nil)) .nil))))))))
  Tryz.func11 rfl (by kernel_rfl) rfl rfl rfl rfl types_ok ⟨⟨ok_keep_Src_Pick, ok_keep_Src_Range, ok_keep_name, ok_keep_Src_Segment, ok_keep_Src_N, trivial⟩, trivial⟩ mx (fun x => by kernel_rfl)

noncomputable def keep_abs (n : Int) : Option (Int) :=
 some (max n (wi64 (0 - n)))

noncomputable def fn_keep_abs : Fun :=
 ⟨71, 1, 1,
 ⟨[(0, ii)], [], []⟩,
 ⟨[(0, ii)], [], []⟩,
 fun x => keep_abs x⟩
noncomputable def cx_keep_abs : Cx := ⟨types, [], [], 7, []⟩
theorem ok_keep_abs : FunOk Tryz.prog fn_keep_abs :=
 FunOk.intro (C := cx_keep_abs) (p := .nil)
  Tryz.func71 rfl (by kernel_rfl) rfl rfl rfl rfl types_ok ⟨trivial, trivial⟩ mx (fun x => by kernel_rfl)

noncomputable def keep_Negated_L0 (p : List Int × List Int × List Bool) (v : Int) (out : List Int) (out2 : List Bool) : Option ((Int × List Int × List Bool) ⊕ (List Int × List Bool)) :=
 bif decide (v < (p.1.length : Int)) then (
 gd (inB v p.1.length) <|
 gd (fits (out.length + 1) 8) <|
 some (.inl (wi64 (v + 1), out ++ [wi64 (0 - (p.1.getD v.toNat 0))], out2)))
 else (
 some (.inr (out, out2)))

noncomputable def keep_Negated_L1 (p : List Int × List Int × List Bool) (v2 : Int) (out3 : List Int) (out4 : List Int) (out5 : List Bool) : Option ((Int × List Int × List Int × List Bool) ⊕ (List Int × List Int × List Bool)) :=
 bif decide (v2 < (p.2.1.length : Int)) then (
 gd (inB v2 p.2.1.length) <|
 gd (fits (out4.length + 1) 8) <|
 some (.inl (wi64 (v2 + 1), out3, out4 ++ [wi64 (0 - (p.2.1.getD v2.toNat 0))], out5)))
 else (
 some (.inr (out3, out4, out5)))

noncomputable def keep_Negated (p : List Int × List Int × List Bool) : Option (List Int × List Int × List Bool) :=
 gd (fits (0 + p.2.2.length) 1) <|
 (iter (fun x => keep_Negated_L0 p x.1 x.2.1 x.2.2) (0, [], ([] ++ p.2.2))).bind fun s =>
 (iter (fun x2 => keep_Negated_L1 p x2.1 x2.2.1 x2.2.2.1 x2.2.2.2) (0, s.1, [], s.2)).bind fun s2 =>
 some (s2.1, s2.2.1, s2.2.2)

noncomputable def fn_keep_Negated : Fun :=
 ⟨72, 1, 1,
 ⟨[(0, .one (.data tT4))], [], []⟩,
 ⟨[(0, .agg [.own 0, .own 1, .own 2])], [], [(0, .arr 3 (.int .i64)), (1, .arr 3 (.int .i64)), (2, .arr 4 (.bool))]⟩,
 fun x => keep_Negated x⟩
noncomputable def cx_keep_Negated : Cx := ⟨types, [6], [], 48, []⟩
theorem ok_keep_Negated : FunOk Tryz.prog fn_keep_Negated :=
 FunOk.intro (C := cx_keep_Negated) (p := (nn (nn (mm (nn (mm (.mk [] (some (⟨[(1, .one (.ptr 32 0)), (2, .one (.ptr 48 0)), (3, .one (.ptr 64 0)), (13, kk), (14, ii)], [(32, 36, [.keep, .keep, .keep]), (48, 36, [.keep, .keep, .keep]), (64, 36, [.own 1049, .keep, .own 160])], [(1049, .arr 3 (.int .i64)), (160, .arr 4 (.bool))]⟩, [⟨.x 0, ⟨[(1, .one (.ptr 32 0)), (2, .one (.ptr 48 0)), (3, .one (.ptr 64 0))], [(32, 36, [.keep, .keep, .keep]), (48, 36, [.keep, .keep, .keep]), (64, 36, [.own 1049, .keep, .own 160])], [(1049, .arr 3 (.int .i64)), (160, .arr 4 (.bool))]⟩⟩])) .nil .nil) .nil)) (mm (nn (mm (.mk [] (some (⟨[(1, .one (.ptr 32 0)), (2, .one (.ptr 48 0)), (3, .one (.ptr 64 0)), (31, kk), (32, ii)], [(32, 36, [.keep, .keep, .keep]), (48, 36, [.keep, .keep, .keep]), (64, 36, [.own 1049, .own 1065, .own 160])], [(1049, .arr 3 (.int .i64)), (1065, .arr 3 (.int .i64)), (160, .arr 4 (.bool))]⟩, [⟨.x 2, ⟨[(2, .one (.ptr 48 0)), (3, .one (.ptr 64 0))], [(48, 36, [.keep, .keep, .keep]), (64, 36, [.own 1049, .own 1065, .own 160])], [(1049, .arr 3 (.int .i64)), (1065, .arr 3 (.int .i64)), (160, .arr 4 (.bool))]⟩⟩])) .nil .nil) .nil)) .nil)))))
  Tryz.func72 rfl (by kernel_rfl) rfl rfl rfl rfl types_ok ⟨trivial, trivial⟩ mx (fun x => by kernel_rfl)

noncomputable def keep_Src_Plan_L0 (n : List (List UInt8) × List yT0 × List (List UInt8 × Int × Int) × List (List UInt8 × Int × Int × Int × Int) × Int × Int) (i : Int) (s3 : List Int) (s4 : Int) (p : List Int) (p2 : List Int) (p3 : List Bool) : Option ((Int × List Int × Int × List Int × List Int × List Bool) ⊕ (List Int × Int × List Int × List Int × List Bool)) :=
 bif decide (i < (n.2.2.2.1.length : Int)) then (
 (keep_Src_N 2 s3 s4).bind fun r =>
 gd (fits (p3.length + 1) 1) <|
 some (.inl (wi64 (i + 1), r.2.1, r.2.2, p, p2, p3 ++ [decide (r.1 = 0)])))
 else (
 some (.inr (s3, s4, p, p2, p3)))

noncomputable def keep_Src_Plan_L3 (n : List (List UInt8) × List yT0 × List (List UInt8 × Int × Int) × List (List UInt8 × Int × Int × Int × Int) × Int × Int) (r4 : Int × List Int × Int) (r6 : Int × List Int × Int) (vat : Int) (vend2 : Int) (v : Int) (s11 : List Int) (s12 : Int) (way2 : List Int) (p10 : List Int) (p11 : List Int) (p12 : List Bool) : Option ((Int × Int × List Int × Int × List Int × List Int × List Int × List Bool) ⊕ (Int × List Int × Int × List Int × List Int × List Int × List Bool)) :=
 bif decide (v < (n.2.2.1.length : Int)) then (
 gd (inB v n.2.2.1.length) <|
 Option.bind (α := Bool × List Int × Int × List Int × List Int × List Int × List Bool) (
 bif decide (((n.2.2.1.getD v.toNat ([], (0, 0))).2).1 = vat) then (
 bif !decide (v = r4.1) then (
 gd (inB v p11.length) <|
 bif decide (p11.getD v.toNat 0 ≤ 0) then (
 gd (inB v p11.length) <|
 bif decide ((-1000) ≤ wi64 ((p11.getD v.toNat 0) - r6.1)) then (
 bif decide (0 < (way2.length : Int)) then (
 (keep_Src_N 2 s11 s12).bind fun r7 =>
 some (decide (r7.1 = 0), r7.2.1, r7.2.2, way2, p10, p11, p12))
 else (
 some (false, s11, s12, way2, p10, p11, p12)))
 else (
 some (false, s11, s12, way2, p10, p11, p12)))
 else (
 some (false, s11, s12, way2, p10, p11, p12)))
 else (
 some (false, s11, s12, way2, p10, p11, p12)))
 else (
 some (false, s11, s12, way2, p10, p11, p12))) fun s13 =>
 Option.bind (α := Int × List Int × List Int × List Int × List Bool) (
 bif s13.1 then (
 some (v, s13.2.2.2.1, s13.2.2.2.2.1, s13.2.2.2.2.2.1, s13.2.2.2.2.2.2))
 else (
 some (vend2, s13.2.2.2.1, s13.2.2.2.2.1, s13.2.2.2.2.2.1, s13.2.2.2.2.2.2))) fun s14 =>
 some (.inl (s14.1, wi64 (v + 1), s13.2.1, s13.2.2.1, s14.2.1, s14.2.2.1, s14.2.2.2.1, s14.2.2.2.2)))
 else (
 some (.inr (vend2, s11, s12, way2, p10, p11, p12)))

noncomputable def keep_Src_Plan_L4 (n : List (List UInt8) × List yT0 × List (List UInt8 × Int × Int) × List (List UInt8 × Int × Int × Int × Int) × Int × Int) (r6 : Int × List Int × Int) (vat : Int) (v2 : Int) (way3 : List Int) (out : List Int) (p13 : List Int) (p14 : List Int) (p15 : List Bool) : Option ((Int × List Int × List Int × List Int × List Int × List Bool) ⊕ (List Int × List Int × List Int × List Int × List Bool)) :=
 bif decide (v2 < (n.2.1.length : Int)) then (
 gd (inB v2 n.2.1.length) <|
 Option.bind (α := Bool × List Int × List Int × List Int × List Int × List Bool) (
 bif decide (((n.2.1.getD v2.toNat ([], (0, (0, (0, (0, (0, []))))))).2).1 = vat) then (
 bif decide (vat < wi64 ((wi64 ((((n.2.1.getD v2.toNat ([], (0, (0, (0, (0, (0, []))))))).2).1) + ((((n.2.1.getD v2.toNat ([], (0, (0, (0, (0, (0, []))))))).2).2).1))) - vat)) then (
 gd (inB v2 p13.length) <|
 (keep_abs (p13.getD v2.toNat 0)).bind fun r8 =>
 some (decide (wi64 (r8 + r6.1) ≤ min 1000 (((((n.2.1.getD v2.toNat ([], (0, (0, (0, (0, (0, []))))))).2).2).2).1)), way3, out, p13, p14, p15))
 else (
 some (false, way3, out, p13, p14, p15)))
 else (
 bif decide ((((n.2.1.getD v2.toNat ([], (0, (0, (0, (0, (0, []))))))).2).2).1 = vat) then (
 bif decide (vat < wi64 ((wi64 ((((n.2.1.getD v2.toNat ([], (0, (0, (0, (0, (0, []))))))).2).1) + ((((n.2.1.getD v2.toNat ([], (0, (0, (0, (0, (0, []))))))).2).2).1))) - vat)) then (
 gd (inB v2 p13.length) <|
 (keep_abs (p13.getD v2.toNat 0)).bind fun r9 =>
 some (decide (wi64 (r9 + r6.1) ≤ min 1000 (((((n.2.1.getD v2.toNat ([], (0, (0, (0, (0, (0, []))))))).2).2).2).1)), way3, out, p13, p14, p15))
 else (
 some (false, way3, out, p13, p14, p15)))
 else (
 some (false, way3, out, p13, p14, p15)))) fun s16 =>
 Option.bind (α := List Int × List Int × List Int × List Int × List Bool) (
 bif s16.1 then (
 gd (fits (s16.2.2.1.length + 1) 8) <|
 some (s16.2.1, s16.2.2.1 ++ [v2], s16.2.2.2.1, s16.2.2.2.2.1, s16.2.2.2.2.2))
 else (
 some (s16.2.1, s16.2.2.1, s16.2.2.2.1, s16.2.2.2.2.1, s16.2.2.2.2.2))) fun s17 =>
 some (.inl (wi64 (v2 + 1), s17.1, s17.2.1, s17.2.2.1, s17.2.2.2.1, s17.2.2.2.2)))
 else (
 some (.inr (way3, out, p13, p14, p15)))

noncomputable def keep_Src_Plan_L2 (n : List (List UInt8) × List yT0 × List (List UInt8 × Int × Int) × List (List UInt8 × Int × Int × Int × Int) × Int × Int) (r4 : Int × List Int × Int) (r6 : Int × List Int × Int) (vat : Int) (vend : Int) (s9 : List Int) (s10 : Int) (way : List Int) (p7 : List Int) (p8 : List Int) (p9 : List Bool) : Option ((Int × Int × List Int × Int × List Int × List Int × List Int × List Bool) ⊕ (Int × List Int × Int × List Int × List Int × List Int × List Bool)) :=
 bif decide (vend < 0) then (
 (iter (fun x2 => keep_Src_Plan_L3 n r4 r6 vat x2.1 x2.2.1 x2.2.2.1 x2.2.2.2.1 x2.2.2.2.2.1 x2.2.2.2.2.2.1 x2.2.2.2.2.2.2.1 x2.2.2.2.2.2.2.2) (vend, 0, s9, s10, way, p7, p8, p9)).bind fun s15 =>
 bif decide (0 ≤ s15.1) then (
 some (.inr (s15.1, s15.2.1, s15.2.2.1, s15.2.2.2.1, s15.2.2.2.2.1, s15.2.2.2.2.2.1, s15.2.2.2.2.2.2)))
 else (
 (iter (fun x3 => keep_Src_Plan_L4 n r6 vat x3.1 x3.2.1 x3.2.2.1 x3.2.2.2.1 x3.2.2.2.2.1 x3.2.2.2.2.2) (0, s15.2.2.2.1, [], s15.2.2.2.2.1, s15.2.2.2.2.2.1, s15.2.2.2.2.2.2)).bind fun s18 =>
 bif decide ((s18.2.1.length : Int) = 0) then (
 some (.inr (s15.1, s15.2.1, s15.2.2.1, s18.1, s18.2.2.1, s18.2.2.2.1, s18.2.2.2.2)))
 else (
 (keep_Src_N (s18.2.1.length : Int) s15.2.1 s15.2.2.1).bind fun r10 =>
 gd (inB r10.1 s18.2.1.length) <|
 gd (fits (s18.1.length + 1) 8) <|
 gd (inB (s18.2.1.getD r10.1.toNat 0) n.2.1.length) <|
 gd (inB (s18.2.1.getD r10.1.toNat 0) n.2.1.length) <|
 some (.inl (wi64 ((wi64 ((((n.2.1.getD (s18.2.1.getD r10.1.toNat 0).toNat ([], (0, (0, (0, (0, (0, []))))))).2).1) + ((((n.2.1.getD (s18.2.1.getD r10.1.toNat 0).toNat ([], (0, (0, (0, (0, (0, []))))))).2).2).1))) - vat), s15.1, r10.2.1, r10.2.2, s18.1 ++ [s18.2.1.getD r10.1.toNat 0], s18.2.2.1, s18.2.2.2.1, s18.2.2.2.2)))))
 else (
 some (.inr (vend, s9, s10, way, p7, p8, p9)))

noncomputable def keep_Src_Plan_L5 (n : List (List UInt8) × List yT0 × List (List UInt8 × Int × Int) × List (List UInt8 × Int × Int × Int × Int) × Int × Int) (r6 : Int × List Int × Int) (s19 : Int × List Int × Int × List Int × List Int × List Int × List Bool) (v3 : Int) (v4 : List Int) (p16 : List Int) (p17 : List Int) (p18 : List Bool) : Option ((Int × List Int × List Int × List Int × List Bool) ⊕ (List Int × List Int × List Bool)) :=
 bif decide (v3 < (s19.2.2.2.1.length : Int)) then (
 gd (inB v3 v4.length) <|
 gd (inB (v4.getD v3.toNat 0) n.2.1.length) <|
 gd (inB (v4.getD v3.toNat 0) n.2.1.length) <|
 Option.bind (α := List Int × List Int × List Int × List Bool) (
 bif decide (((n.2.1.getD (v4.getD v3.toNat 0).toNat ([], (0, (0, (0, (0, (0, []))))))).2).1 < (((n.2.1.getD (v4.getD v3.toNat 0).toNat ([], (0, (0, (0, (0, (0, []))))))).2).2).1) then (
 gd (inB (v4.getD v3.toNat 0) p16.length) <|
 gd (inB (v4.getD v3.toNat 0) p16.length) <|
 some (v4, p16.set ((v4.getD v3.toNat 0).toNat) (wi64 ((p16.getD ((v4.getD v3.toNat 0).toNat) 0) + r6.1)), p17, p18))
 else (
 gd (inB (v4.getD v3.toNat 0) p16.length) <|
 gd (inB (v4.getD v3.toNat 0) p16.length) <|
 some (v4, p16.set ((v4.getD v3.toNat 0).toNat) (wi64 ((p16.getD ((v4.getD v3.toNat 0).toNat) 0) - r6.1)), p17, p18))) fun s20 =>
 some (.inl (wi64 (v3 + 1), s20.1, s20.2.1, s20.2.2.1, s20.2.2.2)))
 else (
 some (.inr (p16, p17, p18)))

noncomputable def keep_Src_Plan_L1 (n : List (List UInt8) × List yT0 × List (List UInt8 × Int × Int) × List (List UInt8 × Int × Int × Int × Int) × Int × Int) (streams : Int) (s6 : List Int) (s7 : Int) (p4 : List Int) (p5 : List Int) (p6 : List Bool) : Option ((Int × List Int × Int × List Int × List Int × List Bool) ⊕ (List Int × Int × List Int × List Int × List Bool)) :=
 bif decide (0 < streams) then (
 Option.bind (α := List Int × Int × List Int × List Int × List Bool) (
 (keep_Src_N (n.2.2.1.length : Int) s6 s7).bind fun r4 =>
 gd (inB r4.1 n.2.2.1.length) <|
 (keep_Src_Pick [1, 5, 30, 300] r4.2.1 r4.2.2).bind fun r5 =>
 (keep_Src_Range 1 r5.1 r5.2.1 r5.2.2).bind fun r6 =>
 Option.bind (α := Bool × List Int × List Int × List Bool) (
 gd (inB r4.1 p5.length) <|
 bif decide (p5.getD r4.1.toNat 0 < 0) then (
 some (true, p4, p5, p6))
 else (
 gd (inB r4.1 p5.length) <|
 some (decide (1000 < wi64 ((p5.getD r4.1.toNat 0) + r6.1)), p4, p5, p6))) fun s8 =>
 bif s8.1 then (
 some (r6.2.1, r6.2.2, s8.2.1, s8.2.2.1, s8.2.2.2))
 else (
 (iter (fun x4 => keep_Src_Plan_L2 n r4 r6 x4.1 x4.2.1 x4.2.2.1 x4.2.2.2.1 x4.2.2.2.2.1 x4.2.2.2.2.2.1 x4.2.2.2.2.2.2.1 x4.2.2.2.2.2.2.2) (((n.2.2.1.getD r4.1.toNat ([], (0, 0))).2).1, (-1), r6.2.1, r6.2.2, [], s8.2.1, s8.2.2.1, s8.2.2.2)).bind fun s19 =>
 bif decide (s19.1 < 0) then (
 some (s19.2.1, s19.2.2.1, s19.2.2.2.2.1, s19.2.2.2.2.2.1, s19.2.2.2.2.2.2))
 else (
 gd (inB r4.1 s19.2.2.2.2.2.1.length) <|
 gd (inB s19.1 s19.2.2.2.2.2.1.length) <|
 gd (inB r4.1 s19.2.2.2.2.2.1.length) <|
 gd (inB s19.1 (s19.2.2.2.2.2.1.set r4.1.toNat (wi64 ((s19.2.2.2.2.2.1.getD r4.1.toNat 0) + r6.1))).length) <|
 (iter (fun x5 => keep_Src_Plan_L5 n r6 s19 x5.1 x5.2.1 x5.2.2.1 x5.2.2.2.1 x5.2.2.2.2) (0, s19.2.2.2.1, s19.2.2.2.2.1, (s19.2.2.2.2.2.1.set r4.1.toNat (wi64 ((s19.2.2.2.2.2.1.getD r4.1.toNat 0) + r6.1))).set s19.1.toNat (wi64 ((s19.2.2.2.2.2.1.getD s19.1.toNat 0) - r6.1)), s19.2.2.2.2.2.2)).bind fun s21 =>
 some (s19.2.1, s19.2.2.1, s21.1, s21.2.1, s21.2.2)))) fun s22 =>
 some (.inl (wi64 (streams - 1), s22.1, s22.2.1, s22.2.2.1, s22.2.2.2.1, s22.2.2.2.2)))
 else (
 some (.inr (s6, s7, p4, p5, p6)))

noncomputable def keep_Src_Plan (n : List (List UInt8) × List yT0 × List (List UInt8 × Int × Int) × List (List UInt8 × Int × Int × Int × Int) × Int × Int) (s : List Int) (s2 : Int) : Option (List Int × Int × List Int × List Int × List Bool) :=
 gd (makeG 8 (n.2.1.length : Int)) <|
 gd (makeG 8 (n.2.2.1.length : Int)) <|
 (iter (fun x => keep_Src_Plan_L0 n x.1 x.2.1 x.2.2.1 x.2.2.2.1 x.2.2.2.2.1 x.2.2.2.2.2) (0, s, s2, List.replicate (n.2.1.length : Int).toNat (0 : Int), List.replicate (n.2.2.1.length : Int).toNat (0 : Int), [])).bind fun s5 =>
 (keep_Src_N 3 s5.1 s5.2.1).bind fun r2 =>
 (keep_Src_N 5 r2.2.1 r2.2.2).bind fun r3 =>
 (iter (fun x6 => keep_Src_Plan_L1 n x6.1 x6.2.1 x6.2.2.1 x6.2.2.2.1 x6.2.2.2.2.1 x6.2.2.2.2.2) (r3.1, r3.2.1, r3.2.2, s5.2.2.1, s5.2.2.2.1, s5.2.2.2.2)).bind fun s23 =>
 bif decide (r2.1 = 0) then (
 (keep_Negated (s23.2.2.1, (s23.2.2.2.1, s23.2.2.2.2))).bind fun r11 =>
 some (s23.1, s23.2.1, r11.1, r11.2.1, r11.2.2))
 else (
 some (s23.1, s23.2.1, s23.2.2.1, s23.2.2.2.1, s23.2.2.2.2))

noncomputable def fn_keep_Src_Plan : Fun :=
 ⟨37, 2, 1,
 ⟨[(0, .one (.ptr 0 0)), (1, .one (.data tT0))], [(0, 80, [.data (.sl (.int .i64)), .data (.int .i64)])], []⟩,
 ⟨[(0, .agg [.own 1, .own 2, .own 3])], [(0, 80, [.data (.sl (.int .i64)), .data (.int .i64)])], [(1, .arr 3 (.int .i64)), (2, .arr 3 (.int .i64)), (3, .arr 4 (.bool))]⟩,
 fun x => keep_Src_Plan x.1 x.2.1 x.2.2⟩
noncomputable def cx_keep_Src_Plan : Cx := ⟨types, [], [fn_keep_Src_N, fn_keep_Src_Pick, fn_keep_Src_Range, fn_keep_abs, fn_keep_Negated], 279, []⟩
theorem ok_keep_Src_Plan : FunOk Tryz.prog fn_keep_Src_Plan :=
 FunOk.intro (C := cx_keep_Src_Plan) (p := (nn (nn (mm (nn (mm (.mk [] (some (⟨[(0, .one (.ptr 0 0)), (3, .one (.ptr 64 0)), (4, .one (.ptr 80 0)), (5, .one (.ptr 96 0)), (6, ii)], [(0, 80, [.data (.sl (.int .i64)), .data (.int .i64)]), (64, 32, [.keep, .keep, .keep, .keep, .keep, .keep]), (80, 36, [.keep, .keep, .keep]), (96, 36, [.own 416, .own 480, .own 1593])], [(416, .arr 3 (.int .i64)), (480, .arr 3 (.int .i64)), (1593, .arr 4 (.bool))]⟩, [⟨.x 0, ⟨[(0, .one (.ptr 0 0)), (3, .one (.ptr 64 0)), (4, .one (.ptr 80 0)), (5, .one (.ptr 96 0))], [(0, 80, [.data (.sl (.int .i64)), .data (.int .i64)]), (64, 32, [.keep, .keep, .keep, .keep, .keep, .keep]), (80, 36, [.keep, .keep, .keep]), (96, 36, [.own 416, .own 480, .own 1593])], [(416, .arr 3 (.int .i64)), (480, .arr 3 (.int .i64)), (1593, .arr 4 (.bool))]⟩⟩])) .nil .nil) .nil)) (nn (mm (nn (mm (.mk [] (some (⟨[(0, .one (.ptr 0 0)), (3, .one (.ptr 64 0)), (4, .one (.ptr 80 0)), (5, .one (.ptr 96 0)), (7, kk), (8, ii)], [(0, 80, [.data (.sl (.int .i64)), .data (.int .i64)]), (64, 32, [.keep, .keep, .keep, .keep, .keep, .keep]), (80, 36, [.keep, .keep, .keep]), (96, 36, [.own 416, .own 480, .own 1593])], [(416, .arr 3 (.int .i64)), (480, .arr 3 (.int .i64)), (1593, .arr 4 (.bool))]⟩, [⟨.x 2, ⟨[(4, .one (.ptr 80 0)), (5, .one (.ptr 96 0)), (7, kk)], [(80, 36, [.keep, .keep, .keep]), (96, 36, [.own 416, .own 480, .own 1593]), (0, 80, [.data (.sl (.int .i64)), .data (.int .i64)])], [(416, .arr 3 (.int .i64)), (480, .arr 3 (.int .i64)), (1593, .arr 4 (.bool))]⟩⟩])) (nn (mm (.mk [.join [⟨.n, ⟨[(0, .one (.ptr 0 0)), (3, .one (.ptr 64 0)), (4, .one (.ptr 80 0)), (5, .one (.ptr 96 0)), (7, kk), (8, kk)], [(0, 80, [.data (.sl (.int .i64)), .data (.int .i64)]), (64, 32, [.keep, .keep, .keep, .keep, .keep, .keep]), (80, 36, [.keep, .keep, .keep]), (96, 36, [.own 416, .own 480, .own 1593])], [(416, .arr 3 (.int .i64)), (480, .arr 3 (.int .i64)), (1593, .arr 4 (.bool))]⟩⟩]] none (nn (nn (mm (mm (.mk [.join [⟨.n, ⟨[(0, .one (.ptr 0 0)), (3, .one (.ptr 64 0)), (4, .one (.ptr 80 0)), (5, .one (.ptr 96 0)), (7, kk), (8, kk), (9, kk), (10, kk), (11, kk), (86, bb)], [(0, 80, [.keep, .keep]), (64, 32, [.keep, .keep, .keep, .keep, .keep, .keep]), (80, 36, [.keep, .keep, .keep]), (96, 36, [.own 416, .own 480, .own 1593])], [(416, .arr 3 (.int .i64)), (480, .arr 3 (.int .i64)), (1593, .arr 4 (.bool))]⟩⟩]] none .nil .nil) .nil) (nn (nn (mm (mm (.mk [] (some (⟨[(0, .one (.ptr 0 0)), (3, .one (.ptr 64 0)), (4, .one (.ptr 80 0)), (5, .one (.ptr 96 0)), (7, kk), (8, kk), (9, kk), (10, ii), (11, kk), (12, .one (.own 219)), (13, ii)], [(0, 80, [.data (.sl (.int .i64)), .data (.int .i64)]), (64, 32, [.keep, .keep, .keep, .keep, .keep, .keep]), (80, 36, [.keep, .keep, .keep]), (96, 36, [.own 416, .own 480, .own 1593])], [(219, .arr 3 (.int .i64)), (416, .arr 3 (.int .i64)), (480, .arr 3 (.int .i64)), (1593, .arr 4 (.bool))]⟩, [⟨.x 4, ⟨[(0, .one (.ptr 0 0)), (3, .one (.ptr 64 0)), (4, .one (.ptr 80 0)), (5, .one (.ptr 96 0)), (7, kk), (8, kk), (9, kk), (11, kk), (12, .one (.own 219)), (13, ii)], [(0, 80, [.data (.sl (.int .i64)), .data (.int .i64)]), (64, 32, [.keep, .keep, .keep, .keep, .keep, .keep]), (80, 36, [.keep, .keep, .keep]), (96, 36, [.own 416, .own 480, .own 1593])], [(219, .arr 3 (.int .i64)), (416, .arr 3 (.int .i64)), (480, .arr 3 (.int .i64)), (1593, .arr 4 (.bool))]⟩⟩])) (nn (mm (mm (nn (mm (.mk [] (some (⟨[(0, .one (.ptr 0 0)), (3, .one (.ptr 64 0)), (4, .one (.ptr 80 0)), (5, .one (.ptr 96 0)), (7, kk), (8, kk), (9, kk), (10, kk), (11, kk), (12, .one (.own 219)), (13, ii), (90, kk), (91, kk), (92, ii)], [(0, 80, [.data (.sl (.int .i64)), .data (.int .i64)]), (64, 32, [.keep, .keep, .keep, .keep, .keep, .keep]), (80, 36, [.keep, .keep, .keep]), (96, 36, [.own 416, .own 480, .own 1593])], [(219, .arr 3 (.int .i64)), (416, .arr 3 (.int .i64)), (480, .arr 3 (.int .i64)), (1593, .arr 4 (.bool))]⟩, [⟨.x 6, ⟨[(0, .one (.ptr 0 0)), (3, .one (.ptr 64 0)), (4, .one (.ptr 80 0)), (5, .one (.ptr 96 0)), (7, kk), (8, kk), (9, kk), (10, kk), (11, kk), (12, .one (.own 219)), (13, ii)], [(0, 80, [.data (.sl (.int .i64)), .data (.int .i64)]), (64, 32, [.keep, .keep, .keep, .keep, .keep, .keep]), (80, 36, [.keep, .keep, .keep]), (96, 36, [.own 416, .own 480, .own 1593])], [(219, .arr 3 (.int .i64)), (416, .arr 3 (.int .i64)), (480, .arr 3 (.int .i64)), (1593, .arr 4 (.bool))]⟩⟩])) (nn (nn (mm (mm (nn (mm (.mk [.join [⟨.n, ⟨[(0, .one (.ptr 0 0)), (3, .one (.ptr 64 0)), (4, .one (.ptr 80 0)), (5, .one (.ptr 96 0)), (7, kk), (8, kk), (9, kk), (10, kk), (11, kk), (12, .one (.own 219)), (13, kk), (14, kk), (90, kk), (91, kk), (92, kk), (133, bb)], [(0, 80, [.data (.sl (.int .i64)), .data (.int .i64)]), (64, 32, [.keep, .keep, .keep, .keep, .keep, .keep]), (80, 36, [.keep, .keep, .keep]), (96, 36, [.own 416, .own 480, .own 1593])], [(219, .arr 3 (.int .i64)), (416, .arr 3 (.int .i64)), (480, .arr 3 (.int .i64)), (1593, .arr 4 (.bool))]⟩⟩]] none .nil .nil) (.mk [.join [⟨.n, ⟨[(0, .one (.ptr 0 0)), (3, .one (.ptr 64 0)), (4, .one (.ptr 80 0)), (5, .one (.ptr 96 0)), (7, kk), (8, kk), (9, kk), (10, kk), (11, kk), (12, .one (.own 219)), (13, ii), (90, kk), (91, kk), (92, kk)], [(0, 80, [.keep, .keep]), (64, 32, [.keep, .keep, .keep, .keep, .keep, .keep]), (80, 36, [.keep, .keep, .keep]), (96, 36, [.own 416, .own 480, .own 1593])], [(219, .arr 3 (.int .i64)), (416, .arr 3 (.int .i64)), (480, .arr 3 (.int .i64)), (1593, .arr 4 (.bool))]⟩⟩]] none .nil .nil))) .nil) .nil))) .nil) .nil)) (nn (nn (mm (nn (mm (.mk [] (some (⟨[(0, .one (.ptr 0 0)), (3, .one (.ptr 64 0)), (4, .one (.ptr 80 0)), (5, .one (.ptr 96 0)), (7, kk), (8, kk), (9, kk), (10, kk), (11, kk), (12, .one (.own 219)), (13, kk), (16, .one (.own 283)), (139, kk), (140, kk), (141, ii)], [(0, 80, [.keep, .keep]), (64, 32, [.keep, .keep, .keep, .keep, .keep, .keep]), (80, 36, [.keep, .keep, .keep]), (96, 36, [.own 416, .own 480, .own 1593])], [(219, .arr 3 (.int .i64)), (283, .arr 3 (.int .i64)), (416, .arr 3 (.int .i64)), (480, .arr 3 (.int .i64)), (1593, .arr 4 (.bool))]⟩, [⟨.x 8, ⟨[(0, .one (.ptr 0 0)), (3, .one (.ptr 64 0)), (4, .one (.ptr 80 0)), (5, .one (.ptr 96 0)), (7, kk), (8, kk), (9, kk), (10, kk), (11, kk), (12, .one (.own 219)), (13, kk), (16, .one (.own 283))], [(0, 80, [.keep, .keep]), (64, 32, [.keep, .keep, .keep, .keep, .keep, .keep]), (80, 36, [.keep, .keep, .keep]), (96, 36, [.own 416, .own 480, .own 1593])], [(219, .arr 3 (.int .i64)), (283, .arr 3 (.int .i64)), (416, .arr 3 (.int .i64)), (480, .arr 3 (.int .i64)), (1593, .arr 4 (.bool))]⟩⟩])) (nn (nn (mm (mm (nn (mm (.mk [.join [⟨.n, ⟨[(0, .one (.ptr 0 0)), (3, .one (.ptr 64 0)), (4, .one (.ptr 80 0)), (5, .one (.ptr 96 0)), (7, kk), (8, kk), (9, kk), (10, kk), (11, kk), (12, .one (.own 219)), (13, kk), (16, .one (.own 283)), (17, kk), (139, kk), (140, kk), (141, kk), (180, bb)], [(0, 80, [.keep, .keep]), (64, 32, [.keep, .keep, .keep, .keep, .keep, .keep]), (80, 36, [.keep, .keep, .keep]), (96, 36, [.own 416, .own 480, .own 1593])], [(219, .arr 3 (.int .i64)), (283, .arr 3 (.int .i64)), (416, .arr 3 (.int .i64)), (480, .arr 3 (.int .i64)), (1593, .arr 4 (.bool))]⟩⟩]] none .nil .nil) (.mk [.join [⟨.n, ⟨[(0, .one (.ptr 0 0)), (3, .one (.ptr 64 0)), (4, .one (.ptr 80 0)), (5, .one (.ptr 96 0)), (7, kk), (8, kk), (9, kk), (10, kk), (11, kk), (12, .one (.own 219)), (13, kk), (16, .one (.own 283)), (139, kk), (140, kk), (141, kk)], [(0, 80, [.keep, .keep]), (64, 32, [.keep, .keep, .keep, .keep, .keep, .keep]), (80, 36, [.keep, .keep, .keep]), (96, 36, [.own 416, .own 480, .own 1593])], [(219, .arr 3 (.int .i64)), (283, .arr 3 (.int .i64)), (416, .arr 3 (.int .i64)), (480, .arr 3 (.int .i64)), (1593, .arr 4 (.bool))]⟩⟩]] none .nil .nil))) .nil) .nil))) .nil) .nil)) .nil)))) .nil)) .nil) .nil) (nn (nn (nn (mm (.mk [] (some (⟨[(0, .one (.ptr 0 0)), (3, .one (.ptr 64 0)), (4, .one (.ptr 80 0)), (5, .one (.ptr 96 0)), (7, kk), (8, kk), (11, kk), (239, .one (.own 219)), (240, kk), (241, ii)], [(0, 80, [.keep, .keep]), (64, 32, [.keep, .keep, .keep, .keep, .keep, .keep]), (80, 36, [.keep, .keep, .keep]), (96, 36, [.own 416, .own 480, .own 1593])], [(219, .arr 3 (.int .i64)), (416, .arr 3 (.int .i64)), (480, .arr 3 (.int .i64)), (1593, .arr 4 (.bool))]⟩, [⟨.x 10, ⟨[(0, .one (.ptr 0 0)), (3, .one (.ptr 64 0)), (4, .one (.ptr 80 0)), (5, .one (.ptr 96 0)), (7, kk), (8, kk)], [(0, 80, [.keep, .keep]), (64, 32, [.keep, .keep, .keep, .keep, .keep, .keep]), (80, 36, [.keep, .keep, .keep]), (96, 36, [.own 416, .own 480, .own 1593])], [(416, .arr 3 (.int .i64)), (480, .arr 3 (.int .i64)), (1593, .arr 4 (.bool))]⟩⟩])) (nn (nn (mm (mm (nn (nn (.mk [.join [⟨.n, ⟨[(0, .one (.ptr 0 0)), (3, .one (.ptr 64 0)), (4, .one (.ptr 80 0)), (5, .one (.ptr 96 0)), (7, kk), (8, kk), (11, kk), (239, .one (.own 219)), (240, kk), (241, kk)], [(0, 80, [.keep, .keep]), (64, 32, [.keep, .keep, .keep, .keep, .keep, .keep]), (80, 36, [.keep, .keep, .keep]), (96, 36, [.own 416, .own 480, .own 1593])], [(219, .arr 3 (.int .i64)), (416, .arr 3 (.int .i64)), (480, .arr 3 (.int .i64)), (1593, .arr 4 (.bool))]⟩⟩]] none .nil .nil))) .nil) .nil))) .nil) .nil)))))))))) .nil) .nil)) .nil) .nil)) .nil))))))
  Tryz.func37 rfl (by kernel_rfl) rfl rfl rfl rfl types_ok ⟨⟨ok_keep_Src_N, ok_keep_Src_Pick, ok_keep_Src_Range, ok_keep_abs, ok_keep_Negated, trivial⟩, trivial⟩ mx (fun x => by kernel_rfl)

noncomputable def ref25_CopyPlan (p : List Int × List Int × List Bool) : Option (List Int × List Int × List Bool) :=
 gd (fits (0 + p.1.length) 8) <|
 gd (fits (0 + p.2.1.length) 8) <|
 gd (fits (0 + p.2.2.length) 1) <|
 some (([] ++ p.1), ([] ++ p.2.1), ([] ++ p.2.2))

noncomputable def fn_ref25_CopyPlan : Fun :=
 ⟨31, 1, 1,
 ⟨[(0, .one (.data tT4))], [], []⟩,
 ⟨[(0, .agg [.own 0, .own 1, .own 2])], [], [(0, .arr 3 (.int .i64)), (1, .arr 3 (.int .i64)), (2, .arr 4 (.bool))]⟩,
 fun x => ref25_CopyPlan x⟩
noncomputable def cx_ref25_CopyPlan : Cx := ⟨types, [3, 7, 11], [], 16, []⟩
theorem ok_ref25_CopyPlan : FunOk Tryz.prog fn_ref25_CopyPlan :=
 FunOk.intro (C := cx_ref25_CopyPlan) (p := .nil)
  Tryz.func31 rfl (by kernel_rfl) rfl rfl rfl rfl types_ok ⟨trivial, trivial⟩ mx (fun x => by kernel_rfl)

noncomputable def ref12_in (n : Int) (low : Int) (high : Int) : Option (Bool) :=
 bif decide (low ≤ n) then (
 some (decide (n ≤ high)))
 else (
 some false)

noncomputable def fn_ref12_in : Fun :=
 ⟨83, 3, 1,
 ⟨[(0, ii), (1, ii), (2, ii)], [], []⟩,
 ⟨[(0, bb)], [], []⟩,
 fun x => ref12_in x.1 x.2.1 x.2.2⟩
noncomputable def cx_ref12_in : Cx := ⟨types, [], [], 15, []⟩
theorem ok_ref12_in : FunOk Tryz.prog fn_ref12_in :=
 FunOk.intro (C := cx_ref12_in) (p := .nil)
  Tryz.func83 rfl (by kernel_rfl) rfl rfl rfl rfl types_ok ⟨trivial, trivial⟩ mx (fun x => by kernel_rfl)

noncomputable def ref12_names_L0 (n : List (List UInt8) × List yT0 × List (List UInt8 × Int × Int) × List (List UInt8 × Int × Int × Int × Int) × Int × Int) (v : Int) (out : List (List UInt8)) : Option ((Int × List (List UInt8)) ⊕ (List (List UInt8))) :=
 bif decide (v < (n.2.1.length : Int)) then (
 gd (inB v n.2.1.length) <|
 gd (fits (out.length + 1) 16) <|
 some (.inl (wi64 (v + 1), out ++ [(n.2.1.getD v.toNat ([], (0, (0, (0, (0, (0, []))))))).1])))
 else (
 some (.inr out))

noncomputable def ref12_names_L1 (n : List (List UInt8) × List yT0 × List (List UInt8 × Int × Int) × List (List UInt8 × Int × Int × Int × Int) × Int × Int) (v2 : Int) (out2 : List (List UInt8)) (out3 : List (List UInt8)) : Option ((Int × List (List UInt8) × List (List UInt8)) ⊕ (List (List UInt8) × List (List UInt8))) :=
 bif decide (v2 < (n.2.2.1.length : Int)) then (
 gd (inB v2 n.2.2.1.length) <|
 gd (fits (out3.length + 1) 16) <|
 some (.inl (wi64 (v2 + 1), out2, out3 ++ [(n.2.2.1.getD v2.toNat ([], (0, 0))).1])))
 else (
 some (.inr (out2, out3)))

noncomputable def ref12_names_L2 (n : List (List UInt8) × List yT0 × List (List UInt8 × Int × Int) × List (List UInt8 × Int × Int × Int × Int) × Int × Int) (v3 : Int) (out4 : List (List UInt8)) (out5 : List (List UInt8)) (out6 : List (List UInt8)) : Option ((Int × List (List UInt8) × List (List UInt8) × List (List UInt8)) ⊕ (List (List UInt8) × List (List UInt8) × List (List UInt8))) :=
 bif decide (v3 < (n.2.2.2.1.length : Int)) then (
 gd (inB v3 n.2.2.2.1.length) <|
 gd (fits (out6.length + 1) 16) <|
 some (.inl (wi64 (v3 + 1), out4, out5, out6 ++ [(n.2.2.2.1.getD v3.toNat ([], (0, (0, (0, 0))))).1])))
 else (
 some (.inr (out4, out5, out6)))

noncomputable def ref12_names (n : List (List UInt8) × List yT0 × List (List UInt8 × Int × Int) × List (List UInt8 × Int × Int × Int × Int) × Int × Int) : Option (List (List UInt8) × List (List UInt8) × List (List UInt8) × List (List UInt8)) :=
 (iter (fun x => ref12_names_L0 n x.1 x.2) (0, [])).bind fun s =>
 (iter (fun x2 => ref12_names_L1 n x2.1 x2.2.1 x2.2.2) (0, s, [])).bind fun s2 =>
 (iter (fun x3 => ref12_names_L2 n x3.1 x3.2.1 x3.2.2.1 x3.2.2.2) (0, s2.1, s2.2, [])).bind fun s3 =>
 some (n.1, (s3.1, (s3.2.1, s3.2.2)))

noncomputable def fn_ref12_names : Fun :=
 ⟨84, 1, 1,
 ⟨[(0, .one (.data tT0))], [], []⟩,
 ⟨[(0, .one (.data (.pair (.sl (.str)) (.pair (.sl (.str)) (.pair (.sl (.str)) (.sl (.str)))))))], [], []⟩,
 fun x => ref12_names x⟩
noncomputable def cx_ref12_names : Cx := ⟨types, [], [], 59, []⟩
theorem ok_ref12_names : FunOk Tryz.prog fn_ref12_names :=
 FunOk.intro (C := cx_ref12_names) (p := (nn (nn (nn (mm (nn (mm (.mk [] (some (⟨[(1, .one (.ptr 32 0)), (2, .one (.ptr 48 0)), (3, .one (.ptr 64 0)), (14, kk), (15, kk), (16, ii)], [(32, 32, [.keep, .keep, .keep, .keep, .keep, .keep]), (48, 122, [.keep, .keep, .keep, .keep]), (64, 122, [.keep, .own 1065, .keep, .keep])], [(1065, .arr 9 (.str))]⟩, [⟨.x 0, ⟨[(1, .one (.ptr 32 0)), (2, .one (.ptr 48 0)), (3, .one (.ptr 64 0))], [(32, 32, [.keep, .keep, .keep, .keep, .keep, .keep]), (48, 122, [.keep, .keep, .keep, .keep]), (64, 122, [.keep, .own 1065, .keep, .keep])], [(1065, .arr 9 (.str))]⟩⟩])) .nil .nil) .nil)) (mm (nn (mm (.mk [] (some (⟨[(1, .one (.ptr 32 0)), (2, .one (.ptr 48 0)), (3, .one (.ptr 64 0)), (29, kk), (30, kk), (31, ii)], [(32, 32, [.keep, .keep, .keep, .keep, .keep, .keep]), (48, 122, [.keep, .keep, .keep, .keep]), (64, 122, [.keep, .own 1065, .own 1081, .keep])], [(1065, .arr 9 (.str)), (1081, .arr 9 (.str))]⟩, [⟨.x 2, ⟨[(1, .one (.ptr 32 0)), (2, .one (.ptr 48 0)), (3, .one (.ptr 64 0))], [(32, 32, [.keep, .keep, .keep, .keep, .keep, .keep]), (48, 122, [.keep, .keep, .keep, .keep]), (64, 122, [.keep, .own 1065, .own 1081, .keep])], [(1065, .arr 9 (.str)), (1081, .arr 9 (.str))]⟩⟩])) .nil .nil) .nil)) (mm (nn (mm (.mk [] (some (⟨[(2, .one (.ptr 48 0)), (3, .one (.ptr 64 0)), (44, kk), (45, kk), (46, ii)], [(48, 122, [.keep, .keep, .keep, .keep]), (64, 122, [.keep, .own 1065, .own 1081, .own 1097])], [(1065, .arr 9 (.str)), (1081, .arr 9 (.str)), (1097, .arr 9 (.str))]⟩, [⟨.x 4, ⟨[(2, .one (.ptr 48 0)), (3, .one (.ptr 64 0))], [(48, 122, [.keep, .keep, .keep, .keep]), (64, 122, [.keep, .own 1065, .own 1081, .own 1097])], [(1065, .arr 9 (.str)), (1081, .arr 9 (.str)), (1097, .arr 9 (.str))]⟩⟩])) .nil .nil) .nil)) .nil)))))))
  Tryz.func84 rfl (by kernel_rfl) rfl rfl rfl rfl types_ok ⟨trivial, trivial⟩ mx (fun x => by kernel_rfl)

noncomputable def ref03_Name_L0 (s : List UInt8) (i : Int) : Option (Int ⊕ (Unit ⊕ Bool)) :=
 bif decide (i < (s.length : Int)) then (
 Option.bind (α := Bool) (
 gd (inB i s.length) <|
 bif decide ((Int.ofNat (s.getD i.toNat 0).toNat) < 97) then (
 gd (inB i s.length) <|
 bif decide ((Int.ofNat (s.getD i.toNat 0).toNat) < 48) then (
 gd (inB i s.length) <|
 some (!decide ((Int.ofNat (s.getD i.toNat 0).toNat) = 45)))
 else (
 gd (inB i s.length) <|
 bif decide (57 < (Int.ofNat (s.getD i.toNat 0).toNat)) then (
 gd (inB i s.length) <|
 some (!decide ((Int.ofNat (s.getD i.toNat 0).toNat) = 45)))
 else (
 some false)))
 else (
 gd (inB i s.length) <|
 bif decide (122 < (Int.ofNat (s.getD i.toNat 0).toNat)) then (
 gd (inB i s.length) <|
 bif decide ((Int.ofNat (s.getD i.toNat 0).toNat) < 48) then (
 gd (inB i s.length) <|
 some (!decide ((Int.ofNat (s.getD i.toNat 0).toNat) = 45)))
 else (
 gd (inB i s.length) <|
 bif decide (57 < (Int.ofNat (s.getD i.toNat 0).toNat)) then (
 gd (inB i s.length) <|
 some (!decide ((Int.ofNat (s.getD i.toNat 0).toNat) = 45)))
 else (
 some false)))
 else (
 some false))) fun s3 =>
 bif s3 then (
 some (.inr (.inr false)))
 else (
 some (.inl (wi64 (i + 1)))))
 else (
 some (.inr (.inl ())))

noncomputable def ref03_Name (s : List UInt8) : Option (Bool) :=
 Option.bind (α := Bool) (
 bif decide ((s.length : Int) < 1) then (
 some true)
 else (
 bif decide (12 < (s.length : Int)) then (
 some true)
 else (
 gd (inB 0 s.length) <|
 bif decide ((Int.ofNat (s.getD 0 0).toNat) < 97) then (
 some true)
 else (
 gd (inB 0 s.length) <|
 some (decide (122 < (Int.ofNat (s.getD 0 0).toNat))))))) fun s2 =>
 bif s2 then (
 some false)
 else (
 (iter (fun x => ref03_Name_L0 s x) 0).bind fun s4 =>
 s4.elim (fun s5 =>
 some true)
 (fun s6 =>
 some s6))

noncomputable def fn_ref03_Name : Fun :=
 ⟨85, 1, 1,
 ⟨[(0, ss)], [], []⟩,
 ⟨[(0, bb)], [], []⟩,
 fun x => ref03_Name x⟩
noncomputable def cx_ref03_Name : Cx := ⟨types, [], [], 56, []⟩
theorem ok_ref03_Name : FunOk Tryz.prog fn_ref03_Name :=
 FunOk.intro (C := cx_ref03_Name) (p := (nn (mm (mm (.mk [.join [⟨.n, ⟨[(0, kk), (21, bb)], [], []⟩⟩]] none .nil .nil) .nil) (mm (nn (mm (.mk [] (some (⟨[(0, kk), (3, ii)], [], []⟩, [⟨.x 0, ⟨[], [], []⟩⟩, ⟨.r, ⟨[(2, bb)], [], []⟩⟩])) (nn (mm (mm (mm (.mk [.join [⟨.n, ⟨[(0, kk), (3, kk), (55, bb)], [], []⟩⟩]] none .nil .nil) .nil) .nil) .nil)) .nil) .nil)) .nil))))
  Tryz.func85 rfl (by kernel_rfl) rfl rfl rfl rfl types_ok ⟨trivial, trivial⟩ mx (fun x => by kernel_rfl)

noncomputable def ref12_twice_L1 (l : List (List UInt8)) (v : Int) (k : Int) : Option (Int ⊕ (Unit ⊕ Bool)) :=
 bif decide (k < v) then (
 gd (inB v l.length) <|
 gd (inB k l.length) <|
 bif decide (l.getD v.toNat [] = l.getD k.toNat []) then (
 some (.inr (.inr true)))
 else (
 some (.inl (wi64 (k + 1)))))
 else (
 some (.inr (.inl ())))

noncomputable def ref12_twice_L0 (l : List (List UInt8)) (v : Int) : Option (Int ⊕ (Unit ⊕ Bool)) :=
 bif decide (v < (l.length : Int)) then (
 (iter (fun x => ref12_twice_L1 l v x) 0).bind fun s =>
 s.elim (fun s2 =>
 some (.inl (wi64 (v + 1))))
 (fun s3 =>
 some (.inr (.inr s3))))
 else (
 some (.inr (.inl ())))

noncomputable def ref12_twice (l : List (List UInt8)) : Option (Bool) :=
 (iter (fun x2 => ref12_twice_L0 l x2) 0).bind fun s4 =>
 s4.elim (fun s5 =>
 some false)
 (fun s6 =>
 some s6)

noncomputable def fn_ref12_twice : Fun :=
 ⟨86, 1, 1,
 ⟨[(0, .one (.data (.sl (.str))))], [], []⟩,
 ⟨[(0, bb)], [], []⟩,
 fun x => ref12_twice x⟩
noncomputable def cx_ref12_twice : Cx := ⟨types, [], [], 25, []⟩
theorem ok_ref12_twice : FunOk Tryz.prog fn_ref12_twice :=
 FunOk.intro (C := cx_ref12_twice) (p := (nn (mm (nn (mm (.mk [] (some (⟨[(0, kk), (6, kk), (7, ii)], [], []⟩, [⟨.x 0, ⟨[], [], []⟩⟩, ⟨.r, ⟨[(2, bb)], [], []⟩⟩])) (nn (nn (mm (mm (nn (nn (mm (.mk [] (some (⟨[(0, kk), (3, kk), (4, ii), (6, kk), (7, kk)], [], []⟩, [⟨.x 2, ⟨[(0, kk), (6, kk), (7, kk)], [], []⟩⟩, ⟨.r, ⟨[(2, bb)], [], []⟩⟩])) .nil .nil) .nil))) .nil) .nil))) .nil) .nil)) .nil)))
  Tryz.func86 rfl (by kernel_rfl) rfl rfl rfl rfl types_ok ⟨trivial, trivial⟩ mx (fun x => by kernel_rfl)

noncomputable def ref12_proper_L0 (s : List UInt8 × Int × Int × Int × Int × Int × List (Int × Int × Int)) (v : Int) : Option (Int ⊕ (Unit ⊕ Bool)) :=
 bif decide (v < (s.2.2.2.2.2.2.length : Int)) then (
 gd (inB v s.2.2.2.2.2.2.length) <|
 Option.bind (α := Bool) (
 bif decide (0 < v) then (
 gd (inB (wi64 (v - 1)) s.2.2.2.2.2.2.length) <|
 bif decide ((s.2.2.2.2.2.2.getD v.toNat (0, (0, 0))).1 ≤ (s.2.2.2.2.2.2.getD (wi64 (v - 1)).toNat (0, (0, 0))).1) then (
 some true)
 else (
 (ref12_in (((s.2.2.2.2.2.2.getD v.toNat (0, (0, 0))).2).1) (-500) 5000).bind fun r4 =>
 bif !r4 then (
 some true)
 else (
 (ref12_in (((s.2.2.2.2.2.2.getD v.toNat (0, (0, 0))).2).2) 0 100000000).bind fun r5 =>
 some (!r5))))
 else (
 (ref12_in (((s.2.2.2.2.2.2.getD v.toNat (0, (0, 0))).2).1) (-500) 5000).bind fun r6 =>
 bif !r6 then (
 some true)
 else (
 (ref12_in (((s.2.2.2.2.2.2.getD v.toNat (0, (0, 0))).2).2) 0 100000000).bind fun r7 =>
 some (!r7)))) fun s3 =>
 bif s3 then (
 some (.inr (.inr false)))
 else (
 some (.inl (wi64 (v + 1)))))
 else (
 some (.inr (.inl ())))

noncomputable def ref12_proper (s : List UInt8 × Int × Int × Int × Int × Int × List (Int × Int × Int)) : Option (Bool) :=
 Option.bind (α := Bool) (
 bif decide (s.2.1 = s.2.2.1) then (
 some true)
 else (
 (ref12_in s.2.2.2.1 1 1000000).bind fun r =>
 bif !r then (
 some true)
 else (
 (ref12_in s.2.2.2.2.1 0 1000).bind fun r2 =>
 bif !r2 then (
 some true)
 else (
 (ref12_in s.2.2.2.2.2.1 0 100000).bind fun r3 =>
 bif !r3 then (
 some true)
 else (
 gd (inB 0 s.2.2.2.2.2.2.length) <|
 bif !decide ((s.2.2.2.2.2.2.getD 0 (0, (0, 0))).1 = 0) then (
 some true)
 else (
 gd (inB (wi64 ((s.2.2.2.2.2.2.length : Int) - 1)) s.2.2.2.2.2.2.length) <|
 some (!decide ((s.2.2.2.2.2.2.getD (wi64 ((s.2.2.2.2.2.2.length : Int) - 1)).toNat (0, (0, 0))).1 = s.2.2.2.1)))))))) fun s2 =>
 bif s2 then (
 some false)
 else (
 (iter (fun x => ref12_proper_L0 s x) 0).bind fun s4 =>
 s4.elim (fun s5 =>
 some true)
 (fun s6 =>
 some s6))

noncomputable def fn_ref12_proper : Fun :=
 ⟨87, 1, 1,
 ⟨[(0, .one (.data (.pair (.str) tT3)))], [], []⟩,
 ⟨[(0, bb)], [], []⟩,
 fun x => ref12_proper x⟩
noncomputable def cx_ref12_proper : Cx := ⟨types, [], [fn_ref12_in], 85, []⟩
theorem ok_ref12_proper : FunOk Tryz.prog fn_ref12_proper :=
 FunOk.intro (C := cx_ref12_proper) (p := (nn (mm (mm (.mk [.join [⟨.n, ⟨[(1, .one (.ptr 32 0)), (49, bb)], [(32, 74, [.keep, .keep, .keep, .keep, .keep, .keep, .keep])], []⟩⟩]] none .nil .nil) .nil) (mm (nn (mm (.mk [] (some (⟨[(1, .one (.ptr 32 0)), (51, kk), (52, kk), (53, ii)], [(32, 74, [.keep, .keep, .keep, .keep, .keep, .keep, .keep])], []⟩, [⟨.x 0, ⟨[], [], []⟩⟩, ⟨.r, ⟨[(2, bb)], [], []⟩⟩])) (nn (nn (mm (mm (nn (mm (.mk [.join [⟨.n, ⟨[(1, .one (.ptr 32 0)), (51, kk), (52, kk), (53, kk), (83, bb)], [(32, 74, [.keep, .keep, .keep, .keep, .keep, .keep, .keep])], []⟩⟩]] none .nil .nil) .nil)) .nil) .nil))) .nil) .nil)) .nil))))
  Tryz.func87 rfl (by kernel_rfl) rfl rfl rfl rfl types_ok ⟨⟨ok_ref12_in, trivial⟩, trivial⟩ mx (fun x => by kernel_rfl)

noncomputable def ref12_Check_L0 (n : List (List UInt8) × List yT0 × List (List UInt8 × Int × Int) × List (List UInt8 × Int × Int × Int × Int) × Int × Int) (v : Int) : Option (Int ⊕ (Unit ⊕ Int)) :=
 bif decide (v < (n.2.1.length : Int)) then (
 gd (inB v n.2.1.length) <|
 (ref12_in ((((((((n.2.1.getD v.toNat ([], (0, (0, (0, (0, (0, []))))))).2).2).2).2).2).2).length : Int) 2 8).bind fun r2 =>
 bif !r2 then (
 some (.inr (.inr 4)))
 else (
 some (.inl (wi64 (v + 1)))))
 else (
 some (.inr (.inl ())))

noncomputable def ref12_Check_L2 (v2 : List (List UInt8)) (v3 : List (List UInt8)) (v4 : List (List UInt8)) (v5 : List (List UInt8)) (v6 : Int) (v7 : List (List UInt8)) (v8 : List (List UInt8)) (v9 : List (List UInt8)) (v10 : List (List UInt8)) (v11 : Int) : Option ((List (List UInt8) × List (List UInt8) × List (List UInt8) × List (List UInt8) × Int) ⊕ ((List (List UInt8) × List (List UInt8) × List (List UInt8) × List (List UInt8)) ⊕ Int)) :=
 bif decide (v11 < (([v2, v3, v4, v5].getD v6.toNat []).length : Int)) then (
 gd (inB v11 ([v2, v3, v4, v5].getD v6.toNat []).length) <|
 (ref03_Name (([v2, v3, v4, v5].getD v6.toNat []).getD v11.toNat [])).bind fun r4 =>
 bif !r4 then (
 some (.inr (.inr 3)))
 else (
 some (.inl (v7, v8, v9, v10, wi64 (v11 + 1)))))
 else (
 some (.inr (.inl (v7, v8, v9, v10))))

noncomputable def ref12_Check_L1 (v2 : List (List UInt8)) (v3 : List (List UInt8)) (v4 : List (List UInt8)) (v5 : List (List UInt8)) (v6 : Int) : Option ((List (List UInt8) × List (List UInt8) × List (List UInt8) × List (List UInt8) × Int) ⊕ (Unit ⊕ Int)) :=
 bif decide (v6 < 4) then (
 gd (inB v6 4) <|
 (iter (fun x2 => ref12_Check_L2 v2 v3 v4 v5 v6 x2.1 x2.2.1 x2.2.2.1 x2.2.2.2.1 x2.2.2.2.2) (v2, v3, v4, v5, 0)).bind fun s5 =>
 s5.elim (fun s6 =>
 some (.inl (s6.1, s6.2.1, s6.2.2.1, s6.2.2.2, wi64 (v6 + 1))))
 (fun s7 =>
 some (.inr (.inr s7))))
 else (
 some (.inr (.inl ())))

noncomputable def ref12_Check_L3 (v12 : List (List UInt8)) (v13 : List (List UInt8)) (v14 : List (List UInt8)) (v15 : List (List UInt8)) (v16 : Int) : Option ((List (List UInt8) × List (List UInt8) × List (List UInt8) × List (List UInt8) × Int) ⊕ (Unit ⊕ Int)) :=
 bif decide (v16 < 4) then (
 gd (inB v16 4) <|
 (ref12_twice ([v12, v13, v14, v15].getD v16.toNat [])).bind fun r5 =>
 bif r5 then (
 some (.inr (.inr 7)))
 else (
 some (.inl (v12, v13, v14, v15, wi64 (v16 + 1)))))
 else (
 some (.inr (.inl ())))

noncomputable def ref12_Check_L5 (n : List (List UInt8) × List yT0 × List (List UInt8 × Int × Int) × List (List UInt8 × Int × Int × Int × Int) × Int × Int) (v17 : Int) (k : Int) : Option (Int ⊕ (Unit ⊕ Int)) :=
 bif decide (k < v17) then (
 gd (inB v17 n.2.2.2.1.length) <|
 gd (inB k n.2.2.2.1.length) <|
 bif decide (((n.2.2.2.1.getD v17.toNat ([], (0, (0, (0, 0))))).2).1 = ((n.2.2.2.1.getD k.toNat ([], (0, (0, (0, 0))))).2).1) then (
 some (.inr (.inr 7)))
 else (
 some (.inl (wi64 (k + 1)))))
 else (
 some (.inr (.inl ())))

noncomputable def ref12_Check_L4 (n : List (List UInt8) × List yT0 × List (List UInt8 × Int × Int) × List (List UInt8 × Int × Int × Int × Int) × Int × Int) (v17 : Int) : Option (Int ⊕ (Unit ⊕ Int)) :=
 bif decide (v17 < (n.2.2.2.1.length : Int)) then (
 (iter (fun x5 => ref12_Check_L5 n v17 x5) 0).bind fun s14 =>
 s14.elim (fun s15 =>
 some (.inl (wi64 (v17 + 1))))
 (fun s16 =>
 some (.inr (.inr s16))))
 else (
 some (.inr (.inl ())))

noncomputable def ref12_Check_L6 (n : List (List UInt8) × List yT0 × List (List UInt8 × Int × Int) × List (List UInt8 × Int × Int × Int × Int) × Int × Int) (v18 : Int) : Option (Int ⊕ (Unit ⊕ Int)) :=
 bif decide (v18 < (n.2.1.length : Int)) then (
 gd (inB v18 n.2.1.length) <|
 Option.bind (α := Bool) (
 (ref12_in (((n.2.1.getD v18.toNat ([], (0, (0, (0, (0, (0, []))))))).2).1) 0 (wi64 ((n.1.length : Int) - 1))).bind fun r6 =>
 bif !r6 then (
 some true)
 else (
 (ref12_in ((((n.2.1.getD v18.toNat ([], (0, (0, (0, (0, (0, []))))))).2).2).1) 0 (wi64 ((n.1.length : Int) - 1))).bind fun r7 =>
 some (!r7))) fun s20 =>
 bif s20 then (
 some (.inr (.inr 8)))
 else (
 some (.inl (wi64 (v18 + 1)))))
 else (
 some (.inr (.inl ())))

noncomputable def ref12_Check_L7 (n : List (List UInt8) × List yT0 × List (List UInt8 × Int × Int) × List (List UInt8 × Int × Int × Int × Int) × Int × Int) (v19 : Int) : Option (Int ⊕ (Unit ⊕ Int)) :=
 bif decide (v19 < (n.2.2.1.length : Int)) then (
 gd (inB v19 n.2.2.1.length) <|
 (ref12_in (((n.2.2.1.getD v19.toNat ([], (0, 0))).2).1) 0 (wi64 ((n.1.length : Int) - 1))).bind fun r8 =>
 bif !r8 then (
 some (.inr (.inr 8)))
 else (
 some (.inl (wi64 (v19 + 1)))))
 else (
 some (.inr (.inl ())))

noncomputable def ref12_Check_L8 (n : List (List UInt8) × List yT0 × List (List UInt8 × Int × Int) × List (List UInt8 × Int × Int × Int × Int) × Int × Int) (v20 : Int) : Option (Int ⊕ (Unit ⊕ Int)) :=
 bif decide (v20 < (n.2.2.2.1.length : Int)) then (
 gd (inB v20 n.2.2.2.1.length) <|
 (ref12_in (((n.2.2.2.1.getD v20.toNat ([], (0, (0, (0, 0))))).2).1) 0 (wi64 ((n.1.length : Int) - 1))).bind fun r9 =>
 bif !r9 then (
 some (.inr (.inr 8)))
 else (
 some (.inl (wi64 (v20 + 1)))))
 else (
 some (.inr (.inl ())))

noncomputable def ref12_Check_L9 (n : List (List UInt8) × List yT0 × List (List UInt8 × Int × Int) × List (List UInt8 × Int × Int × Int × Int) × Int × Int) (v21 : Int) : Option (Int ⊕ (Unit ⊕ Int)) :=
 bif decide (v21 < (n.2.1.length : Int)) then (
 gd (inB v21 n.2.1.length) <|
 (ref12_proper ((n.2.1.getD v21.toNat ([], (0, (0, (0, (0, (0, []))))))).1, (((n.2.1.getD v21.toNat ([], (0, (0, (0, (0, (0, []))))))).2).1, ((((n.2.1.getD v21.toNat ([], (0, (0, (0, (0, (0, []))))))).2).2).1, (((((n.2.1.getD v21.toNat ([], (0, (0, (0, (0, (0, []))))))).2).2).2).1, ((((((n.2.1.getD v21.toNat ([], (0, (0, (0, (0, (0, []))))))).2).2).2).2).1, (((((((n.2.1.getD v21.toNat ([], (0, (0, (0, (0, (0, []))))))).2).2).2).2).2).1, ((((((n.2.1.getD v21.toNat ([], (0, (0, (0, (0, (0, []))))))).2).2).2).2).2).2))))))).bind fun r10 =>
 bif !r10 then (
 some (.inr (.inr 9)))
 else (
 some (.inl (wi64 (v21 + 1)))))
 else (
 some (.inr (.inl ())))

noncomputable def ref12_Check_L10 (n : List (List UInt8) × List yT0 × List (List UInt8 × Int × Int) × List (List UInt8 × Int × Int × Int × Int) × Int × Int) (v22 : Int) : Option (Int ⊕ (Unit ⊕ Int)) :=
 bif decide (v22 < (n.2.2.1.length : Int)) then (
 gd (inB v22 n.2.2.1.length) <|
 (ref12_in (((n.2.2.1.getD v22.toNat ([], (0, 0))).2).2) 0 100000000).bind fun r11 =>
 bif !r11 then (
 some (.inr (.inr 9)))
 else (
 some (.inl (wi64 (v22 + 1)))))
 else (
 some (.inr (.inl ())))

noncomputable def ref12_Check_L11 (n : List (List UInt8) × List yT0 × List (List UInt8 × Int × Int) × List (List UInt8 × Int × Int × Int × Int) × Int × Int) (v23 : Int) : Option (Int ⊕ (Unit ⊕ Int)) :=
 bif decide (v23 < (n.2.2.2.1.length : Int)) then (
 gd (inB v23 n.2.2.2.1.length) <|
 Option.bind (α := Bool) (
 (ref12_in ((((n.2.2.2.1.getD v23.toNat ([], (0, (0, (0, 0))))).2).2).1) 0 100000000).bind fun r12 =>
 bif !r12 then (
 some true)
 else (
 (ref12_in (((((n.2.2.2.1.getD v23.toNat ([], (0, (0, (0, 0))))).2).2).2).1) 0 100000).bind fun r13 =>
 bif !r13 then (
 some true)
 else (
 (ref12_in (((((n.2.2.2.1.getD v23.toNat ([], (0, (0, (0, 0))))).2).2).2).2) 0 100000000).bind fun r14 =>
 some (!r14)))) fun s36 =>
 bif s36 then (
 some (.inr (.inr 9)))
 else (
 some (.inl (wi64 (v23 + 1)))))
 else (
 some (.inr (.inl ())))

noncomputable def ref12_Check (n : List (List UInt8) × List yT0 × List (List UInt8 × Int × Int) × List (List UInt8 × Int × Int × Int × Int) × Int × Int) : Option (Int) :=
 Option.bind (α := Bool) (
 (ref12_in (n.1.length : Int) 1 24).bind fun r =>
 bif !r then (
 some true)
 else (
 bif decide (32 < (n.2.1.length : Int)) then (
 some true)
 else (
 bif decide (24 < (n.2.2.1.length : Int)) then (
 some true)
 else (
 some (decide (12 < (n.2.2.2.1.length : Int))))))) fun s =>
 bif s then (
 some 4)
 else (
 (iter (fun x => ref12_Check_L0 n x) 0).bind fun s2 =>
 s2.elim (fun s3 =>
 (ref12_names (n.1, (n.2.1, (n.2.2.1, (n.2.2.2.1, (n.2.2.2.2.1, n.2.2.2.2.2)))))).bind fun r3 =>
 (iter (fun x3 => ref12_Check_L1 x3.1 x3.2.1 x3.2.2.1 x3.2.2.2.1 x3.2.2.2.2) (r3.1, r3.2.1, r3.2.2.1, r3.2.2.2, 0)).bind fun s8 =>
 s8.elim (fun s9 =>
 (iter (fun x4 => ref12_Check_L3 x4.1 x4.2.1 x4.2.2.1 x4.2.2.2.1 x4.2.2.2.2) (r3.1, r3.2.1, r3.2.2.1, r3.2.2.2, 0)).bind fun s11 =>
 s11.elim (fun s12 =>
 (iter (fun x6 => ref12_Check_L4 n x6) 0).bind fun s17 =>
 s17.elim (fun s18 =>
 (iter (fun x7 => ref12_Check_L6 n x7) 0).bind fun s21 =>
 s21.elim (fun s22 =>
 (iter (fun x8 => ref12_Check_L7 n x8) 0).bind fun s24 =>
 s24.elim (fun s25 =>
 (iter (fun x9 => ref12_Check_L8 n x9) 0).bind fun s27 =>
 s27.elim (fun s28 =>
 (iter (fun x10 => ref12_Check_L9 n x10) 0).bind fun s30 =>
 s30.elim (fun s31 =>
 (iter (fun x11 => ref12_Check_L10 n x11) 0).bind fun s33 =>
 s33.elim (fun s34 =>
 (iter (fun x12 => ref12_Check_L11 n x12) 0).bind fun s37 =>
 s37.elim (fun s38 =>
 Option.bind (α := Bool) (
 (ref12_in n.2.2.2.2.1 (-100000) 100000000).bind fun r15 =>
 bif !r15 then (
 some true)
 else (
 (ref12_in n.2.2.2.2.2 0 100).bind fun r16 =>
 some (!r16))) fun s40 =>
 bif s40 then (
 some 9)
 else (
 some 0))
 (fun s39 =>
 some s39))
 (fun s35 =>
 some s35))
 (fun s32 =>
 some s32))
 (fun s29 =>
 some s29))
 (fun s26 =>
 some s26))
 (fun s23 =>
 some s23))
 (fun s19 =>
 some s19))
 (fun s13 =>
 some s13))
 (fun s10 =>
 some s10))
 (fun s4 =>
 some s4))

noncomputable def fn_ref12_Check : Fun :=
 ⟨50, 1, 1,
 ⟨[(0, .one (.data tT0))], [], []⟩,
 ⟨[(0, ii)], [], []⟩,
 fun x => ref12_Check x⟩
noncomputable def cx_ref12_Check : Cx := ⟨types, [], [fn_ref12_in, fn_ref12_names, fn_ref03_Name, fn_ref12_twice, fn_ref12_proper], 219, []⟩
theorem ok_ref12_Check : FunOk Tryz.prog fn_ref12_Check :=
 FunOk.intro (C := cx_ref12_Check) (p := (nn (mm (mm (.mk [.join [⟨.n, ⟨[(1, .one (.ptr 32 0)), (49, bb)], [(32, 32, [.keep, .keep, .keep, .keep, .keep, .keep])], []⟩⟩]] none .nil .nil) .nil) (mm (nn (mm (.mk [] (some (⟨[(1, .one (.ptr 32 0)), (51, kk), (52, kk), (53, ii)], [(32, 32, [.keep, .keep, .keep, .keep, .keep, .keep])], []⟩, [⟨.x 0, ⟨[(1, .one (.ptr 32 0))], [(32, 32, [.keep, .keep, .keep, .keep, .keep, .keep])], []⟩⟩, ⟨.r, ⟨[(2, ii)], [], []⟩⟩])) .nil .nil) .nil)) (nn (mm (nn (mm (.mk [] (some (⟨[(1, .one (.ptr 32 0)), (5, .one (.ptr 96 0)), (65, .agg [.data (.sl (.str)), .data (.sl (.str)), .data (.sl (.str)), .data (.sl (.str))]), (66, ii)], [(32, 32, [.keep, .keep, .keep, .keep, .keep, .keep]), (96, 122, [.keep, .keep, .keep, .keep])], []⟩, [⟨.x 2, ⟨[(1, .one (.ptr 32 0)), (5, .one (.ptr 96 0))], [(32, 32, [.keep, .keep, .keep, .keep, .keep, .keep]), (96, 122, [.keep, .keep, .keep, .keep])], []⟩⟩, ⟨.r, ⟨[(2, ii)], [], []⟩⟩])) (nn (nn (mm (mm (nn (nn (mm (.mk [] (some (⟨[(1, .one (.ptr 32 0)), (5, .one (.ptr 96 0)), (65, .agg [.data (.sl (.str)), .data (.sl (.str)), .data (.sl (.str)), .data (.sl (.str))]), (66, kk), (69, kk), (70, kk), (71, ii)], [(32, 32, [.keep, .keep, .keep, .keep, .keep, .keep]), (96, 122, [.keep, .keep, .keep, .keep])], []⟩, [⟨.x 4, ⟨[(1, .one (.ptr 32 0)), (5, .one (.ptr 96 0)), (65, .agg [.data (.sl (.str)), .data (.sl (.str)), .data (.sl (.str)), .data (.sl (.str))]), (66, kk)], [(32, 32, [.keep, .keep, .keep, .keep, .keep, .keep]), (96, 122, [.keep, .keep, .keep, .keep])], []⟩⟩, ⟨.r, ⟨[(2, ii)], [], []⟩⟩])) .nil .nil) .nil))) .nil) .nil))) .nil) .nil)) (mm (nn (mm (.mk [] (some (⟨[(1, .one (.ptr 32 0)), (80, .agg [.data (.sl (.str)), .data (.sl (.str)), .data (.sl (.str)), .data (.sl (.str))]), (81, ii)], [(32, 32, [.keep, .keep, .keep, .keep, .keep, .keep])], []⟩, [⟨.x 6, ⟨[(1, .one (.ptr 32 0))], [(32, 32, [.keep, .keep, .keep, .keep, .keep, .keep])], []⟩⟩, ⟨.r, ⟨[(2, ii)], [], []⟩⟩])) .nil .nil) .nil)) (mm (nn (mm (.mk [] (some (⟨[(1, .one (.ptr 32 0)), (89, kk), (90, ii)], [(32, 32, [.keep, .keep, .keep, .keep, .keep, .keep])], []⟩, [⟨.x 8, ⟨[(1, .one (.ptr 32 0))], [(32, 32, [.keep, .keep, .keep, .keep, .keep, .keep])], []⟩⟩, ⟨.r, ⟨[(2, ii)], [], []⟩⟩])) (nn (nn (mm (mm (nn (nn (mm (.mk [] (some (⟨[(1, .one (.ptr 32 0)), (12, kk), (13, ii), (89, kk), (90, kk)], [(32, 32, [.keep, .keep, .keep, .keep, .keep, .keep])], []⟩, [⟨.x 10, ⟨[(1, .one (.ptr 32 0)), (89, kk), (90, kk)], [(32, 32, [.keep, .keep, .keep, .keep, .keep, .keep])], []⟩⟩, ⟨.r, ⟨[(2, ii)], [], []⟩⟩])) .nil .nil) .nil))) .nil) .nil))) .nil) .nil)) (nn (mm (nn (mm (.mk [] (some (⟨[(1, .one (.ptr 32 0)), (14, kk), (117, kk), (118, kk), (119, ii)], [(32, 32, [.keep, .keep, .keep, .keep, .keep, .keep])], []⟩, [⟨.x 12, ⟨[(1, .one (.ptr 32 0)), (14, kk)], [(32, 32, [.keep, .keep, .keep, .keep, .keep, .keep])], []⟩⟩, ⟨.r, ⟨[(2, ii)], [], []⟩⟩])) (nn (nn (mm (mm (nn (mm (.mk [.join [⟨.n, ⟨[(1, .one (.ptr 32 0)), (14, kk), (117, kk), (118, kk), (119, kk), (134, bb)], [(32, 32, [.keep, .keep, .keep, .keep, .keep, .keep])], []⟩⟩]] none .nil .nil) .nil)) .nil) .nil))) .nil) .nil)) (mm (nn (mm (.mk [] (some (⟨[(1, .one (.ptr 32 0)), (14, kk), (137, kk), (138, kk), (139, ii)], [(32, 32, [.keep, .keep, .keep, .keep, .keep, .keep])], []⟩, [⟨.x 14, ⟨[(1, .one (.ptr 32 0)), (14, kk)], [(32, 32, [.keep, .keep, .keep, .keep, .keep, .keep])], []⟩⟩, ⟨.r, ⟨[(2, ii)], [], []⟩⟩])) .nil .nil) .nil)) (mm (nn (mm (.mk [] (some (⟨[(1, .one (.ptr 32 0)), (14, kk), (150, kk), (151, kk), (152, ii)], [(32, 32, [.keep, .keep, .keep, .keep, .keep, .keep])], []⟩, [⟨.x 16, ⟨[(1, .one (.ptr 32 0))], [(32, 32, [.keep, .keep, .keep, .keep, .keep, .keep])], []⟩⟩, ⟨.r, ⟨[(2, ii)], [], []⟩⟩])) .nil .nil) .nil)) (mm (nn (mm (.mk [] (some (⟨[(1, .one (.ptr 32 0)), (163, kk), (164, kk), (165, ii)], [(32, 32, [.keep, .keep, .keep, .keep, .keep, .keep])], []⟩, [⟨.x 18, ⟨[(1, .one (.ptr 32 0))], [(32, 32, [.keep, .keep, .keep, .keep, .keep, .keep])], []⟩⟩, ⟨.r, ⟨[(2, ii)], [], []⟩⟩])) .nil .nil) .nil)) (mm (nn (mm (.mk [] (some (⟨[(1, .one (.ptr 32 0)), (174, kk), (175, kk), (176, ii)], [(32, 32, [.keep, .keep, .keep, .keep, .keep, .keep])], []⟩, [⟨.x 20, ⟨[(1, .one (.ptr 32 0))], [(32, 32, [.keep, .keep, .keep, .keep, .keep, .keep])], []⟩⟩, ⟨.r, ⟨[(2, ii)], [], []⟩⟩])) .nil .nil) .nil)) (mm (nn (mm (.mk [] (some (⟨[(1, .one (.ptr 32 0)), (186, kk), (187, kk), (188, ii)], [(32, 32, [.keep, .keep, .keep, .keep, .keep, .keep])], []⟩, [⟨.x 22, ⟨[(1, .one (.ptr 32 0))], [(32, 32, [.keep, .keep, .keep, .keep, .keep, .keep])], []⟩⟩, ⟨.r, ⟨[(2, ii)], [], []⟩⟩])) (nn (nn (mm (mm (nn (mm (.mk [.join [⟨.n, ⟨[(1, .one (.ptr 32 0)), (186, kk), (187, kk), (188, kk), (207, bb)], [(32, 32, [.keep, .keep, .keep, .keep, .keep, .keep])], []⟩⟩]] none .nil .nil) .nil)) .nil) .nil))) .nil) .nil)) (mm (mm (.mk [.join [⟨.n, ⟨[(218, bb)], [], []⟩⟩]] none .nil .nil) .nil) .nil))))))))))))))))
  Tryz.func50 rfl (by kernel_rfl) rfl rfl rfl rfl types_ok ⟨⟨ok_ref12_in, ok_ref12_names, ok_ref03_Name, ok_ref12_twice, ok_ref12_proper, trivial⟩, trivial⟩ mx (fun x => by kernel_rfl)

noncomputable def ref16_Ends (s : List UInt8 × Int × Int × Int × Int × Int × List (Int × Int × Int)) (rate : Int) : Option (Int × Int) :=
 bif decide (rate < 0) then (
 some (s.2.2.1, s.2.1))
 else (
 some (s.2.1, s.2.2.1))

noncomputable def fn_ref16_Ends : Fun :=
 ⟨114, 2, 2,
 ⟨[(0, .one (.data (.pair (.str) tT3))), (1, ii)], [], []⟩,
 ⟨[(0, ii), (1, ii)], [], []⟩,
 fun x => ref16_Ends x.1 x.2⟩
noncomputable def cx_ref16_Ends : Cx := ⟨types, [], [], 16, []⟩
theorem ok_ref16_Ends : FunOk Tryz.prog fn_ref16_Ends :=
 FunOk.intro (C := cx_ref16_Ends) (p := .nil)
  Tryz.func114 rfl (by kernel_rfl) rfl rfl rfl rfl types_ok ⟨trivial, trivial⟩ mx (fun x => by kernel_rfl)

noncomputable def ref16_Abs (n : Int) : Option (Int) :=
 some (max n (wi64 (0 - n)))

noncomputable def fn_ref16_Abs : Fun :=
 ⟨115, 1, 1,
 ⟨[(0, ii)], [], []⟩,
 ⟨[(0, ii)], [], []⟩,
 fun x => ref16_Abs x⟩
noncomputable def cx_ref16_Abs : Cx := ⟨types, [], [], 7, []⟩
theorem ok_ref16_Abs : FunOk Tryz.prog fn_ref16_Abs :=
 FunOk.intro (C := cx_ref16_Abs) (p := .nil)
  Tryz.func115 rfl (by kernel_rfl) rfl rfl rfl rfl types_ok ⟨trivial, trivial⟩ mx (fun x => by kernel_rfl)

noncomputable def ref16_sums_L0 (n : List (List UInt8) × List yT0 × List (List UInt8 × Int × Int) × List (List UInt8 × Int × Int × Int × Int) × Int × Int) (p : List Int × List Int × List Bool) (node : Int) (vin : Int) (out : Int) (v : Int) : Option ((Int × Int × Int) ⊕ (Int × Int)) :=
 bif decide (v < (n.2.1.length : Int)) then (
 Option.bind (α := Int × Int) (
 gd (inB v n.2.1.length) <|
 gd (inB v p.1.length) <|
 bif decide (p.1.getD v.toNat 0 = 0) then (
 some (vin, out))
 else (
 gd (inB v p.1.length) <|
 (ref16_Ends ((n.2.1.getD v.toNat ([], (0, (0, (0, (0, (0, []))))))).1, (((n.2.1.getD v.toNat ([], (0, (0, (0, (0, (0, []))))))).2).1, ((((n.2.1.getD v.toNat ([], (0, (0, (0, (0, (0, []))))))).2).2).1, (((((n.2.1.getD v.toNat ([], (0, (0, (0, (0, (0, []))))))).2).2).2).1, ((((((n.2.1.getD v.toNat ([], (0, (0, (0, (0, (0, []))))))).2).2).2).2).1, (((((((n.2.1.getD v.toNat ([], (0, (0, (0, (0, (0, []))))))).2).2).2).2).2).1, ((((((n.2.1.getD v.toNat ([], (0, (0, (0, (0, (0, []))))))).2).2).2).2).2).2)))))) (p.1.getD v.toNat 0)).bind fun r =>
 Option.bind (α := Int) (
 bif decide (r.1 = node) then (
 gd (inB v p.1.length) <|
 (ref16_Abs (p.1.getD v.toNat 0)).bind fun r2 =>
 some (wi64 (out + r2)))
 else (
 some out)) fun s =>
 Option.bind (α := Int) (
 bif decide (r.2 = node) then (
 gd (inB v p.1.length) <|
 (ref16_Abs (p.1.getD v.toNat 0)).bind fun r3 =>
 some (wi64 (vin + r3)))
 else (
 some vin)) fun s2 =>
 some (s2, s))) fun s3 =>
 some (.inl (s3.1, s3.2, wi64 (v + 1))))
 else (
 some (.inr (vin, out)))

noncomputable def ref16_sums_L1 (n : List (List UInt8) × List yT0 × List (List UInt8 × Int × Int) × List (List UInt8 × Int × Int × Int × Int) × Int × Int) (p : List Int × List Int × List Bool) (node : Int) (vin2 : Int) (out2 : Int) (v2 : Int) : Option ((Int × Int × Int) ⊕ (Int × Int)) :=
 bif decide (v2 < (n.2.2.1.length : Int)) then (
 gd (inB v2 n.2.2.1.length) <|
 Option.bind (α := Int × Int) (
 bif decide (((n.2.2.1.getD v2.toNat ([], (0, 0))).2).1 = node) then (
 gd (inB v2 p.2.1.length) <|
 gd (inB v2 p.2.1.length) <|
 some (wi64 (vin2 + (max 0 (p.2.1.getD v2.toNat 0))), wi64 (out2 + (max 0 (wi64 (0 - (p.2.1.getD v2.toNat 0)))))))
 else (
 some (vin2, out2))) fun s5 =>
 some (.inl (s5.1, s5.2, wi64 (v2 + 1))))
 else (
 some (.inr (vin2, out2)))

noncomputable def ref16_sums (n : List (List UInt8) × List yT0 × List (List UInt8 × Int × Int) × List (List UInt8 × Int × Int × Int × Int) × Int × Int) (p : List Int × List Int × List Bool) (node : Int) : Option (Int × Int) :=
 (iter (fun x => ref16_sums_L0 n p node x.1 x.2.1 x.2.2) (0, 0, 0)).bind fun s4 =>
 (iter (fun x2 => ref16_sums_L1 n p node x2.1 x2.2.1 x2.2.2) (s4.1, s4.2, 0)).bind fun s6 =>
 some (s6.1, s6.2)

noncomputable def fn_ref16_sums : Fun :=
 ⟨66, 3, 2,
 ⟨[(0, .one (.data tT0)), (1, .one (.data tT4)), (2, ii)], [], []⟩,
 ⟨[(0, ii), (1, ii)], [], []⟩,
 fun x => ref16_sums x.1 x.2.1 x.2.2⟩
noncomputable def cx_ref16_sums : Cx := ⟨types, [], [fn_ref16_Ends, fn_ref16_Abs], 95, []⟩
theorem ok_ref16_sums : FunOk Tryz.prog fn_ref16_sums :=
 FunOk.intro (C := cx_ref16_sums) (p := (nn (nn (mm (nn (mm (.mk [] (some (⟨[(2, kk), (3, .one (.ptr 64 0)), (4, .one (.ptr 80 0)), (8, ii), (9, ii), (17, kk), (18, kk), (19, ii)], [(64, 32, [.keep, .keep, .keep, .keep, .keep, .keep]), (80, 36, [.keep, .keep, .keep])], []⟩, [⟨.x 0, ⟨[(2, kk), (3, .one (.ptr 64 0)), (4, .one (.ptr 80 0)), (8, ii), (9, ii)], [(64, 32, [.keep, .keep, .keep, .keep, .keep, .keep]), (80, 36, [.keep, .keep, .keep])], []⟩⟩])) (nn (nn (mm (.mk [.join [⟨.n, ⟨[(2, kk), (3, .one (.ptr 64 0)), (4, .one (.ptr 80 0)), (8, ii), (9, ii), (17, kk), (18, kk), (19, kk)], [(64, 32, [.keep, .keep, .keep, .keep, .keep, .keep]), (80, 36, [.keep, .keep, .keep])], []⟩⟩]] none (nn (nn (nn (mm (nn (.mk [.join [⟨.n, ⟨[(2, kk), (3, .one (.ptr 64 0)), (4, .one (.ptr 80 0)), (8, kk), (9, ii), (10, kk), (13, kk), (17, kk), (18, kk), (19, kk)], [(64, 32, [.keep, .keep, .keep, .keep, .keep, .keep]), (80, 36, [.keep, .keep, .keep])], []⟩⟩]] none .nil .nil)) (nn (.mk [.join [⟨.n, ⟨[(2, kk), (3, .one (.ptr 64 0)), (4, .one (.ptr 80 0)), (8, ii), (9, kk), (17, kk), (18, kk), (19, kk)], [(64, 32, [.keep, .keep, .keep, .keep, .keep, .keep]), (80, 36, [.keep, .keep, .keep])], []⟩⟩]] none .nil .nil)))))) .nil) .nil))) .nil) .nil)) (mm (nn (mm (.mk [] (some (⟨[(2, kk), (4, .one (.ptr 80 0)), (8, ii), (9, ii), (64, kk), (65, kk), (66, ii)], [(80, 36, [.keep, .keep, .keep])], []⟩, [⟨.x 2, ⟨[(8, ii), (9, ii)], [], []⟩⟩])) (nn (nn (mm (mm (nn (nn (.mk [.join [⟨.n, ⟨[(2, kk), (4, .one (.ptr 80 0)), (8, ii), (9, ii), (64, kk), (65, kk), (66, kk)], [(80, 36, [.keep, .keep, .keep])], []⟩⟩]] none .nil .nil))) .nil) .nil))) .nil) .nil)) .nil)))))
  Tryz.func66 rfl (by kernel_rfl) rfl rfl rfl rfl types_ok ⟨⟨ok_ref16_Ends, ok_ref16_Abs, trivial⟩, trivial⟩ mx (fun x => by kernel_rfl)

noncomputable def ref16_order_L2 (n : List (List UInt8) × List yT0 × List (List UInt8 × Int × Int) × List (List UInt8 × Int × Int × Int × Int) × Int × Int) (p : List Int × List Int × List Bool) (v : Int) (free : Bool) (v2 : Int) (out3 : List Int) (there3 : List Bool) : Option ((Bool × Int × List Int × List Bool) ⊕ (Bool × List Int × List Bool)) :=
 bif decide (v2 < (n.2.1.length : Int)) then (
 gd (inB v2 n.2.1.length) <|
 gd (inB v2 p.1.length) <|
 Option.bind (α := Bool × List Int × List Bool) (
 bif !decide (p.1.getD v2.toNat 0 = 0) then (
 gd (inB v2 p.1.length) <|
 (ref16_Ends ((n.2.1.getD v2.toNat ([], (0, (0, (0, (0, (0, []))))))).1, (((n.2.1.getD v2.toNat ([], (0, (0, (0, (0, (0, []))))))).2).1, ((((n.2.1.getD v2.toNat ([], (0, (0, (0, (0, (0, []))))))).2).2).1, (((((n.2.1.getD v2.toNat ([], (0, (0, (0, (0, (0, []))))))).2).2).2).1, ((((((n.2.1.getD v2.toNat ([], (0, (0, (0, (0, (0, []))))))).2).2).2).2).1, (((((((n.2.1.getD v2.toNat ([], (0, (0, (0, (0, (0, []))))))).2).2).2).2).2).1, ((((((n.2.1.getD v2.toNat ([], (0, (0, (0, (0, (0, []))))))).2).2).2).2).2).2)))))) (p.1.getD v2.toNat 0)).bind fun r =>
 Option.bind (α := Bool × List Int × List Bool) (
 bif free then (
 bif !decide (r.2 = v) then (
 some (true, out3, there3))
 else (
 gd (inB r.1 there3.length) <|
 some (there3.getD r.1.toNat false, out3, there3)))
 else (
 some (false, out3, there3))) fun s =>
 some (s.1, s.2.1, s.2.2))
 else (
 some (free, out3, there3))) fun s2 =>
 some (.inl (s2.1, wi64 (v2 + 1), s2.2.1, s2.2.2)))
 else (
 some (.inr (free, out3, there3)))

noncomputable def ref16_order_L1 (n : List (List UInt8) × List yT0 × List (List UInt8 × Int × Int) × List (List UInt8 × Int × Int × Int × Int) × Int × Int) (p : List Int × List Int × List Bool) (next : Int) (v : Int) (out2 : List Int) (there2 : List Bool) : Option ((Int × Int × List Int × List Bool) ⊕ (Int × List Int × List Bool)) :=
 bif decide (v < (n.1.length : Int)) then (
 gd (inB v there2.length) <|
 (iter (fun x => ref16_order_L2 n p v x.1 x.2.1 x.2.2.1 x.2.2.2) ((!(there2.getD v.toNat false)), 0, out2, there2)).bind fun s3 =>
 Option.bind (α := Bool × List Int × List Bool) (
 bif s3.1 then (
 some (decide (next < 0), s3.2.1, s3.2.2))
 else (
 some (false, s3.2.1, s3.2.2))) fun s4 =>
 Option.bind (α := Int × List Int × List Bool) (
 bif s4.1 then (
 some (v, s4.2.1, s4.2.2))
 else (
 some (next, s4.2.1, s4.2.2))) fun s5 =>
 some (.inl (s5.1, wi64 (v + 1), s5.2.1, s5.2.2)))
 else (
 some (.inr (next, out2, there2)))

noncomputable def ref16_order_L0 (n : List (List UInt8) × List yT0 × List (List UInt8 × Int × Int) × List (List UInt8 × Int × Int × Int × Int) × Int × Int) (p : List Int × List Int × List Bool) (out : List Int) (there : List Bool) : Option ((List Int × List Bool) ⊕ (List Int)) :=
 (iter (fun x2 => ref16_order_L1 n p x2.1 x2.2.1 x2.2.2.1 x2.2.2.2) ((-1), 0, out, there)).bind fun s6 =>
 bif decide (s6.1 < 0) then (
 some (.inr s6.2.1))
 else (
 gd (fits (s6.2.1.length + 1) 8) <|
 gd (inB s6.1 s6.2.2.length) <|
 some (.inl (s6.2.1 ++ [s6.1], s6.2.2.set s6.1.toNat true)))

noncomputable def ref16_order (n : List (List UInt8) × List yT0 × List (List UInt8 × Int × Int) × List (List UInt8 × Int × Int × Int × Int) × Int × Int) (p : List Int × List Int × List Bool) : Option (List Int) :=
 gd (makeG 1 (n.1.length : Int)) <|
 (iter (fun x3 => ref16_order_L0 n p x3.1 x3.2) ([], List.replicate (n.1.length : Int).toNat (false : Bool))).bind fun s7 =>
 some s7

noncomputable def fn_ref16_order : Fun :=
 ⟨67, 2, 1,
 ⟨[(0, .one (.data tT0)), (1, .one (.data tT4))], [], []⟩,
 ⟨[(0, .one (.own 0))], [], [(0, .arr 3 (.int .i64))]⟩,
 fun x => ref16_order x.1 x.2⟩
noncomputable def cx_ref16_order : Cx := ⟨types, [], [fn_ref16_Ends], 83, []⟩
theorem ok_ref16_order : FunOk Tryz.prog fn_ref16_order :=
 FunOk.intro (C := cx_ref16_order) (p := (nn (nn (nn (mm (.mk [] (some (⟨[(2, .one (.ptr 48 0)), (3, .one (.ptr 64 0)), (5, .one (.own 107)), (6, .one (.own 288))], [(48, 32, [.keep, .keep, .keep, .keep, .keep, .keep]), (64, 36, [.keep, .keep, .keep])], [(107, .arr 3 (.int .i64)), (288, .arr 4 (.bool))]⟩, [⟨.r, ⟨[(4, .one (.own 91))], [], [(91, .arr 3 (.int .i64))]⟩⟩])) (mm (nn (mm (nn (mm (.mk [] (some (⟨[(2, .one (.ptr 48 0)), (3, .one (.ptr 64 0)), (5, .one (.own 107)), (6, .one (.own 288)), (7, ii), (20, kk), (21, ii)], [(48, 32, [.keep, .keep, .keep, .keep, .keep, .keep]), (64, 36, [.keep, .keep, .keep])], [(107, .arr 3 (.int .i64)), (288, .arr 4 (.bool))]⟩, [⟨.x 2, ⟨[(2, .one (.ptr 48 0)), (3, .one (.ptr 64 0)), (5, .one (.own 107)), (6, .one (.own 288)), (7, ii)], [(48, 32, [.keep, .keep, .keep, .keep, .keep, .keep]), (64, 36, [.keep, .keep, .keep])], [(107, .arr 3 (.int .i64)), (288, .arr 4 (.bool))]⟩⟩])) (nn (nn (mm (mm (nn (nn (mm (nn (mm (.mk [] (some (⟨[(2, .one (.ptr 48 0)), (3, .one (.ptr 64 0)), (5, .one (.own 107)), (6, .one (.own 288)), (7, kk), (8, kk), (9, bb), (20, kk), (21, kk), (30, kk), (31, kk), (32, ii)], [(48, 32, [.keep, .keep, .keep, .keep, .keep, .keep]), (64, 36, [.keep, .keep, .keep])], [(107, .arr 3 (.int .i64)), (288, .arr 4 (.bool))]⟩, [⟨.x 4, ⟨[(2, .one (.ptr 48 0)), (3, .one (.ptr 64 0)), (5, .one (.own 107)), (6, .one (.own 288)), (7, kk), (8, kk), (9, bb), (20, kk), (21, kk)], [(48, 32, [.keep, .keep, .keep, .keep, .keep, .keep]), (64, 36, [.keep, .keep, .keep])], [(107, .arr 3 (.int .i64)), (288, .arr 4 (.bool))]⟩⟩])) (nn (nn (mm (mm (nn (nn (.mk [.join [⟨.n, ⟨[(2, .one (.ptr 48 0)), (3, .one (.ptr 64 0)), (5, .one (.own 107)), (6, .one (.own 288)), (7, kk), (8, kk), (9, bb), (20, kk), (21, kk), (30, kk), (31, kk), (32, kk)], [(48, 32, [.keep, .keep, .keep, .keep, .keep, .keep]), (64, 36, [.keep, .keep, .keep])], [(107, .arr 3 (.int .i64)), (288, .arr 4 (.bool))]⟩⟩]] none (nn (.mk [.join [⟨.n, ⟨[(2, .one (.ptr 48 0)), (3, .one (.ptr 64 0)), (5, .one (.own 107)), (6, .one (.own 288)), (7, kk), (8, kk), (9, bb), (20, kk), (21, kk), (30, kk), (31, kk), (32, kk)], [(48, 32, [.keep, .keep, .keep, .keep, .keep, .keep]), (64, 36, [.keep, .keep, .keep])], [(107, .arr 3 (.int .i64)), (288, .arr 4 (.bool))]⟩⟩]] none .nil .nil)) .nil))) .nil) .nil))) .nil) .nil)) (mm (.mk [.join [⟨.n, ⟨[(2, .one (.ptr 48 0)), (3, .one (.ptr 64 0)), (5, .one (.own 107)), (6, .one (.own 288)), (7, kk), (8, kk), (20, kk), (21, kk), (70, bb)], [(48, 32, [.keep, .keep, .keep, .keep, .keep, .keep]), (64, 36, [.keep, .keep, .keep])], [(107, .arr 3 (.int .i64)), (288, .arr 4 (.bool))]⟩⟩]] none .nil .nil) (.mk [.join [⟨.n, ⟨[(2, .one (.ptr 48 0)), (3, .one (.ptr 64 0)), (5, .one (.own 107)), (6, .one (.own 288)), (7, ii), (20, kk), (21, kk)], [(48, 32, [.keep, .keep, .keep, .keep, .keep, .keep]), (64, 36, [.keep, .keep, .keep])], [(107, .arr 3 (.int .i64)), (288, .arr 4 (.bool))]⟩⟩]] none .nil .nil))))) .nil) .nil))) .nil) .nil)) .nil)) .nil) .nil) .nil)))))
  Tryz.func67 rfl (by kernel_rfl) rfl rfl rfl rfl types_ok ⟨⟨ok_ref16_Ends, trivial⟩, trivial⟩ mx (fun x => by kernel_rfl)

noncomputable def ref16_Check_L0 (n : List (List UInt8) × List yT0 × List (List UInt8 × Int × Int) × List (List UInt8 × Int × Int × Int × Int) × Int × Int) (p : List Int × List Int × List Bool) (v : Int) : Option (Int ⊕ (Unit ⊕ Int)) :=
 bif decide (v < (p.1.length : Int)) then (
 gd (inB v p.1.length) <|
 gd (inB v n.2.1.length) <|
 Option.bind (α := Bool) (
 bif decide (p.1.getD v.toNat 0 < wi64 (0 - (min 1000 (((((n.2.1.getD v.toNat ([], (0, (0, (0, (0, (0, []))))))).2).2).2).1)))) then (
 some true)
 else (
 some (decide (min 1000 (((((n.2.1.getD v.toNat ([], (0, (0, (0, (0, (0, []))))))).2).2).2).1) < p.1.getD v.toNat 0)))) fun s2 =>
 bif s2 then (
 some (.inr (.inr 1)))
 else (
 some (.inl (wi64 (v + 1)))))
 else (
 some (.inr (.inl ())))

noncomputable def ref16_Check_L1 (p : List Int × List Int × List Bool) (v2 : Int) : Option (Int ⊕ (Unit ⊕ Int)) :=
 bif decide (v2 < (p.2.1.length : Int)) then (
 gd (inB v2 p.2.1.length) <|
 Option.bind (α := Bool) (
 bif decide (p.2.1.getD v2.toNat 0 < (-1000)) then (
 some true)
 else (
 some (decide (1000 < p.2.1.getD v2.toNat 0)))) fun s6 =>
 bif s6 then (
 some (.inr (.inr 1)))
 else (
 some (.inl (wi64 (v2 + 1)))))
 else (
 some (.inr (.inl ())))

noncomputable def ref16_Check_L2 (n : List (List UInt8) × List yT0 × List (List UInt8 × Int × Int) × List (List UInt8 × Int × Int × Int × Int) × Int × Int) (p : List Int × List Int × List Bool) (v3 : Int) : Option (Int ⊕ (Unit ⊕ Int)) :=
 bif decide (v3 < (n.1.length : Int)) then (
 (ref16_sums (n.1, (n.2.1, (n.2.2.1, (n.2.2.2.1, (n.2.2.2.2.1, n.2.2.2.2.2))))) (p.1, (p.2.1, p.2.2)) v3).bind fun r2 =>
 bif !decide (r2.1 = r2.2) then (
 some (.inr (.inr 12)))
 else (
 some (.inl (wi64 (v3 + 1)))))
 else (
 some (.inr (.inl ())))

noncomputable def ref16_Check (n : List (List UInt8) × List yT0 × List (List UInt8 × Int × Int) × List (List UInt8 × Int × Int × Int × Int) × Int × Int) (p : List Int × List Int × List Bool) : Option (Int) :=
 (ref12_Check (n.1, (n.2.1, (n.2.2.1, (n.2.2.2.1, (n.2.2.2.2.1, n.2.2.2.2.2)))))).bind fun r =>
 bif !decide (r = 0) then (
 some r)
 else (
 Option.bind (α := Bool) (
 bif !decide ((p.1.length : Int) = (n.2.1.length : Int)) then (
 some true)
 else (
 bif !decide ((p.2.1.length : Int) = (n.2.2.1.length : Int)) then (
 some true)
 else (
 some (!decide ((p.2.2.length : Int) = (n.2.2.2.1.length : Int)))))) fun s =>
 bif s then (
 some 9)
 else (
 (iter (fun x => ref16_Check_L0 n p x) 0).bind fun s3 =>
 s3.elim (fun s4 =>
 (iter (fun x2 => ref16_Check_L1 p x2) 0).bind fun s7 =>
 s7.elim (fun s8 =>
 (iter (fun x3 => ref16_Check_L2 n p x3) 0).bind fun s10 =>
 s10.elim (fun s11 =>
 (ref16_order (n.1, (n.2.1, (n.2.2.1, (n.2.2.2.1, (n.2.2.2.2.1, n.2.2.2.2.2))))) (p.1, (p.2.1, p.2.2))).bind fun r3 =>
 bif !decide ((r3.length : Int) = (n.1.length : Int)) then (
 some 13)
 else (
 some 0))
 (fun s12 =>
 some s12))
 (fun s9 =>
 some s9))
 (fun s5 =>
 some s5)))

noncomputable def fn_ref16_Check : Fun :=
 ⟨27, 2, 1,
 ⟨[(0, .one (.data tT0)), (1, .one (.data tT4))], [], []⟩,
 ⟨[(0, ii)], [], []⟩,
 fun x => ref16_Check x.1 x.2⟩
noncomputable def cx_ref16_Check : Cx := ⟨types, [], [fn_ref12_Check, fn_ref16_sums, fn_ref16_order], 108, []⟩
theorem ok_ref16_Check : FunOk Tryz.prog fn_ref16_Check :=
 FunOk.intro (C := cx_ref16_Check) (p := (nn (nn (mm (mm (.mk [.join [⟨.n, ⟨[(2, .one (.ptr 48 0)), (3, .one (.ptr 64 0)), (43, bb)], [(48, 32, [.keep, .keep, .keep, .keep, .keep, .keep]), (64, 36, [.keep, .keep, .keep])], []⟩⟩]] none .nil .nil) .nil) (mm (nn (mm (.mk [] (some (⟨[(2, .one (.ptr 48 0)), (3, .one (.ptr 64 0)), (45, kk), (46, kk), (47, ii)], [(48, 32, [.keep, .keep, .keep, .keep, .keep, .keep]), (64, 36, [.keep, .keep, .keep])], []⟩, [⟨.x 0, ⟨[(2, .one (.ptr 48 0)), (3, .one (.ptr 64 0))], [(48, 32, [.keep, .keep, .keep, .keep, .keep, .keep]), (64, 36, [.keep, .keep, .keep])], []⟩⟩, ⟨.r, ⟨[(4, ii)], [], []⟩⟩])) (nn (nn (mm (mm (nn (nn (mm (.mk [.join [⟨.n, ⟨[(2, .one (.ptr 48 0)), (3, .one (.ptr 64 0)), (45, kk), (46, kk), (47, kk), (67, bb)], [(48, 32, [.keep, .keep, .keep, .keep, .keep, .keep]), (64, 36, [.keep, .keep, .keep])], []⟩⟩]] none .nil .nil) .nil))) .nil) .nil))) .nil) .nil)) (mm (nn (mm (.mk [] (some (⟨[(2, .one (.ptr 48 0)), (3, .one (.ptr 64 0)), (70, kk), (71, kk), (72, ii)], [(48, 32, [.keep, .keep, .keep, .keep, .keep, .keep]), (64, 36, [.keep, .keep, .keep])], []⟩, [⟨.x 2, ⟨[(2, .one (.ptr 48 0)), (3, .one (.ptr 64 0))], [(48, 32, [.keep, .keep, .keep, .keep, .keep, .keep]), (64, 36, [.keep, .keep, .keep])], []⟩⟩, ⟨.r, ⟨[(4, ii)], [], []⟩⟩])) (nn (nn (mm (mm (nn (mm (.mk [.join [⟨.n, ⟨[(2, .one (.ptr 48 0)), (3, .one (.ptr 64 0)), (70, kk), (71, kk), (72, kk), (81, bb)], [(48, 32, [.keep, .keep, .keep, .keep, .keep, .keep]), (64, 36, [.keep, .keep, .keep])], []⟩⟩]] none .nil .nil) .nil)) .nil) .nil))) .nil) .nil)) (mm (nn (mm (.mk [] (some (⟨[(2, .one (.ptr 48 0)), (3, .one (.ptr 64 0)), (85, kk), (86, ii)], [(48, 32, [.keep, .keep, .keep, .keep, .keep, .keep]), (64, 36, [.keep, .keep, .keep])], []⟩, [⟨.x 4, ⟨[(2, .one (.ptr 48 0)), (3, .one (.ptr 64 0))], [(48, 32, [.keep, .keep, .keep, .keep, .keep, .keep]), (64, 36, [.keep, .keep, .keep])], []⟩⟩, ⟨.r, ⟨[(4, ii)], [], []⟩⟩])) .nil .nil) .nil)) .nil)))))))
  Tryz.func27 rfl (by kernel_rfl) rfl rfl rfl rfl types_ok ⟨⟨ok_ref12_Check, ok_ref16_sums, ok_ref16_order, trivial⟩, trivial⟩ mx (fun x => by kernel_rfl)

noncomputable def ref16_Through (n : List (List UInt8) × List yT0 × List (List UInt8 × Int × Int) × List (List UInt8 × Int × Int × Int × Int) × Int × Int) (p : List Int × List Int × List Bool) (node : Int) : Option (Int × Int) :=
 (ref16_Check (n.1, (n.2.1, (n.2.2.1, (n.2.2.2.1, (n.2.2.2.2.1, n.2.2.2.2.2))))) (p.1, (p.2.1, p.2.2))).bind fun r =>
 bif !decide (r = 0) then (
 some (0, r))
 else (
 Option.bind (α := Bool) (
 bif decide (node < 0) then (
 some true)
 else (
 some (decide ((n.1.length : Int) ≤ node)))) fun s =>
 bif s then (
 some (0, 8))
 else (
 (ref16_sums (n.1, (n.2.1, (n.2.2.1, (n.2.2.2.1, (n.2.2.2.2.1, n.2.2.2.2.2))))) (p.1, (p.2.1, p.2.2)) node).bind fun r2 =>
 some (r2.1, 0)))

noncomputable def fn_ref16_Through : Fun :=
 ⟨70, 3, 2,
 ⟨[(0, .one (.data tT0)), (1, .one (.data tT4)), (2, ii)], [], []⟩,
 ⟨[(0, ii), (1, ii)], [], []⟩,
 fun x => ref16_Through x.1 x.2.1 x.2.2⟩
noncomputable def cx_ref16_Through : Cx := ⟨types, [], [fn_ref16_Check, fn_ref16_sums], 34, []⟩
theorem ok_ref16_Through : FunOk Tryz.prog fn_ref16_Through :=
 FunOk.intro (C := cx_ref16_Through) (p := (nn (nn (mm (mm (.mk [.join [⟨.n, ⟨[(2, kk), (3, .one (.ptr 64 0)), (4, .one (.ptr 80 0)), (25, bb)], [(64, 32, [.keep, .keep, .keep, .keep, .keep, .keep]), (80, 36, [.keep, .keep, .keep])], []⟩⟩]] none .nil .nil) .nil) .nil))))
  Tryz.func70 rfl (by kernel_rfl) rfl rfl rfl rfl types_ok ⟨⟨ok_ref16_Check, ok_ref16_sums, trivial⟩, trivial⟩ mx (fun x => by kernel_rfl)

noncomputable def second_Fed_L0 (n : List (List UInt8) × List yT0 × List (List UInt8 × Int × Int) × List (List UInt8 × Int × Int × Int × Int) × Int × Int) (p : List Int × List Int × List Bool) (i : Int) (out : List Int) (out2 : List Int) (out3 : List Bool) : Option ((Int × List Int × List Int × List Bool) ⊕ (List Int × List Int × List Bool)) :=
 Option.bind (α := Bool × List Int × List Int × List Bool) (
 bif decide (i < (n.2.2.2.1.length : Int)) then (
 some (decide (i < (out3.length : Int)), out, out2, out3))
 else (
 some (false, out, out2, out3))) fun s =>
 bif s.1 then (
 gd (inB i n.2.2.2.1.length) <|
 (ref16_Through (n.1, (n.2.1, (n.2.2.1, (n.2.2.2.1, (n.2.2.2.2.1, n.2.2.2.2.2))))) (p.1, (p.2.1, p.2.2)) (((n.2.2.2.1.getD i.toNat ([], (0, (0, (0, 0))))).2).1)).bind fun r2 =>
 Option.bind (α := List Int × List Int × List Bool) (
 gd (inB i s.2.2.2.length) <|
 bif s.2.2.2.getD i.toNat false then (
 bif decide (r2.2 = 0) then (
 gd (inB i s.2.2.2.length) <|
 some (s.2.1, s.2.2.1, s.2.2.2.set i.toNat (decide (0 < r2.1))))
 else (
 gd (inB i s.2.2.2.length) <|
 some (s.2.1, s.2.2.1, s.2.2.2.set i.toNat false)))
 else (
 gd (inB i s.2.2.2.length) <|
 some (s.2.1, s.2.2.1, s.2.2.2.set i.toNat false))) fun s2 =>
 some (.inl (wi64 (i + 1), s2.1, s2.2.1, s2.2.2)))
 else (
 some (.inr (s.2.1, s.2.2.1, s.2.2.2)))

noncomputable def second_Fed (n : List (List UInt8) × List yT0 × List (List UInt8 × Int × Int) × List (List UInt8 × Int × Int × Int × Int) × Int × Int) (p : List Int × List Int × List Bool) : Option (List Int × List Int × List Bool) :=
 (ref25_CopyPlan (p.1, (p.2.1, p.2.2))).bind fun r =>
 (iter (fun x => second_Fed_L0 n p x.1 x.2.1 x.2.2.1 x.2.2.2) (0, r.1, r.2.1, r.2.2)).bind fun s3 =>
 some (s3.1, s3.2.1, s3.2.2)

noncomputable def fn_second_Fed : Fun :=
 ⟨36, 2, 1,
 ⟨[(0, .one (.data tT0)), (1, .one (.data tT4))], [], []⟩,
 ⟨[(0, .agg [.own 0, .own 1, .own 2])], [], [(0, .arr 3 (.int .i64)), (1, .arr 3 (.int .i64)), (2, .arr 4 (.bool))]⟩,
 fun x => second_Fed x.1 x.2⟩
noncomputable def cx_second_Fed : Cx := ⟨types, [], [fn_ref25_CopyPlan, fn_ref16_Through], 55, []⟩
theorem ok_second_Fed : FunOk Tryz.prog fn_second_Fed :=
 FunOk.intro (C := cx_second_Fed) (p := (nn (nn (mm (nn (mm (.mk [] (some (⟨[(2, .one (.ptr 48 0)), (3, .one (.ptr 64 0)), (4, .one (.ptr 80 0)), (5, .one (.ptr 96 0)), (6, ii)], [(48, 32, [.keep, .keep, .keep, .keep, .keep, .keep]), (64, 36, [.keep, .keep, .keep]), (80, 36, [.keep, .keep, .keep]), (96, 36, [.own 176, .own 177, .own 178])], [(176, .arr 3 (.int .i64)), (177, .arr 3 (.int .i64)), (178, .arr 4 (.bool))]⟩, [⟨.x 0, ⟨[(4, .one (.ptr 80 0)), (5, .one (.ptr 96 0))], [(80, 36, [.keep, .keep, .keep]), (96, 36, [.own 176, .own 177, .own 178])], [(176, .arr 3 (.int .i64)), (177, .arr 3 (.int .i64)), (178, .arr 4 (.bool))]⟩⟩])) (mm (mm (.mk [.join [⟨.n, ⟨[(2, .one (.ptr 48 0)), (3, .one (.ptr 64 0)), (4, .one (.ptr 80 0)), (5, .one (.ptr 96 0)), (6, kk), (22, bb)], [(48, 32, [.keep, .keep, .keep, .keep, .keep, .keep]), (64, 36, [.keep, .keep, .keep]), (80, 36, [.keep, .keep, .keep]), (96, 36, [.own 176, .own 177, .own 178])], [(176, .arr 3 (.int .i64)), (177, .arr 3 (.int .i64)), (178, .arr 4 (.bool))]⟩⟩]] none .nil .nil) .nil) (mm (mm (nn (.mk [.join [⟨.n, ⟨[(2, .one (.ptr 48 0)), (3, .one (.ptr 64 0)), (4, .one (.ptr 80 0)), (5, .one (.ptr 96 0)), (6, kk)], [(48, 32, [.keep, .keep, .keep, .keep, .keep, .keep]), (64, 36, [.keep, .keep, .keep]), (80, 36, [.keep, .keep, .keep]), (96, 36, [.own 176, .own 177, .own 178])], [(176, .arr 3 (.int .i64)), (177, .arr 3 (.int .i64)), (178, .arr 4 (.bool))]⟩⟩]] none .nil .nil)) .nil) .nil)) .nil) .nil)) .nil))))
  Tryz.func36 rfl (by kernel_rfl) rfl rfl rfl rfl types_ok ⟨⟨ok_ref25_CopyPlan, ok_ref16_Through, trivial⟩, trivial⟩ mx (fun x => by kernel_rfl)

noncomputable def second_Plan (n : List (List UInt8) × List yT0 × List (List UInt8 × Int × Int) × List (List UInt8 × Int × Int × Int × Int) × Int × Int) (s : List Int) (s2 : Int) : Option ((List Int × List Int × List Bool) × List Int × Int) :=
 (keep_Src_Plan (n.1, (n.2.1, (n.2.2.1, (n.2.2.2.1, (n.2.2.2.2.1, n.2.2.2.2.2))))) s s2).bind fun r =>
 (second_Fed (n.1, (n.2.1, (n.2.2.1, (n.2.2.2.1, (n.2.2.2.2.1, n.2.2.2.2.2))))) (r.2.2.1, (r.2.2.2.1, r.2.2.2.2))).bind fun r2 =>
 some ((r2.1, (r2.2.1, r2.2.2)), r.1, r.2.1)

noncomputable def fn_second_Plan : Fun :=
 ⟨12, 2, 1,
 ⟨[(0, .one (.ptr 0 0)), (1, .one (.data tT0))], [(0, 80, [.data (.sl (.int .i64)), .data (.int .i64)])], []⟩,
 ⟨[(0, .one (.data tT4))], [(0, 80, [.data (.sl (.int .i64)), .data (.int .i64)])], []⟩,
 fun x => second_Plan x.1 x.2.1 x.2.2⟩
noncomputable def cx_second_Plan : Cx := ⟨types, [], [fn_keep_Src_Plan, fn_second_Fed], 10, []⟩
theorem ok_second_Plan : FunOk Tryz.prog fn_second_Plan :=
 FunOk.intro (C := cx_second_Plan) (p := .nil)
  Tryz.func12 rfl (by kernel_rfl) rfl rfl rfl rfl types_ok ⟨⟨ok_keep_Src_Plan, ok_second_Fed, trivial⟩, trivial⟩ mx (fun x => by kernel_rfl)

noncomputable def ref24_Needs_L0 (p : List Int × List Int × List Bool) (i : Int) (l : List Bool) : Option ((Int × List Bool) ⊕ (List Bool)) :=
 bif decide (i < (p.1.length : Int)) then (
 gd (inB i p.1.length) <|
 gd (fits (l.length + 1) 1) <|
 some (.inl (wi64 (i + 1), l ++ [(!decide (p.1.getD i.toNat 0 = 0))])))
 else (
 some (.inr l))

noncomputable def ref24_Needs_L1 (p : List Int × List Int × List Bool) (i2 : Int) (l2 : List Bool) (l3 : List Bool) : Option ((Int × List Bool × List Bool) ⊕ (List Bool × List Bool)) :=
 bif decide (i2 < (p.2.1.length : Int)) then (
 gd (inB i2 p.2.1.length) <|
 gd (fits (l3.length + 1) 1) <|
 some (.inl (wi64 (i2 + 1), l2, l3 ++ [(!decide (p.2.1.getD i2.toNat 0 = 0))])))
 else (
 some (.inr (l2, l3)))

noncomputable def ref24_Needs (p : List Int × List Int × List Bool) : Option (List Bool × List Bool) :=
 (iter (fun x => ref24_Needs_L0 p x.1 x.2) (0, [])).bind fun s =>
 (iter (fun x2 => ref24_Needs_L1 p x2.1 x2.2.1 x2.2.2) (0, s, [])).bind fun s2 =>
 some (s2.1, s2.2)

noncomputable def fn_ref24_Needs : Fun :=
 ⟨39, 1, 1,
 ⟨[(0, .one (.data tT4))], [], []⟩,
 ⟨[(0, .agg [.own 0, .own 1])], [], [(0, .arr 4 (.bool)), (1, .arr 4 (.bool))]⟩,
 fun x => ref24_Needs x⟩
noncomputable def cx_ref24_Needs : Cx := ⟨types, [], [], 43, []⟩
theorem ok_ref24_Needs : FunOk Tryz.prog fn_ref24_Needs :=
 FunOk.intro (C := cx_ref24_Needs) (p := (nn (nn (mm (nn (mm (.mk [] (some (⟨[(1, .one (.ptr 32 0)), (2, .one (.ptr 48 0)), (3, .one (.ptr 64 0)), (4, ii)], [(32, 36, [.keep, .keep, .keep]), (48, 90, [.keep, .keep]), (64, 90, [.own 1049, .keep])], [(1049, .arr 4 (.bool))]⟩, [⟨.x 0, ⟨[(1, .one (.ptr 32 0)), (2, .one (.ptr 48 0)), (3, .one (.ptr 64 0))], [(32, 36, [.keep, .keep, .keep]), (48, 90, [.keep, .keep]), (64, 90, [.own 1049, .keep])], [(1049, .arr 4 (.bool))]⟩⟩])) .nil .nil) .nil)) (mm (nn (mm (.mk [] (some (⟨[(1, .one (.ptr 32 0)), (2, .one (.ptr 48 0)), (3, .one (.ptr 64 0)), (5, ii)], [(32, 36, [.keep, .keep, .keep]), (48, 90, [.keep, .keep]), (64, 90, [.own 1049, .own 1065])], [(1049, .arr 4 (.bool)), (1065, .arr 4 (.bool))]⟩, [⟨.x 2, ⟨[(2, .one (.ptr 48 0)), (3, .one (.ptr 64 0))], [(48, 90, [.keep, .keep]), (64, 90, [.own 1049, .own 1065])], [(1049, .arr 4 (.bool)), (1065, .arr 4 (.bool))]⟩⟩])) .nil .nil) .nil)) .nil)))))
  Tryz.func39 rfl (by kernel_rfl) rfl rfl rfl rfl types_ok ⟨trivial, trivial⟩ mx (fun x => by kernel_rfl)

noncomputable def ref24_All (l : List Bool × List Bool) : Option (List Bool) :=
 gd (fits (0 + l.1.length) 1) <|
 gd (fits (([] ++ l.1).length + l.2.length) 1) <|
 some (([] ++ l.1) ++ l.2)

noncomputable def fn_ref24_All : Fun :=
 ⟨38, 1, 1,
 ⟨[(0, .one (.data (.pair (.sl (.bool)) (.sl (.bool)))))], [], []⟩,
 ⟨[(0, .one (.own 0))], [], [(0, .arr 4 (.bool))]⟩,
 fun x => ref24_All x⟩
noncomputable def cx_ref24_All : Cx := ⟨types, [3], [], 10, []⟩
theorem ok_ref24_All : FunOk Tryz.prog fn_ref24_All :=
 FunOk.intro (C := cx_ref24_All) (p := .nil)
  Tryz.func38 rfl (by kernel_rfl) rfl rfl rfl rfl types_ok ⟨trivial, trivial⟩ mx (fun x => by kernel_rfl)

noncomputable def second_Valve (s : List Int) (s2 : Int) : Option ((Int × Int × Bool × Bool) × List Int × Int) :=
 (keep_Src_Pick [1, 2, 3, 6, 60] s s2).bind fun r =>
 (keep_Src_N 2 r.2.1 r.2.2).bind fun r2 =>
 (keep_Src_N 8 r2.2.1 r2.2.2).bind fun r3 =>
 (keep_Src_N (wi64 (r.1 + 1)) r3.2.1 r3.2.2).bind fun r4 =>
 (keep_Src_Pick [0, r.1, r4.1] r4.2.1 r4.2.2).bind fun r5 =>
 some ((r.1, (r5.1, (decide (r2.1 = 0), decide (r3.1 = 7)))), r5.2.1, r5.2.2)

noncomputable def fn_second_Valve : Fun :=
 ⟨40, 1, 1,
 ⟨[(0, .one (.ptr 0 0))], [(0, 80, [.data (.sl (.int .i64)), .data (.int .i64)])], []⟩,
 ⟨[(0, .one (.data tT1))], [(0, 80, [.data (.sl (.int .i64)), .data (.int .i64)])], []⟩,
 fun x => second_Valve x.1 x.2⟩
noncomputable def cx_second_Valve : Cx := ⟨types, [], [fn_keep_Src_Pick, fn_keep_Src_N], 26, []⟩
theorem ok_second_Valve : FunOk Tryz.prog fn_second_Valve :=
 FunOk.intro (C := cx_second_Valve) (p := .nil)
  Tryz.func40 rfl (by kernel_rfl) rfl rfl rfl rfl types_ok ⟨⟨ok_keep_Src_Pick, ok_keep_Src_N, trivial⟩, trivial⟩ mx (fun x => by kernel_rfl)

noncomputable def second_Desk_L0 (i : Int) (s3 : List Int) (s4 : Int) (need : List Bool) (d : List (Int × Int × Bool × Bool)) (d2 : List Int) (d3 : List Int) (d4 : List Bool) : Option ((Int × List Int × Int × List Bool × (List (Int × Int × Bool × Bool)) × List Int × List Int × List Bool) ⊕ (List Int × Int × (List (Int × Int × Bool × Bool)) × List Int × List Int × List Bool)) :=
 bif decide (i < (need.length : Int)) then (
 (second_Valve s3 s4).bind fun r4 =>
 gd (inB i need.length) <|
 Option.bind (α := Int × Bool × List Bool × (List (Int × Int × Bool × Bool)) × List Int × List Int × List Bool) (
 bif need.getD i.toNat false then (
 some (r4.1.1, true, need, d, d2, d3, d4))
 else (
 some (r4.1.2.1, r4.1.2.2.1, need, d, d2, d3, d4))) fun s5 =>
 gd (fits (s5.2.2.2.1.length + 1) 24) <|
 some (.inl (wi64 (i + 1), r4.2.1, r4.2.2, s5.2.2.1, s5.2.2.2.1 ++ [(r4.1.1, (s5.1, (s5.2.1, r4.1.2.2.2)))], s5.2.2.2.2.1, s5.2.2.2.2.2.1, s5.2.2.2.2.2.2)))
 else (
 some (.inr (s3, s4, d, d2, d3, d4)))

noncomputable def second_Desk (n : List (List UInt8) × List yT0 × List (List UInt8 × Int × Int) × List (List UInt8 × Int × Int × Int × Int) × Int × Int) (p : List Int × List Int × List Bool) (s : List Int) (s2 : Int) : Option (List Int × Int × (List (Int × Int × Bool × Bool)) × List Int × List Int × List Bool) :=
 (second_Fed (n.1, (n.2.1, (n.2.2.1, (n.2.2.2.1, (n.2.2.2.2.1, n.2.2.2.2.2))))) (p.1, (p.2.1, p.2.2))).bind fun r =>
 (ref24_Needs (r.1, (r.2.1, r.2.2))).bind fun r2 =>
 (ref24_All (r2.1, r2.2)).bind fun r3 =>
 (iter (fun x => second_Desk_L0 x.1 x.2.1 x.2.2.1 x.2.2.2.1 x.2.2.2.2.1 x.2.2.2.2.2.1 x.2.2.2.2.2.2.1 x.2.2.2.2.2.2.2) (0, s, s2, r3, [], r.1, r.2.1, r.2.2)).bind fun s6 =>
 some (s6.1, s6.2.1, s6.2.2.1, s6.2.2.2.1, s6.2.2.2.2.1, s6.2.2.2.2.2)

noncomputable def fn_second_Desk : Fun :=
 ⟨13, 3, 1,
 ⟨[(0, .one (.ptr 0 0)), (1, .one (.data tT0)), (2, .one (.data tT4))], [(0, 80, [.data (.sl (.int .i64)), .data (.int .i64)])], []⟩,
 ⟨[(0, .agg [.own 1, .own 2, .own 3, .own 4])], [(0, 80, [.data (.sl (.int .i64)), .data (.int .i64)])], [(1, .arr 54 tT1), (2, .arr 3 (.int .i64)), (3, .arr 3 (.int .i64)), (4, .arr 4 (.bool))]⟩,
 fun x => second_Desk x.1 x.2.1 x.2.2.1 x.2.2.2⟩
noncomputable def cx_second_Desk : Cx := ⟨types, [], [fn_second_Fed, fn_ref24_Needs, fn_ref24_All, fn_second_Valve], 42, []⟩
theorem ok_second_Desk : FunOk Tryz.prog fn_second_Desk :=
 FunOk.intro (C := cx_second_Desk) (p := (nn (nn (nn (mm (nn (mm (.mk [] (some (⟨[(0, .one (.ptr 0 0)), (6, .one (.ptr 112 0)), (7, .one (.ptr 128 0)), (8, .one (.own 304)), (9, ii)], [(0, 80, [.data (.sl (.int .i64)), .data (.int .i64)]), (112, 40, [.keep, .keep, .keep, .keep]), (128, 40, [.own 2073, .own 224, .own 225, .own 226])], [(304, .arr 4 (.bool)), (2073, .arr 54 tT1), (224, .arr 3 (.int .i64)), (225, .arr 3 (.int .i64)), (226, .arr 4 (.bool))]⟩, [⟨.x 0, ⟨[(6, .one (.ptr 112 0)), (7, .one (.ptr 128 0))], [(112, 40, [.keep, .keep, .keep, .keep]), (128, 40, [.own 2073, .own 224, .own 225, .own 226]), (0, 80, [.data (.sl (.int .i64)), .data (.int .i64)])], [(2073, .arr 54 tT1), (224, .arr 3 (.int .i64)), (225, .arr 3 (.int .i64)), (226, .arr 4 (.bool))]⟩⟩])) (nn (mm (mm (nn (mm (nn (.mk [.join [⟨.n, ⟨[(0, .one (.ptr 0 0)), (6, .one (.ptr 112 0)), (7, .one (.ptr 128 0)), (8, .one (.own 304)), (9, kk), (10, .one (.ptr 176 0))], [(0, 80, [.keep, .keep]), (112, 40, [.keep, .keep, .keep, .keep]), (128, 40, [.own 2073, .own 224, .own 225, .own 226]), (176, 54, [.keep, .data (.int .i64), .data (.bool), .keep])], [(304, .arr 4 (.bool)), (2073, .arr 54 tT1), (224, .arr 3 (.int .i64)), (225, .arr 3 (.int .i64)), (226, .arr 4 (.bool))]⟩⟩]] none .nil .nil)) .nil)) .nil) .nil)) .nil) .nil)) .nil)))))
  Tryz.func13 rfl (by kernel_rfl) rfl rfl rfl rfl types_ok ⟨⟨ok_second_Fed, ok_ref24_Needs, ok_ref24_All, ok_second_Valve, trivial⟩, trivial⟩ mx (fun x => by kernel_rfl)

noncomputable def second_Opened (n : List (List UInt8) × List yT0 × List (List UInt8 × Int × Int) × List (List UInt8 × Int × Int × Int × Int) × Int × Int) (p : List Int × List Int × List Bool) (s : List Int) (s2 : Int) : Option (List Int × Int × (List (Int × Int × Bool × Bool)) × List Int × List Int × List Bool) :=
 (second_Desk (n.1, (n.2.1, (n.2.2.1, (n.2.2.2.1, (n.2.2.2.2.1, n.2.2.2.2.2))))) (p.1, (p.2.1, p.2.2)) s s2).bind fun r =>
 gd (makeG 8 (n.2.1.length : Int)) <|
 gd (makeG 8 (n.2.2.1.length : Int)) <|
 gd (makeG 1 (n.2.2.2.1.length : Int)) <|
 some (r.1, r.2.1, r.2.2.1, List.replicate (n.2.1.length : Int).toNat (0 : Int), List.replicate (n.2.2.1.length : Int).toNat (0 : Int), List.replicate (n.2.2.2.1.length : Int).toNat (false : Bool))

noncomputable def fn_second_Opened : Fun :=
 ⟨15, 3, 1,
 ⟨[(0, .one (.ptr 0 0)), (1, .one (.data tT0)), (2, .one (.data tT4))], [(0, 80, [.data (.sl (.int .i64)), .data (.int .i64)])], []⟩,
 ⟨[(0, .agg [.own 1, .own 2, .own 3, .own 4])], [(0, 80, [.data (.sl (.int .i64)), .data (.int .i64)])], [(1, .arr 54 tT1), (2, .arr 3 (.int .i64)), (3, .arr 3 (.int .i64)), (4, .arr 4 (.bool))]⟩,
 fun x => second_Opened x.1 x.2.1 x.2.2.1 x.2.2.2⟩
noncomputable def cx_second_Opened : Cx := ⟨types, [], [fn_second_Desk], 27, []⟩
theorem ok_second_Opened : FunOk Tryz.prog fn_second_Opened :=
 FunOk.intro (C := cx_second_Opened) (p := .nil)
  Tryz.func15 rfl (by kernel_rfl) rfl rfl rfl rfl types_ok ⟨⟨ok_second_Desk, trivial⟩, trivial⟩ mx (fun x => by kernel_rfl)

noncomputable def ref25_leaves_L0 (n : List (List UInt8) × List yT0 × List (List UInt8 × Int × Int) × List (List UInt8 × Int × Int × Int × Int) × Int × Int) (rates : List Int) (vat : Int) (i : Int) (v : Int) (v2 : Bool) : Option ((Int × Int × Bool) ⊕ ((Int × Bool) ⊕ (Bool × Int × Bool))) :=
 bif decide (i < (rates.length : Int)) then (
 Option.bind (α := Bool) (
 gd (inB i rates.length) <|
 bif decide (0 < rates.getD i.toNat 0) then (
 gd (inB i n.2.1.length) <|
 bif decide (((n.2.1.getD i.toNat ([], (0, (0, (0, (0, (0, []))))))).2).1 = vat) then (
 some true)
 else (
 gd (inB i rates.length) <|
 bif decide (rates.getD i.toNat 0 < 0) then (
 gd (inB i n.2.1.length) <|
 some (decide ((((n.2.1.getD i.toNat ([], (0, (0, (0, (0, (0, []))))))).2).2).1 = vat)))
 else (
 some false)))
 else (
 gd (inB i rates.length) <|
 bif decide (rates.getD i.toNat 0 < 0) then (
 gd (inB i n.2.1.length) <|
 some (decide ((((n.2.1.getD i.toNat ([], (0, (0, (0, (0, (0, []))))))).2).2).1 = vat)))
 else (
 some false))) fun s =>
 bif s then (
 gd (inB i rates.length) <|
 some (.inr (.inr (true, i, decide (rates.getD i.toNat 0 < 0)))))
 else (
 some (.inl (wi64 (i + 1), v, v2))))
 else (
 some (.inr (.inl (v, v2))))

noncomputable def ref25_leaves (n : List (List UInt8) × List yT0 × List (List UInt8 × Int × Int) × List (List UInt8 × Int × Int × Int × Int) × Int × Int) (rates : List Int) (vat : Int) : Option ((Int × Bool) × Bool) :=
 (iter (fun x => ref25_leaves_L0 n rates vat x.1 x.2.1 x.2.2) (0, 0, false)).bind fun s2 =>
 s2.elim (fun s3 =>
 some ((0, false), false))
 (fun s4 =>
 some ((s4.2.1, s4.2.2), s4.1))

noncomputable def fn_ref25_leaves : Fun :=
 ⟨116, 3, 2,
 ⟨[(0, .one (.data tT0)), (1, .one (.data (.sl (.int .i64)))), (2, ii)], [], []⟩,
 ⟨[(0, .one (.data (.pair (.int .i64) (.bool)))), (1, bb)], [], []⟩,
 fun x => ref25_leaves x.1 x.2.1 x.2.2⟩
noncomputable def cx_ref25_leaves : Cx := ⟨types, [], [], 55, []⟩
theorem ok_ref25_leaves : FunOk Tryz.prog fn_ref25_leaves :=
 FunOk.intro (C := cx_ref25_leaves) (p := (nn (mm (nn (mm (.mk [] (some (⟨[(1, kk), (2, kk), (3, .one (.ptr 64 0)), (6, .one (.ptr 112 0)), (8, ii)], [(64, 32, [.keep, .keep, .keep, .keep, .keep, .keep]), (112, 78, [.data (.int .i64), .data (.bool)])], []⟩, [⟨.x 0, ⟨[(6, .one (.ptr 112 0))], [(112, 78, [.data (.int .i64), .data (.bool)])], []⟩⟩, ⟨.r, ⟨[(6, .one (.ptr 112 0)), (7, bb)], [(112, 78, [.data (.int .i64), .data (.bool)])], []⟩⟩])) (nn (mm (mm (mm (.mk [.join [⟨.n, ⟨[(1, kk), (2, kk), (3, .one (.ptr 64 0)), (6, .one (.ptr 112 0)), (8, kk), (46, bb)], [(64, 32, [.keep, .keep, .keep, .keep, .keep, .keep]), (112, 78, [.keep, .keep])], []⟩⟩]] none .nil .nil) .nil) .nil) .nil)) .nil) .nil)) .nil)))
  Tryz.func116 rfl (by kernel_rfl) rfl rfl rfl rfl types_ok ⟨trivial, trivial⟩ mx (fun x => by kernel_rfl)

noncomputable def ref25_amount (n : Int) : Option (Int) :=
 some (max n (wi64 (0 - n)))

noncomputable def fn_ref25_amount : Fun :=
 ⟨117, 1, 1,
 ⟨[(0, ii)], [], []⟩,
 ⟨[(0, ii)], [], []⟩,
 fun x => ref25_amount x⟩
noncomputable def cx_ref25_amount : Cx := ⟨types, [], [], 7, []⟩
theorem ok_ref25_amount : FunOk Tryz.prog fn_ref25_amount :=
 FunOk.intro (C := cx_ref25_amount) (p := .nil)
  Tryz.func117 rfl (by kernel_rfl) rfl rfl rfl rfl types_ok ⟨trivial, trivial⟩ mx (fun x => by kernel_rfl)

noncomputable def ref25_Ends (n : List (List UInt8) × List yT0 × List (List UInt8 × Int × Int) × List (List UInt8 × Int × Int × Int × Int) × Int × Int) (h : Int × Bool) : Option (Int × Int) :=
 gd (inB h.1 n.2.1.length) <|
 bif h.2 then (
 some ((((n.2.1.getD h.1.toNat ([], (0, (0, (0, (0, (0, []))))))).2).2).1, ((n.2.1.getD h.1.toNat ([], (0, (0, (0, (0, (0, []))))))).2).1))
 else (
 some (((n.2.1.getD h.1.toNat ([], (0, (0, (0, (0, (0, []))))))).2).1, (((n.2.1.getD h.1.toNat ([], (0, (0, (0, (0, (0, []))))))).2).2).1))

noncomputable def fn_ref25_Ends : Fun :=
 ⟨118, 2, 2,
 ⟨[(0, .one (.data tT0)), (1, .one (.data (.pair (.int .i64) (.bool))))], [], []⟩,
 ⟨[(0, ii), (1, ii)], [], []⟩,
 fun x => ref25_Ends x.1 x.2⟩
noncomputable def cx_ref25_Ends : Cx := ⟨types, [], [], 23, []⟩
theorem ok_ref25_Ends : FunOk Tryz.prog fn_ref25_Ends :=
 FunOk.intro (C := cx_ref25_Ends) (p := .nil)
  Tryz.func118 rfl (by kernel_rfl) rfl rfl rfl rfl types_ok ⟨trivial, trivial⟩ mx (fun x => by kernel_rfl)


end Go.Proofs.YtbljipjemhbooaaGreat
