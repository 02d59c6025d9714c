/- Functions, evaluated. No condition. -/
import Derived.Test.YtiojagjejddocaaGreatDoorProg
import Derived.Test.YtiojagjejddocaaGreatDoorSqY
namespace Go.Proofs.YtiojagjejddocaaGreatDoor
open Go Go.Sq
abbrev yT0 : Type := List UInt8 × List UInt8 × List UInt8 × List UInt8 × Int × Int
abbrev yT1 : Type := List UInt8 × Int × Int × Int × Int × Int × List (Int × Int × Int)
abbrev tT0 : Ty := .pair (.str) (.pair (.str) (.pair (.str) (.pair (.str) (.pair (.int .i64) (.int .i64)))))
abbrev tT1 : Ty := .pair (.pair (.int .i64) (.pair (.str) (.pair (.int .i64) (.int .i64)))) (.int .i64)
abbrev tT2 : Ty := .pair (.int .i64) (.int .i64)
def ti3 : TI := { t := 3, desc := .int .i64, size := 1, bytes := 8, zero := .int .i64 0, τ := .int .i64, eq := false }
theorem tk3 : ti3.ok Tryz.prog := ⟨Tryz.underlying3, by kernel_rfl, fun h => by cases h⟩
def ti5 : TI := { t := 5, desc := .int .u8, size := 1, bytes := 1, zero := .int .u8 0, τ := .int .u8, eq := false }
theorem tk5 : ti5.ok Tryz.prog := ⟨Tryz.underlying5, by kernel_rfl, fun h => by cases h⟩
def ti9 : TI := { t := 9, desc := .string, size := 1, bytes := 16, zero := .string ⟨#[]⟩, τ := .str, eq := false }
theorem tk9 : ti9.ok Tryz.prog := ⟨Tryz.underlying9, by kernel_rfl, fun h => by cases h⟩
def ti22 : TI := { t := 22, desc := .slice 3, size := 1, bytes := 24, zero := .slice none 0 0, τ := .sl (.int .i64), eq := false }
theorem tk22 : ti22.ok Tryz.prog := ⟨Tryz.underlying22, by kernel_rfl, fun h => by cases h⟩
def ti27 : TI := { t := 27, desc := .slice 9, size := 1, bytes := 24, zero := .slice none 0 0, τ := .sl (.str), eq := false }
theorem tk27 : ti27.ok Tryz.prog := ⟨Tryz.underlying27, by kernel_rfl, fun h => by cases h⟩
def ti28 : TI := { t := 28, desc := .slice 72, size := 1, bytes := 24, zero := .slice none 0 0, τ := .sl (.pair (.str) (.pair (.int .i64) (.pair (.int .i64) (.pair (.int .i64) (.pair (.int .i64) (.pair (.int .i64) (.sl (.pair (.int .i64) tT2)))))))), eq := false }
theorem tk28 : ti28.ok Tryz.prog := ⟨Tryz.underlying28, by kernel_rfl, fun h => by cases h⟩
def ti29 : TI := { t := 29, desc := .slice 74, size := 1, bytes := 24, zero := .slice none 0 0, τ := .sl (.pair (.str) tT2), eq := false }
theorem tk29 : ti29.ok Tryz.prog := ⟨Tryz.underlying29, by kernel_rfl, fun h => by cases h⟩
def ti30 : TI := { t := 30, desc := .slice 80, size := 1, bytes := 24, zero := .slice none 0 0, τ := .sl (.pair (.str) (.pair (.int .i64) (.pair (.int .i64) tT2))), eq := false }
theorem tk30 : ti30.ok Tryz.prog := ⟨Tryz.underlying30, by kernel_rfl, fun h => by cases h⟩
def ti32 : TI := { t := 32, desc := .struct #[{ name := "Nodes", type := 27, offset := 0, embedded := false, tag := "", pkgPath := "", byteOffset := 0 }, { name := "Segments", type := 28, offset := 1, embedded := false, tag := "", pkgPath := "", byteOffset := 24 }, { name := "Ports", type := 29, offset := 2, embedded := false, tag := "", pkgPath := "", byteOffset := 48 }, { name := "Stations", type := 30, offset := 3, embedded := false, tag := "", pkgPath := "", byteOffset := 72 }, { name := "Vapour", type := 3, offset := 4, embedded := false, tag := "", pkgPath := "", byteOffset := 96 }, { name := "Settle", type := 3, offset := 5, embedded := false, tag := "", pkgPath := "", byteOffset := 104 }], size := 6, bytes := 112, zero := .agg #[.slice none 0 0, .slice none 0 0, .slice none 0 0, .slice none 0 0, .int .i64 0, .int .i64 0], τ := .pair (.sl (.str)) (.pair (.sl (.pair (.str) (.pair (.int .i64) (.pair (.int .i64) (.pair (.int .i64) (.pair (.int .i64) (.pair (.int .i64) (.sl (.pair (.int .i64) tT2))))))))) (.pair (.sl (.pair (.str) tT2)) (.pair (.sl (.pair (.str) (.pair (.int .i64) (.pair (.int .i64) tT2)))) tT2))), eq := true }
theorem tk32 : ti32.ok Tryz.prog := ⟨Tryz.underlying32, by kernel_rfl, fun _ => ⟨Tryz.eqGuardType32, Tryz.stoodInHeld32⟩⟩
def ti34 : TI := { t := 34, desc := .slice 44, size := 1, bytes := 24, zero := .slice none 0 0, τ := .sl (.pair (.str) (.pair (.int .i64) (.pair (.int .i64) tT2))), eq := false }
theorem tk34 : ti34.ok Tryz.prog := ⟨Tryz.underlying34, by kernel_rfl, fun h => by cases h⟩
def ti36 : TI := { t := 36, desc := .slice 49, size := 1, bytes := 24, zero := .slice none 0 0, τ := .sl (.pair (.int .i64) (.pair (.str) tT2)), eq := false }
theorem tk36 : ti36.ok Tryz.prog := ⟨Tryz.underlying36, by kernel_rfl, fun h => by cases h⟩
def ti37 : TI := { t := 37, desc := .slice 47, size := 1, bytes := 24, zero := .slice none 0 0, τ := .sl (.pair (.int .i64) tT2), eq := false }
theorem tk37 : ti37.ok Tryz.prog := ⟨Tryz.underlying37, by kernel_rfl, fun h => by cases h⟩
def ti41 : TI := { t := 41, desc := .slice 51, size := 1, bytes := 24, zero := .slice none 0 0, τ := .sl tT0, eq := false }
theorem tk41 : ti41.ok Tryz.prog := ⟨Tryz.underlying41, by kernel_rfl, fun h => by cases h⟩
def ti44 : TI := { t := 44, desc := .struct #[{ name := "Name", type := 9, offset := 0, embedded := false, tag := "", pkgPath := "", byteOffset := 0 }, { name := "Density", type := 3, offset := 1, embedded := false, tag := "", pkgPath := "", byteOffset := 16 }, { name := "Expansion", type := 3, offset := 2, embedded := false, tag := "", pkgPath := "", byteOffset := 24 }, { name := "Compress", type := 3, offset := 3, embedded := false, tag := "", pkgPath := "", byteOffset := 32 }, { name := "Friction", type := 3, offset := 4, embedded := false, tag := "", pkgPath := "", byteOffset := 40 }], size := 5, bytes := 48, zero := .agg #[.string ⟨#[]⟩, .int .i64 0, .int .i64 0, .int .i64 0, .int .i64 0], τ := .pair (.str) (.pair (.int .i64) (.pair (.int .i64) tT2)), eq := true }
theorem tk44 : ti44.ok Tryz.prog := ⟨Tryz.underlying44, by kernel_rfl, fun _ => ⟨Tryz.eqGuardType44, Tryz.stoodInHeld44⟩⟩
def ti47 : TI := { t := 47, desc := .struct #[{ name := "Batch", type := 3, offset := 0, embedded := false, tag := "", pkgPath := "", byteOffset := 0 }, { name := "Volume", type := 3, offset := 1, embedded := false, tag := "", pkgPath := "", byteOffset := 8 }, { name := "Done", type := 3, offset := 2, embedded := false, tag := "", pkgPath := "", byteOffset := 16 }], size := 3, bytes := 24, zero := .agg #[.int .i64 0, .int .i64 0, .int .i64 0], τ := .pair (.int .i64) tT2, eq := true }
theorem tk47 : ti47.ok Tryz.prog := ⟨Tryz.underlying47, by kernel_rfl, fun _ => ⟨Tryz.eqGuardType47, Tryz.stoodInHeld47⟩⟩
def ti49 : TI := { t := 49, desc := .struct #[{ name := "Product", type := 3, offset := 0, embedded := false, tag := "", pkgPath := "", byteOffset := 0 }, { name := "Shipper", type := 9, offset := 1, embedded := false, tag := "", pkgPath := "", byteOffset := 8 }, { name := "From", type := 3, offset := 2, embedded := false, tag := "", pkgPath := "", byteOffset := 24 }, { name := "To", type := 3, offset := 3, embedded := false, tag := "", pkgPath := "", byteOffset := 32 }], size := 4, bytes := 40, zero := .agg #[.int .i64 0, .string ⟨#[]⟩, .int .i64 0, .int .i64 0], τ := .pair (.int .i64) (.pair (.str) tT2), eq := true }
theorem tk49 : ti49.ok Tryz.prog := ⟨Tryz.underlying49, by kernel_rfl, fun _ => ⟨Tryz.eqGuardType49, Tryz.stoodInHeld49⟩⟩
def ti51 : TI := { t := 51, desc := .struct #[{ name := "Shipper", type := 9, offset := 0, embedded := false, tag := "", pkgPath := "", byteOffset := 0 }, { name := "Product", type := 9, offset := 1, embedded := false, tag := "", pkgPath := "", byteOffset := 16 }, { name := "From", type := 9, offset := 2, embedded := false, tag := "", pkgPath := "", byteOffset := 32 }, { name := "To", type := 9, offset := 3, embedded := false, tag := "", pkgPath := "", byteOffset := 48 }, { name := "Cycle", type := 3, offset := 4, embedded := false, tag := "", pkgPath := "", byteOffset := 64 }, { name := "Volume", type := 3, offset := 5, embedded := false, tag := "", pkgPath := "", byteOffset := 72 }], size := 6, bytes := 80, zero := .agg #[.string ⟨#[]⟩, .string ⟨#[]⟩, .string ⟨#[]⟩, .string ⟨#[]⟩, .int .i64 0, .int .i64 0], τ := .pair (.str) (.pair (.str) (.pair (.str) (.pair (.str) tT2))), eq := true }
theorem tk51 : ti51.ok Tryz.prog := ⟨Tryz.underlying51, by kernel_rfl, fun _ => ⟨Tryz.eqGuardType51, Tryz.stoodInHeld51⟩⟩
def ti69 : TI := { t := 69, desc := .struct #[{ name := "At", type := 3, offset := 0, embedded := false, tag := "", pkgPath := "", byteOffset := 0 }, { name := "Height", type := 3, offset := 1, embedded := false, tag := "", pkgPath := "", byteOffset := 8 }, { name := "Limit", type := 3, offset := 2, embedded := false, tag := "", pkgPath := "", byteOffset := 16 }], size := 3, bytes := 24, zero := .agg #[.int .i64 0, .int .i64 0, .int .i64 0], τ := .pair (.int .i64) tT2, eq := true }
theorem tk69 : ti69.ok Tryz.prog := ⟨Tryz.underlying69, by kernel_rfl, fun _ => ⟨Tryz.eqGuardType69, Tryz.stoodInHeld69⟩⟩
def ti70 : TI := { t := 70, desc := .slice 69, size := 1, bytes := 24, zero := .slice none 0 0, τ := .sl (.pair (.int .i64) tT2), eq := false }
theorem tk70 : ti70.ok Tryz.prog := ⟨Tryz.underlying70, by kernel_rfl, fun h => by cases h⟩
def ti72 : TI := { t := 72, desc := .struct #[{ name := "Name", type := 9, offset := 0, embedded := false, tag := "", pkgPath := "", byteOffset := 0 }, { name := "From", type := 3, offset := 1, embedded := false, tag := "", pkgPath := "", byteOffset := 16 }, { name := "To", type := 3, offset := 2, embedded := false, tag := "", pkgPath := "", byteOffset := 24 }, { name := "Capacity", type := 3, offset := 3, embedded := false, tag := "", pkgPath := "", byteOffset := 32 }, { name := "Resist", type := 3, offset := 4, embedded := false, tag := "", pkgPath := "", byteOffset := 40 }, { name := "Wave", type := 3, offset := 5, embedded := false, tag := "", pkgPath := "", byteOffset := 48 }, { name := "Points", type := 70, offset := 6, embedded := false, tag := "", pkgPath := "", byteOffset := 56 }], size := 7, bytes := 80, zero := .agg #[.string ⟨#[]⟩, .int .i64 0, .int .i64 0, .int .i64 0, .int .i64 0, .int .i64 0, .slice none 0 0], τ := .pair (.str) (.pair (.int .i64) (.pair (.int .i64) (.pair (.int .i64) (.pair (.int .i64) (.pair (.int .i64) (.sl (.pair (.int .i64) tT2))))))), eq := true }
theorem tk72 : ti72.ok Tryz.prog := ⟨Tryz.underlying72, by kernel_rfl, fun _ => ⟨Tryz.eqGuardType72, Tryz.stoodInHeld72⟩⟩
def ti74 : TI := { t := 74, desc := .struct #[{ name := "Name", type := 9, offset := 0, embedded := false, tag := "", pkgPath := "", byteOffset := 0 }, { name := "Node", type := 3, offset := 1, embedded := false, tag := "", pkgPath := "", byteOffset := 16 }, { name := "Pressure", type := 3, offset := 2, embedded := false, tag := "", pkgPath := "", byteOffset := 24 }], size := 3, bytes := 32, zero := .agg #[.string ⟨#[]⟩, .int .i64 0, .int .i64 0], τ := .pair (.str) tT2, eq := true }
theorem tk74 : ti74.ok Tryz.prog := ⟨Tryz.underlying74, by kernel_rfl, fun _ => ⟨Tryz.eqGuardType74, Tryz.stoodInHeld74⟩⟩
def ti76 : TI := { t := 76, desc := .struct #[{ name := "L", type := 22, offset := 0, embedded := false, tag := "", pkgPath := "", byteOffset := 0 }, { name := "At", type := 3, offset := 1, embedded := false, tag := "", pkgPath := "", byteOffset := 24 }], size := 2, bytes := 32, zero := .agg #[.slice none 0 0, .int .i64 0], τ := .pair (.sl (.int .i64)) (.int .i64), eq := true }
theorem tk76 : ti76.ok Tryz.prog := ⟨Tryz.underlying76, by kernel_rfl, fun _ => ⟨Tryz.eqGuardType76, Tryz.stoodInHeld76⟩⟩
def ti80 : TI := { t := 80, desc := .struct #[{ name := "Name", type := 9, offset := 0, embedded := false, tag := "", pkgPath := "", byteOffset := 0 }, { name := "Node", type := 3, offset := 1, embedded := false, tag := "", pkgPath := "", byteOffset := 16 }, { name := "Head", type := 3, offset := 2, embedded := false, tag := "", pkgPath := "", byteOffset := 24 }, { name := "Fall", type := 3, offset := 3, embedded := false, tag := "", pkgPath := "", byteOffset := 32 }, { name := "Suction", type := 3, offset := 4, embedded := false, tag := "", pkgPath := "", byteOffset := 40 }], size := 5, bytes := 48, zero := .agg #[.string ⟨#[]⟩, .int .i64 0, .int .i64 0, .int .i64 0, .int .i64 0], τ := .pair (.str) (.pair (.int .i64) (.pair (.int .i64) tT2)), eq := true }
theorem tk80 : ti80.ok Tryz.prog := ⟨Tryz.underlying80, by kernel_rfl, fun _ => ⟨Tryz.eqGuardType80, Tryz.stoodInHeld80⟩⟩
def ti85 : TI := { t := 85, desc := .slice 90, size := 1, bytes := 24, zero := .slice none 0 0, τ := .sl (.pair tT0 tT1), eq := false }
theorem tk85 : ti85.ok Tryz.prog := ⟨Tryz.underlying85, by kernel_rfl, fun h => by cases h⟩
def ti90 : TI := { t := 90, desc := .struct #[{ name := "nomination", type := 51, offset := 0, embedded := false, tag := "", pkgPath := "batchline/lots", byteOffset := 0 }, { name := "batch", type := 49, offset := 6, embedded := false, tag := "", pkgPath := "batchline/lots", byteOffset := 80 }, { name := "rank", type := 3, offset := 10, embedded := false, tag := "", pkgPath := "batchline/lots", byteOffset := 120 }], size := 11, bytes := 128, zero := .agg #[.string ⟨#[]⟩, .string ⟨#[]⟩, .string ⟨#[]⟩, .string ⟨#[]⟩, .int .i64 0, .int .i64 0, .int .i64 0, .string ⟨#[]⟩, .int .i64 0, .int .i64 0, .int .i64 0], τ := .pair tT0 tT1, eq := true }
theorem tk90 : ti90.ok Tryz.prog := ⟨Tryz.underlying90, by kernel_rfl, fun _ => ⟨Tryz.eqGuardType90, Tryz.stoodInHeld90⟩⟩
def ti107 : TI := { t := 107, desc := .slice 5, size := 1, bytes := 24, zero := .slice none 0 0, τ := .sl (.int .u8), eq := false }
theorem tk107 : ti107.ok Tryz.prog := ⟨Tryz.underlying107, by kernel_rfl, fun h => by cases h⟩
def ti109 : TI := { t := 109, desc := .array 4 27, size := 4, bytes := 96, zero := .agg #[.slice none 0 0, .slice none 0 0, .slice none 0 0, .slice none 0 0], τ := .pair (.sl (.str)) (.pair (.sl (.str)) (.pair (.sl (.str)) (.sl (.str)))), eq := false }
theorem tk109 : ti109.ok Tryz.prog := ⟨Tryz.underlying109, by kernel_rfl, fun h => by cases h⟩
def ti116 : TI := { t := 116, desc := .map 51 3, size := 1, bytes := 8, zero := .map none, τ := .map tT0 (.int .i64), eq := false }
theorem tk116 : ti116.ok Tryz.prog := ⟨Tryz.underlying116, by kernel_rfl, fun h => by cases h⟩
def ti124 : TI := { t := 124, desc := .int .u64, size := 1, bytes := 8, zero := .int .u64 0, τ := .int .u64, eq := false }
theorem tk124 : ti124.ok Tryz.prog := ⟨Tryz.underlying124, by kernel_rfl, fun h => by cases h⟩
def ti136 : TI := { t := 136, desc := .array 4 3, size := 4, bytes := 32, zero := .agg #[.int .i64 0, .int .i64 0, .int .i64 0, .int .i64 0], τ := .pair (.int .i64) (.pair (.int .i64) tT2), eq := false }
theorem tk136 : ti136.ok Tryz.prog := ⟨Tryz.underlying136, by kernel_rfl, fun h => by cases h⟩
def ti139 : TI := { t := 139, desc := .struct #[{ name := "least", type := 3, offset := 0, embedded := false, tag := "", pkgPath := "batchline/product", byteOffset := 0 }, { name := "most", type := 3, offset := 1, embedded := false, tag := "", pkgPath := "batchline/product", byteOffset := 8 }], size := 2, bytes := 16, zero := .agg #[.int .i64 0, .int .i64 0], τ := .pair (.int .i64) (.int .i64), eq := true }
theorem tk139 : ti139.ok Tryz.prog := ⟨Tryz.underlying139, by kernel_rfl, fun _ => ⟨Tryz.eqGuardType139, Tryz.stoodInHeld139⟩⟩
def ti140 : TI := { t := 140, desc := .array 4 139, size := 8, bytes := 64, zero := .agg #[.int .i64 0, .int .i64 0, .int .i64 0, .int .i64 0, .int .i64 0, .int .i64 0, .int .i64 0, .int .i64 0], τ := .pair tT2 (.pair tT2 (.pair tT2 tT2)), eq := false }
theorem tk140 : ti140.ok Tryz.prog := ⟨Tryz.underlying140, by kernel_rfl, fun h => by cases h⟩
def ti151 : TI := { t := 151, desc := .int .u32, size := 1, bytes := 4, zero := .int .u32 0, τ := .int .u32, eq := false }
theorem tk151 : ti151.ok Tryz.prog := ⟨Tryz.underlying151, by kernel_rfl, fun h => by cases h⟩
def ti153 : TI := { t := 153, desc := .int .u64, size := 1, bytes := 8, zero := .int .u64 0, τ := .int .u64, eq := false }
theorem tk153 : ti153.ok Tryz.prog := ⟨Tryz.underlying153, by kernel_rfl, fun h => by cases h⟩
def ti161 : TI := { t := 161, desc := .int .u64, size := 1, bytes := 8, zero := .int .u64 0, τ := .int .u64, eq := false }
theorem tk161 : ti161.ok Tryz.prog := ⟨Tryz.underlying161, by kernel_rfl, fun h => by cases h⟩
def types : List TI := [ti3, ti5, ti9, ti22, ti27, ti28, ti29, ti30, ti32, ti34, ti36, ti37, ti41, ti44, ti47, ti49, ti51, ti69, ti70, ti72, ti74, ti76, ti80, ti85, ti90, ti107, ti109, ti116, ti124, ti136, ti139, ti140, ti151, ti153, ti161]
theorem types_ok : Tys Tryz.prog types := ⟨tk3, tk5, tk9, tk22, tk27, tk28, tk29, tk30, tk32, tk34, tk36, tk37, tk41, tk44, tk47, tk49, tk51, tk69, tk70, tk72, tk74, tk76, tk80, tk85, tk90, tk107, tk109, tk116, tk124, tk136, tk139, tk140, tk151, tk153, tk161, trivial⟩
abbrev str_0 : List UInt8 := [0, 1, 2, 2, 3, 3, 3, 3, 4, 4, 4, 4, 4, 4, 4, 4, 5, 5, 5, 5, 5, 5, 5, 5, 5, 5, 5, 5, 5, 5, 5, 5, 6, 6, 6, 6, 6, 6, 6, 6, 6, 6, 6, 6, 6, 6, 6, 6, 6, 6, 6, 6, 6, 6, 6, 6, 6, 6, 6, 6, 6, 6, 6, 6, 7, 7, 7, 7, 7, 7, 7, 7, 7, 7, 7, 7, 7, 7, 7, 7, 7, 7, 7, 7, 7, 7, 7, 7, 7, 7, 7, 7, 7, 7, 7, 7, 7, 7, 7, 7, 7, 7, 7, 7, 7, 7, 7, 7, 7, 7, 7, 7, 7, 7, 7, 7, 7, 7, 7, 7, 7, 7, 7, 7, 7, 7, 7, 7, 8, 8, 8, 8, 8, 8, 8, 8, 8, 8, 8, 8, 8, 8, 8, 8, 8, 8, 8, 8, 8, 8, 8, 8, 8, 8, 8, 8, 8, 8, 8, 8, 8, 8, 8, 8, 8, 8, 8, 8, 8, 8, 8, 8, 8, 8, 8, 8, 8, 8, 8, 8, 8, 8, 8, 8, 8, 8, 8, 8, 8, 8, 8, 8, 8, 8, 8, 8, 8, 8, 8, 8, 8, 8, 8, 8, 8, 8, 8, 8, 8, 8, 8, 8, 8, 8, 8, 8, 8, 8, 8, 8, 8, 8, 8, 8, 8, 8, 8, 8, 8, 8, 8, 8, 8, 8, 8, 8, 8, 8, 8, 8, 8, 8, 8, 8, 8, 8, 8, 8, 8, 8, 8, 8, 8, 8, 8, 8]
abbrev kO_0 : KO yT0 := keyO tT0
theorem mx : Tryz.prog.follows .mixedOrders = true := by kernel_rfl
theorem nmr6 : (Tryz.f6.name == "runtime.NumGoroutine") = false := by kernel_rfl
theorem nmr121 : (Tryz.f121.name == "runtime.NumGoroutine") = false := by kernel_rfl
theorem nmr93 : (Tryz.f93.name == "runtime.NumGoroutine") = false := by kernel_rfl
theorem nmr94 : (Tryz.f94.name == "runtime.NumGoroutine") = false := by kernel_rfl
theorem nmr62 : (Tryz.f62.name == "runtime.NumGoroutine") = false := by kernel_rfl
theorem nmr63 : (Tryz.f63.name == "runtime.NumGoroutine") = false := by kernel_rfl
theorem nmr95 : (Tryz.f95.name == "runtime.NumGoroutine") = false := by kernel_rfl
theorem nmr64 : (Tryz.f64.name == "runtime.NumGoroutine") = false := by kernel_rfl
theorem nmr96 : (Tryz.f96.name == "runtime.NumGoroutine") = false := by kernel_rfl
theorem nmr66 : (Tryz.f66.name == "runtime.NumGoroutine") = false := by kernel_rfl
theorem nmr65 : (Tryz.f65.name == "runtime.NumGoroutine") = false := by kernel_rfl
theorem nmr80 : (Tryz.f80.name == "runtime.NumGoroutine") = false := by kernel_rfl
theorem nmr98 : (Tryz.f98.name == "runtime.NumGoroutine") = false := by kernel_rfl
theorem nmr97 : (Tryz.f97.name == "runtime.NumGoroutine") = false := by kernel_rfl
theorem nmr67 : (Tryz.f67.name == "runtime.NumGoroutine") = false := by kernel_rfl
theorem nmr100 : (Tryz.f100.name == "runtime.NumGoroutine") = false := by kernel_rfl
theorem nmr122 : (Tryz.f122.name == "runtime.NumGoroutine") = false := by kernel_rfl
theorem nmr99 : (Tryz.f99.name == "runtime.NumGoroutine") = false := by kernel_rfl
theorem nmr68 : (Tryz.f68.name == "runtime.NumGoroutine") = false := by kernel_rfl
theorem nmr105 : (Tryz.f105.name == "runtime.NumGoroutine") = false := by kernel_rfl
theorem nmr102 : (Tryz.f102.name == "runtime.NumGoroutine") = false := by kernel_rfl
theorem nmr101 : (Tryz.f101.name == "runtime.NumGoroutine") = false := by kernel_rfl
theorem nmr78 : (Tryz.f78.name == "runtime.NumGoroutine") = false := by kernel_rfl
theorem nmr103 : (Tryz.f103.name == "runtime.NumGoroutine") = false := by kernel_rfl
theorem nmr104 : (Tryz.f104.name == "runtime.NumGoroutine") = false := by kernel_rfl
theorem nmr106 : (Tryz.f106.name == "runtime.NumGoroutine") = false := by kernel_rfl
theorem nmr107 : (Tryz.f107.name == "runtime.NumGoroutine") = false := by kernel_rfl
theorem nmr69 : (Tryz.f69.name == "runtime.NumGoroutine") = false := by kernel_rfl
theorem nmr33 : (Tryz.f33.name == "runtime.NumGoroutine") = false := by kernel_rfl
theorem nmr108 : (Tryz.f108.name == "runtime.NumGoroutine") = false := by kernel_rfl
theorem nmr70 : (Tryz.f70.name == "runtime.NumGoroutine") = false := by kernel_rfl
theorem nmr77 : (Tryz.f77.name == "runtime.NumGoroutine") = false := by kernel_rfl
theorem nmr76 : (Tryz.f76.name == "runtime.NumGoroutine") = false := by kernel_rfl
theorem nmr37 : (Tryz.f37.name == "runtime.NumGoroutine") = false := by kernel_rfl
theorem nmr34 : (Tryz.f34.name == "runtime.NumGoroutine") = false := by kernel_rfl
theorem nmr109 : (Tryz.f109.name == "runtime.NumGoroutine") = false := by kernel_rfl
theorem nmr71 : (Tryz.f71.name == "runtime.NumGoroutine") = false := by kernel_rfl
theorem nmr73 : (Tryz.f73.name == "runtime.NumGoroutine") = false := by kernel_rfl
theorem nmr72 : (Tryz.f72.name == "runtime.NumGoroutine") = false := by kernel_rfl
theorem nmr35 : (Tryz.f35.name == "runtime.NumGoroutine") = false := by kernel_rfl
theorem nmr119 : (Tryz.f119.name == "runtime.NumGoroutine") = false := by kernel_rfl
theorem nmr120 : (Tryz.f120.name == "runtime.NumGoroutine") = false := by kernel_rfl
theorem nmr82 : (Tryz.f82.name == "runtime.NumGoroutine") = false := by kernel_rfl
theorem nmr123 : (Tryz.f123.name == "runtime.NumGoroutine") = false := by kernel_rfl
theorem nmr136 : (Tryz.f136.name == "runtime.NumGoroutine") = false := by kernel_rfl
theorem nmr124 : (Tryz.f124.name == "runtime.NumGoroutine") = false := by kernel_rfl
theorem nmr132 : (Tryz.f132.name == "runtime.NumGoroutine") = false := by kernel_rfl
theorem nmr133 : (Tryz.f133.name == "runtime.NumGoroutine") = false := by kernel_rfl
theorem nmr125 : (Tryz.f125.name == "runtime.NumGoroutine") = false := by kernel_rfl
theorem nmr140 : (Tryz.f140.name == "runtime.NumGoroutine") = false := by kernel_rfl
theorem nmr138 : (Tryz.f138.name == "runtime.NumGoroutine") = false := by kernel_rfl
theorem nmr137 : (Tryz.f137.name == "runtime.NumGoroutine") = false := by kernel_rfl
theorem nmr126 : (Tryz.f126.name == "runtime.NumGoroutine") = false := by kernel_rfl
theorem nmr127 : (Tryz.f127.name == "runtime.NumGoroutine") = false := by kernel_rfl
theorem nmr128 : (Tryz.f128.name == "runtime.NumGoroutine") = false := by kernel_rfl
theorem nmr129 : (Tryz.f129.name == "runtime.NumGoroutine") = false := by kernel_rfl
theorem nmr130 : (Tryz.f130.name == "runtime.NumGoroutine") = false := by kernel_rfl
theorem nmr110 : (Tryz.f110.name == "runtime.NumGoroutine") = false := by kernel_rfl
theorem nmr74 : (Tryz.f74.name == "runtime.NumGoroutine") = false := by kernel_rfl
theorem nmr83 : (Tryz.f83.name == "runtime.NumGoroutine") = false := by kernel_rfl
theorem nmr43 : (Tryz.f43.name == "runtime.NumGoroutine") = false := by kernel_rfl
theorem nmr84 : (Tryz.f84.name == "runtime.NumGoroutine") = false := by kernel_rfl
theorem nmr44 : (Tryz.f44.name == "runtime.NumGoroutine") = false := by kernel_rfl
theorem nmr42 : (Tryz.f42.name == "runtime.NumGoroutine") = false := by kernel_rfl
theorem nmr75 : (Tryz.f75.name == "runtime.NumGoroutine") = false := by kernel_rfl
theorem nmr36 : (Tryz.f36.name == "runtime.NumGoroutine") = false := by kernel_rfl
theorem nmr79 : (Tryz.f79.name == "runtime.NumGoroutine") = false := by kernel_rfl
theorem nmr38 : (Tryz.f38.name == "runtime.NumGoroutine") = false := by kernel_rfl
theorem nmr39 : (Tryz.f39.name == "runtime.NumGoroutine") = false := by kernel_rfl
theorem nmr111 : (Tryz.f111.name == "runtime.NumGoroutine") = false := by kernel_rfl
theorem nmr131 : (Tryz.f131.name == "runtime.NumGoroutine") = false := by kernel_rfl
theorem nmr112 : (Tryz.f112.name == "runtime.NumGoroutine") = false := by kernel_rfl
theorem nmr113 : (Tryz.f113.name == "runtime.NumGoroutine") = false := by kernel_rfl
theorem nmr139 : (Tryz.f139.name == "runtime.NumGoroutine") = false := by kernel_rfl
theorem nmr135 : (Tryz.f135.name == "runtime.NumGoroutine") = false := by kernel_rfl
theorem nmr134 : (Tryz.f134.name == "runtime.NumGoroutine") = false := by kernel_rfl
theorem nmr114 : (Tryz.f114.name == "runtime.NumGoroutine") = false := by kernel_rfl
theorem nmr115 : (Tryz.f115.name == "runtime.NumGoroutine") = false := by kernel_rfl
theorem nmr116 : (Tryz.f116.name == "runtime.NumGoroutine") = false := by kernel_rfl
theorem nmr117 : (Tryz.f117.name == "runtime.NumGoroutine") = false := by kernel_rfl
theorem nmr118 : (Tryz.f118.name == "runtime.NumGoroutine") = false := by kernel_rfl
theorem nmr81 : (Tryz.f81.name == "runtime.NumGoroutine") = false := by kernel_rfl
theorem nmr40 : (Tryz.f40.name == "runtime.NumGoroutine") = false := by kernel_rfl
theorem nmr41 : (Tryz.f41.name == "runtime.NumGoroutine") = false := by kernel_rfl
theorem nmr11 : (Tryz.f11.name == "runtime.NumGoroutine") = false := by kernel_rfl
theorem nmr7 : (Tryz.f7.name == "runtime.NumGoroutine") = false := by kernel_rfl
theorem nmr8 : (Tryz.f8.name == "runtime.NumGoroutine") = false := by kernel_rfl
theorem nmr49 : (Tryz.f49.name == "runtime.NumGoroutine") = false := by kernel_rfl
theorem nmr48 : (Tryz.f48.name == "runtime.NumGoroutine") = false := by kernel_rfl
theorem nmr18 : (Tryz.f18.name == "runtime.NumGoroutine") = false := by kernel_rfl
theorem nmr22 : (Tryz.f22.name == "runtime.NumGoroutine") = false := by kernel_rfl
theorem nmr29 : (Tryz.f29.name == "runtime.NumGoroutine") = false := by kernel_rfl
theorem nmr30 : (Tryz.f30.name == "runtime.NumGoroutine") = false := by kernel_rfl
theorem nmr31 : (Tryz.f31.name == "runtime.NumGoroutine") = false := by kernel_rfl
theorem nmr9 : (Tryz.f9.name == "runtime.NumGoroutine") = false := by kernel_rfl
theorem nmr32 : (Tryz.f32.name == "runtime.NumGoroutine") = false := by kernel_rfl
theorem nmr10 : (Tryz.f10.name == "runtime.NumGoroutine") = false := by kernel_rfl
theorem nmr45 : (Tryz.f45.name == "runtime.NumGoroutine") = false := by kernel_rfl
theorem nmr12 : (Tryz.f12.name == "runtime.NumGoroutine") = false := by kernel_rfl
theorem nmr88 : (Tryz.f88.name == "runtime.NumGoroutine") = false := by kernel_rfl
theorem nmr85 : (Tryz.f85.name == "runtime.NumGoroutine") = false := by kernel_rfl
theorem nmr46 : (Tryz.f46.name == "runtime.NumGoroutine") = false := by kernel_rfl
theorem nmr47 : (Tryz.f47.name == "runtime.NumGoroutine") = false := by kernel_rfl
theorem nmr14 : (Tryz.f14.name == "runtime.NumGoroutine") = false := by kernel_rfl
theorem nmr15 : (Tryz.f15.name == "runtime.NumGoroutine") = false := by kernel_rfl
theorem nmr16 : (Tryz.f16.name == "runtime.NumGoroutine") = false := by kernel_rfl
theorem nmr17 : (Tryz.f17.name == "runtime.NumGoroutine") = false := by kernel_rfl
theorem nmr4 : (Tryz.f4.name == "runtime.NumGoroutine") = false := by kernel_rfl

abbrev kk : Sh := .one .keep
abbrev ii : Sh := .one (.data (.int .i64))
abbrev bb : Sh := .one (.data .bool)
abbrev ss : Sh := .one (.data .str)
abbrev nn (r : Plan) : Plan := .mk [] none .nil r
abbrev mm (l r : Plan) : Plan := .mk [] none l r
noncomputable def second_Few (l : List Int) : Option (Bool) :=
  some (decide ((l.length : Int) ≤ 400))

noncomputable def fn_second_Few : Fun :=
  { f := 6, np := 1, nr := 1,
    ji := ⟨[(0, .one (.data (.sl (.int .i64))))], [], []⟩,
    jo := ⟨[(0, bb)], [], []⟩,
    tw := fun x => second_Few x }
noncomputable def cx_second_Few : Cx := { Γ := types, ow := [], fs := [], N := 6 }
theorem ok_second_Few : FunOk Tryz.prog fn_second_Few :=
  FunOk.intro (C := cx_second_Few) (p := .nil)
    Tryz.func6 rfl nmr6 rfl rfl rfl rfl types_ok ⟨trivial, trivial⟩ mx (fun x => by kernel_rfl)

noncomputable def slices_IndexFunc_api_Segment_api_Segment_L0 (s : List yT1) (f : yT1 × Unit → Option Bool) (v : Int) : Option (Int ⊕ (Unit ⊕ Int)) :=
  bif decide (v < (s.length : Int)) then (
   gd (inB v s.length) <|
   (f (s.getD v.toNat ([], (0, (0, (0, (0, (0, [])))))), ())).bind fun r =>
   bif r then (
    some (.inr (.inr v)))
   else (
    some (.inl (wi64 (v + 1)))))
  else (
   some (.inr (.inl ())))

noncomputable def slices_IndexFunc_api_Segment_api_Segment (s : List yT1) (f : yT1 × Unit → Option Bool) : Option (Int) :=
  (iter (fun x => slices_IndexFunc_api_Segment_api_Segment_L0 s f x) 0).bind fun s2 =>
  s2.elim (fun s3 =>
   some (-1))
  (fun s4 =>
   some s4)

noncomputable def fn_slices_IndexFunc_api_Segment_api_Segment : Fun :=
  { f := 121, np := 2, nr := 1,
    ji := ⟨[(0, .one (.data (.sl (.pair (.str) (.pair (.int .i64) (.pair (.int .i64) (.pair (.int .i64) (.pair (.int .i64) (.pair (.int .i64) (.sl (.pair (.int .i64) tT2))))))))))), (1, .one (.fn [.pair (.str) (.pair (.int .i64) (.pair (.int .i64) (.pair (.int .i64) (.pair (.int .i64) (.pair (.int .i64) (.sl (.pair (.int .i64) tT2)))))))] (.bool)))], [], []⟩,
    jo := ⟨[(0, ii)], [], []⟩,
    tw := fun x => slices_IndexFunc_api_Segment_api_Segment x.1 x.2 }
noncomputable def cx_slices_IndexFunc_api_Segment_api_Segment : Cx := { Γ := types, ow := [], fs := [], N := 19 }
theorem ok_slices_IndexFunc_api_Segment_api_Segment : FunOk Tryz.prog fn_slices_IndexFunc_api_Segment_api_Segment :=
  FunOk.intro (C := cx_slices_IndexFunc_api_Segment_api_Segment) (p := (nn (mm (nn (mm (.mk [] (some (⟨[(0, kk), (1, kk), (7, kk), (8, ii)], [], []⟩, [⟨.x 0, ⟨[], [], []⟩⟩, ⟨.r, ⟨[(4, ii)], [], []⟩⟩])) .nil .nil) .nil)) .nil)))
    Tryz.func121 rfl nmr121 rfl rfl rfl rfl types_ok ⟨trivial, trivial⟩ mx (fun x => by kernel_rfl)

noncomputable def slices_ContainsFunc_api_Segment_api_Segment (s : List yT1) (f : yT1 × Unit → Option Bool) : Option (Bool) :=
  (slices_IndexFunc_api_Segment_api_Segment s f).bind fun r =>
  some (decide (0 ≤ r))

noncomputable def fn_slices_ContainsFunc_api_Segment_api_Segment : Fun :=
  { f := 93, np := 2, nr := 1,
    ji := ⟨[(0, .one (.data (.sl (.pair (.str) (.pair (.int .i64) (.pair (.int .i64) (.pair (.int .i64) (.pair (.int .i64) (.pair (.int .i64) (.sl (.pair (.int .i64) tT2))))))))))), (1, .one (.fn [.pair (.str) (.pair (.int .i64) (.pair (.int .i64) (.pair (.int .i64) (.pair (.int .i64) (.pair (.int .i64) (.sl (.pair (.int .i64) tT2)))))))] (.bool)))], [], []⟩,
    jo := ⟨[(0, bb)], [], []⟩,
    tw := fun x => slices_ContainsFunc_api_Segment_api_Segment x.1 x.2 }
noncomputable def cx_slices_ContainsFunc_api_Segment_api_Segment : Cx := { Γ := types, ow := [], fs := [fn_slices_IndexFunc_api_Segment_api_Segment], N := 9 }
theorem ok_slices_ContainsFunc_api_Segment_api_Segment : FunOk Tryz.prog fn_slices_ContainsFunc_api_Segment_api_Segment :=
  FunOk.intro (C := cx_slices_ContainsFunc_api_Segment_api_Segment) (p := .nil)
    Tryz.func93 rfl nmr93 rfl rfl rfl rfl types_ok ⟨⟨ok_slices_IndexFunc_api_Segment_api_Segment, trivial⟩, trivial⟩ mx (fun x => by kernel_rfl)

noncomputable def network_limits_1 (s : List UInt8 × Int × Int × Int × Int × Int × List (Int × Int × Int)) : Option (Bool) :=
  bif decide ((s.2.2.2.2.2.2.length : Int) < 2) then (
   some true)
  else (
   some (decide (8 < (s.2.2.2.2.2.2.length : Int))))

noncomputable def fn_network_limits_1 : Fun :=
  { f := 94, np := 1, nr := 1,
    ji := ⟨[(0, .one (.data (.pair (.str) (.pair (.int .i64) (.pair (.int .i64) (.pair (.int .i64) (.pair (.int .i64) (.pair (.int .i64) (.sl (.pair (.int .i64) tT2))))))))))], [], []⟩,
    jo := ⟨[(0, bb)], [], []⟩,
    tw := fun x => network_limits_1 x }
noncomputable def cx_network_limits_1 : Cx := { Γ := types, ow := [], fs := [], N := 13 }
theorem ok_network_limits_1 : FunOk Tryz.prog fn_network_limits_1 :=
  FunOk.intro (C := cx_network_limits_1) (p := .nil)
    Tryz.func94 rfl nmr94 rfl rfl rfl rfl types_ok ⟨trivial, trivial⟩ mx (fun x => by kernel_rfl)

noncomputable def network_limits (n : List (List UInt8) × List yT1 × List (List UInt8 × Int × Int) × List (List UInt8 × Int × Int × Int × Int) × Int × Int) : Option (Bool) :=
  Option.bind (α := Bool) (
    bif decide ((n.1.length : Int) < 1) then (
     some true)
    else (
     bif decide (24 < (n.1.length : Int)) then (
      some true)
     else (
      bif decide (32 < (n.2.1.length : Int)) then (
       some true)
      else (
       bif decide (24 < (n.2.2.1.length : Int)) then (
        some true)
       else (
        some (decide (12 < (n.2.2.2.1.length : Int)))))))) fun s =>
  bif s then (
   some false)
  else (
   (slices_ContainsFunc_api_Segment_api_Segment n.2.1 (fun h => (network_limits_1 h.1).bind fun y => some y)).bind fun r =>
   some (!r))

noncomputable def fn_network_limits : Fun :=
  { f := 62, np := 1, nr := 1,
    ji := ⟨[(0, .one (.data (.pair (.sl (.str)) (.pair (.sl (.pair (.str) (.pair (.int .i64) (.pair (.int .i64) (.pair (.int .i64) (.pair (.int .i64) (.pair (.int .i64) (.sl (.pair (.int .i64) tT2))))))))) (.pair (.sl (.pair (.str) tT2)) (.pair (.sl (.pair (.str) (.pair (.int .i64) (.pair (.int .i64) tT2)))) tT2))))))], [], []⟩,
    jo := ⟨[(0, bb)], [], []⟩,
    tw := fun x => network_limits x }
noncomputable def cx_network_limits : Cx := { Γ := types, ow := [], fs := [fn_slices_ContainsFunc_api_Segment_api_Segment, fn_network_limits_1], N := 35 }
theorem ok_network_limits : FunOk Tryz.prog fn_network_limits :=
  FunOk.intro (C := cx_network_limits) (p := (nn (mm (mm (.mk [.join [⟨.n, ⟨[(1, .one (.ptr 32 0)), (30, bb)], [(32, 32, [.keep, .keep, .keep, .keep, .keep, .keep])], []⟩⟩]] none .nil .nil) .nil) .nil)))
    Tryz.func62 rfl nmr62 rfl rfl rfl rfl types_ok ⟨⟨ok_slices_ContainsFunc_api_Segment_api_Segment, ok_network_limits_1, trivial⟩, trivial⟩ mx (fun x => by kernel_rfl)

noncomputable def network_names_L0 (n : List (List UInt8) × List yT1 × List (List UInt8 × Int × Int) × List (List UInt8 × Int × Int × Int × Int) × Int × Int) (v : Int) (out : List (List UInt8)) : Option ((Int × List (List UInt8)) ⊕ (List (List UInt8))) :=
  bif decide (v < (n.2.1.length : Int)) then (
   gd (inB v n.2.1.length) <|
   gd (fits (out.length + 1) 16) <|
   some (.inl (wi64 (v + 1), out ++ [(n.2.1.getD v.toNat ([], (0, (0, (0, (0, (0, []))))))).1])))
  else (
   some (.inr out))

noncomputable def network_names_L1 (n : List (List UInt8) × List yT1 × List (List UInt8 × Int × Int) × List (List UInt8 × Int × Int × Int × Int) × Int × Int) (v2 : Int) (out2 : List (List UInt8)) (out3 : List (List UInt8)) : Option ((Int × List (List UInt8) × List (List UInt8)) ⊕ (List (List UInt8) × List (List UInt8))) :=
  bif decide (v2 < (n.2.2.1.length : Int)) then (
   gd (inB v2 n.2.2.1.length) <|
   gd (fits (out3.length + 1) 16) <|
   some (.inl (wi64 (v2 + 1), out2, out3 ++ [(n.2.2.1.getD v2.toNat ([], (0, 0))).1])))
  else (
   some (.inr (out2, out3)))

noncomputable def network_names_L2 (n : List (List UInt8) × List yT1 × List (List UInt8 × Int × Int) × List (List UInt8 × Int × Int × Int × Int) × Int × Int) (v3 : Int) (out4 : List (List UInt8)) (out5 : List (List UInt8)) (out6 : List (List UInt8)) : Option ((Int × List (List UInt8) × List (List UInt8) × List (List UInt8)) ⊕ (List (List UInt8) × List (List UInt8) × List (List UInt8))) :=
  bif decide (v3 < (n.2.2.2.1.length : Int)) then (
   gd (inB v3 n.2.2.2.1.length) <|
   gd (fits (out6.length + 1) 16) <|
   some (.inl (wi64 (v3 + 1), out4, out5, out6 ++ [(n.2.2.2.1.getD v3.toNat ([], (0, (0, (0, 0))))).1])))
  else (
   some (.inr (out4, out5, out6)))

noncomputable def network_names (n : List (List UInt8) × List yT1 × List (List UInt8 × Int × Int) × List (List UInt8 × Int × Int × Int × Int) × Int × Int) : Option (List (List UInt8) × List (List UInt8) × List (List UInt8) × List (List UInt8)) :=
  (iter (fun x => network_names_L0 n x.1 x.2) (0, [])).bind fun s =>
  (iter (fun x2 => network_names_L1 n x2.1 x2.2.1 x2.2.2) (0, s, [])).bind fun s2 =>
  (iter (fun x3 => network_names_L2 n x3.1 x3.2.1 x3.2.2.1 x3.2.2.2) (0, s2.1, s2.2, [])).bind fun s3 =>
  some (n.1, (s3.1, (s3.2.1, s3.2.2)))

noncomputable def fn_network_names : Fun :=
  { f := 63, np := 1, nr := 1,
    ji := ⟨[(0, .one (.data (.pair (.sl (.str)) (.pair (.sl (.pair (.str) (.pair (.int .i64) (.pair (.int .i64) (.pair (.int .i64) (.pair (.int .i64) (.pair (.int .i64) (.sl (.pair (.int .i64) tT2))))))))) (.pair (.sl (.pair (.str) tT2)) (.pair (.sl (.pair (.str) (.pair (.int .i64) (.pair (.int .i64) tT2)))) tT2))))))], [], []⟩,
    jo := ⟨[(0, .one (.data (.pair (.sl (.str)) (.pair (.sl (.str)) (.pair (.sl (.str)) (.sl (.str)))))))], [], []⟩,
    tw := fun x => network_names x }
noncomputable def cx_network_names : Cx := { Γ := types, ow := [], fs := [], N := 59 }
theorem ok_network_names : FunOk Tryz.prog fn_network_names :=
  FunOk.intro (C := cx_network_names) (p := (nn (nn (nn (mm (nn (mm (.mk [] (some (⟨[(1, .one (.ptr 32 0)), (2, .one (.ptr 48 0)), (3, .one (.ptr 64 0)), (14, kk), (15, kk), (16, ii)], [(32, 32, [.keep, .keep, .keep, .keep, .keep, .keep]), (48, 109, [.keep, .keep, .keep, .keep]), (64, 109, [.keep, .own 1065, .keep, .keep])], [(1065, .arr 9 (.str))]⟩, [⟨.x 0, ⟨[(1, .one (.ptr 32 0)), (2, .one (.ptr 48 0)), (3, .one (.ptr 64 0))], [(32, 32, [.keep, .keep, .keep, .keep, .keep, .keep]), (48, 109, [.keep, .keep, .keep, .keep]), (64, 109, [.keep, .own 1065, .keep, .keep])], [(1065, .arr 9 (.str))]⟩⟩])) .nil .nil) .nil)) (mm (nn (mm (.mk [] (some (⟨[(1, .one (.ptr 32 0)), (2, .one (.ptr 48 0)), (3, .one (.ptr 64 0)), (29, kk), (30, kk), (31, ii)], [(32, 32, [.keep, .keep, .keep, .keep, .keep, .keep]), (48, 109, [.keep, .keep, .keep, .keep]), (64, 109, [.keep, .own 1065, .own 1081, .keep])], [(1065, .arr 9 (.str)), (1081, .arr 9 (.str))]⟩, [⟨.x 2, ⟨[(1, .one (.ptr 32 0)), (2, .one (.ptr 48 0)), (3, .one (.ptr 64 0))], [(32, 32, [.keep, .keep, .keep, .keep, .keep, .keep]), (48, 109, [.keep, .keep, .keep, .keep]), (64, 109, [.keep, .own 1065, .own 1081, .keep])], [(1065, .arr 9 (.str)), (1081, .arr 9 (.str))]⟩⟩])) .nil .nil) .nil)) (mm (nn (mm (.mk [] (some (⟨[(2, .one (.ptr 48 0)), (3, .one (.ptr 64 0)), (44, kk), (45, kk), (46, ii)], [(48, 109, [.keep, .keep, .keep, .keep]), (64, 109, [.keep, .own 1065, .own 1081, .own 1097])], [(1065, .arr 9 (.str)), (1081, .arr 9 (.str)), (1097, .arr 9 (.str))]⟩, [⟨.x 4, ⟨[(2, .one (.ptr 48 0)), (3, .one (.ptr 64 0))], [(48, 109, [.keep, .keep, .keep, .keep]), (64, 109, [.keep, .own 1065, .own 1081, .own 1097])], [(1065, .arr 9 (.str)), (1081, .arr 9 (.str)), (1097, .arr 9 (.str))]⟩⟩])) .nil .nil) .nil)) .nil)))))))
    Tryz.func63 rfl nmr63 rfl rfl rfl rfl types_ok ⟨trivial, trivial⟩ mx (fun x => by kernel_rfl)

noncomputable def slices_IndexFunc_string_string_L0 (s : List (List UInt8)) (f : List UInt8 × Unit → Option Bool) (v : Int) : Option (Int ⊕ (Unit ⊕ Int)) :=
  bif decide (v < (s.length : Int)) then (
   gd (inB v s.length) <|
   (f (s.getD v.toNat [], ())).bind fun r =>
   bif r then (
    some (.inr (.inr v)))
   else (
    some (.inl (wi64 (v + 1)))))
  else (
   some (.inr (.inl ())))

noncomputable def slices_IndexFunc_string_string (s : List (List UInt8)) (f : List UInt8 × Unit → Option Bool) : Option (Int) :=
  (iter (fun x => slices_IndexFunc_string_string_L0 s f x) 0).bind fun s2 =>
  s2.elim (fun s3 =>
   some (-1))
  (fun s4 =>
   some s4)

noncomputable def fn_slices_IndexFunc_string_string : Fun :=
  { f := 95, np := 2, nr := 1,
    ji := ⟨[(0, .one (.data (.sl (.str)))), (1, .one (.fn [.str] (.bool)))], [], []⟩,
    jo := ⟨[(0, ii)], [], []⟩,
    tw := fun x => slices_IndexFunc_string_string x.1 x.2 }
noncomputable def cx_slices_IndexFunc_string_string : Cx := { Γ := types, ow := [], fs := [], N := 19 }
theorem ok_slices_IndexFunc_string_string : FunOk Tryz.prog fn_slices_IndexFunc_string_string :=
  FunOk.intro (C := cx_slices_IndexFunc_string_string) (p := (nn (mm (nn (mm (.mk [] (some (⟨[(0, kk), (1, kk), (7, kk), (8, ii)], [], []⟩, [⟨.x 0, ⟨[], [], []⟩⟩, ⟨.r, ⟨[(4, ii)], [], []⟩⟩])) .nil .nil) .nil)) .nil)))
    Tryz.func95 rfl nmr95 rfl rfl rfl rfl types_ok ⟨trivial, trivial⟩ mx (fun x => by kernel_rfl)

noncomputable def slices_ContainsFunc_string_string (s : List (List UInt8)) (f : List UInt8 × Unit → Option Bool) : Option (Bool) :=
  (slices_IndexFunc_string_string s f).bind fun r =>
  some (decide (0 ≤ r))

noncomputable def fn_slices_ContainsFunc_string_string : Fun :=
  { f := 64, np := 2, nr := 1,
    ji := ⟨[(0, .one (.data (.sl (.str)))), (1, .one (.fn [.str] (.bool)))], [], []⟩,
    jo := ⟨[(0, bb)], [], []⟩,
    tw := fun x => slices_ContainsFunc_string_string x.1 x.2 }
noncomputable def cx_slices_ContainsFunc_string_string : Cx := { Γ := types, ow := [], fs := [fn_slices_IndexFunc_string_string], N := 9 }
theorem ok_slices_ContainsFunc_string_string : FunOk Tryz.prog fn_slices_ContainsFunc_string_string :=
  FunOk.intro (C := cx_slices_ContainsFunc_string_string) (p := .nil)
    Tryz.func64 rfl nmr64 rfl rfl rfl rfl types_ok ⟨⟨ok_slices_IndexFunc_string_string, trivial⟩, trivial⟩ mx (fun x => by kernel_rfl)

noncomputable def lines_place (c : Int) : Option (Int) :=
  Option.bind (α := Unit ⊕ Unit ⊕ Int) (
    Option.bind (α := Bool) (
      bif decide (97 ≤ c) then (
       some (decide (c ≤ 122)))
      else (
       some false)) fun s =>
    bif s then (
     some (.inr (.inr 1)))
    else (
     Option.bind (α := Bool) (
       bif decide (48 ≤ c) then (
        some (decide (c ≤ 57)))
       else (
        some false)) fun s2 =>
     bif s2 then (
      some (.inl ()))
     else (
      bif decide (c = 45) then (
       some (.inl ()))
      else (
       some (.inr (.inl ())))))) fun s3 =>
  s3.elim (fun s4 =>
   some 2)
  (fun s5 =>
   s5.elim (fun s6 =>
    some 0)
   (fun s7 =>
    some s7))

noncomputable def fn_lines_place : Fun :=
  { f := 96, np := 1, nr := 1,
    ji := ⟨[(0, .one (.data (.int .u8)))], [], []⟩,
    jo := ⟨[(0, ii)], [], []⟩,
    tw := fun x => lines_place x }
noncomputable def cx_lines_place : Cx := { Γ := types, ow := [], fs := [], N := 20 }
theorem ok_lines_place : FunOk Tryz.prog fn_lines_place :=
  FunOk.intro (C := cx_lines_place) (p := (nn (mm (mm (mm (.mk [.join [⟨.n, ⟨[], [], []⟩⟩, ⟨.x 0, ⟨[], [], []⟩⟩, ⟨.r, ⟨[(2, ii)], [], []⟩⟩]] none (mm (mm (mm (mm (mm (mm (.mk [.join [⟨.n, ⟨[(0, kk), (3, bb)], [], []⟩⟩]] none .nil .nil) .nil) (mm (mm (.mk [.join [⟨.n, ⟨[(0, kk), (10, bb)], [], []⟩⟩]] none .nil .nil) .nil) .nil)) .nil) .nil) .nil) .nil) .nil) .nil) .nil) .nil)))
    Tryz.func96 rfl nmr96 rfl rfl rfl rfl types_ok ⟨trivial, trivial⟩ mx (fun x => by kernel_rfl)

noncomputable def lines_Name_L0 (s : List UInt8) (v : Int) : Option (Int ⊕ (Unit ⊕ Bool)) :=
  bif decide (v < (s.length : Int)) then (
   gd (inB v s.length) <|
   (lines_place (Int.ofNat (s.getD v.toNat 0).toNat)).bind fun r2 =>
   bif decide (r2 = 0) then (
    some (.inr (.inr false)))
   else (
    some (.inl (wi64 (v + 1)))))
  else (
   some (.inr (.inl ())))

noncomputable def lines_Name (s : List UInt8) : Option (Bool) :=
  Option.bind (α := Bool) (
    bif decide ((s.length : Int) < 1) then (
     some true)
    else (
     bif decide (12 < (s.length : Int)) then (
      some true)
     else (
      gd (inB 0 s.length) <|
      (lines_place (Int.ofNat (s.getD 0 0).toNat)).bind fun r =>
      some (!decide (r = 1))))) fun s2 =>
  bif s2 then (
   some false)
  else (
   (iter (fun x => lines_Name_L0 s x) 0).bind fun s3 =>
   s3.elim (fun s4 =>
    some true)
   (fun s5 =>
    some s5))

noncomputable def fn_lines_Name : Fun :=
  { f := 66, np := 1, nr := 1,
    ji := ⟨[(0, ss)], [], []⟩,
    jo := ⟨[(0, bb)], [], []⟩,
    tw := fun x => lines_Name x }
noncomputable def cx_lines_Name : Cx := { Γ := types, ow := [], fs := [fn_lines_place], N := 29 }
theorem ok_lines_Name : FunOk Tryz.prog fn_lines_Name :=
  FunOk.intro (C := cx_lines_Name) (p := (nn (mm (mm (.mk [.join [⟨.n, ⟨[(0, kk), (17, bb)], [], []⟩⟩]] none .nil .nil) .nil) (mm (nn (mm (.mk [] (some (⟨[(0, kk), (19, kk), (20, ii)], [], []⟩, [⟨.x 0, ⟨[], [], []⟩⟩, ⟨.r, ⟨[(2, bb)], [], []⟩⟩])) .nil .nil) .nil)) .nil))))
    Tryz.func66 rfl nmr66 rfl rfl rfl rfl types_ok ⟨⟨ok_lines_place, trivial⟩, trivial⟩ mx (fun x => by kernel_rfl)

noncomputable def network_Check_1 (s : List UInt8) : Option (Bool) :=
  (lines_Name s).bind fun r =>
  some (!r)

noncomputable def fn_network_Check_1 : Fun :=
  { f := 65, np := 1, nr := 1,
    ji := ⟨[(0, ss)], [], []⟩,
    jo := ⟨[(0, bb)], [], []⟩,
    tw := fun x => network_Check_1 x }
noncomputable def cx_network_Check_1 : Cx := { Γ := types, ow := [], fs := [fn_lines_Name], N := 6 }
theorem ok_network_Check_1 : FunOk Tryz.prog fn_network_Check_1 :=
  FunOk.intro (C := cx_network_Check_1) (p := .nil)
    Tryz.func65 rfl nmr65 rfl rfl rfl rfl types_ok ⟨⟨ok_lines_Name, trivial⟩, trivial⟩ mx (fun x => by kernel_rfl)

noncomputable def slices_Index_string_string_L0 (s : List (List UInt8)) (v : List UInt8) (v2 : Int) : Option (Int ⊕ (Unit ⊕ Int)) :=
  bif decide (v2 < (s.length : Int)) then (
   gd (inB v2 s.length) <|
   bif decide (v = s.getD v2.toNat []) then (
    some (.inr (.inr v2)))
   else (
    some (.inl (wi64 (v2 + 1)))))
  else (
   some (.inr (.inl ())))

noncomputable def slices_Index_string_string (s : List (List UInt8)) (v : List UInt8) : Option (Int) :=
  (iter (fun x => slices_Index_string_string_L0 s v x) 0).bind fun s2 =>
  s2.elim (fun s3 =>
   some (-1))
  (fun s4 =>
   some s4)

noncomputable def fn_slices_Index_string_string : Fun :=
  { f := 80, np := 2, nr := 1,
    ji := ⟨[(0, .one (.data (.sl (.str)))), (1, ss)], [], []⟩,
    jo := ⟨[(0, ii)], [], []⟩,
    tw := fun x => slices_Index_string_string x.1 x.2 }
noncomputable def cx_slices_Index_string_string : Cx := { Γ := types, ow := [], fs := [], N := 19 }
theorem ok_slices_Index_string_string : FunOk Tryz.prog fn_slices_Index_string_string :=
  FunOk.intro (C := cx_slices_Index_string_string) (p := (nn (mm (nn (mm (.mk [] (some (⟨[(0, kk), (1, kk), (7, kk), (8, ii)], [], []⟩, [⟨.x 0, ⟨[], [], []⟩⟩, ⟨.r, ⟨[(4, ii)], [], []⟩⟩])) .nil .nil) .nil)) .nil)))
    Tryz.func80 rfl nmr80 rfl rfl rfl rfl types_ok ⟨trivial, trivial⟩ mx (fun x => by kernel_rfl)

noncomputable def network_twice_1 (x : List UInt8 × Int × Int × Int × Int) (v : List UInt8 × Int × Int × Int × Int) : Option (Bool) :=
  some (decide (x.2.1 = v.2.1))

noncomputable def fn_network_twice_1 : Fun :=
  { f := 98, np := 2, nr := 1,
    ji := ⟨[(0, .one (.data (.pair (.str) (.pair (.int .i64) (.pair (.int .i64) tT2))))), (1, .one (.sel (.pair (.str) (.pair (.int .i64) (.pair (.int .i64) tT2)))))], [], []⟩,
    jo := ⟨[(0, bb)], [], []⟩,
    tw := fun x => network_twice_1 x.1 x.2 }
noncomputable def cx_network_twice_1 : Cx := { Γ := types, ow := [], fs := [], N := 9 }
theorem ok_network_twice_1 : FunOk Tryz.prog fn_network_twice_1 :=
  FunOk.intro (C := cx_network_twice_1) (p := .nil)
    Tryz.func98 rfl nmr98 rfl rfl rfl rfl types_ok ⟨trivial, trivial⟩ mx (fun x => by kernel_rfl)

noncomputable def slices_IndexFunc_api_Station_api_Station_L0 (s : List (List UInt8 × Int × Int × Int × Int)) (f : (List UInt8 × Int × Int × Int × Int) × Unit → Option Bool) (v : Int) : Option (Int ⊕ (Unit ⊕ Int)) :=
  bif decide (v < (s.length : Int)) then (
   gd (inB v s.length) <|
   (f (s.getD v.toNat ([], (0, (0, (0, 0)))), ())).bind fun r =>
   bif r then (
    some (.inr (.inr v)))
   else (
    some (.inl (wi64 (v + 1)))))
  else (
   some (.inr (.inl ())))

noncomputable def slices_IndexFunc_api_Station_api_Station (s : List (List UInt8 × Int × Int × Int × Int)) (f : (List UInt8 × Int × Int × Int × Int) × Unit → Option Bool) : Option (Int) :=
  (iter (fun x => slices_IndexFunc_api_Station_api_Station_L0 s f x) 0).bind fun s2 =>
  s2.elim (fun s3 =>
   some (-1))
  (fun s4 =>
   some s4)

noncomputable def fn_slices_IndexFunc_api_Station_api_Station : Fun :=
  { f := 97, np := 2, nr := 1,
    ji := ⟨[(0, .one (.data (.sl (.pair (.str) (.pair (.int .i64) (.pair (.int .i64) tT2)))))), (1, .one (.fn [.pair (.str) (.pair (.int .i64) (.pair (.int .i64) tT2))] (.bool)))], [], []⟩,
    jo := ⟨[(0, ii)], [], []⟩,
    tw := fun x => slices_IndexFunc_api_Station_api_Station x.1 x.2 }
noncomputable def cx_slices_IndexFunc_api_Station_api_Station : Cx := { Γ := types, ow := [], fs := [], N := 19 }
theorem ok_slices_IndexFunc_api_Station_api_Station : FunOk Tryz.prog fn_slices_IndexFunc_api_Station_api_Station :=
  FunOk.intro (C := cx_slices_IndexFunc_api_Station_api_Station) (p := (nn (mm (nn (mm (.mk [] (some (⟨[(0, kk), (1, kk), (7, kk), (8, ii)], [], []⟩, [⟨.x 0, ⟨[], [], []⟩⟩, ⟨.r, ⟨[(4, ii)], [], []⟩⟩])) .nil .nil) .nil)) .nil)))
    Tryz.func97 rfl nmr97 rfl rfl rfl rfl types_ok ⟨trivial, trivial⟩ mx (fun x => by kernel_rfl)

noncomputable def network_twice_L1 (r : List (List UInt8) × List (List UInt8) × List (List UInt8) × List (List UInt8)) (v : Int) (v2 : Int) : Option (Int ⊕ (Unit ⊕ Bool)) :=
  bif decide (v2 < (([r.1, r.2.1, r.2.2.1, r.2.2.2].getD v.toNat []).length : Int)) then (
   gd (inB v2 ([r.1, r.2.1, r.2.2.1, r.2.2.2].getD v.toNat []).length) <|
   (slices_Index_string_string ([r.1, r.2.1, r.2.2.1, r.2.2.2].getD v.toNat []) (([r.1, r.2.1, r.2.2.1, r.2.2.2].getD v.toNat []).getD v2.toNat [])).bind fun r2 =>
   bif decide (r2 < v2) then (
    some (.inr (.inr true)))
   else (
    some (.inl (wi64 (v2 + 1)))))
  else (
   some (.inr (.inl ())))

noncomputable def network_twice_L0 (r : List (List UInt8) × List (List UInt8) × List (List UInt8) × List (List UInt8)) (v : Int) : Option (Int ⊕ (Unit ⊕ Bool)) :=
  bif decide (v < 4) then (
   gd (inB v 4) <|
   (iter (fun x => network_twice_L1 r v x) 0).bind fun s =>
   s.elim (fun s2 =>
    some (.inl (wi64 (v + 1))))
   (fun s3 =>
    some (.inr (.inr s3))))
  else (
   some (.inr (.inl ())))

noncomputable def network_twice_L2 (n : List (List UInt8) × List yT1 × List (List UInt8 × Int × Int) × List (List UInt8 × Int × Int × Int × Int) × Int × Int) (v3 : Int) : Option (Int ⊕ (Unit ⊕ Bool)) :=
  bif decide (v3 < (n.2.2.2.1.length : Int)) then (
   gd (inB v3 n.2.2.2.1.length) <|
   (slices_IndexFunc_api_Station_api_Station n.2.2.2.1 (fun h => (network_twice_1 h.1 ((n.2.2.2.1.getD v3.toNat ([], (0, (0, (0, 0))))).1, (((n.2.2.2.1.getD v3.toNat ([], (0, (0, (0, 0))))).2).1, ((((n.2.2.2.1.getD v3.toNat ([], (0, (0, (0, 0))))).2).2).1, (((((n.2.2.2.1.getD v3.toNat ([], (0, (0, (0, 0))))).2).2).2).1, ((((n.2.2.2.1.getD v3.toNat ([], (0, (0, (0, 0))))).2).2).2).2))))).bind fun y => some y)).bind fun r3 =>
   bif decide (r3 < v3) then (
    some (.inr (.inr true)))
   else (
    some (.inl (wi64 (v3 + 1)))))
  else (
   some (.inr (.inl ())))

noncomputable def network_twice (n : List (List UInt8) × List yT1 × List (List UInt8 × Int × Int) × List (List UInt8 × Int × Int × Int × Int) × Int × Int) : Option (Bool) :=
  (network_names (n.1, (n.2.1, (n.2.2.1, (n.2.2.2.1, (n.2.2.2.2.1, n.2.2.2.2.2)))))).bind fun r =>
  (iter (fun x2 => network_twice_L0 r x2) 0).bind fun s4 =>
  s4.elim (fun s5 =>
   (iter (fun x3 => network_twice_L2 n x3) 0).bind fun s7 =>
   s7.elim (fun s8 =>
    some false)
   (fun s9 =>
    some s9))
  (fun s6 =>
   some s6)

noncomputable def fn_network_twice : Fun :=
  { f := 67, np := 1, nr := 1,
    ji := ⟨[(0, .one (.data (.pair (.sl (.str)) (.pair (.sl (.pair (.str) (.pair (.int .i64) (.pair (.int .i64) (.pair (.int .i64) (.pair (.int .i64) (.pair (.int .i64) (.sl (.pair (.int .i64) tT2))))))))) (.pair (.sl (.pair (.str) tT2)) (.pair (.sl (.pair (.str) (.pair (.int .i64) (.pair (.int .i64) tT2)))) tT2))))))], [], []⟩,
    jo := ⟨[(0, bb)], [], []⟩,
    tw := fun x => network_twice x }
noncomputable def cx_network_twice : Cx := { Γ := types, ow := [], fs := [fn_network_names, fn_slices_Index_string_string, fn_slices_IndexFunc_api_Station_api_Station, fn_network_twice_1], N := 43 }
theorem ok_network_twice : FunOk Tryz.prog fn_network_twice :=
  FunOk.intro (C := cx_network_twice) (p := (nn (mm (nn (mm (.mk [] (some (⟨[(1, .one (.ptr 32 0)), (10, kk), (11, ii)], [(32, 32, [.keep, .keep, .keep, .keep, .keep, .keep])], []⟩, [⟨.x 0, ⟨[(1, .one (.ptr 32 0))], [(32, 32, [.keep, .keep, .keep, .keep, .keep, .keep])], []⟩⟩, ⟨.r, ⟨[(2, bb)], [], []⟩⟩])) (nn (nn (mm (mm (nn (nn (mm (.mk [] (some (⟨[(1, .one (.ptr 32 0)), (4, kk), (10, kk), (11, kk), (14, kk), (15, kk), (16, ii)], [(32, 32, [.keep, .keep, .keep, .keep, .keep, .keep])], []⟩, [⟨.x 2, ⟨[(1, .one (.ptr 32 0)), (10, kk), (11, kk)], [(32, 32, [.keep, .keep, .keep, .keep, .keep, .keep])], []⟩⟩, ⟨.r, ⟨[(2, bb)], [], []⟩⟩])) .nil .nil) .nil))) .nil) .nil))) .nil) .nil)) (mm (nn (mm (.mk [] (some (⟨[(1, .one (.ptr 32 0)), (29, kk), (30, kk), (31, ii)], [(32, 32, [.keep, .keep, .keep, .keep, .keep, .keep])], []⟩, [⟨.x 4, ⟨[], [], []⟩⟩, ⟨.r, ⟨[(2, bb)], [], []⟩⟩])) (nn (nn (mm (mm (nn (mm (.mk [.fv [(8, .pair (.str) (.pair (.int .i64) (.pair (.int .i64) tT2)))]] none .nil .nil) .nil)) .nil) .nil))) .nil) .nil)) .nil))))
    Tryz.func67 rfl nmr67 rfl rfl rfl rfl types_ok ⟨⟨ok_network_names, ok_slices_Index_string_string, ok_slices_IndexFunc_api_Station_api_Station, ok_network_twice_1, trivial⟩, trivial⟩ mx (fun x => by kernel_rfl)

noncomputable def network_known_1 (k : Int) (v : List (List UInt8) × List yT1 × List (List UInt8 × Int × Int) × List (List UInt8 × Int × Int × Int × Int) × Int × Int) : Option (Bool) :=
  bif decide (k < 0) then (
   some true)
  else (
   some (decide ((v.1.length : Int) ≤ k)))

noncomputable def fn_network_known_1 : Fun :=
  { f := 100, np := 2, nr := 1,
    ji := ⟨[(0, ii), (1, .one (.sel (.pair (.sl (.str)) (.pair (.sl (.pair (.str) (.pair (.int .i64) (.pair (.int .i64) (.pair (.int .i64) (.pair (.int .i64) (.pair (.int .i64) (.sl (.pair (.int .i64) tT2))))))))) (.pair (.sl (.pair (.str) tT2)) (.pair (.sl (.pair (.str) (.pair (.int .i64) (.pair (.int .i64) tT2)))) tT2))))))], [], []⟩,
    jo := ⟨[(0, bb)], [], []⟩,
    tw := fun x => network_known_1 x.1 x.2 }
noncomputable def cx_network_known_1 : Cx := { Γ := types, ow := [], fs := [], N := 13 }
theorem ok_network_known_1 : FunOk Tryz.prog fn_network_known_1 :=
  FunOk.intro (C := cx_network_known_1) (p := .nil)
    Tryz.func100 rfl nmr100 rfl rfl rfl rfl types_ok ⟨trivial, trivial⟩ mx (fun x => by kernel_rfl)

noncomputable def slices_IndexFunc_int_int_L0 (s : List Int) (f : Int × Unit → Option Bool) (v : Int) : Option (Int ⊕ (Unit ⊕ Int)) :=
  bif decide (v < (s.length : Int)) then (
   gd (inB v s.length) <|
   (f (s.getD v.toNat 0, ())).bind fun r =>
   bif r then (
    some (.inr (.inr v)))
   else (
    some (.inl (wi64 (v + 1)))))
  else (
   some (.inr (.inl ())))

noncomputable def slices_IndexFunc_int_int (s : List Int) (f : Int × Unit → Option Bool) : Option (Int) :=
  (iter (fun x => slices_IndexFunc_int_int_L0 s f x) 0).bind fun s2 =>
  s2.elim (fun s3 =>
   some (-1))
  (fun s4 =>
   some s4)

noncomputable def fn_slices_IndexFunc_int_int : Fun :=
  { f := 122, np := 2, nr := 1,
    ji := ⟨[(0, .one (.data (.sl (.int .i64)))), (1, .one (.fn [.int .i64] (.bool)))], [], []⟩,
    jo := ⟨[(0, ii)], [], []⟩,
    tw := fun x => slices_IndexFunc_int_int x.1 x.2 }
noncomputable def cx_slices_IndexFunc_int_int : Cx := { Γ := types, ow := [], fs := [], N := 19 }
theorem ok_slices_IndexFunc_int_int : FunOk Tryz.prog fn_slices_IndexFunc_int_int :=
  FunOk.intro (C := cx_slices_IndexFunc_int_int) (p := (nn (mm (nn (mm (.mk [] (some (⟨[(0, kk), (1, kk), (7, kk), (8, ii)], [], []⟩, [⟨.x 0, ⟨[], [], []⟩⟩, ⟨.r, ⟨[(4, ii)], [], []⟩⟩])) .nil .nil) .nil)) .nil)))
    Tryz.func122 rfl nmr122 rfl rfl rfl rfl types_ok ⟨trivial, trivial⟩ mx (fun x => by kernel_rfl)

noncomputable def slices_ContainsFunc_int_int (s : List Int) (f : Int × Unit → Option Bool) : Option (Bool) :=
  (slices_IndexFunc_int_int s f).bind fun r =>
  some (decide (0 ≤ r))

noncomputable def fn_slices_ContainsFunc_int_int : Fun :=
  { f := 99, np := 2, nr := 1,
    ji := ⟨[(0, .one (.data (.sl (.int .i64)))), (1, .one (.fn [.int .i64] (.bool)))], [], []⟩,
    jo := ⟨[(0, bb)], [], []⟩,
    tw := fun x => slices_ContainsFunc_int_int x.1 x.2 }
noncomputable def cx_slices_ContainsFunc_int_int : Cx := { Γ := types, ow := [], fs := [fn_slices_IndexFunc_int_int], N := 9 }
theorem ok_slices_ContainsFunc_int_int : FunOk Tryz.prog fn_slices_ContainsFunc_int_int :=
  FunOk.intro (C := cx_slices_ContainsFunc_int_int) (p := .nil)
    Tryz.func99 rfl nmr99 rfl rfl rfl rfl types_ok ⟨⟨ok_slices_IndexFunc_int_int, trivial⟩, trivial⟩ mx (fun x => by kernel_rfl)

noncomputable def network_known_L0 (n : List (List UInt8) × List yT1 × List (List UInt8 × Int × Int) × List (List UInt8 × Int × Int × Int × Int) × Int × Int) (v : Int) (all : List Int) : Option ((Int × List Int) ⊕ (List Int)) :=
  bif decide (v < (n.2.1.length : Int)) then (
   gd (inB v n.2.1.length) <|
   gd (fits (all.length + 2) 8) <|
   some (.inl (wi64 (v + 1), all ++ [((n.2.1.getD v.toNat ([], (0, (0, (0, (0, (0, []))))))).2).1, (((n.2.1.getD v.toNat ([], (0, (0, (0, (0, (0, []))))))).2).2).1])))
  else (
   some (.inr all))

noncomputable def network_known_L1 (n : List (List UInt8) × List yT1 × List (List UInt8 × Int × Int) × List (List UInt8 × Int × Int × Int × Int) × Int × Int) (v2 : Int) (all2 : List Int) : Option ((Int × List Int) ⊕ (List Int)) :=
  bif decide (v2 < (n.2.2.1.length : Int)) then (
   gd (inB v2 n.2.2.1.length) <|
   gd (fits (all2.length + 1) 8) <|
   some (.inl (wi64 (v2 + 1), all2 ++ [((n.2.2.1.getD v2.toNat ([], (0, 0))).2).1])))
  else (
   some (.inr all2))

noncomputable def network_known_L2 (n : List (List UInt8) × List yT1 × List (List UInt8 × Int × Int) × List (List UInt8 × Int × Int × Int × Int) × Int × Int) (v3 : Int) (all3 : List Int) : Option ((Int × List Int) ⊕ (List Int)) :=
  bif decide (v3 < (n.2.2.2.1.length : Int)) then (
   gd (inB v3 n.2.2.2.1.length) <|
   gd (fits (all3.length + 1) 8) <|
   some (.inl (wi64 (v3 + 1), all3 ++ [((n.2.2.2.1.getD v3.toNat ([], (0, (0, (0, 0))))).2).1])))
  else (
   some (.inr all3))

noncomputable def network_known (n : List (List UInt8) × List yT1 × List (List UInt8 × Int × Int) × List (List UInt8 × Int × Int × Int × Int) × Int × Int) : Option (Bool) :=
  (iter (fun x => network_known_L0 n x.1 x.2) (0, [])).bind fun s =>
  (iter (fun x2 => network_known_L1 n x2.1 x2.2) (0, s)).bind fun s2 =>
  (iter (fun x3 => network_known_L2 n x3.1 x3.2) (0, s2)).bind fun s3 =>
  (slices_ContainsFunc_int_int s3 (fun h => (network_known_1 h.1 (n.1, (n.2.1, (n.2.2.1, (n.2.2.2.1, (n.2.2.2.2.1, n.2.2.2.2.2)))))).bind fun y => some y)).bind fun r =>
  some (!r)

noncomputable def fn_network_known : Fun :=
  { f := 68, np := 1, nr := 1,
    ji := ⟨[(0, .one (.data (.pair (.sl (.str)) (.pair (.sl (.pair (.str) (.pair (.int .i64) (.pair (.int .i64) (.pair (.int .i64) (.pair (.int .i64) (.pair (.int .i64) (.sl (.pair (.int .i64) tT2))))))))) (.pair (.sl (.pair (.str) tT2)) (.pair (.sl (.pair (.str) (.pair (.int .i64) (.pair (.int .i64) tT2)))) tT2))))))], [], []⟩,
    jo := ⟨[(0, bb)], [], []⟩,
    tw := fun x => network_known x }
noncomputable def cx_network_known : Cx := { Γ := types, ow := [], fs := [fn_slices_ContainsFunc_int_int, fn_network_known_1], N := 55 }
theorem ok_network_known : FunOk Tryz.prog fn_network_known :=
  FunOk.intro (C := cx_network_known) (p := (nn (nn (mm (nn (mm (.mk [] (some (⟨[(1, .one (.ptr 32 0)), (3, .one (.own 75)), (11, kk), (12, kk), (13, ii)], [(32, 32, [.keep, .keep, .keep, .keep, .keep, .keep])], [(75, .arr 3 (.int .i64))]⟩, [⟨.x 0, ⟨[(1, .one (.ptr 32 0)), (3, .one (.own 75))], [(32, 32, [.keep, .keep, .keep, .keep, .keep, .keep])], [(75, .arr 3 (.int .i64))]⟩⟩])) .nil .nil) .nil)) (mm (nn (mm (.mk [] (some (⟨[(1, .one (.ptr 32 0)), (3, .one (.own 75)), (26, kk), (27, kk), (28, ii)], [(32, 32, [.keep, .keep, .keep, .keep, .keep, .keep])], [(75, .arr 3 (.int .i64))]⟩, [⟨.x 2, ⟨[(1, .one (.ptr 32 0)), (3, .one (.own 75))], [(32, 32, [.keep, .keep, .keep, .keep, .keep, .keep])], [(75, .arr 3 (.int .i64))]⟩⟩])) .nil .nil) .nil)) (mm (nn (mm (.mk [] (some (⟨[(1, .one (.ptr 32 0)), (3, .one (.own 75)), (39, kk), (40, kk), (41, ii)], [(32, 32, [.keep, .keep, .keep, .keep, .keep, .keep])], [(75, .arr 3 (.int .i64))]⟩, [⟨.x 4, ⟨[(1, .one (.ptr 32 0)), (3, .one (.own 75))], [(32, 32, [.keep, .keep, .keep, .keep, .keep, .keep])], [(75, .arr 3 (.int .i64))]⟩⟩])) .nil .nil) .nil)) (mm (.mk [.fv [(1, .pair (.sl (.str)) (.pair (.sl (.pair (.str) (.pair (.int .i64) (.pair (.int .i64) (.pair (.int .i64) (.pair (.int .i64) (.pair (.int .i64) (.sl (.pair (.int .i64) tT2))))))))) (.pair (.sl (.pair (.str) tT2)) (.pair (.sl (.pair (.str) (.pair (.int .i64) (.pair (.int .i64) tT2)))) tT2))))]] none .nil .nil) .nil)))))))
    Tryz.func68 rfl nmr68 rfl rfl rfl rfl types_ok ⟨⟨ok_slices_ContainsFunc_int_int, ok_network_known_1, trivial⟩, trivial⟩ mx (fun x => by kernel_rfl)

noncomputable def network_in (n : Int) (least : Int) (most : Int) : Option (Bool) :=
  bif decide (least ≤ n) then (
   some (decide (n ≤ most)))
  else (
   some false)

noncomputable def fn_network_in : Fun :=
  { f := 105, np := 3, nr := 1,
    ji := ⟨[(0, ii), (1, ii), (2, ii)], [], []⟩,
    jo := ⟨[(0, bb)], [], []⟩,
    tw := fun x => network_in x.1 x.2.1 x.2.2 }
noncomputable def cx_network_in : Cx := { Γ := types, ow := [], fs := [], N := 15 }
theorem ok_network_in : FunOk Tryz.prog fn_network_in :=
  FunOk.intro (C := cx_network_in) (p := .nil)
    Tryz.func105 rfl nmr105 rfl rfl rfl rfl types_ok ⟨trivial, trivial⟩ mx (fun x => by kernel_rfl)

noncomputable def network_pipe_L0 (s : List UInt8 × Int × Int × Int × Int × Int × List (Int × Int × Int)) (v : Int) : Option (Int ⊕ (Unit ⊕ Bool)) :=
  bif decide (v < (s.2.2.2.2.2.2.length : Int)) then (
   gd (inB v s.2.2.2.2.2.2.length) <|
   Option.bind (α := Bool) (
     (network_in (((s.2.2.2.2.2.2.getD v.toNat (0, (0, 0))).2).1) (-500) 5000).bind fun r4 =>
     bif !r4 then (
      some true)
     else (
      (network_in (((s.2.2.2.2.2.2.getD v.toNat (0, (0, 0))).2).2) 0 100000000).bind fun r5 =>
      bif !r5 then (
       some true)
      else (
       bif decide (0 < v) then (
        gd (inB (wi64 (v - 1)) s.2.2.2.2.2.2.length) <|
        some (decide ((s.2.2.2.2.2.2.getD v.toNat (0, (0, 0))).1 ≤ (s.2.2.2.2.2.2.getD (wi64 (v - 1)).toNat (0, (0, 0))).1)))
       else (
        some false)))) fun s3 =>
   bif s3 then (
    some (.inr (.inr false)))
   else (
    some (.inl (wi64 (v + 1)))))
  else (
   some (.inr (.inl ())))

noncomputable def network_pipe (s : List UInt8 × Int × Int × Int × Int × Int × List (Int × Int × Int)) : Option (Bool) :=
  Option.bind (α := Bool) (
    bif decide (s.2.1 = s.2.2.1) then (
     some true)
    else (
     (network_in s.2.2.2.1 1 1000000).bind fun r =>
     bif !r then (
      some true)
     else (
      (network_in s.2.2.2.2.1 0 1000).bind fun r2 =>
      bif !r2 then (
       some true)
      else (
       (network_in s.2.2.2.2.2.1 0 100000).bind fun r3 =>
       some (!r3))))) fun s2 =>
  bif s2 then (
   some false)
  else (
   (iter (fun x => network_pipe_L0 s x) 0).bind fun s4 =>
   s4.elim (fun s5 =>
    gd (inB 0 s.2.2.2.2.2.2.length) <|
    bif decide ((s.2.2.2.2.2.2.getD 0 (0, (0, 0))).1 = 0) then (
     gd (inB (wi64 ((s.2.2.2.2.2.2.length : Int) - 1)) s.2.2.2.2.2.2.length) <|
     some (decide ((s.2.2.2.2.2.2.getD (wi64 ((s.2.2.2.2.2.2.length : Int) - 1)).toNat (0, (0, 0))).1 = s.2.2.2.1)))
    else (
     some false))
   (fun s6 =>
    some s6))

noncomputable def fn_network_pipe : Fun :=
  { f := 102, np := 1, nr := 1,
    ji := ⟨[(0, .one (.data (.pair (.str) (.pair (.int .i64) (.pair (.int .i64) (.pair (.int .i64) (.pair (.int .i64) (.pair (.int .i64) (.sl (.pair (.int .i64) tT2))))))))))], [], []⟩,
    jo := ⟨[(0, bb)], [], []⟩,
    tw := fun x => network_pipe x }
noncomputable def cx_network_pipe : Cx := { Γ := types, ow := [], fs := [fn_network_in], N := 83 }
theorem ok_network_pipe : FunOk Tryz.prog fn_network_pipe :=
  FunOk.intro (C := cx_network_pipe) (p := (nn (mm (mm (.mk [.join [⟨.n, ⟨[(1, .one (.ptr 32 0)), (27, bb)], [(32, 72, [.keep, .keep, .keep, .keep, .keep, .keep, .keep])], []⟩⟩]] none .nil .nil) .nil) (mm (nn (mm (.mk [] (some (⟨[(1, .one (.ptr 32 0)), (29, kk), (30, kk), (31, ii)], [(32, 72, [.keep, .keep, .keep, .keep, .keep, .keep, .keep])], []⟩, [⟨.x 0, ⟨[(1, .one (.ptr 32 0))], [(32, 72, [.keep, .keep, .keep, .keep, .keep, .keep, .keep])], []⟩⟩, ⟨.r, ⟨[(2, bb)], [], []⟩⟩])) (nn (nn (mm (mm (nn (mm (.mk [.join [⟨.n, ⟨[(1, .one (.ptr 32 0)), (29, kk), (30, kk), (31, kk), (61, bb)], [(32, 72, [.keep, .keep, .keep, .keep, .keep, .keep, .keep])], []⟩⟩]] none .nil .nil) .nil)) .nil) .nil))) .nil) .nil)) .nil))))
    Tryz.func102 rfl nmr102 rfl rfl rfl rfl types_ok ⟨⟨ok_network_in, trivial⟩, trivial⟩ mx (fun x => by kernel_rfl)

noncomputable def network_proper_1 (s : List UInt8 × Int × Int × Int × Int × Int × List (Int × Int × Int)) : Option (Bool) :=
  (network_pipe (s.1, (s.2.1, (s.2.2.1, (s.2.2.2.1, (s.2.2.2.2.1, (s.2.2.2.2.2.1, s.2.2.2.2.2.2))))))).bind fun r =>
  some (!r)

noncomputable def fn_network_proper_1 : Fun :=
  { f := 101, np := 1, nr := 1,
    ji := ⟨[(0, .one (.data (.pair (.str) (.pair (.int .i64) (.pair (.int .i64) (.pair (.int .i64) (.pair (.int .i64) (.pair (.int .i64) (.sl (.pair (.int .i64) tT2))))))))))], [], []⟩,
    jo := ⟨[(0, bb)], [], []⟩,
    tw := fun x => network_proper_1 x }
noncomputable def cx_network_proper_1 : Cx := { Γ := types, ow := [], fs := [fn_network_pipe], N := 6 }
theorem ok_network_proper_1 : FunOk Tryz.prog fn_network_proper_1 :=
  FunOk.intro (C := cx_network_proper_1) (p := .nil)
    Tryz.func101 rfl nmr101 rfl rfl rfl rfl types_ok ⟨⟨ok_network_pipe, trivial⟩, trivial⟩ mx (fun x => by kernel_rfl)

noncomputable def slices_IndexFunc_api_Port_api_Port_L0 (s : List (List UInt8 × Int × Int)) (f : (List UInt8 × Int × Int) × Unit → Option Bool) (v : Int) : Option (Int ⊕ (Unit ⊕ Int)) :=
  bif decide (v < (s.length : Int)) then (
   gd (inB v s.length) <|
   (f (s.getD v.toNat ([], (0, 0)), ())).bind fun r =>
   bif r then (
    some (.inr (.inr v)))
   else (
    some (.inl (wi64 (v + 1)))))
  else (
   some (.inr (.inl ())))

noncomputable def slices_IndexFunc_api_Port_api_Port (s : List (List UInt8 × Int × Int)) (f : (List UInt8 × Int × Int) × Unit → Option Bool) : Option (Int) :=
  (iter (fun x => slices_IndexFunc_api_Port_api_Port_L0 s f x) 0).bind fun s2 =>
  s2.elim (fun s3 =>
   some (-1))
  (fun s4 =>
   some s4)

noncomputable def fn_slices_IndexFunc_api_Port_api_Port : Fun :=
  { f := 78, np := 2, nr := 1,
    ji := ⟨[(0, .one (.data (.sl (.pair (.str) tT2)))), (1, .one (.fn [.pair (.str) tT2] (.bool)))], [], []⟩,
    jo := ⟨[(0, ii)], [], []⟩,
    tw := fun x => slices_IndexFunc_api_Port_api_Port x.1 x.2 }
noncomputable def cx_slices_IndexFunc_api_Port_api_Port : Cx := { Γ := types, ow := [], fs := [], N := 19 }
theorem ok_slices_IndexFunc_api_Port_api_Port : FunOk Tryz.prog fn_slices_IndexFunc_api_Port_api_Port :=
  FunOk.intro (C := cx_slices_IndexFunc_api_Port_api_Port) (p := (nn (mm (nn (mm (.mk [] (some (⟨[(0, kk), (1, kk), (7, kk), (8, ii)], [], []⟩, [⟨.x 0, ⟨[], [], []⟩⟩, ⟨.r, ⟨[(4, ii)], [], []⟩⟩])) .nil .nil) .nil)) .nil)))
    Tryz.func78 rfl nmr78 rfl rfl rfl rfl types_ok ⟨trivial, trivial⟩ mx (fun x => by kernel_rfl)

noncomputable def slices_ContainsFunc_api_Port_api_Port (s : List (List UInt8 × Int × Int)) (f : (List UInt8 × Int × Int) × Unit → Option Bool) : Option (Bool) :=
  (slices_IndexFunc_api_Port_api_Port s f).bind fun r =>
  some (decide (0 ≤ r))

noncomputable def fn_slices_ContainsFunc_api_Port_api_Port : Fun :=
  { f := 103, np := 2, nr := 1,
    ji := ⟨[(0, .one (.data (.sl (.pair (.str) tT2)))), (1, .one (.fn [.pair (.str) tT2] (.bool)))], [], []⟩,
    jo := ⟨[(0, bb)], [], []⟩,
    tw := fun x => slices_ContainsFunc_api_Port_api_Port x.1 x.2 }
noncomputable def cx_slices_ContainsFunc_api_Port_api_Port : Cx := { Γ := types, ow := [], fs := [fn_slices_IndexFunc_api_Port_api_Port], N := 9 }
theorem ok_slices_ContainsFunc_api_Port_api_Port : FunOk Tryz.prog fn_slices_ContainsFunc_api_Port_api_Port :=
  FunOk.intro (C := cx_slices_ContainsFunc_api_Port_api_Port) (p := .nil)
    Tryz.func103 rfl nmr103 rfl rfl rfl rfl types_ok ⟨⟨ok_slices_IndexFunc_api_Port_api_Port, trivial⟩, trivial⟩ mx (fun x => by kernel_rfl)

noncomputable def network_proper_2 (p : List UInt8 × Int × Int) : Option (Bool) :=
  (network_in p.2.2 0 100000000).bind fun r =>
  some (!r)

noncomputable def fn_network_proper_2 : Fun :=
  { f := 104, np := 1, nr := 1,
    ji := ⟨[(0, .one (.data (.pair (.str) tT2)))], [], []⟩,
    jo := ⟨[(0, bb)], [], []⟩,
    tw := fun x => network_proper_2 x }
noncomputable def cx_network_proper_2 : Cx := { Γ := types, ow := [], fs := [fn_network_in], N := 7 }
theorem ok_network_proper_2 : FunOk Tryz.prog fn_network_proper_2 :=
  FunOk.intro (C := cx_network_proper_2) (p := .nil)
    Tryz.func104 rfl nmr104 rfl rfl rfl rfl types_ok ⟨⟨ok_network_in, trivial⟩, trivial⟩ mx (fun x => by kernel_rfl)

noncomputable def slices_ContainsFunc_api_Station_api_Station (s : List (List UInt8 × Int × Int × Int × Int)) (f : (List UInt8 × Int × Int × Int × Int) × Unit → Option Bool) : Option (Bool) :=
  (slices_IndexFunc_api_Station_api_Station s f).bind fun r =>
  some (decide (0 ≤ r))

noncomputable def fn_slices_ContainsFunc_api_Station_api_Station : Fun :=
  { f := 106, np := 2, nr := 1,
    ji := ⟨[(0, .one (.data (.sl (.pair (.str) (.pair (.int .i64) (.pair (.int .i64) tT2)))))), (1, .one (.fn [.pair (.str) (.pair (.int .i64) (.pair (.int .i64) tT2))] (.bool)))], [], []⟩,
    jo := ⟨[(0, bb)], [], []⟩,
    tw := fun x => slices_ContainsFunc_api_Station_api_Station x.1 x.2 }
noncomputable def cx_slices_ContainsFunc_api_Station_api_Station : Cx := { Γ := types, ow := [], fs := [fn_slices_IndexFunc_api_Station_api_Station], N := 9 }
theorem ok_slices_ContainsFunc_api_Station_api_Station : FunOk Tryz.prog fn_slices_ContainsFunc_api_Station_api_Station :=
  FunOk.intro (C := cx_slices_ContainsFunc_api_Station_api_Station) (p := .nil)
    Tryz.func106 rfl nmr106 rfl rfl rfl rfl types_ok ⟨⟨ok_slices_IndexFunc_api_Station_api_Station, trivial⟩, trivial⟩ mx (fun x => by kernel_rfl)

noncomputable def network_proper_3 (s : List UInt8 × Int × Int × Int × Int) : Option (Bool) :=
  (network_in s.2.2.1 0 100000000).bind fun r =>
  bif !r then (
   some true)
  else (
   (network_in s.2.2.2.1 0 100000).bind fun r2 =>
   bif !r2 then (
    some true)
   else (
    (network_in s.2.2.2.2 0 100000000).bind fun r3 =>
    some (!r3)))

noncomputable def fn_network_proper_3 : Fun :=
  { f := 107, np := 1, nr := 1,
    ji := ⟨[(0, .one (.data (.pair (.str) (.pair (.int .i64) (.pair (.int .i64) tT2)))))], [], []⟩,
    jo := ⟨[(0, bb)], [], []⟩,
    tw := fun x => network_proper_3 x }
noncomputable def cx_network_proper_3 : Cx := { Γ := types, ow := [], fs := [fn_network_in], N := 19 }
theorem ok_network_proper_3 : FunOk Tryz.prog fn_network_proper_3 :=
  FunOk.intro (C := cx_network_proper_3) (p := .nil)
    Tryz.func107 rfl nmr107 rfl rfl rfl rfl types_ok ⟨⟨ok_network_in, trivial⟩, trivial⟩ mx (fun x => by kernel_rfl)

noncomputable def network_proper (n : List (List UInt8) × List yT1 × List (List UInt8 × Int × Int) × List (List UInt8 × Int × Int × Int × Int) × Int × Int) : Option (Bool) :=
  (slices_ContainsFunc_api_Segment_api_Segment n.2.1 (fun h => (network_proper_1 h.1).bind fun y => some y)).bind fun r =>
  bif r then (
   some false)
  else (
   (slices_ContainsFunc_api_Port_api_Port n.2.2.1 (fun h2 => (network_proper_2 h2.1).bind fun y => some y)).bind fun r2 =>
   bif r2 then (
    some false)
   else (
    (slices_ContainsFunc_api_Station_api_Station n.2.2.2.1 (fun h3 => (network_proper_3 h3.1).bind fun y => some y)).bind fun r3 =>
    bif r3 then (
     some false)
    else (
     (network_in n.2.2.2.2.1 (-100000) 100000000).bind fun r4 =>
     bif r4 then (
      (network_in n.2.2.2.2.2 0 100).bind fun r5 =>
      some r5)
     else (
      some false))))

noncomputable def fn_network_proper : Fun :=
  { f := 69, np := 1, nr := 1,
    ji := ⟨[(0, .one (.data (.pair (.sl (.str)) (.pair (.sl (.pair (.str) (.pair (.int .i64) (.pair (.int .i64) (.pair (.int .i64) (.pair (.int .i64) (.pair (.int .i64) (.sl (.pair (.int .i64) tT2))))))))) (.pair (.sl (.pair (.str) tT2)) (.pair (.sl (.pair (.str) (.pair (.int .i64) (.pair (.int .i64) tT2)))) tT2))))))], [], []⟩,
    jo := ⟨[(0, bb)], [], []⟩,
    tw := fun x => network_proper x }
noncomputable def cx_network_proper : Cx := { Γ := types, ow := [], fs := [fn_slices_ContainsFunc_api_Segment_api_Segment, fn_network_proper_1, fn_slices_ContainsFunc_api_Port_api_Port, fn_network_proper_2, fn_slices_ContainsFunc_api_Station_api_Station, fn_network_proper_3, fn_network_in], N := 20 }
theorem ok_network_proper : FunOk Tryz.prog fn_network_proper :=
  FunOk.intro (C := cx_network_proper) (p := .nil)
    Tryz.func69 rfl nmr69 rfl rfl rfl rfl types_ok ⟨⟨ok_slices_ContainsFunc_api_Segment_api_Segment, ok_network_proper_1, ok_slices_ContainsFunc_api_Port_api_Port, ok_network_proper_2, ok_slices_ContainsFunc_api_Station_api_Station, ok_network_proper_3, ok_network_in, trivial⟩, trivial⟩ mx (fun x => by kernel_rfl)

noncomputable def network_Check_L0 (r2 : List (List UInt8) × List (List UInt8) × List (List UInt8) × List (List UInt8)) (v : Int) : Option (Int ⊕ (Unit ⊕ Int)) :=
  bif decide (v < 4) then (
   gd (inB v 4) <|
   (slices_ContainsFunc_string_string ([r2.1, r2.2.1, r2.2.2.1, r2.2.2.2].getD v.toNat []) (fun h => (network_Check_1 h.1).bind fun y => some y)).bind fun r3 =>
   bif r3 then (
    some (.inr (.inr 3)))
   else (
    some (.inl (wi64 (v + 1)))))
  else (
   some (.inr (.inl ())))

noncomputable def network_Check (n : List (List UInt8) × List yT1 × List (List UInt8 × Int × Int) × List (List UInt8 × Int × Int × Int × Int) × Int × Int) : Option (Int) :=
  (network_limits (n.1, (n.2.1, (n.2.2.1, (n.2.2.2.1, (n.2.2.2.2.1, n.2.2.2.2.2)))))).bind fun r =>
  bif !r then (
   some 4)
  else (
   (network_names (n.1, (n.2.1, (n.2.2.1, (n.2.2.2.1, (n.2.2.2.2.1, n.2.2.2.2.2)))))).bind fun r2 =>
   (iter (fun x => network_Check_L0 r2 x) 0).bind fun s =>
   s.elim (fun s2 =>
    (network_twice (n.1, (n.2.1, (n.2.2.1, (n.2.2.2.1, (n.2.2.2.2.1, n.2.2.2.2.2)))))).bind fun r4 =>
    bif r4 then (
     some 7)
    else (
     (network_known (n.1, (n.2.1, (n.2.2.1, (n.2.2.2.1, (n.2.2.2.2.1, n.2.2.2.2.2)))))).bind fun r5 =>
     bif !r5 then (
      some 8)
     else (
      (network_proper (n.1, (n.2.1, (n.2.2.1, (n.2.2.2.1, (n.2.2.2.2.1, n.2.2.2.2.2)))))).bind fun r6 =>
      bif !r6 then (
       some 9)
      else (
       some 0))))
   (fun s3 =>
    some s3))

noncomputable def fn_network_Check : Fun :=
  { f := 33, np := 1, nr := 1,
    ji := ⟨[(0, .one (.data (.pair (.sl (.str)) (.pair (.sl (.pair (.str) (.pair (.int .i64) (.pair (.int .i64) (.pair (.int .i64) (.pair (.int .i64) (.pair (.int .i64) (.sl (.pair (.int .i64) tT2))))))))) (.pair (.sl (.pair (.str) tT2)) (.pair (.sl (.pair (.str) (.pair (.int .i64) (.pair (.int .i64) tT2)))) tT2))))))], [], []⟩,
    jo := ⟨[(0, ii)], [], []⟩,
    tw := fun x => network_Check x }
noncomputable def cx_network_Check : Cx := { Γ := types, ow := [], fs := [fn_network_limits, fn_network_names, fn_slices_ContainsFunc_string_string, fn_network_Check_1, fn_network_twice, fn_network_known, fn_network_proper], N := 27 }
theorem ok_network_Check : FunOk Tryz.prog fn_network_Check :=
  FunOk.intro (C := cx_network_Check) (p := (nn (nn (mm (nn (mm (.mk [] (some (⟨[(1, .one (.ptr 32 0)), (9, kk), (10, ii)], [(32, 32, [.keep, .keep, .keep, .keep, .keep, .keep])], []⟩, [⟨.x 0, ⟨[(1, .one (.ptr 32 0))], [(32, 32, [.keep, .keep, .keep, .keep, .keep, .keep])], []⟩⟩, ⟨.r, ⟨[(2, ii)], [], []⟩⟩])) .nil .nil) .nil)) .nil))))
    Tryz.func33 rfl nmr33 rfl rfl rfl rfl types_ok ⟨⟨ok_network_limits, ok_network_names, ok_slices_ContainsFunc_string_string, ok_network_Check_1, ok_network_twice, ok_network_known, ok_network_proper, trivial⟩, trivial⟩ mx (fun x => by kernel_rfl)

noncomputable def product_numbers (p : List UInt8 × Int × Int × Int × Int) : Option (Int × Int × Int × Int) :=
  some (p.2.1, (p.2.2.1, (p.2.2.2.1, p.2.2.2.2)))

noncomputable def fn_product_numbers : Fun :=
  { f := 108, np := 1, nr := 1,
    ji := ⟨[(0, .one (.data (.pair (.str) (.pair (.int .i64) (.pair (.int .i64) tT2)))))], [], []⟩,
    jo := ⟨[(0, .one (.data (.pair (.int .i64) (.pair (.int .i64) tT2))))], [], []⟩,
    tw := fun x => product_numbers x }
noncomputable def cx_product_numbers : Cx := { Γ := types, ow := [], fs := [], N := 12 }
theorem ok_product_numbers : FunOk Tryz.prog fn_product_numbers :=
  FunOk.intro (C := cx_product_numbers) (p := .nil)
    Tryz.func108 rfl nmr108 rfl rfl rfl rfl types_ok ⟨trivial, trivial⟩ mx (fun x => by kernel_rfl)

noncomputable def product_Valid_L0 (r : Int × Int × Int × Int) (v : Int) : Option (Int ⊕ (Unit ⊕ Bool)) :=
  bif decide (v < 4) then (
   gd (inB v 4) <|
   Option.bind (α := Bool) (
     gd (inB v 4) <|
     bif decide ([r.1, r.2.1, r.2.2.1, r.2.2.2].getD v.toNat 0 < ([((400 : Int), (1200 : Int)), ((0 : Int), (2000 : Int)), ((0 : Int), (5000 : Int)), ((1 : Int), (2000 : Int))].getD v.toNat (0, 0)).1) then (
      some true)
     else (
      gd (inB v 4) <|
      some (decide (([((400 : Int), (1200 : Int)), ((0 : Int), (2000 : Int)), ((0 : Int), (5000 : Int)), ((1 : Int), (2000 : Int))].getD v.toNat (0, 0)).2 < [r.1, r.2.1, r.2.2.1, r.2.2.2].getD v.toNat 0)))) fun s =>
   bif s then (
    some (.inr (.inr false)))
   else (
    some (.inl (wi64 (v + 1)))))
  else (
   some (.inr (.inl ())))

noncomputable def product_Valid (p : List UInt8 × Int × Int × Int × Int) : Option (Bool) :=
  (product_numbers (p.1, (p.2.1, (p.2.2.1, (p.2.2.2.1, p.2.2.2.2))))).bind fun r =>
  (iter (fun x => product_Valid_L0 r x) 0).bind fun s2 =>
  s2.elim (fun s3 =>
   (lines_Name p.1).bind fun r2 =>
   some r2)
  (fun s4 =>
   some s4)

noncomputable def fn_product_Valid : Fun :=
  { f := 70, np := 1, nr := 1,
    ji := ⟨[(0, .one (.data (.pair (.str) (.pair (.int .i64) (.pair (.int .i64) tT2)))))], [], []⟩,
    jo := ⟨[(0, bb)], [], []⟩,
    tw := fun x => product_Valid x }
noncomputable def cx_product_Valid : Cx := { Γ := types, ow := [], fs := [fn_product_numbers, fn_lines_Name], N := 31 }
theorem ok_product_Valid : FunOk Tryz.prog fn_product_Valid :=
  FunOk.intro (C := cx_product_Valid) (p := (nn (nn (mm (nn (mm (.mk [] (some (⟨[(1, .one (.ptr 32 0)), (3, .one (.ptr 64 0)), (8, kk), (9, ii)], [(32, 44, [.keep, .keep, .keep, .keep, .keep]), (64, 136, [.keep, .keep, .keep, .keep])], []⟩, [⟨.x 0, ⟨[(1, .one (.ptr 32 0))], [(32, 44, [.keep, .keep, .keep, .keep, .keep])], []⟩⟩, ⟨.r, ⟨[(2, bb)], [], []⟩⟩])) (nn (nn (mm (mm (nn (mm (.mk [.join [⟨.n, ⟨[(1, .one (.ptr 32 0)), (3, .one (.ptr 64 0)), (8, kk), (9, kk), (26, bb)], [(32, 44, [.keep, .keep, .keep, .keep, .keep]), (64, 136, [.keep, .keep, .keep, .keep])], []⟩⟩]] none .nil .nil) .nil)) .nil) .nil))) .nil) .nil)) .nil))))
    Tryz.func70 rfl nmr70 rfl rfl rfl rfl types_ok ⟨⟨ok_product_numbers, ok_lines_Name, trivial⟩, trivial⟩ mx (fun x => by kernel_rfl)

noncomputable def product_Find_1 (p : List UInt8 × Int × Int × Int × Int) (v : List UInt8) : Option (Bool) :=
  some (decide (p.1 = v))

noncomputable def fn_product_Find_1 : Fun :=
  { f := 77, np := 2, nr := 1,
    ji := ⟨[(0, .one (.data (.pair (.str) (.pair (.int .i64) (.pair (.int .i64) tT2))))), (1, .one (.sel (.str)))], [], []⟩,
    jo := ⟨[(0, bb)], [], []⟩,
    tw := fun x => product_Find_1 x.1 x.2 }
noncomputable def cx_product_Find_1 : Cx := { Γ := types, ow := [], fs := [], N := 8 }
theorem ok_product_Find_1 : FunOk Tryz.prog fn_product_Find_1 :=
  FunOk.intro (C := cx_product_Find_1) (p := .nil)
    Tryz.func77 rfl nmr77 rfl rfl rfl rfl types_ok ⟨trivial, trivial⟩ mx (fun x => by kernel_rfl)

noncomputable def slices_IndexFunc_api_Product_api_Product_L0 (s : List (List UInt8 × Int × Int × Int × Int)) (f : (List UInt8 × Int × Int × Int × Int) × Unit → Option Bool) (v : Int) : Option (Int ⊕ (Unit ⊕ Int)) :=
  bif decide (v < (s.length : Int)) then (
   gd (inB v s.length) <|
   (f (s.getD v.toNat ([], (0, (0, (0, 0)))), ())).bind fun r =>
   bif r then (
    some (.inr (.inr v)))
   else (
    some (.inl (wi64 (v + 1)))))
  else (
   some (.inr (.inl ())))

noncomputable def slices_IndexFunc_api_Product_api_Product (s : List (List UInt8 × Int × Int × Int × Int)) (f : (List UInt8 × Int × Int × Int × Int) × Unit → Option Bool) : Option (Int) :=
  (iter (fun x => slices_IndexFunc_api_Product_api_Product_L0 s f x) 0).bind fun s2 =>
  s2.elim (fun s3 =>
   some (-1))
  (fun s4 =>
   some s4)

noncomputable def fn_slices_IndexFunc_api_Product_api_Product : Fun :=
  { f := 76, np := 2, nr := 1,
    ji := ⟨[(0, .one (.data (.sl (.pair (.str) (.pair (.int .i64) (.pair (.int .i64) tT2)))))), (1, .one (.fn [.pair (.str) (.pair (.int .i64) (.pair (.int .i64) tT2))] (.bool)))], [], []⟩,
    jo := ⟨[(0, ii)], [], []⟩,
    tw := fun x => slices_IndexFunc_api_Product_api_Product x.1 x.2 }
noncomputable def cx_slices_IndexFunc_api_Product_api_Product : Cx := { Γ := types, ow := [], fs := [], N := 19 }
theorem ok_slices_IndexFunc_api_Product_api_Product : FunOk Tryz.prog fn_slices_IndexFunc_api_Product_api_Product :=
  FunOk.intro (C := cx_slices_IndexFunc_api_Product_api_Product) (p := (nn (mm (nn (mm (.mk [] (some (⟨[(0, kk), (1, kk), (7, kk), (8, ii)], [], []⟩, [⟨.x 0, ⟨[], [], []⟩⟩, ⟨.r, ⟨[(4, ii)], [], []⟩⟩])) .nil .nil) .nil)) .nil)))
    Tryz.func76 rfl nmr76 rfl rfl rfl rfl types_ok ⟨trivial, trivial⟩ mx (fun x => by kernel_rfl)

noncomputable def product_Find (l : List (List UInt8 × Int × Int × Int × Int)) (name : List UInt8) : Option (Int) :=
  (slices_IndexFunc_api_Product_api_Product l (fun h => (product_Find_1 h.1 name).bind fun y => some y)).bind fun r =>
  some r

noncomputable def fn_product_Find : Fun :=
  { f := 37, np := 2, nr := 1,
    ji := ⟨[(0, .one (.data (.sl (.pair (.str) (.pair (.int .i64) (.pair (.int .i64) tT2)))))), (1, ss)], [], []⟩,
    jo := ⟨[(0, ii)], [], []⟩,
    tw := fun x => product_Find x.1 x.2 }
noncomputable def cx_product_Find : Cx := { Γ := types, ow := [], fs := [fn_slices_IndexFunc_api_Product_api_Product, fn_product_Find_1], N := 8 }
theorem ok_product_Find : FunOk Tryz.prog fn_product_Find :=
  FunOk.intro (C := cx_product_Find) (p := (nn (mm (.mk [.fv [(3, .str)]] none .nil .nil) .nil)))
    Tryz.func37 rfl nmr37 rfl rfl rfl rfl types_ok ⟨⟨ok_slices_IndexFunc_api_Product_api_Product, ok_product_Find_1, trivial⟩, trivial⟩ mx (fun x => by kernel_rfl)

noncomputable def product_Check_L0 (l : List (List UInt8 × Int × Int × Int × Int)) (v : Int) : Option (Int ⊕ (Unit ⊕ Int)) :=
  bif decide (v < (l.length : Int)) then (
   gd (inB v l.length) <|
   (product_Valid ((l.getD v.toNat ([], (0, (0, (0, 0))))).1, (((l.getD v.toNat ([], (0, (0, (0, 0))))).2).1, ((((l.getD v.toNat ([], (0, (0, (0, 0))))).2).2).1, (((((l.getD v.toNat ([], (0, (0, (0, 0))))).2).2).2).1, ((((l.getD v.toNat ([], (0, (0, (0, 0))))).2).2).2).2))))).bind fun r =>
   bif !r then (
    some (.inr (.inr 9)))
   else (
    some (.inl (wi64 (v + 1)))))
  else (
   some (.inr (.inl ())))

noncomputable def product_Check_L1 (l : List (List UInt8 × Int × Int × Int × Int)) (v2 : Int) : Option (Int ⊕ (Unit ⊕ Int)) :=
  bif decide (v2 < (l.length : Int)) then (
   gd (inB v2 l.length) <|
   (product_Find l ((l.getD v2.toNat ([], (0, (0, (0, 0))))).1)).bind fun r2 =>
   bif decide (r2 < v2) then (
    some (.inr (.inr 7)))
   else (
    some (.inl (wi64 (v2 + 1)))))
  else (
   some (.inr (.inl ())))

noncomputable def product_Check (l : List (List UInt8 × Int × Int × Int × Int)) : Option (Int) :=
  bif decide (16 < (l.length : Int)) then (
   some 4)
  else (
   (iter (fun x => product_Check_L0 l x) 0).bind fun s =>
   s.elim (fun s2 =>
    (iter (fun x2 => product_Check_L1 l x2) 0).bind fun s4 =>
    s4.elim (fun s5 =>
     some 0)
    (fun s6 =>
     some s6))
   (fun s3 =>
    some s3))

noncomputable def fn_product_Check : Fun :=
  { f := 34, np := 1, nr := 1,
    ji := ⟨[(0, .one (.data (.sl (.pair (.str) (.pair (.int .i64) (.pair (.int .i64) tT2))))))], [], []⟩,
    jo := ⟨[(0, ii)], [], []⟩,
    tw := fun x => product_Check x }
noncomputable def cx_product_Check : Cx := { Γ := types, ow := [], fs := [fn_product_Valid, fn_product_Find], N := 34 }
theorem ok_product_Check : FunOk Tryz.prog fn_product_Check :=
  FunOk.intro (C := cx_product_Check) (p := (nn (nn (mm (nn (mm (.mk [] (some (⟨[(0, kk), (10, kk), (11, kk), (12, ii)], [], []⟩, [⟨.x 0, ⟨[(0, kk)], [], []⟩⟩, ⟨.r, ⟨[(2, ii)], [], []⟩⟩])) .nil .nil) .nil)) (mm (nn (mm (.mk [] (some (⟨[(0, kk), (20, kk), (21, kk), (22, ii)], [], []⟩, [⟨.x 2, ⟨[], [], []⟩⟩, ⟨.r, ⟨[(2, ii)], [], []⟩⟩])) .nil .nil) .nil)) .nil)))))
    Tryz.func34 rfl nmr34 rfl rfl rfl rfl types_ok ⟨⟨ok_product_Valid, ok_product_Find, trivial⟩, trivial⟩ mx (fun x => by kernel_rfl)

noncomputable def slices_IndexFunc_api_Nomination_api_Nomination_L0 (s : List yT0) (f : yT0 × Unit → Option Bool) (v : Int) : Option (Int ⊕ (Unit ⊕ Int)) :=
  bif decide (v < (s.length : Int)) then (
   gd (inB v s.length) <|
   (f (s.getD v.toNat ([], ([], ([], ([], (0, 0))))), ())).bind fun r =>
   bif r then (
    some (.inr (.inr v)))
   else (
    some (.inl (wi64 (v + 1)))))
  else (
   some (.inr (.inl ())))

noncomputable def slices_IndexFunc_api_Nomination_api_Nomination (s : List yT0) (f : yT0 × Unit → Option Bool) : Option (Int) :=
  (iter (fun x => slices_IndexFunc_api_Nomination_api_Nomination_L0 s f x) 0).bind fun s2 =>
  s2.elim (fun s3 =>
   some (-1))
  (fun s4 =>
   some s4)

noncomputable def fn_slices_IndexFunc_api_Nomination_api_Nomination : Fun :=
  { f := 109, np := 2, nr := 1,
    ji := ⟨[(0, .one (.data (.sl tT0))), (1, .one (.fn [.pair (.str) (.pair (.str) (.pair (.str) (.pair (.str) tT2)))] (.bool)))], [], []⟩,
    jo := ⟨[(0, ii)], [], []⟩,
    tw := fun x => slices_IndexFunc_api_Nomination_api_Nomination x.1 x.2 }
noncomputable def cx_slices_IndexFunc_api_Nomination_api_Nomination : Cx := { Γ := types, ow := [], fs := [], N := 19 }
theorem ok_slices_IndexFunc_api_Nomination_api_Nomination : FunOk Tryz.prog fn_slices_IndexFunc_api_Nomination_api_Nomination :=
  FunOk.intro (C := cx_slices_IndexFunc_api_Nomination_api_Nomination) (p := (nn (mm (nn (mm (.mk [] (some (⟨[(0, kk), (1, kk), (7, kk), (8, ii)], [], []⟩, [⟨.x 0, ⟨[], [], []⟩⟩, ⟨.r, ⟨[(4, ii)], [], []⟩⟩])) .nil .nil) .nil)) .nil)))
    Tryz.func109 rfl nmr109 rfl rfl rfl rfl types_ok ⟨trivial, trivial⟩ mx (fun x => by kernel_rfl)

noncomputable def slices_ContainsFunc_api_Nomination_api_Nomination (s : List yT0) (f : yT0 × Unit → Option Bool) : Option (Bool) :=
  (slices_IndexFunc_api_Nomination_api_Nomination s f).bind fun r =>
  some (decide (0 ≤ r))

noncomputable def fn_slices_ContainsFunc_api_Nomination_api_Nomination : Fun :=
  { f := 71, np := 2, nr := 1,
    ji := ⟨[(0, .one (.data (.sl tT0))), (1, .one (.fn [.pair (.str) (.pair (.str) (.pair (.str) (.pair (.str) tT2)))] (.bool)))], [], []⟩,
    jo := ⟨[(0, bb)], [], []⟩,
    tw := fun x => slices_ContainsFunc_api_Nomination_api_Nomination x.1 x.2 }
noncomputable def cx_slices_ContainsFunc_api_Nomination_api_Nomination : Cx := { Γ := types, ow := [], fs := [fn_slices_IndexFunc_api_Nomination_api_Nomination], N := 9 }
theorem ok_slices_ContainsFunc_api_Nomination_api_Nomination : FunOk Tryz.prog fn_slices_ContainsFunc_api_Nomination_api_Nomination :=
  FunOk.intro (C := cx_slices_ContainsFunc_api_Nomination_api_Nomination) (p := .nil)
    Tryz.func71 rfl nmr71 rfl rfl rfl rfl types_ok ⟨⟨ok_slices_IndexFunc_api_Nomination_api_Nomination, trivial⟩, trivial⟩ mx (fun x => by kernel_rfl)

noncomputable def nomination_valid_L0 (n : List UInt8 × List UInt8 × List UInt8 × List UInt8 × Int × Int) (v : Int) : Option (Int ⊕ (Unit ⊕ Bool)) :=
  bif decide (v < ([n.1, n.2.1, n.2.2.1, n.2.2.2.1].length : Int)) then (
   gd (inB v [n.1, n.2.1, n.2.2.1, n.2.2.2.1].length) <|
   (lines_Name ([n.1, n.2.1, n.2.2.1, n.2.2.2.1].getD v.toNat [])).bind fun r =>
   bif !r then (
    some (.inr (.inr false)))
   else (
    some (.inl (wi64 (v + 1)))))
  else (
   some (.inr (.inl ())))

noncomputable def nomination_valid (n : List UInt8 × List UInt8 × List UInt8 × List UInt8 × Int × Int) : Option (Bool) :=
  (iter (fun x => nomination_valid_L0 n x) 0).bind fun s =>
  s.elim (fun s2 =>
   bif !decide (n.2.2.1 = n.2.2.2.1) then (
    bif decide (0 ≤ n.2.2.2.2.1) then (
     bif decide (n.2.2.2.2.1 ≤ 1000000) then (
      bif decide (1 ≤ n.2.2.2.2.2) then (
       some (decide (n.2.2.2.2.2 ≤ 1099511627776)))
      else (
       some false))
     else (
      some false))
    else (
     some false))
   else (
    some false))
  (fun s3 =>
   some s3)

noncomputable def fn_nomination_valid : Fun :=
  { f := 73, np := 1, nr := 1,
    ji := ⟨[(0, .one (.data tT0))], [], []⟩,
    jo := ⟨[(0, bb)], [], []⟩,
    tw := fun x => nomination_valid x }
noncomputable def cx_nomination_valid : Cx := { Γ := types, ow := [], fs := [fn_lines_Name], N := 48 }
theorem ok_nomination_valid : FunOk Tryz.prog fn_nomination_valid :=
  FunOk.intro (C := cx_nomination_valid) (p := (nn (mm (nn (mm (.mk [] (some (⟨[(1, .one (.ptr 32 0)), (13, kk), (14, kk), (15, ii)], [(32, 51, [.keep, .keep, .keep, .keep, .keep, .keep])], []⟩, [⟨.x 0, ⟨[(1, .one (.ptr 32 0))], [(32, 51, [.keep, .keep, .keep, .keep, .keep, .keep])], []⟩⟩, ⟨.r, ⟨[(2, bb)], [], []⟩⟩])) .nil .nil) .nil)) .nil)))
    Tryz.func73 rfl nmr73 rfl rfl rfl rfl types_ok ⟨⟨ok_lines_Name, trivial⟩, trivial⟩ mx (fun x => by kernel_rfl)

noncomputable def nomination_Check_1 (n : List UInt8 × List UInt8 × List UInt8 × List UInt8 × Int × Int) : Option (Bool) :=
  (nomination_valid (n.1, (n.2.1, (n.2.2.1, (n.2.2.2.1, (n.2.2.2.2.1, n.2.2.2.2.2)))))).bind fun r =>
  some (!r)

noncomputable def fn_nomination_Check_1 : Fun :=
  { f := 72, np := 1, nr := 1,
    ji := ⟨[(0, .one (.data tT0))], [], []⟩,
    jo := ⟨[(0, bb)], [], []⟩,
    tw := fun x => nomination_Check_1 x }
noncomputable def cx_nomination_Check_1 : Cx := { Γ := types, ow := [], fs := [fn_nomination_valid], N := 6 }
theorem ok_nomination_Check_1 : FunOk Tryz.prog fn_nomination_Check_1 :=
  FunOk.intro (C := cx_nomination_Check_1) (p := .nil)
    Tryz.func72 rfl nmr72 rfl rfl rfl rfl types_ok ⟨⟨ok_nomination_valid, trivial⟩, trivial⟩ mx (fun x => by kernel_rfl)

noncomputable def nomination_Check (l : List yT0) : Option (Int) :=
  bif decide (400 < (l.length : Int)) then (
   some 4)
  else (
   (slices_ContainsFunc_api_Nomination_api_Nomination l (fun h => (nomination_Check_1 h.1).bind fun y => some y)).bind fun r =>
   bif r then (
    some 9)
   else (
    some 0))

noncomputable def fn_nomination_Check : Fun :=
  { f := 35, np := 1, nr := 1,
    ji := ⟨[(0, .one (.data (.sl tT0)))], [], []⟩,
    jo := ⟨[(0, ii)], [], []⟩,
    tw := fun x => nomination_Check x }
noncomputable def cx_nomination_Check : Cx := { Γ := types, ow := [], fs := [fn_slices_ContainsFunc_api_Nomination_api_Nomination, fn_nomination_Check_1], N := 8 }
theorem ok_nomination_Check : FunOk Tryz.prog fn_nomination_Check :=
  FunOk.intro (C := cx_nomination_Check) (p := .nil)
    Tryz.func35 rfl nmr35 rfl rfl rfl rfl types_ok ⟨⟨ok_slices_ContainsFunc_api_Nomination_api_Nomination, ok_nomination_Check_1, trivial⟩, trivial⟩ mx (fun x => by kernel_rfl)

noncomputable def math_bits_Len32 (x : Int) : Option (Int) :=
  Option.bind (α := Int × Int) (
    bif decide (65536 ≤ x) then (
     some (Int.fdiv x (2 ^ shAmt .u32 16), 16))
    else (
     some (x, 0))) fun s =>
  Option.bind (α := Int × Int) (
    bif decide (256 ≤ s.1) then (
     some (Int.fdiv s.1 (2 ^ shAmt .u32 8), wi64 (s.2 + 8)))
    else (
     some (s.1, s.2))) fun s2 =>
  gd (inB (wu8 s2.1) str_0.length) <|
  some (wi64 (s2.2 + (wi64 (Int.ofNat (str_0.getD (wu8 s2.1).toNat 0).toNat))))

noncomputable def fn_math_bits_Len32 : Fun :=
  { f := 119, np := 1, nr := 1,
    ji := ⟨[(0, .one (.data (.int .u32)))], [], []⟩,
    jo := ⟨[(0, ii)], [], []⟩,
    tw := fun x => math_bits_Len32 x }
noncomputable def cx_math_bits_Len32 : Cx := { Γ := types, ow := [], fs := [], N := 19 }
set_option maxRecDepth 100000 in
theorem ok_math_bits_Len32 : FunOk Tryz.prog fn_math_bits_Len32 :=
  FunOk.intro (C := cx_math_bits_Len32) (p := (nn (mm (nn (.mk [.join [⟨.n, ⟨[(0, .one (.data (.int .u32))), (2, ii)], [], []⟩⟩]] none .nil .nil)) (mm (nn (.mk [.join [⟨.n, ⟨[(0, .one (.data (.int .u32))), (2, ii)], [], []⟩⟩]] none .nil .nil)) .nil))))
    Tryz.func119 rfl nmr119 rfl rfl rfl rfl types_ok ⟨trivial, trivial⟩ mx (fun x => by kernel_rfl)

noncomputable def math_bits_Len64 (x : Int) : Option (Int) :=
  Option.bind (α := Int × Int) (
    bif decide (4294967296 ≤ x) then (
     some (Int.fdiv x (2 ^ shAmt .u64 32), 32))
    else (
     some (x, 0))) fun s =>
  Option.bind (α := Int × Int) (
    bif decide (65536 ≤ s.1) then (
     some (Int.fdiv s.1 (2 ^ shAmt .u64 16), wi64 (s.2 + 16)))
    else (
     some (s.1, s.2))) fun s2 =>
  Option.bind (α := Int × Int) (
    bif decide (256 ≤ s2.1) then (
     some (Int.fdiv s2.1 (2 ^ shAmt .u64 8), wi64 (s2.2 + 8)))
    else (
     some (s2.1, s2.2))) fun s3 =>
  gd (inB (wu8 s3.1) str_0.length) <|
  some (wi64 (s3.2 + (wi64 (Int.ofNat (str_0.getD (wu8 s3.1).toNat 0).toNat))))

noncomputable def fn_math_bits_Len64 : Fun :=
  { f := 120, np := 1, nr := 1,
    ji := ⟨[(0, .one (.data (.int .u64)))], [], []⟩,
    jo := ⟨[(0, ii)], [], []⟩,
    tw := fun x => math_bits_Len64 x }
noncomputable def cx_math_bits_Len64 : Cx := { Γ := types, ow := [], fs := [], N := 25 }
set_option maxRecDepth 100000 in
theorem ok_math_bits_Len64 : FunOk Tryz.prog fn_math_bits_Len64 :=
  FunOk.intro (C := cx_math_bits_Len64) (p := (nn (mm (nn (.mk [.join [⟨.n, ⟨[(0, .one (.data (.int .u64))), (2, ii)], [], []⟩⟩]] none .nil .nil)) (mm (nn (.mk [.join [⟨.n, ⟨[(0, .one (.data (.int .u64))), (2, ii)], [], []⟩⟩]] none .nil .nil)) (mm (nn (.mk [.join [⟨.n, ⟨[(0, .one (.data (.int .u64))), (2, ii)], [], []⟩⟩]] none .nil .nil)) .nil)))))
    Tryz.func120 rfl nmr120 rfl rfl rfl rfl types_ok ⟨trivial, trivial⟩ mx (fun x => by kernel_rfl)

noncomputable def math_bits_Len (x : Int) : Option (Int) :=
  (math_bits_Len64 x).bind fun r =>
  some r

noncomputable def fn_math_bits_Len : Fun :=
  { f := 82, np := 1, nr := 1,
    ji := ⟨[(0, .one (.data (.int .u64)))], [], []⟩,
    jo := ⟨[(0, ii)], [], []⟩,
    tw := fun x => math_bits_Len x }
noncomputable def cx_math_bits_Len : Cx := { Γ := types, ow := [], fs := [fn_math_bits_Len64], N := 8 }
theorem ok_math_bits_Len : FunOk Tryz.prog fn_math_bits_Len :=
  FunOk.intro (C := cx_math_bits_Len) (p := .nil)
    Tryz.func82 rfl nmr82 rfl rfl rfl rfl types_ok ⟨⟨ok_math_bits_Len64, trivial⟩, trivial⟩ mx (fun x => by kernel_rfl)

noncomputable def slices_insertionSortCmpFunc_api_Nomination_L1 (a : Int) (cmp : yT0 × yT0 × Unit → Option Int) (j : Int) (data3 : List yT0) : Option ((Int × List yT0) ⊕ (List yT0)) :=
  Option.bind (α := Bool × List yT0) (
    bif decide (a < j) then (
     gd (inB j data3.length) <|
     gd (inB (wi64 (j - 1)) data3.length) <|
     (cmp (data3.getD j.toNat ([], ([], ([], ([], (0, 0))))), data3.getD ((wi64 (j - 1)).toNat) ([], ([], ([], ([], (0, 0))))), ())).bind fun r =>
     some (decide (r < 0), data3))
    else (
     some (false, data3))) fun s =>
  bif s.1 then (
   gd (inB (wi64 (j - 1)) s.2.length) <|
   gd (inB j s.2.length) <|
   gd (inB j s.2.length) <|
   gd (inB (wi64 (j - 1)) (s.2.set j.toNat (s.2.getD ((wi64 (j - 1)).toNat) ([], ([], ([], ([], (0, 0))))))).length) <|
   some (.inl (wi64 (j - 1), (s.2.set j.toNat (s.2.getD ((wi64 (j - 1)).toNat) ([], ([], ([], ([], (0, 0))))))).set ((wi64 (j - 1)).toNat) (s.2.getD j.toNat ([], ([], ([], ([], (0, 0)))))))))
  else (
   some (.inr s.2))

noncomputable def slices_insertionSortCmpFunc_api_Nomination_L0 (a : Int) (b : Int) (cmp : yT0 × yT0 × Unit → Option Int) (i : Int) (data2 : List yT0) : Option ((Int × List yT0) ⊕ (List yT0)) :=
  bif decide (i < b) then (
   (iter (fun x => slices_insertionSortCmpFunc_api_Nomination_L1 a cmp x.1 x.2) (i, data2)).bind fun s2 =>
   some (.inl (wi64 (i + 1), s2)))
  else (
   some (.inr data2))

noncomputable def slices_insertionSortCmpFunc_api_Nomination (a : Int) (b : Int) (cmp : yT0 × yT0 × Unit → Option Int) (data : List yT0) : Option (List yT0) :=
  (iter (fun x2 => slices_insertionSortCmpFunc_api_Nomination_L0 a b cmp x2.1 x2.2) (wi64 (a + 1), data)).bind fun s3 =>
  some s3

noncomputable def fn_slices_insertionSortCmpFunc_api_Nomination : Fun :=
  { f := 123, np := 4, nr := 0,
    ji := ⟨[(0, .one (.own 0)), (1, ii), (2, ii), (3, .one (.fn [.pair (.str) (.pair (.str) (.pair (.str) (.pair (.str) tT2))), .pair (.str) (.pair (.str) (.pair (.str) (.pair (.str) tT2)))] (.int .i64)))], [], [(0, .arr 51 tT0)]⟩,
    jo := ⟨[], [], [(0, .arr 51 tT0)]⟩,
    tw := fun x => slices_insertionSortCmpFunc_api_Nomination x.1 x.2.1 x.2.2.1 x.2.2.2 }
noncomputable def cx_slices_insertionSortCmpFunc_api_Nomination : Cx := { Γ := types, ow := [], fs := [], N := 53 }
theorem ok_slices_insertionSortCmpFunc_api_Nomination : FunOk Tryz.prog fn_slices_insertionSortCmpFunc_api_Nomination :=
  FunOk.intro (C := cx_slices_insertionSortCmpFunc_api_Nomination) (p := (nn (mm (.mk [] (some (⟨[(0, .one (.own 0)), (1, kk), (2, kk), (3, kk), (8, ii)], [], [(0, .arr 51 tT0)]⟩, [⟨.x 0, ⟨[], [], [(0, .arr 51 tT0)]⟩⟩])) (nn (mm (mm (nn (mm (.mk [] (some (⟨[(0, .one (.own 0)), (1, kk), (2, kk), (3, kk), (8, kk), (9, ii)], [], [(0, .arr 51 tT0)]⟩, [⟨.x 2, ⟨[(0, .one (.own 0)), (1, kk), (2, kk), (3, kk), (8, kk)], [], [(0, .arr 51 tT0)]⟩⟩])) (mm (mm (.mk [.join [⟨.n, ⟨[(0, .one (.own 0)), (1, kk), (2, kk), (3, kk), (8, kk), (9, kk), (34, bb)], [], [(0, .arr 51 tT0)]⟩⟩]] none .nil .nil) .nil) .nil) .nil) .nil)) .nil) .nil)) .nil) .nil)))
    Tryz.func123 rfl nmr123 rfl rfl rfl rfl types_ok ⟨trivial, trivial⟩ mx (fun x => by kernel_rfl)

noncomputable def slices_siftDownCmpFunc_api_Nomination_L0 (hi : Int) (first : Int) (cmp : yT0 × yT0 × Unit → Option Int) (root : Int) (data2 : List yT0) : Option ((Int × List yT0) ⊕ ((List yT0) ⊕ (List yT0))) :=
  bif decide (hi ≤ wi64 ((wi64 (2 * root)) + 1)) then (
   some (.inr (.inl data2)))
  else (
   Option.bind (α := Bool × List yT0) (
     bif decide (wi64 ((wi64 ((wi64 (2 * root)) + 1)) + 1) < hi) then (
      gd (inB (wi64 (first + (wi64 ((wi64 (2 * root)) + 1)))) data2.length) <|
      gd (inB (wi64 ((wi64 (first + (wi64 ((wi64 (2 * root)) + 1)))) + 1)) data2.length) <|
      (cmp (data2.getD ((wi64 (first + (wi64 ((wi64 (2 * root)) + 1)))).toNat) ([], ([], ([], ([], (0, 0))))), data2.getD ((wi64 ((wi64 (first + (wi64 ((wi64 (2 * root)) + 1)))) + 1)).toNat) ([], ([], ([], ([], (0, 0))))), ())).bind fun r =>
      some (decide (r < 0), data2))
     else (
      some (false, data2))) fun s =>
   Option.bind (α := Int × List yT0) (
     bif s.1 then (
      some (wi64 ((wi64 ((wi64 (2 * root)) + 1)) + 1), s.2))
     else (
      some (wi64 ((wi64 (2 * root)) + 1), s.2))) fun s2 =>
   gd (inB (wi64 (first + root)) s2.2.length) <|
   gd (inB (wi64 (first + s2.1)) s2.2.length) <|
   (cmp (s2.2.getD ((wi64 (first + root)).toNat) ([], ([], ([], ([], (0, 0))))), s2.2.getD ((wi64 (first + s2.1)).toNat) ([], ([], ([], ([], (0, 0))))), ())).bind fun r2 =>
   bif !(decide (r2 < 0)) then (
    some (.inr (.inr s2.2)))
   else (
    gd (inB (wi64 (first + s2.1)) s2.2.length) <|
    gd (inB (wi64 (first + root)) s2.2.length) <|
    gd (inB (wi64 (first + root)) s2.2.length) <|
    gd (inB (wi64 (first + s2.1)) (s2.2.set ((wi64 (first + root)).toNat) (s2.2.getD ((wi64 (first + s2.1)).toNat) ([], ([], ([], ([], (0, 0))))))).length) <|
    some (.inl (s2.1, (s2.2.set ((wi64 (first + root)).toNat) (s2.2.getD ((wi64 (first + s2.1)).toNat) ([], ([], ([], ([], (0, 0))))))).set ((wi64 (first + s2.1)).toNat) (s2.2.getD ((wi64 (first + root)).toNat) ([], ([], ([], ([], (0, 0))))))))))

noncomputable def slices_siftDownCmpFunc_api_Nomination (lo : Int) (hi : Int) (first : Int) (cmp : yT0 × yT0 × Unit → Option Int) (data : List yT0) : Option (List yT0) :=
  (iter (fun x => slices_siftDownCmpFunc_api_Nomination_L0 hi first cmp x.1 x.2) (lo, data)).bind fun s3 =>
  s3.elim (fun s4 =>
   some s4)
  (fun s5 =>
   some s5)

noncomputable def fn_slices_siftDownCmpFunc_api_Nomination : Fun :=
  { f := 136, np := 5, nr := 0,
    ji := ⟨[(0, .one (.own 0)), (1, ii), (2, ii), (3, ii), (4, .one (.fn [.pair (.str) (.pair (.str) (.pair (.str) (.pair (.str) tT2))), .pair (.str) (.pair (.str) (.pair (.str) (.pair (.str) tT2)))] (.int .i64)))], [], [(0, .arr 51 tT0)]⟩,
    jo := ⟨[], [], [(0, .arr 51 tT0)]⟩,
    tw := fun x => slices_siftDownCmpFunc_api_Nomination x.1 x.2.1 x.2.2.1 x.2.2.2.1 x.2.2.2.2 }
noncomputable def cx_slices_siftDownCmpFunc_api_Nomination : Cx := { Γ := types, ow := [], fs := [], N := 82 }
theorem ok_slices_siftDownCmpFunc_api_Nomination : FunOk Tryz.prog fn_slices_siftDownCmpFunc_api_Nomination :=
  FunOk.intro (C := cx_slices_siftDownCmpFunc_api_Nomination) (p := (nn (mm (.mk [] (some (⟨[(0, .one (.own 0)), (2, kk), (3, kk), (4, kk), (10, ii)], [], [(0, .arr 51 tT0)]⟩, [⟨.x 0, ⟨[], [], [(0, .arr 51 tT0)]⟩⟩, ⟨.r, ⟨[], [], [(0, .arr 51 tT0)]⟩⟩])) (mm (nn (nn (mm (mm (.mk [.join [⟨.n, ⟨[(0, .one (.own 0)), (2, kk), (3, kk), (4, kk), (10, kk), (11, kk), (40, bb)], [], [(0, .arr 51 tT0)]⟩⟩]] none .nil .nil) (.mk [.join [⟨.n, ⟨[(0, .one (.own 0)), (2, kk), (3, kk), (4, kk), (10, kk), (11, ii)], [], [(0, .arr 51 tT0)]⟩⟩]] none .nil .nil)) .nil))) .nil) .nil) .nil)))
    Tryz.func136 rfl nmr136 rfl rfl rfl rfl types_ok ⟨trivial, trivial⟩ mx (fun x => by kernel_rfl)

noncomputable def slices_heapSortCmpFunc_api_Nomination_L0 (a : Int) (b : Int) (cmp : yT0 × yT0 × Unit → Option Int) (i : Int) (data2 : List yT0) : Option ((Int × List yT0) ⊕ (List yT0)) :=
  bif decide (0 ≤ i) then (
   (slices_siftDownCmpFunc_api_Nomination i (wi64 (b - a)) a cmp data2).bind fun r =>
   some (.inl (wi64 (i - 1), r)))
  else (
   some (.inr data2))

noncomputable def slices_heapSortCmpFunc_api_Nomination_L1 (a : Int) (cmp : yT0 × yT0 × Unit → Option Int) (i2 : Int) (data3 : List yT0) : Option ((Int × List yT0) ⊕ (List yT0)) :=
  bif decide (0 ≤ i2) then (
   gd (inB (wi64 (a + i2)) data3.length) <|
   gd (inB a data3.length) <|
   gd (inB a data3.length) <|
   gd (inB (wi64 (a + i2)) (data3.set a.toNat (data3.getD ((wi64 (a + i2)).toNat) ([], ([], ([], ([], (0, 0))))))).length) <|
   (slices_siftDownCmpFunc_api_Nomination 0 i2 a cmp ((data3.set a.toNat (data3.getD ((wi64 (a + i2)).toNat) ([], ([], ([], ([], (0, 0))))))).set ((wi64 (a + i2)).toNat) (data3.getD a.toNat ([], ([], ([], ([], (0, 0)))))))).bind fun r2 =>
   some (.inl (wi64 (i2 - 1), r2)))
  else (
   some (.inr data3))

noncomputable def slices_heapSortCmpFunc_api_Nomination (a : Int) (b : Int) (cmp : yT0 × yT0 × Unit → Option Int) (data : List yT0) : Option (List yT0) :=
  (iter (fun x => slices_heapSortCmpFunc_api_Nomination_L0 a b cmp x.1 x.2) (wi64 (Int.tdiv (wi64 ((wi64 (b - a)) - 1)) 2), data)).bind fun s =>
  (iter (fun x2 => slices_heapSortCmpFunc_api_Nomination_L1 a cmp x2.1 x2.2) (wi64 ((wi64 (b - a)) - 1), s)).bind fun s2 =>
  some s2

noncomputable def fn_slices_heapSortCmpFunc_api_Nomination : Fun :=
  { f := 124, np := 4, nr := 0,
    ji := ⟨[(0, .one (.own 0)), (1, ii), (2, ii), (3, .one (.fn [.pair (.str) (.pair (.str) (.pair (.str) (.pair (.str) tT2))), .pair (.str) (.pair (.str) (.pair (.str) (.pair (.str) tT2)))] (.int .i64)))], [], [(0, .arr 51 tT0)]⟩,
    jo := ⟨[], [], [(0, .arr 51 tT0)]⟩,
    tw := fun x => slices_heapSortCmpFunc_api_Nomination x.1 x.2.1 x.2.2.1 x.2.2.2 }
noncomputable def cx_slices_heapSortCmpFunc_api_Nomination : Cx := { Γ := types, ow := [], fs := [fn_slices_siftDownCmpFunc_api_Nomination], N := 60 }
theorem ok_slices_heapSortCmpFunc_api_Nomination : FunOk Tryz.prog fn_slices_heapSortCmpFunc_api_Nomination :=
  FunOk.intro (C := cx_slices_heapSortCmpFunc_api_Nomination) (p := (nn (nn (nn (mm (nn (mm (.mk [] (some (⟨[(0, .one (.own 0)), (3, kk), (8, kk), (9, kk), (10, kk), (11, ii)], [], [(0, .arr 51 tT0)]⟩, [⟨.x 0, ⟨[(0, .one (.own 0)), (3, kk), (8, kk), (9, kk), (10, kk)], [], [(0, .arr 51 tT0)]⟩⟩])) .nil .nil) .nil)) (nn (mm (.mk [] (some (⟨[(0, .one (.own 0)), (3, kk), (8, kk), (9, kk), (12, ii)], [], [(0, .arr 51 tT0)]⟩, [⟨.x 2, ⟨[], [], [(0, .arr 51 tT0)]⟩⟩])) .nil .nil) .nil)))))))
    Tryz.func124 rfl nmr124 rfl rfl rfl rfl types_ok ⟨⟨ok_slices_siftDownCmpFunc_api_Nomination, trivial⟩, trivial⟩ mx (fun x => by kernel_rfl)

noncomputable def slices_nextPowerOfTwo (length : Int) : Option (Int) :=
  (math_bits_Len (wu64 length)).bind fun r =>
  gd (!decide (r < 0)) <|
  some (wu64 (1 * 2 ^ shAmt .u64 r))

noncomputable def fn_slices_nextPowerOfTwo : Fun :=
  { f := 132, np := 1, nr := 1,
    ji := ⟨[(0, ii)], [], []⟩,
    jo := ⟨[(0, .one (.data (.int .u64)))], [], []⟩,
    tw := fun x => slices_nextPowerOfTwo x }
noncomputable def cx_slices_nextPowerOfTwo : Cx := { Γ := types, ow := [], fs := [fn_math_bits_Len], N := 7 }
theorem ok_slices_nextPowerOfTwo : FunOk Tryz.prog fn_slices_nextPowerOfTwo :=
  FunOk.intro (C := cx_slices_nextPowerOfTwo) (p := .nil)
    Tryz.func132 rfl nmr132 rfl rfl rfl rfl types_ok ⟨⟨ok_math_bits_Len, trivial⟩, trivial⟩ mx (fun x => by kernel_rfl)

noncomputable def slices_xorshift_Next (r : Int) : Option (Int × Int) :=
  some (bitXor .u64 (bitXor .u64 (bitXor .u64 r (wu64 (r * 2 ^ shAmt .u64 13))) (Int.fdiv (bitXor .u64 r (wu64 (r * 2 ^ shAmt .u64 13))) (2 ^ shAmt .u64 7))) (wu64 ((bitXor .u64 (bitXor .u64 r (wu64 (r * 2 ^ shAmt .u64 13))) (Int.fdiv (bitXor .u64 r (wu64 (r * 2 ^ shAmt .u64 13))) (2 ^ shAmt .u64 7))) * 2 ^ shAmt .u64 17)), bitXor .u64 (bitXor .u64 (bitXor .u64 r (wu64 (r * 2 ^ shAmt .u64 13))) (Int.fdiv (bitXor .u64 r (wu64 (r * 2 ^ shAmt .u64 13))) (2 ^ shAmt .u64 7))) (wu64 ((bitXor .u64 (bitXor .u64 r (wu64 (r * 2 ^ shAmt .u64 13))) (Int.fdiv (bitXor .u64 r (wu64 (r * 2 ^ shAmt .u64 13))) (2 ^ shAmt .u64 7))) * 2 ^ shAmt .u64 17)))

noncomputable def fn_slices_xorshift_Next : Fun :=
  { f := 133, np := 1, nr := 1,
    ji := ⟨[(0, .one (.ptr 0 0))], [(0, 161, [.data (.int .u64)])], []⟩,
    jo := ⟨[(0, .one (.data (.int .u64)))], [(0, 161, [.data (.int .u64)])], []⟩,
    tw := fun x => slices_xorshift_Next x }
noncomputable def cx_slices_xorshift_Next : Cx := { Γ := types, ow := [], fs := [], N := 33 }
theorem ok_slices_xorshift_Next : FunOk Tryz.prog fn_slices_xorshift_Next :=
  FunOk.intro (C := cx_slices_xorshift_Next) (p := .nil)
    Tryz.func133 rfl nmr133 rfl rfl rfl rfl types_ok ⟨trivial, trivial⟩ mx (fun x => by kernel_rfl)

noncomputable def slices_breakPatternsCmpFunc_api_Nomination_L0 (a : Int) (b : Int) (r : Int) (idx : Int) (random : Int) (data2 : List yT0) : Option ((Int × Int × List yT0) ⊕ (List yT0)) :=
  bif decide (idx ≤ wi64 ((wi64 (a + (wi64 ((wi64 (Int.tdiv (wi64 (b - a)) 4)) * 2)))) + 1)) then (
   (slices_xorshift_Next random).bind fun r2 =>
   Option.bind (α := Int × List yT0) (
     bif decide (wi64 (b - a) ≤ wi64 (bitAnd .u64 r2.1 (wu64 (r - 1)))) then (
      some (wi64 ((wi64 (bitAnd .u64 r2.1 (wu64 (r - 1)))) - (wi64 (b - a))), data2))
     else (
      some (wi64 (bitAnd .u64 r2.1 (wu64 (r - 1))), data2))) fun s =>
   gd (inB (wi64 (a + s.1)) s.2.length) <|
   gd (inB idx s.2.length) <|
   gd (inB idx s.2.length) <|
   gd (inB (wi64 (a + s.1)) (s.2.set idx.toNat (s.2.getD ((wi64 (a + s.1)).toNat) ([], ([], ([], ([], (0, 0))))))).length) <|
   some (.inl (wi64 (idx + 1), r2.2, (s.2.set idx.toNat (s.2.getD ((wi64 (a + s.1)).toNat) ([], ([], ([], ([], (0, 0))))))).set ((wi64 (a + s.1)).toNat) (s.2.getD idx.toNat ([], ([], ([], ([], (0, 0)))))))))
  else (
   some (.inr data2))

noncomputable def slices_breakPatternsCmpFunc_api_Nomination (a : Int) (b : Int) (cmp : yT0 × yT0 × Unit → Option Int) (data : List yT0) : Option (List yT0) :=
  bif decide (8 ≤ wi64 (b - a)) then (
   (slices_nextPowerOfTwo (wi64 (b - a))).bind fun r =>
   (iter (fun x => slices_breakPatternsCmpFunc_api_Nomination_L0 a b r x.1 x.2.1 x.2.2) (wi64 ((wi64 (a + (wi64 ((wi64 (Int.tdiv (wi64 (b - a)) 4)) * 2)))) - 1), wu64 (wi64 (b - a)), data)).bind fun s2 =>
   some s2)
  else (
   some data)

noncomputable def fn_slices_breakPatternsCmpFunc_api_Nomination : Fun :=
  { f := 125, np := 4, nr := 0,
    ji := ⟨[(0, .one (.own 0)), (1, ii), (2, ii), (3, .one (.fn [.pair (.str) (.pair (.str) (.pair (.str) (.pair (.str) tT2))), .pair (.str) (.pair (.str) (.pair (.str) (.pair (.str) tT2)))] (.int .i64)))], [], [(0, .arr 51 tT0)]⟩,
    jo := ⟨[], [], [(0, .arr 51 tT0)]⟩,
    tw := fun x => slices_breakPatternsCmpFunc_api_Nomination x.1 x.2.1 x.2.2.1 x.2.2.2 }
noncomputable def cx_slices_breakPatternsCmpFunc_api_Nomination : Cx := { Γ := types, ow := [], fs := [fn_slices_nextPowerOfTwo, fn_slices_xorshift_Next], N := 67 }
theorem ok_slices_breakPatternsCmpFunc_api_Nomination : FunOk Tryz.prog fn_slices_breakPatternsCmpFunc_api_Nomination :=
  FunOk.intro (C := cx_slices_breakPatternsCmpFunc_api_Nomination) (p := (nn (nn (mm (nn (nn (nn (mm (.mk [] (some (⟨[(0, .one (.own 0)), (1, kk), (8, kk), (9, .one (.ptr 160 0)), (10, kk), (11, ii)], [(160, 161, [.data (.int .u64)])], [(0, .arr 51 tT0)]⟩, [⟨.x 0, ⟨[], [], [(0, .arr 51 tT0)]⟩⟩])) (nn (mm (mm (nn (mm (nn (.mk [.join [⟨.n, ⟨[(0, .one (.own 0)), (1, kk), (8, kk), (9, .one (.ptr 160 0)), (10, kk), (11, kk), (12, ii)], [(160, 161, [.keep])], [(0, .arr 51 tT0)]⟩⟩]] none .nil .nil)) .nil)) .nil) .nil)) .nil) .nil)))) .nil))))
    Tryz.func125 rfl nmr125 rfl rfl rfl rfl types_ok ⟨⟨ok_slices_nextPowerOfTwo, ok_slices_xorshift_Next, trivial⟩, trivial⟩ mx (fun x => by kernel_rfl)

noncomputable def slices_order2CmpFunc_api_Nomination (data : List yT0) (a : Int) (b : Int) (cmp : yT0 × yT0 × Unit → Option Int) (swaps : Int) : Option (Int × Int × Int) :=
  gd (inB b data.length) <|
  gd (inB a data.length) <|
  (cmp (data.getD b.toNat ([], ([], ([], ([], (0, 0))))), data.getD a.toNat ([], ([], ([], ([], (0, 0))))), ())).bind fun r =>
  bif decide (r < 0) then (
   some (b, a, wi64 (swaps + 1)))
  else (
   some (a, b, swaps))

noncomputable def fn_slices_order2CmpFunc_api_Nomination : Fun :=
  { f := 140, np := 5, nr := 2,
    ji := ⟨[(0, .one (.data (.sl tT0))), (1, ii), (2, ii), (3, .one (.ptr 0 0)), (4, .one (.fn [.pair (.str) (.pair (.str) (.pair (.str) (.pair (.str) tT2))), .pair (.str) (.pair (.str) (.pair (.str) (.pair (.str) tT2)))] (.int .i64)))], [(0, 3, [.data (.int .i64)])], []⟩,
    jo := ⟨[(0, ii), (1, ii)], [(0, 3, [.data (.int .i64)])], []⟩,
    tw := fun x => slices_order2CmpFunc_api_Nomination x.1 x.2.1 x.2.2.1 x.2.2.2.1 x.2.2.2.2 }
noncomputable def cx_slices_order2CmpFunc_api_Nomination : Cx := { Γ := types, ow := [], fs := [], N := 32 }
theorem ok_slices_order2CmpFunc_api_Nomination : FunOk Tryz.prog fn_slices_order2CmpFunc_api_Nomination :=
  FunOk.intro (C := cx_slices_order2CmpFunc_api_Nomination) (p := .nil)
    Tryz.func140 rfl nmr140 rfl rfl rfl rfl types_ok ⟨trivial, trivial⟩ mx (fun x => by kernel_rfl)

noncomputable def slices_medianCmpFunc_api_Nomination (data : List yT0) (a : Int) (b : Int) (c : Int) (cmp : yT0 × yT0 × Unit → Option Int) (swaps : Int) : Option (Int × Int) :=
  (slices_order2CmpFunc_api_Nomination data a b cmp swaps).bind fun r =>
  (slices_order2CmpFunc_api_Nomination data r.2.1 c cmp r.2.2).bind fun r2 =>
  (slices_order2CmpFunc_api_Nomination data r.1 r2.1 cmp r2.2.2).bind fun r3 =>
  some (r3.2.1, r3.2.2)

noncomputable def fn_slices_medianCmpFunc_api_Nomination : Fun :=
  { f := 138, np := 6, nr := 1,
    ji := ⟨[(0, .one (.data (.sl tT0))), (1, ii), (2, ii), (3, ii), (4, .one (.ptr 0 0)), (5, .one (.fn [.pair (.str) (.pair (.str) (.pair (.str) (.pair (.str) tT2))), .pair (.str) (.pair (.str) (.pair (.str) (.pair (.str) tT2)))] (.int .i64)))], [(0, 3, [.data (.int .i64)])], []⟩,
    jo := ⟨[(0, ii)], [(0, 3, [.data (.int .i64)])], []⟩,
    tw := fun x => slices_medianCmpFunc_api_Nomination x.1 x.2.1 x.2.2.1 x.2.2.2.1 x.2.2.2.2.1 x.2.2.2.2.2 }
noncomputable def cx_slices_medianCmpFunc_api_Nomination : Cx := { Γ := types, ow := [], fs := [fn_slices_order2CmpFunc_api_Nomination], N := 41 }
theorem ok_slices_medianCmpFunc_api_Nomination : FunOk Tryz.prog fn_slices_medianCmpFunc_api_Nomination :=
  FunOk.intro (C := cx_slices_medianCmpFunc_api_Nomination) (p := .nil)
    Tryz.func138 rfl nmr138 rfl rfl rfl rfl types_ok ⟨⟨ok_slices_order2CmpFunc_api_Nomination, trivial⟩, trivial⟩ mx (fun x => by kernel_rfl)

noncomputable def slices_medianAdjacentCmpFunc_api_Nomination (data : List yT0) (a : Int) (cmp : yT0 × yT0 × Unit → Option Int) (swaps : Int) : Option (Int × Int) :=
  (slices_medianCmpFunc_api_Nomination data (wi64 (a - 1)) a (wi64 (a + 1)) cmp swaps).bind fun r =>
  some (r.1, r.2)

noncomputable def fn_slices_medianAdjacentCmpFunc_api_Nomination : Fun :=
  { f := 137, np := 4, nr := 1,
    ji := ⟨[(0, .one (.data (.sl tT0))), (1, ii), (2, .one (.ptr 0 0)), (3, .one (.fn [.pair (.str) (.pair (.str) (.pair (.str) (.pair (.str) tT2))), .pair (.str) (.pair (.str) (.pair (.str) (.pair (.str) tT2)))] (.int .i64)))], [(0, 3, [.data (.int .i64)])], []⟩,
    jo := ⟨[(0, ii)], [(0, 3, [.data (.int .i64)])], []⟩,
    tw := fun x => slices_medianAdjacentCmpFunc_api_Nomination x.1 x.2.1 x.2.2.1 x.2.2.2 }
noncomputable def cx_slices_medianAdjacentCmpFunc_api_Nomination : Cx := { Γ := types, ow := [], fs := [fn_slices_medianCmpFunc_api_Nomination], N := 18 }
theorem ok_slices_medianAdjacentCmpFunc_api_Nomination : FunOk Tryz.prog fn_slices_medianAdjacentCmpFunc_api_Nomination :=
  FunOk.intro (C := cx_slices_medianAdjacentCmpFunc_api_Nomination) (p := .nil)
    Tryz.func137 rfl nmr137 rfl rfl rfl rfl types_ok ⟨⟨ok_slices_medianCmpFunc_api_Nomination, trivial⟩, trivial⟩ mx (fun x => by kernel_rfl)

noncomputable def slices_choosePivotCmpFunc_api_Nomination (data : List yT0) (a : Int) (b : Int) (cmp : yT0 × yT0 × Unit → Option Int) : Option (Int × Int) :=
  Option.bind (α := Int × Int) (
    bif decide (8 ≤ wi64 (b - a)) then (
     Option.bind (α := Int × Int × Int × Int) (
       bif decide (50 ≤ wi64 (b - a)) then (
        (slices_medianAdjacentCmpFunc_api_Nomination data (wi64 (a + (wi64 ((wi64 (Int.tdiv (wi64 (b - a)) 4)) * 1)))) cmp 0).bind fun r =>
        (slices_medianAdjacentCmpFunc_api_Nomination data (wi64 (a + (wi64 ((wi64 (Int.tdiv (wi64 (b - a)) 4)) * 2)))) cmp r.2).bind fun r2 =>
        (slices_medianAdjacentCmpFunc_api_Nomination data (wi64 (a + (wi64 ((wi64 (Int.tdiv (wi64 (b - a)) 4)) * 3)))) cmp r2.2).bind fun r3 =>
        some (r.1, r2.1, r3.1, r3.2))
       else (
        some (wi64 (a + (wi64 ((wi64 (Int.tdiv (wi64 (b - a)) 4)) * 1))), wi64 (a + (wi64 ((wi64 (Int.tdiv (wi64 (b - a)) 4)) * 2))), wi64 (a + (wi64 ((wi64 (Int.tdiv (wi64 (b - a)) 4)) * 3))), 0))) fun s =>
     (slices_medianCmpFunc_api_Nomination data s.1 s.2.1 s.2.2.1 cmp s.2.2.2).bind fun r4 =>
     some (r4.1, r4.2))
    else (
     some (wi64 (a + (wi64 ((wi64 (Int.tdiv (wi64 (b - a)) 4)) * 2))), 0))) fun s2 =>
  bif decide (s2.2 = 0) then (
   some (s2.1, 1))
  else (
   bif decide (s2.2 = 12) then (
    some (s2.1, 2))
   else (
    some (s2.1, 0)))

noncomputable def fn_slices_choosePivotCmpFunc_api_Nomination : Fun :=
  { f := 126, np := 4, nr := 2,
    ji := ⟨[(0, .one (.data (.sl tT0))), (1, ii), (2, ii), (3, .one (.fn [.pair (.str) (.pair (.str) (.pair (.str) (.pair (.str) tT2))), .pair (.str) (.pair (.str) (.pair (.str) (.pair (.str) tT2)))] (.int .i64)))], [], []⟩,
    jo := ⟨[(0, ii), (1, ii)], [], []⟩,
    tw := fun x => slices_choosePivotCmpFunc_api_Nomination x.1 x.2.1 x.2.2.1 x.2.2.2 }
noncomputable def cx_slices_choosePivotCmpFunc_api_Nomination : Cx := { Γ := types, ow := [], fs := [fn_slices_medianAdjacentCmpFunc_api_Nomination, fn_slices_medianCmpFunc_api_Nomination], N := 63 }
theorem ok_slices_choosePivotCmpFunc_api_Nomination : FunOk Tryz.prog fn_slices_choosePivotCmpFunc_api_Nomination :=
  FunOk.intro (C := cx_slices_choosePivotCmpFunc_api_Nomination) (p := (nn (nn (nn (nn (nn (nn (mm (nn (.mk [.join [⟨.n, ⟨[(11, .one (.ptr 192 0)), (13, ii)], [(192, 3, [.data (.int .i64)])], []⟩⟩]] none (mm (nn (.mk [.join [⟨.n, ⟨[(0, kk), (3, kk), (11, .one (.ptr 192 0)), (12, ii), (13, ii), (14, ii)], [(192, 3, [.data (.int .i64)])], []⟩⟩]] none .nil .nil)) .nil) .nil)) .nil))))))))
    Tryz.func126 rfl nmr126 rfl rfl rfl rfl types_ok ⟨⟨ok_slices_medianAdjacentCmpFunc_api_Nomination, ok_slices_medianCmpFunc_api_Nomination, trivial⟩, trivial⟩ mx (fun x => by kernel_rfl)

noncomputable def slices_reverseRangeCmpFunc_api_Nomination_L0 (i : Int) (j : Int) (data2 : List yT0) : Option ((Int × Int × List yT0) ⊕ (List yT0)) :=
  bif decide (i < j) then (
   gd (inB j data2.length) <|
   gd (inB i data2.length) <|
   gd (inB i data2.length) <|
   gd (inB j (data2.set i.toNat (data2.getD j.toNat ([], ([], ([], ([], (0, 0))))))).length) <|
   some (.inl (wi64 (i + 1), wi64 (j - 1), (data2.set i.toNat (data2.getD j.toNat ([], ([], ([], ([], (0, 0))))))).set j.toNat (data2.getD i.toNat ([], ([], ([], ([], (0, 0)))))))))
  else (
   some (.inr data2))

noncomputable def slices_reverseRangeCmpFunc_api_Nomination (a : Int) (b : Int) (cmp : yT0 × yT0 × Unit → Option Int) (data : List yT0) : Option (List yT0) :=
  (iter (fun x => slices_reverseRangeCmpFunc_api_Nomination_L0 x.1 x.2.1 x.2.2) (a, wi64 (b - 1), data)).bind fun s =>
  some s

noncomputable def fn_slices_reverseRangeCmpFunc_api_Nomination : Fun :=
  { f := 127, np := 4, nr := 0,
    ji := ⟨[(0, .one (.own 0)), (1, ii), (2, ii), (3, .one (.fn [.pair (.str) (.pair (.str) (.pair (.str) (.pair (.str) tT2))), .pair (.str) (.pair (.str) (.pair (.str) (.pair (.str) tT2)))] (.int .i64)))], [], [(0, .arr 51 tT0)]⟩,
    jo := ⟨[], [], [(0, .arr 51 tT0)]⟩,
    tw := fun x => slices_reverseRangeCmpFunc_api_Nomination x.1 x.2.1 x.2.2.1 x.2.2.2 }
noncomputable def cx_slices_reverseRangeCmpFunc_api_Nomination : Cx := { Γ := types, ow := [], fs := [], N := 34 }
theorem ok_slices_reverseRangeCmpFunc_api_Nomination : FunOk Tryz.prog fn_slices_reverseRangeCmpFunc_api_Nomination :=
  FunOk.intro (C := cx_slices_reverseRangeCmpFunc_api_Nomination) (p := (nn (nn (mm (.mk [] (some (⟨[(0, .one (.own 0)), (8, ii), (9, ii)], [], [(0, .arr 51 tT0)]⟩, [⟨.x 0, ⟨[], [], [(0, .arr 51 tT0)]⟩⟩])) .nil .nil) .nil))))
    Tryz.func127 rfl nmr127 rfl rfl rfl rfl types_ok ⟨trivial, trivial⟩ mx (fun x => by kernel_rfl)

noncomputable def slices_partialInsertionSortCmpFunc_api_Nomination_L1 (b : Int) (cmp : yT0 × yT0 × Unit → Option Int) (i2 : Int) (data3 : List yT0) : Option ((Int × List yT0) ⊕ (Int × List yT0)) :=
  Option.bind (α := Bool × List yT0) (
    bif decide (i2 < b) then (
     gd (inB i2 data3.length) <|
     gd (inB (wi64 (i2 - 1)) data3.length) <|
     (cmp (data3.getD i2.toNat ([], ([], ([], ([], (0, 0))))), data3.getD ((wi64 (i2 - 1)).toNat) ([], ([], ([], ([], (0, 0))))), ())).bind fun r =>
     some ((!(decide (r < 0))), data3))
    else (
     some (false, data3))) fun s =>
  bif s.1 then (
   some (.inl (wi64 (i2 + 1), s.2)))
  else (
   some (.inr (i2, s.2)))

noncomputable def slices_partialInsertionSortCmpFunc_api_Nomination_L2 (cmp : yT0 × yT0 × Unit → Option Int) (j2 : Int) (data4 : List yT0) : Option ((Int × List yT0) ⊕ (List yT0)) :=
  bif decide (1 ≤ j2) then (
   gd (inB j2 data4.length) <|
   gd (inB (wi64 (j2 - 1)) data4.length) <|
   (cmp (data4.getD j2.toNat ([], ([], ([], ([], (0, 0))))), data4.getD ((wi64 (j2 - 1)).toNat) ([], ([], ([], ([], (0, 0))))), ())).bind fun r2 =>
   bif !(decide (r2 < 0)) then (
    some (.inr data4))
   else (
    gd (inB (wi64 (j2 - 1)) data4.length) <|
    gd (inB j2 data4.length) <|
    gd (inB j2 data4.length) <|
    gd (inB (wi64 (j2 - 1)) (data4.set j2.toNat (data4.getD ((wi64 (j2 - 1)).toNat) ([], ([], ([], ([], (0, 0))))))).length) <|
    some (.inl (wi64 (j2 - 1), (data4.set j2.toNat (data4.getD ((wi64 (j2 - 1)).toNat) ([], ([], ([], ([], (0, 0))))))).set ((wi64 (j2 - 1)).toNat) (data4.getD j2.toNat ([], ([], ([], ([], (0, 0))))))))))
  else (
   some (.inr data4))

noncomputable def slices_partialInsertionSortCmpFunc_api_Nomination_L3 (b : Int) (cmp : yT0 × yT0 × Unit → Option Int) (j3 : Int) (data5 : List yT0) : Option ((Int × List yT0) ⊕ (List yT0)) :=
  bif decide (j3 < b) then (
   gd (inB j3 data5.length) <|
   gd (inB (wi64 (j3 - 1)) data5.length) <|
   (cmp (data5.getD j3.toNat ([], ([], ([], ([], (0, 0))))), data5.getD ((wi64 (j3 - 1)).toNat) ([], ([], ([], ([], (0, 0))))), ())).bind fun r3 =>
   bif !(decide (r3 < 0)) then (
    some (.inr data5))
   else (
    gd (inB (wi64 (j3 - 1)) data5.length) <|
    gd (inB j3 data5.length) <|
    gd (inB j3 data5.length) <|
    gd (inB (wi64 (j3 - 1)) (data5.set j3.toNat (data5.getD ((wi64 (j3 - 1)).toNat) ([], ([], ([], ([], (0, 0))))))).length) <|
    some (.inl (wi64 (j3 + 1), (data5.set j3.toNat (data5.getD ((wi64 (j3 - 1)).toNat) ([], ([], ([], ([], (0, 0))))))).set ((wi64 (j3 - 1)).toNat) (data5.getD j3.toNat ([], ([], ([], ([], (0, 0))))))))))
  else (
   some (.inr data5))

noncomputable def slices_partialInsertionSortCmpFunc_api_Nomination_L0 (a : Int) (b : Int) (cmp : yT0 × yT0 × Unit → Option Int) (i : Int) (j : Int) (data2 : List yT0) : Option ((Int × Int × List yT0) ⊕ ((List yT0) ⊕ (Bool × List yT0))) :=
  bif decide (j < 5) then (
   (iter (fun x => slices_partialInsertionSortCmpFunc_api_Nomination_L1 b cmp x.1 x.2) (i, data2)).bind fun s2 =>
   bif decide (s2.1 = b) then (
    some (.inr (.inr (true, s2.2))))
   else (
    bif decide (wi64 (b - a) < 50) then (
     some (.inr (.inr (false, s2.2))))
    else (
     gd (inB (wi64 (s2.1 - 1)) s2.2.length) <|
     gd (inB s2.1 s2.2.length) <|
     gd (inB s2.1 s2.2.length) <|
     gd (inB (wi64 (s2.1 - 1)) (s2.2.set s2.1.toNat (s2.2.getD ((wi64 (s2.1 - 1)).toNat) ([], ([], ([], ([], (0, 0))))))).length) <|
     Option.bind (α := List yT0) (
       bif decide (2 ≤ wi64 (s2.1 - a)) then (
        (iter (fun x2 => slices_partialInsertionSortCmpFunc_api_Nomination_L2 cmp x2.1 x2.2) (wi64 (s2.1 - 1), (s2.2.set s2.1.toNat (s2.2.getD ((wi64 (s2.1 - 1)).toNat) ([], ([], ([], ([], (0, 0))))))).set ((wi64 (s2.1 - 1)).toNat) (s2.2.getD s2.1.toNat ([], ([], ([], ([], (0, 0)))))))).bind fun s3 =>
        some s3)
       else (
        some ((s2.2.set s2.1.toNat (s2.2.getD ((wi64 (s2.1 - 1)).toNat) ([], ([], ([], ([], (0, 0))))))).set ((wi64 (s2.1 - 1)).toNat) (s2.2.getD s2.1.toNat ([], ([], ([], ([], (0, 0))))))))) fun s4 =>
     Option.bind (α := List yT0) (
       bif decide (2 ≤ wi64 (b - s2.1)) then (
        (iter (fun x3 => slices_partialInsertionSortCmpFunc_api_Nomination_L3 b cmp x3.1 x3.2) (wi64 (s2.1 + 1), s4)).bind fun s5 =>
        some s5)
       else (
        some s4)) fun s6 =>
     some (.inl (s2.1, wi64 (j + 1), s6)))))
  else (
   some (.inr (.inl data2)))

noncomputable def slices_partialInsertionSortCmpFunc_api_Nomination (a : Int) (b : Int) (cmp : yT0 × yT0 × Unit → Option Int) (data : List yT0) : Option (Bool × List yT0) :=
  (iter (fun x4 => slices_partialInsertionSortCmpFunc_api_Nomination_L0 a b cmp x4.1 x4.2.1 x4.2.2) (wi64 (a + 1), 0, data)).bind fun s7 =>
  s7.elim (fun s8 =>
   some (false, s8))
  (fun s9 =>
   some (s9.1, s9.2))

noncomputable def fn_slices_partialInsertionSortCmpFunc_api_Nomination : Fun :=
  { f := 128, np := 4, nr := 1,
    ji := ⟨[(0, .one (.own 0)), (1, ii), (2, ii), (3, .one (.fn [.pair (.str) (.pair (.str) (.pair (.str) (.pair (.str) tT2))), .pair (.str) (.pair (.str) (.pair (.str) (.pair (.str) tT2)))] (.int .i64)))], [], [(0, .arr 51 tT0)]⟩,
    jo := ⟨[(0, bb)], [], [(0, .arr 51 tT0)]⟩,
    tw := fun x => slices_partialInsertionSortCmpFunc_api_Nomination x.1 x.2.1 x.2.2.1 x.2.2.2 }
noncomputable def cx_slices_partialInsertionSortCmpFunc_api_Nomination : Cx := { Γ := types, ow := [], fs := [], N := 141 }
theorem ok_slices_partialInsertionSortCmpFunc_api_Nomination : FunOk Tryz.prog fn_slices_partialInsertionSortCmpFunc_api_Nomination :=
  FunOk.intro (C := cx_slices_partialInsertionSortCmpFunc_api_Nomination) (p := (nn (nn (mm (nn (mm (.mk [] (some (⟨[(0, .one (.own 0)), (1, kk), (2, kk), (3, kk), (9, ii), (10, ii)], [], [(0, .arr 51 tT0)]⟩, [⟨.x 0, ⟨[], [], [(0, .arr 51 tT0)]⟩⟩, ⟨.r, ⟨[(8, bb)], [], [(0, .arr 51 tT0)]⟩⟩])) (nn (mm (mm (mm (mm (.mk [] (some (⟨[(0, .one (.own 0)), (1, kk), (2, kk), (3, kk), (9, ii), (10, kk)], [], [(0, .arr 51 tT0)]⟩, [⟨.x 2, ⟨[(0, .one (.own 0)), (1, kk), (2, kk), (3, kk), (9, ii), (10, kk)], [], [(0, .arr 51 tT0)]⟩⟩])) (mm (mm (.mk [.join [⟨.n, ⟨[(0, .one (.own 0)), (1, kk), (2, kk), (3, kk), (9, kk), (10, kk), (36, bb)], [], [(0, .arr 51 tT0)]⟩⟩]] none .nil .nil) .nil) .nil) .nil) .nil) (nn (nn (nn (mm (nn (.mk [.join [⟨.n, ⟨[(0, .one (.own 0)), (1, kk), (2, kk), (3, kk), (9, kk), (10, kk)], [], [(0, .arr 51 tT0)]⟩⟩]] none (nn (mm (.mk [] (some (⟨[(0, .one (.own 0)), (1, kk), (2, kk), (3, kk), (9, kk), (10, kk), (11, ii)], [], [(0, .arr 51 tT0)]⟩, [⟨.x 4, ⟨[(0, .one (.own 0)), (1, kk), (2, kk), (3, kk), (9, kk), (10, kk)], [], [(0, .arr 51 tT0)]⟩⟩])) .nil .nil) .nil)) .nil)) (nn (.mk [.join [⟨.n, ⟨[(0, .one (.own 0)), (1, kk), (2, kk), (3, kk), (9, kk), (10, kk)], [], [(0, .arr 51 tT0)]⟩⟩]] none (nn (mm (.mk [] (some (⟨[(0, .one (.own 0)), (1, kk), (2, kk), (3, kk), (9, kk), (10, kk), (12, ii)], [], [(0, .arr 51 tT0)]⟩, [⟨.x 6, ⟨[(0, .one (.own 0)), (1, kk), (2, kk), (3, kk), (9, kk), (10, kk)], [], [(0, .arr 51 tT0)]⟩⟩])) .nil .nil) .nil)) .nil))))))) .nil) .nil)) .nil) .nil)) .nil))))
    Tryz.func128 rfl nmr128 rfl rfl rfl rfl types_ok ⟨trivial, trivial⟩ mx (fun x => by kernel_rfl)

noncomputable def slices_partitionEqualCmpFunc_api_Nomination_L1 (a : Int) (cmp : yT0 × yT0 × Unit → Option Int) (j : Int) (i2 : Int) (data3 : List yT0) : Option ((Int × List yT0) ⊕ (Int × List yT0)) :=
  Option.bind (α := Bool × List yT0) (
    bif decide (i2 ≤ j) then (
     gd (inB a data3.length) <|
     gd (inB i2 data3.length) <|
     (cmp (data3.getD a.toNat ([], ([], ([], ([], (0, 0))))), data3.getD i2.toNat ([], ([], ([], ([], (0, 0))))), ())).bind fun r =>
     some ((!(decide (r < 0))), data3))
    else (
     some (false, data3))) fun s =>
  bif s.1 then (
   some (.inl (wi64 (i2 + 1), s.2)))
  else (
   some (.inr (i2, s.2)))

noncomputable def slices_partitionEqualCmpFunc_api_Nomination_L2 (a : Int) (cmp : yT0 × yT0 × Unit → Option Int) (s2 : Int × List yT0) (j2 : Int) (data4 : List yT0) : Option ((Int × List yT0) ⊕ (Int × List yT0)) :=
  Option.bind (α := Bool × List yT0) (
    bif decide (s2.1 ≤ j2) then (
     gd (inB a data4.length) <|
     gd (inB j2 data4.length) <|
     (cmp (data4.getD a.toNat ([], ([], ([], ([], (0, 0))))), data4.getD j2.toNat ([], ([], ([], ([], (0, 0))))), ())).bind fun r2 =>
     some (decide (r2 < 0), data4))
    else (
     some (false, data4))) fun s3 =>
  bif s3.1 then (
   some (.inl (wi64 (j2 - 1), s3.2)))
  else (
   some (.inr (j2, s3.2)))

noncomputable def slices_partitionEqualCmpFunc_api_Nomination_L0 (a : Int) (cmp : yT0 × yT0 × Unit → Option Int) (i : Int) (j : Int) (data2 : List yT0) : Option ((Int × Int × List yT0) ⊕ (Int × List yT0)) :=
  (iter (fun x => slices_partitionEqualCmpFunc_api_Nomination_L1 a cmp j x.1 x.2) (i, data2)).bind fun s2 =>
  (iter (fun x2 => slices_partitionEqualCmpFunc_api_Nomination_L2 a cmp s2 x2.1 x2.2) (j, s2.2)).bind fun s4 =>
  bif decide (s4.1 < s2.1) then (
   some (.inr (s2.1, s4.2)))
  else (
   gd (inB s4.1 s4.2.length) <|
   gd (inB s2.1 s4.2.length) <|
   gd (inB s2.1 s4.2.length) <|
   gd (inB s4.1 (s4.2.set s2.1.toNat (s4.2.getD s4.1.toNat ([], ([], ([], ([], (0, 0))))))).length) <|
   some (.inl (wi64 (s2.1 + 1), wi64 (s4.1 - 1), (s4.2.set s2.1.toNat (s4.2.getD s4.1.toNat ([], ([], ([], ([], (0, 0))))))).set s4.1.toNat (s4.2.getD s2.1.toNat ([], ([], ([], ([], (0, 0)))))))))

noncomputable def slices_partitionEqualCmpFunc_api_Nomination (a : Int) (b : Int) (pivot : Int) (cmp : yT0 × yT0 × Unit → Option Int) (data : List yT0) : Option (Int × List yT0) :=
  gd (inB pivot data.length) <|
  gd (inB a data.length) <|
  gd (inB a data.length) <|
  gd (inB pivot (data.set a.toNat (data.getD pivot.toNat ([], ([], ([], ([], (0, 0))))))).length) <|
  (iter (fun x3 => slices_partitionEqualCmpFunc_api_Nomination_L0 a cmp x3.1 x3.2.1 x3.2.2) (wi64 (a + 1), wi64 (b - 1), (data.set a.toNat (data.getD pivot.toNat ([], ([], ([], ([], (0, 0))))))).set pivot.toNat (data.getD a.toNat ([], ([], ([], ([], (0, 0)))))))).bind fun s5 =>
  some (s5.1, s5.2)

noncomputable def fn_slices_partitionEqualCmpFunc_api_Nomination : Fun :=
  { f := 129, np := 5, nr := 1,
    ji := ⟨[(0, .one (.own 0)), (1, ii), (2, ii), (3, ii), (4, .one (.fn [.pair (.str) (.pair (.str) (.pair (.str) (.pair (.str) tT2))), .pair (.str) (.pair (.str) (.pair (.str) (.pair (.str) tT2)))] (.int .i64)))], [], [(0, .arr 51 tT0)]⟩,
    jo := ⟨[(0, ii)], [], [(0, .arr 51 tT0)]⟩,
    tw := fun x => slices_partitionEqualCmpFunc_api_Nomination x.1 x.2.1 x.2.2.1 x.2.2.2.1 x.2.2.2.2 }
noncomputable def cx_slices_partitionEqualCmpFunc_api_Nomination : Cx := { Γ := types, ow := [], fs := [], N := 90 }
theorem ok_slices_partitionEqualCmpFunc_api_Nomination : FunOk Tryz.prog fn_slices_partitionEqualCmpFunc_api_Nomination :=
  FunOk.intro (C := cx_slices_partitionEqualCmpFunc_api_Nomination) (p := (nn (nn (nn (mm (mm (.mk [] (some (⟨[(0, .one (.own 0)), (1, kk), (4, kk), (11, ii), (12, ii)], [], [(0, .arr 51 tT0)]⟩, [⟨.x 0, ⟨[(11, ii)], [], [(0, .arr 51 tT0)]⟩⟩])) (mm (mm (mm (.mk [] (some (⟨[(0, .one (.own 0)), (1, kk), (4, kk), (11, ii), (12, kk)], [], [(0, .arr 51 tT0)]⟩, [⟨.x 2, ⟨[(0, .one (.own 0)), (1, kk), (4, kk), (11, ii), (12, kk)], [], [(0, .arr 51 tT0)]⟩⟩])) (mm (mm (.mk [.join [⟨.n, ⟨[(0, .one (.own 0)), (1, kk), (4, kk), (11, kk), (12, kk), (47, bb)], [], [(0, .arr 51 tT0)]⟩⟩]] none .nil .nil) .nil) .nil) .nil) .nil) (mm (mm (.mk [] (some (⟨[(0, .one (.own 0)), (1, kk), (4, kk), (11, kk), (12, ii)], [], [(0, .arr 51 tT0)]⟩, [⟨.x 4, ⟨[(0, .one (.own 0)), (1, kk), (4, kk), (11, kk), (12, ii)], [], [(0, .arr 51 tT0)]⟩⟩])) (mm (mm (.mk [.join [⟨.n, ⟨[(0, .one (.own 0)), (1, kk), (4, kk), (11, kk), (12, kk), (65, bb)], [], [(0, .arr 51 tT0)]⟩⟩]] none .nil .nil) .nil) .nil) .nil) .nil) .nil)) .nil) .nil) .nil) .nil)))))
    Tryz.func129 rfl nmr129 rfl rfl rfl rfl types_ok ⟨trivial, trivial⟩ mx (fun x => by kernel_rfl)

noncomputable def slices_partitionCmpFunc_api_Nomination_L0 (a : Int) (b : Int) (cmp : yT0 × yT0 × Unit → Option Int) (i : Int) (data2 : List yT0) : Option ((Int × List yT0) ⊕ (Int × List yT0)) :=
  Option.bind (α := Bool × List yT0) (
    bif decide (i ≤ wi64 (b - 1)) then (
     gd (inB i data2.length) <|
     gd (inB a data2.length) <|
     (cmp (data2.getD i.toNat ([], ([], ([], ([], (0, 0))))), data2.getD a.toNat ([], ([], ([], ([], (0, 0))))), ())).bind fun r =>
     some (decide (r < 0), data2))
    else (
     some (false, data2))) fun s =>
  bif s.1 then (
   some (.inl (wi64 (i + 1), s.2)))
  else (
   some (.inr (i, s.2)))

noncomputable def slices_partitionCmpFunc_api_Nomination_L1 (a : Int) (cmp : yT0 × yT0 × Unit → Option Int) (s2 : Int × List yT0) (j : Int) (data3 : List yT0) : Option ((Int × List yT0) ⊕ (Int × List yT0)) :=
  Option.bind (α := Bool × List yT0) (
    bif decide (s2.1 ≤ j) then (
     gd (inB j data3.length) <|
     gd (inB a data3.length) <|
     (cmp (data3.getD j.toNat ([], ([], ([], ([], (0, 0))))), data3.getD a.toNat ([], ([], ([], ([], (0, 0))))), ())).bind fun r2 =>
     some ((!(decide (r2 < 0))), data3))
    else (
     some (false, data3))) fun s3 =>
  bif s3.1 then (
   some (.inl (wi64 (j - 1), s3.2)))
  else (
   some (.inr (j, s3.2)))

noncomputable def slices_partitionCmpFunc_api_Nomination_L3 (a : Int) (cmp : yT0 × yT0 × Unit → Option Int) (j2 : Int) (i3 : Int) (data5 : List yT0) : Option ((Int × List yT0) ⊕ (Int × List yT0)) :=
  Option.bind (α := Bool × List yT0) (
    bif decide (i3 ≤ j2) then (
     gd (inB i3 data5.length) <|
     gd (inB a data5.length) <|
     (cmp (data5.getD i3.toNat ([], ([], ([], ([], (0, 0))))), data5.getD a.toNat ([], ([], ([], ([], (0, 0))))), ())).bind fun r3 =>
     some (decide (r3 < 0), data5))
    else (
     some (false, data5))) fun s5 =>
  bif s5.1 then (
   some (.inl (wi64 (i3 + 1), s5.2)))
  else (
   some (.inr (i3, s5.2)))

noncomputable def slices_partitionCmpFunc_api_Nomination_L4 (a : Int) (cmp : yT0 × yT0 × Unit → Option Int) (s6 : Int × List yT0) (j3 : Int) (data6 : List yT0) : Option ((Int × List yT0) ⊕ (Int × List yT0)) :=
  Option.bind (α := Bool × List yT0) (
    bif decide (s6.1 ≤ j3) then (
     gd (inB j3 data6.length) <|
     gd (inB a data6.length) <|
     (cmp (data6.getD j3.toNat ([], ([], ([], ([], (0, 0))))), data6.getD a.toNat ([], ([], ([], ([], (0, 0))))), ())).bind fun r4 =>
     some ((!(decide (r4 < 0))), data6))
    else (
     some (false, data6))) fun s7 =>
  bif s7.1 then (
   some (.inl (wi64 (j3 - 1), s7.2)))
  else (
   some (.inr (j3, s7.2)))

noncomputable def slices_partitionCmpFunc_api_Nomination_L2 (a : Int) (cmp : yT0 × yT0 × Unit → Option Int) (i2 : Int) (j2 : Int) (data4 : List yT0) : Option ((Int × Int × List yT0) ⊕ (Int × List yT0)) :=
  (iter (fun x3 => slices_partitionCmpFunc_api_Nomination_L3 a cmp j2 x3.1 x3.2) (i2, data4)).bind fun s6 =>
  (iter (fun x4 => slices_partitionCmpFunc_api_Nomination_L4 a cmp s6 x4.1 x4.2) (j2, s6.2)).bind fun s8 =>
  bif decide (s8.1 < s6.1) then (
   some (.inr (s8.1, s8.2)))
  else (
   gd (inB s8.1 s8.2.length) <|
   gd (inB s6.1 s8.2.length) <|
   gd (inB s6.1 s8.2.length) <|
   gd (inB s8.1 (s8.2.set s6.1.toNat (s8.2.getD s8.1.toNat ([], ([], ([], ([], (0, 0))))))).length) <|
   some (.inl (wi64 (s6.1 + 1), wi64 (s8.1 - 1), (s8.2.set s6.1.toNat (s8.2.getD s8.1.toNat ([], ([], ([], ([], (0, 0))))))).set s8.1.toNat (s8.2.getD s6.1.toNat ([], ([], ([], ([], (0, 0)))))))))

noncomputable def slices_partitionCmpFunc_api_Nomination (a : Int) (b : Int) (pivot : Int) (cmp : yT0 × yT0 × Unit → Option Int) (data : List yT0) : Option (Int × Bool × List yT0) :=
  gd (inB pivot data.length) <|
  gd (inB a data.length) <|
  gd (inB a data.length) <|
  gd (inB pivot (data.set a.toNat (data.getD pivot.toNat ([], ([], ([], ([], (0, 0))))))).length) <|
  (iter (fun x => slices_partitionCmpFunc_api_Nomination_L0 a b cmp x.1 x.2) (wi64 (a + 1), (data.set a.toNat (data.getD pivot.toNat ([], ([], ([], ([], (0, 0))))))).set pivot.toNat (data.getD a.toNat ([], ([], ([], ([], (0, 0)))))))).bind fun s2 =>
  (iter (fun x2 => slices_partitionCmpFunc_api_Nomination_L1 a cmp s2 x2.1 x2.2) (wi64 (b - 1), s2.2)).bind fun s4 =>
  bif decide (s4.1 < s2.1) then (
   gd (inB a s4.2.length) <|
   gd (inB s4.1 s4.2.length) <|
   gd (inB s4.1 s4.2.length) <|
   gd (inB a (s4.2.set s4.1.toNat (s4.2.getD a.toNat ([], ([], ([], ([], (0, 0))))))).length) <|
   some (s4.1, true, (s4.2.set s4.1.toNat (s4.2.getD a.toNat ([], ([], ([], ([], (0, 0))))))).set a.toNat (s4.2.getD s4.1.toNat ([], ([], ([], ([], (0, 0))))))))
  else (
   gd (inB s4.1 s4.2.length) <|
   gd (inB s2.1 s4.2.length) <|
   gd (inB s2.1 s4.2.length) <|
   gd (inB s4.1 (s4.2.set s2.1.toNat (s4.2.getD s4.1.toNat ([], ([], ([], ([], (0, 0))))))).length) <|
   (iter (fun x5 => slices_partitionCmpFunc_api_Nomination_L2 a cmp x5.1 x5.2.1 x5.2.2) (wi64 (s2.1 + 1), wi64 (s4.1 - 1), (s4.2.set s2.1.toNat (s4.2.getD s4.1.toNat ([], ([], ([], ([], (0, 0))))))).set s4.1.toNat (s4.2.getD s2.1.toNat ([], ([], ([], ([], (0, 0)))))))).bind fun s9 =>
   gd (inB a s9.2.length) <|
   gd (inB s9.1 s9.2.length) <|
   gd (inB s9.1 s9.2.length) <|
   gd (inB a (s9.2.set s9.1.toNat (s9.2.getD a.toNat ([], ([], ([], ([], (0, 0))))))).length) <|
   some (s9.1, false, (s9.2.set s9.1.toNat (s9.2.getD a.toNat ([], ([], ([], ([], (0, 0))))))).set a.toNat (s9.2.getD s9.1.toNat ([], ([], ([], ([], (0, 0))))))))

noncomputable def fn_slices_partitionCmpFunc_api_Nomination : Fun :=
  { f := 130, np := 5, nr := 2,
    ji := ⟨[(0, .one (.own 0)), (1, ii), (2, ii), (3, ii), (4, .one (.fn [.pair (.str) (.pair (.str) (.pair (.str) (.pair (.str) tT2))), .pair (.str) (.pair (.str) (.pair (.str) (.pair (.str) tT2)))] (.int .i64)))], [], [(0, .arr 51 tT0)]⟩,
    jo := ⟨[(0, ii), (1, bb)], [], [(0, .arr 51 tT0)]⟩,
    tw := fun x => slices_partitionCmpFunc_api_Nomination x.1 x.2.1 x.2.2.1 x.2.2.2.1 x.2.2.2.2 }
noncomputable def cx_slices_partitionCmpFunc_api_Nomination : Cx := { Γ := types, ow := [], fs := [], N := 178 }
theorem ok_slices_partitionCmpFunc_api_Nomination : FunOk Tryz.prog fn_slices_partitionCmpFunc_api_Nomination :=
  FunOk.intro (C := cx_slices_partitionCmpFunc_api_Nomination) (p := (nn (nn (nn (mm (mm (.mk [] (some (⟨[(0, .one (.own 0)), (1, kk), (4, kk), (12, ii), (13, kk)], [], [(0, .arr 51 tT0)]⟩, [⟨.x 0, ⟨[(0, .one (.own 0)), (1, kk), (4, kk), (12, ii), (13, kk)], [], [(0, .arr 51 tT0)]⟩⟩])) (mm (mm (.mk [.join [⟨.n, ⟨[(0, .one (.own 0)), (1, kk), (4, kk), (12, kk), (13, kk), (47, bb)], [], [(0, .arr 51 tT0)]⟩⟩]] none .nil .nil) .nil) .nil) .nil) .nil) (mm (mm (.mk [] (some (⟨[(0, .one (.own 0)), (1, kk), (4, kk), (12, kk), (13, ii)], [], [(0, .arr 51 tT0)]⟩, [⟨.x 2, ⟨[(0, .one (.own 0)), (1, kk), (4, kk), (12, kk), (13, ii)], [], [(0, .arr 51 tT0)]⟩⟩])) (mm (mm (.mk [.join [⟨.n, ⟨[(0, .one (.own 0)), (1, kk), (4, kk), (12, kk), (13, kk), (66, bb)], [], [(0, .arr 51 tT0)]⟩⟩]] none .nil .nil) .nil) .nil) .nil) .nil) (nn (nn (nn (nn (mm (mm (.mk [] (some (⟨[(0, .one (.own 0)), (1, kk), (4, kk), (12, ii), (13, ii)], [], [(0, .arr 51 tT0)]⟩, [⟨.x 4, ⟨[(0, .one (.own 0)), (1, kk), (13, ii)], [], [(0, .arr 51 tT0)]⟩⟩])) (mm (mm (mm (.mk [] (some (⟨[(0, .one (.own 0)), (1, kk), (4, kk), (12, ii), (13, kk)], [], [(0, .arr 51 tT0)]⟩, [⟨.x 6, ⟨[(0, .one (.own 0)), (1, kk), (4, kk), (12, ii), (13, kk)], [], [(0, .arr 51 tT0)]⟩⟩])) (mm (mm (.mk [.join [⟨.n, ⟨[(0, .one (.own 0)), (1, kk), (4, kk), (12, kk), (13, kk), (120, bb)], [], [(0, .arr 51 tT0)]⟩⟩]] none .nil .nil) .nil) .nil) .nil) .nil) (mm (mm (.mk [] (some (⟨[(0, .one (.own 0)), (1, kk), (4, kk), (12, kk), (13, ii)], [], [(0, .arr 51 tT0)]⟩, [⟨.x 8, ⟨[(0, .one (.own 0)), (1, kk), (4, kk), (12, kk), (13, ii)], [], [(0, .arr 51 tT0)]⟩⟩])) (mm (mm (.mk [.join [⟨.n, ⟨[(0, .one (.own 0)), (1, kk), (4, kk), (12, kk), (13, kk), (139, bb)], [], [(0, .arr 51 tT0)]⟩⟩]] none .nil .nil) .nil) .nil) .nil) .nil) .nil)) .nil) .nil) .nil) .nil)))))))))))
    Tryz.func130 rfl nmr130 rfl rfl rfl rfl types_ok ⟨trivial, trivial⟩ mx (fun x => by kernel_rfl)

noncomputable def slices_pdqsortCmpFunc_api_Nomination_L0 (cmp : yT0 × yT0 × Unit → Option Int) (rec : Int → Int → Int → (yT0 × yT0 × Unit → Option Int) → List yT0 → Option (List yT0)) (a2 : Int) (b2 : Int) (limit2 : Int) (wasBalanced : Bool) (wasPartitioned : Bool) (data2 : List yT0) : Option ((Int × Int × Int × Bool × Bool × List yT0) ⊕ (List yT0)) :=
  bif decide (wi64 (b2 - a2) ≤ 12) then (
   (slices_insertionSortCmpFunc_api_Nomination a2 b2 cmp data2).bind fun r =>
   some (.inr r))
  else (
   bif decide (limit2 = 0) then (
    (slices_heapSortCmpFunc_api_Nomination a2 b2 cmp data2).bind fun r2 =>
    some (.inr r2))
   else (
    Option.bind (α := Int × List yT0) (
      bif !wasBalanced then (
       (slices_breakPatternsCmpFunc_api_Nomination a2 b2 cmp data2).bind fun r3 =>
       some (wi64 (limit2 - 1), r3))
      else (
       some (limit2, data2))) fun s =>
    (slices_choosePivotCmpFunc_api_Nomination s.2 a2 b2 cmp).bind fun r4 =>
    Option.bind (α := Int × Int × List yT0) (
      bif decide (r4.2 = 2) then (
       (slices_reverseRangeCmpFunc_api_Nomination a2 b2 cmp s.2).bind fun r5 =>
       some (wi64 ((wi64 (b2 - 1)) - (wi64 (r4.1 - a2))), 1, r5))
      else (
       some (r4.1, r4.2, s.2))) fun s2 =>
    Option.bind (α := Bool × List yT0) (
      bif wasBalanced then (
       bif wasPartitioned then (
        some (decide (s2.2.1 = 1), s2.2.2))
       else (
        some (false, s2.2.2)))
      else (
       some (false, s2.2.2))) fun s3 =>
    Option.bind (α := (List yT0) ⊕ (List yT0)) (
      bif s3.1 then (
       (slices_partialInsertionSortCmpFunc_api_Nomination a2 b2 cmp s3.2).bind fun r6 =>
       bif r6.1 then (
        some (.inr r6.2))
       else (
        some (.inl r6.2)))
      else (
       some (.inl s3.2))) fun s4 =>
    s4.elim (fun s5 =>
     Option.bind (α := Bool × List yT0) (
       bif decide (0 < a2) then (
        gd (inB (wi64 (a2 - 1)) s5.length) <|
        gd (inB s2.1 s5.length) <|
        (cmp (s5.getD ((wi64 (a2 - 1)).toNat) ([], ([], ([], ([], (0, 0))))), s5.getD s2.1.toNat ([], ([], ([], ([], (0, 0))))), ())).bind fun r7 =>
        some ((!(decide (r7 < 0))), s5))
       else (
        some (false, s5))) fun s7 =>
     bif s7.1 then (
      (slices_partitionEqualCmpFunc_api_Nomination a2 b2 s2.1 cmp s7.2).bind fun r8 =>
      some (.inl (r8.1, b2, s.1, wasBalanced, wasPartitioned, r8.2)))
     else (
      (slices_partitionCmpFunc_api_Nomination a2 b2 s2.1 cmp s7.2).bind fun r9 =>
      bif decide (wi64 (r9.1 - a2) < wi64 (b2 - r9.1)) then (
       (rec a2 r9.1 s.1 cmp r9.2.2).bind fun r10 =>
       some (.inl (wi64 (r9.1 + 1), b2, s.1, decide (wi64 (Int.tdiv (wi64 (b2 - a2)) 8) ≤ wi64 (r9.1 - a2)), r9.2.1, r10)))
      else (
       (rec (wi64 (r9.1 + 1)) b2 s.1 cmp r9.2.2).bind fun r11 =>
       some (.inl (a2, r9.1, s.1, decide (wi64 (Int.tdiv (wi64 (b2 - a2)) 8) ≤ wi64 (b2 - r9.1)), r9.2.1, r11)))))
    (fun s6 =>
     some (.inr s6))))

noncomputable def slices_pdqsortCmpFunc_api_Nomination_S (rec : Int → Int → Int → (yT0 × yT0 × Unit → Option Int) → List yT0 → Option (List yT0)) (a : Int) (b : Int) (limit : Int) (cmp : yT0 × yT0 × Unit → Option Int) (data : List yT0) : Option (List yT0) :=
  (iter (fun x => slices_pdqsortCmpFunc_api_Nomination_L0 cmp rec x.1 x.2.1 x.2.2.1 x.2.2.2.1 x.2.2.2.2.1 x.2.2.2.2.2) (a, b, limit, true, true, data)).bind fun s8 =>
  some s8

noncomputable def slices_pdqsortCmpFunc_api_Nomination_F : Nat → Int → Int → Int → (yT0 × yT0 × Unit → Option Int) → List yT0 → Option (List yT0)
  | 0 => fun _ _ _ _ _ => none
  | n + 1 => slices_pdqsortCmpFunc_api_Nomination_S (slices_pdqsortCmpFunc_api_Nomination_F n)

noncomputable def slices_pdqsortCmpFunc_api_Nomination (a : Int) (b : Int) (limit : Int) (cmp : yT0 × yT0 × Unit → Option Int) (data : List yT0) : Option (List yT0) := slices_pdqsortCmpFunc_api_Nomination_F 18446744073709551616 a b limit cmp data

noncomputable def fn_slices_pdqsortCmpFunc_api_Nomination_F (n : Nat) : Fun :=
  { f := 110, np := 5, nr := 0,
    ji := ⟨[(0, .one (.own 0)), (1, ii), (2, ii), (3, ii), (4, .one (.fn [.pair (.str) (.pair (.str) (.pair (.str) (.pair (.str) tT2))), .pair (.str) (.pair (.str) (.pair (.str) (.pair (.str) tT2)))] (.int .i64)))], [], [(0, .arr 51 tT0)]⟩,
    jo := ⟨[], [], [(0, .arr 51 tT0)]⟩,
    tw := fun x => slices_pdqsortCmpFunc_api_Nomination_F n x.1 x.2.1 x.2.2.1 x.2.2.2.1 x.2.2.2.2 }
noncomputable def fn_slices_pdqsortCmpFunc_api_Nomination : Fun := fn_slices_pdqsortCmpFunc_api_Nomination_F 18446744073709551616
noncomputable def cx_slices_pdqsortCmpFunc_api_Nomination (n : Nat) : Cx := { Γ := types, ow := [], fs := [fn_slices_insertionSortCmpFunc_api_Nomination, fn_slices_heapSortCmpFunc_api_Nomination, fn_slices_breakPatternsCmpFunc_api_Nomination, fn_slices_choosePivotCmpFunc_api_Nomination, fn_slices_reverseRangeCmpFunc_api_Nomination, fn_slices_partialInsertionSortCmpFunc_api_Nomination, fn_slices_partitionEqualCmpFunc_api_Nomination, fn_slices_partitionCmpFunc_api_Nomination, fn_slices_pdqsortCmpFunc_api_Nomination_F n], N := 148 }
theorem ok_slices_pdqsortCmpFunc_api_Nomination_F : ∀ n : Nat, FunOk Tryz.prog (fn_slices_pdqsortCmpFunc_api_Nomination_F n)
  | 0 => FunOk.nothing Tryz.func110 rfl nmr110 (fun x => rfl)
  | n + 1 => FunOk.intro (C := cx_slices_pdqsortCmpFunc_api_Nomination n) (p := (nn (nn (mm (.mk [] (some (⟨[(0, .one (.own 0)), (1, ii), (2, ii), (3, ii), (4, kk), (10, bb), (11, bb)], [], [(0, .arr 51 tT0)]⟩, [⟨.r, ⟨[], [], [(0, .arr 51 tT0)]⟩⟩])) (mm (nn (nn (nn (mm (nn (.mk [.join [⟨.n, ⟨[(0, .one (.own 0)), (1, kk), (2, kk), (3, ii), (4, kk), (10, kk), (11, kk), (12, kk)], [], [(0, .arr 51 tT0)]⟩⟩]] none .nil .nil)) (nn (mm (nn (.mk [.join [⟨.n, ⟨[(0, .one (.own 0)), (1, kk), (2, kk), (3, kk), (4, kk), (10, kk), (11, kk), (12, kk), (13, ii), (14, ii)], [], [(0, .arr 51 tT0)]⟩⟩]] none .nil .nil)) (mm (mm (.mk [.join [⟨.n, ⟨[(0, .one (.own 0)), (1, kk), (2, kk), (3, kk), (4, kk), (10, kk), (11, kk), (12, kk), (13, kk), (75, bb)], [], [(0, .arr 51 tT0)]⟩⟩]] none .nil .nil) (.mk [.join [⟨.n, ⟨[(0, .one (.own 0)), (1, kk), (2, kk), (3, kk), (4, kk), (10, kk), (11, kk), (12, kk), (13, kk)], [], [(0, .arr 51 tT0)]⟩⟩, ⟨.r, ⟨[], [], [(0, .arr 51 tT0)]⟩⟩]] none .nil .nil)) (mm (mm (.mk [.join [⟨.n, ⟨[(0, .one (.own 0)), (1, kk), (2, kk), (3, kk), (4, kk), (10, kk), (11, kk), (12, kk), (13, kk), (97, bb)], [], [(0, .arr 51 tT0)]⟩⟩]] none .nil .nil) .nil) .nil)))))))) .nil) .nil) .nil))))
    Tryz.func110 rfl nmr110 rfl rfl rfl rfl types_ok ⟨⟨ok_slices_insertionSortCmpFunc_api_Nomination, ok_slices_heapSortCmpFunc_api_Nomination, ok_slices_breakPatternsCmpFunc_api_Nomination, ok_slices_choosePivotCmpFunc_api_Nomination, ok_slices_reverseRangeCmpFunc_api_Nomination, ok_slices_partialInsertionSortCmpFunc_api_Nomination, ok_slices_partitionEqualCmpFunc_api_Nomination, ok_slices_partitionCmpFunc_api_Nomination, ok_slices_pdqsortCmpFunc_api_Nomination_F n, trivial⟩, trivial⟩ mx (fun x => by kernel_rfl)
theorem ok_slices_pdqsortCmpFunc_api_Nomination : FunOk Tryz.prog fn_slices_pdqsortCmpFunc_api_Nomination := ok_slices_pdqsortCmpFunc_api_Nomination_F 18446744073709551616

noncomputable def slices_SortFunc_api_Nomination_api_Nomination (cmp : yT0 × yT0 × Unit → Option Int) (x : List yT0) : Option (List yT0) :=
  (math_bits_Len (wu64 (x.length : Int))).bind fun r =>
  (slices_pdqsortCmpFunc_api_Nomination 0 (x.length : Int) r cmp x).bind fun r2 =>
  some r2

noncomputable def fn_slices_SortFunc_api_Nomination_api_Nomination : Fun :=
  { f := 74, np := 2, nr := 0,
    ji := ⟨[(0, .one (.own 0)), (1, .one (.fn [.pair (.str) (.pair (.str) (.pair (.str) (.pair (.str) tT2))), .pair (.str) (.pair (.str) (.pair (.str) (.pair (.str) tT2)))] (.int .i64)))], [], [(0, .arr 51 tT0)]⟩,
    jo := ⟨[], [], [(0, .arr 51 tT0)]⟩,
    tw := fun x => slices_SortFunc_api_Nomination_api_Nomination x.1 x.2 }
noncomputable def cx_slices_SortFunc_api_Nomination_api_Nomination : Cx := { Γ := types, ow := [], fs := [fn_math_bits_Len, fn_slices_pdqsortCmpFunc_api_Nomination], N := 14 }
theorem ok_slices_SortFunc_api_Nomination_api_Nomination : FunOk Tryz.prog fn_slices_SortFunc_api_Nomination_api_Nomination :=
  FunOk.intro (C := cx_slices_SortFunc_api_Nomination_api_Nomination) (p := .nil)
    Tryz.func74 rfl nmr74 rfl rfl rfl rfl types_ok ⟨⟨ok_math_bits_Len, ok_slices_pdqsortCmpFunc_api_Nomination, trivial⟩, trivial⟩ mx (fun x => by kernel_rfl)

noncomputable def cmp_isNaN_int (x : Int) : Option (Bool) :=
  some (!decide (x = x))

noncomputable def fn_cmp_isNaN_int : Fun :=
  { f := 83, np := 1, nr := 1,
    ji := ⟨[(0, ii)], [], []⟩,
    jo := ⟨[(0, bb)], [], []⟩,
    tw := fun x => cmp_isNaN_int x }
noncomputable def cx_cmp_isNaN_int : Cx := { Γ := types, ow := [], fs := [], N := 6 }
theorem ok_cmp_isNaN_int : FunOk Tryz.prog fn_cmp_isNaN_int :=
  FunOk.intro (C := cx_cmp_isNaN_int) (p := .nil)
    Tryz.func83 rfl nmr83 rfl rfl rfl rfl types_ok ⟨trivial, trivial⟩ mx (fun x => by kernel_rfl)

noncomputable def cmp_Compare_int (x : Int) (y : Int) : Option (Int) :=
  (cmp_isNaN_int x).bind fun r =>
  (cmp_isNaN_int y).bind fun r2 =>
  bif r then (
   bif r2 then (
    some 0)
   else (
    some (-1)))
  else (
   bif r2 then (
    some 1)
   else (
    bif decide (x < y) then (
     some (-1))
    else (
     bif decide (y < x) then (
      some 1)
     else (
      some 0))))

noncomputable def fn_cmp_Compare_int : Fun :=
  { f := 43, np := 2, nr := 1,
    ji := ⟨[(0, ii), (1, ii)], [], []⟩,
    jo := ⟨[(0, ii)], [], []⟩,
    tw := fun x => cmp_Compare_int x.1 x.2 }
noncomputable def cx_cmp_Compare_int : Cx := { Γ := types, ow := [], fs := [fn_cmp_isNaN_int], N := 20 }
theorem ok_cmp_Compare_int : FunOk Tryz.prog fn_cmp_Compare_int :=
  FunOk.intro (C := cx_cmp_Compare_int) (p := .nil)
    Tryz.func43 rfl nmr43 rfl rfl rfl rfl types_ok ⟨⟨ok_cmp_isNaN_int, trivial⟩, trivial⟩ mx (fun x => by kernel_rfl)

noncomputable def cmp_isNaN_string (x : List UInt8) : Option (Bool) :=
  some (!decide (x = x))

noncomputable def fn_cmp_isNaN_string : Fun :=
  { f := 84, np := 1, nr := 1,
    ji := ⟨[(0, ss)], [], []⟩,
    jo := ⟨[(0, bb)], [], []⟩,
    tw := fun x => cmp_isNaN_string x }
noncomputable def cx_cmp_isNaN_string : Cx := { Γ := types, ow := [], fs := [], N := 6 }
theorem ok_cmp_isNaN_string : FunOk Tryz.prog fn_cmp_isNaN_string :=
  FunOk.intro (C := cx_cmp_isNaN_string) (p := .nil)
    Tryz.func84 rfl nmr84 rfl rfl rfl rfl types_ok ⟨trivial, trivial⟩ mx (fun x => by kernel_rfl)

noncomputable def cmp_Compare_string (x : List UInt8) (y : List UInt8) : Option (Int) :=
  (cmp_isNaN_string x).bind fun r =>
  (cmp_isNaN_string y).bind fun r2 =>
  bif r then (
   bif r2 then (
    some 0)
   else (
    some (-1)))
  else (
   bif r2 then (
    some 1)
   else (
    bif Op.bytesLess x y then (
     some (-1))
    else (
     bif !(Op.bytesLess x y || decide (x = y)) then (
      some 1)
     else (
      some 0))))

noncomputable def fn_cmp_Compare_string : Fun :=
  { f := 44, np := 2, nr := 1,
    ji := ⟨[(0, ss), (1, ss)], [], []⟩,
    jo := ⟨[(0, ii)], [], []⟩,
    tw := fun x => cmp_Compare_string x.1 x.2 }
noncomputable def cx_cmp_Compare_string : Cx := { Γ := types, ow := [], fs := [fn_cmp_isNaN_string], N := 20 }
theorem ok_cmp_Compare_string : FunOk Tryz.prog fn_cmp_Compare_string :=
  FunOk.intro (C := cx_cmp_Compare_string) (p := .nil)
    Tryz.func44 rfl nmr44 rfl rfl rfl rfl types_ok ⟨⟨ok_cmp_isNaN_string, trivial⟩, trivial⟩ mx (fun x => by kernel_rfl)

noncomputable def cmp_Or_int_L0 (vals : List Int) (v : Int) : Option (Int ⊕ (Unit ⊕ Int)) :=
  bif decide (v < (vals.length : Int)) then (
   gd (inB v vals.length) <|
   bif !decide (vals.getD v.toNat 0 = 0) then (
    some (.inr (.inr (vals.getD v.toNat 0))))
   else (
    some (.inl (wi64 (v + 1)))))
  else (
   some (.inr (.inl ())))

noncomputable def cmp_Or_int (vals : List Int) : Option (Int) :=
  (iter (fun x => cmp_Or_int_L0 vals x) 0).bind fun s =>
  s.elim (fun s2 =>
   some 0)
  (fun s3 =>
   some s3)

noncomputable def fn_cmp_Or_int : Fun :=
  { f := 42, np := 1, nr := 1,
    ji := ⟨[(0, .one (.data (.sl (.int .i64))))], [], []⟩,
    jo := ⟨[(0, ii)], [], []⟩,
    tw := fun x => cmp_Or_int x }
noncomputable def cx_cmp_Or_int : Cx := { Γ := types, ow := [], fs := [], N := 18 }
theorem ok_cmp_Or_int : FunOk Tryz.prog fn_cmp_Or_int :=
  FunOk.intro (C := cx_cmp_Or_int) (p := (nn (nn (mm (nn (mm (.mk [] (some (⟨[(3, kk), (6, kk), (7, kk), (8, ii)], [], []⟩, [⟨.x 0, ⟨[(3, kk)], [], []⟩⟩, ⟨.r, ⟨[(2, ii)], [], []⟩⟩])) .nil .nil) .nil)) .nil))))
    Tryz.func42 rfl nmr42 rfl rfl rfl rfl types_ok ⟨trivial, trivial⟩ mx (fun x => by kernel_rfl)

noncomputable def nomination_compare (a : List UInt8 × List UInt8 × List UInt8 × List UInt8 × Int × Int) (b : List UInt8 × List UInt8 × List UInt8 × List UInt8 × Int × Int) : Option (Int) :=
  (cmp_Compare_int a.2.2.2.2.1 b.2.2.2.2.1).bind fun r =>
  (cmp_Compare_string a.1 b.1).bind fun r2 =>
  (cmp_Compare_string a.2.1 b.2.1).bind fun r3 =>
  (cmp_Compare_string a.2.2.1 b.2.2.1).bind fun r4 =>
  (cmp_Compare_string a.2.2.2.1 b.2.2.2.1).bind fun r5 =>
  (cmp_Or_int [r, r2, r3, r4, r5]).bind fun r6 =>
  some r6

noncomputable def fn_nomination_compare : Fun :=
  { f := 75, np := 2, nr := 1,
    ji := ⟨[(0, .one (.data tT0)), (1, .one (.data tT0))], [], []⟩,
    jo := ⟨[(0, ii)], [], []⟩,
    tw := fun x => nomination_compare x.1 x.2 }
noncomputable def cx_nomination_compare : Cx := { Γ := types, ow := [], fs := [fn_cmp_Compare_int, fn_cmp_Compare_string, fn_cmp_Or_int], N := 32 }
theorem ok_nomination_compare : FunOk Tryz.prog fn_nomination_compare :=
  FunOk.intro (C := cx_nomination_compare) (p := .nil)
    Tryz.func75 rfl nmr75 rfl rfl rfl rfl types_ok ⟨⟨ok_cmp_Compare_int, ok_cmp_Compare_string, ok_cmp_Or_int, trivial⟩, trivial⟩ mx (fun x => by kernel_rfl)

noncomputable def nomination_Totals_L0 (l : List yT0) (v : Int) (sums : List (yT0 × Int)) : Option ((Int × List (yT0 × Int)) ⊕ (List (yT0 × Int))) :=
  bif decide (v < (l.length : Int)) then (
   gd (inB v l.length) <|
   gd (decide (0 ≤ Int.ofNat (midx kO_0 sums ((l.getD v.toNat ([], ([], ([], ([], (0, 0)))))).1, (((l.getD v.toNat ([], ([], ([], ([], (0, 0)))))).2).1, ((((l.getD v.toNat ([], ([], ([], ([], (0, 0)))))).2).2).1, (((((l.getD v.toNat ([], ([], ([], ([], (0, 0)))))).2).2).2).1, ((((((l.getD v.toNat ([], ([], ([], ([], (0, 0)))))).2).2).2).2).1, 0))))))) && Nat.blt (Int.ofNat (midx kO_0 sums ((l.getD v.toNat ([], ([], ([], ([], (0, 0)))))).1, (((l.getD v.toNat ([], ([], ([], ([], (0, 0)))))).2).1, ((((l.getD v.toNat ([], ([], ([], ([], (0, 0)))))).2).2).1, (((((l.getD v.toNat ([], ([], ([], ([], (0, 0)))))).2).2).2).1, ((((((l.getD v.toNat ([], ([], ([], ([], (0, 0)))))).2).2).2).2).1, 0))))))).toNat (ment kO_0 sums ((l.getD v.toNat ([], ([], ([], ([], (0, 0)))))).1, (((l.getD v.toNat ([], ([], ([], ([], (0, 0)))))).2).1, ((((l.getD v.toNat ([], ([], ([], ([], (0, 0)))))).2).2).1, (((((l.getD v.toNat ([], ([], ([], ([], (0, 0)))))).2).2).2).1, ((((((l.getD v.toNat ([], ([], ([], ([], (0, 0)))))).2).2).2).2).1, 0))))) 0).length) <|
   some (.inl (wi64 (v + 1), mset (ment kO_0 sums ((l.getD v.toNat ([], ([], ([], ([], (0, 0)))))).1, (((l.getD v.toNat ([], ([], ([], ([], (0, 0)))))).2).1, ((((l.getD v.toNat ([], ([], ([], ([], (0, 0)))))).2).2).1, (((((l.getD v.toNat ([], ([], ([], ([], (0, 0)))))).2).2).2).1, ((((((l.getD v.toNat ([], ([], ([], ([], (0, 0)))))).2).2).2).2).1, 0))))) 0) (Int.ofNat (midx kO_0 sums ((l.getD v.toNat ([], ([], ([], ([], (0, 0)))))).1, (((l.getD v.toNat ([], ([], ([], ([], (0, 0)))))).2).1, ((((l.getD v.toNat ([], ([], ([], ([], (0, 0)))))).2).2).1, (((((l.getD v.toNat ([], ([], ([], ([], (0, 0)))))).2).2).2).1, ((((((l.getD v.toNat ([], ([], ([], ([], (0, 0)))))).2).2).2).2).1, 0))))))).toNat (wi64 (((mget kO_0 sums ((l.getD v.toNat ([], ([], ([], ([], (0, 0)))))).1, (((l.getD v.toNat ([], ([], ([], ([], (0, 0)))))).2).1, ((((l.getD v.toNat ([], ([], ([], ([], (0, 0)))))).2).2).1, (((((l.getD v.toNat ([], ([], ([], ([], (0, 0)))))).2).2).2).1, ((((((l.getD v.toNat ([], ([], ([], ([], (0, 0)))))).2).2).2).2).1, 0)))))).getD 0) + ((((((l.getD v.toNat ([], ([], ([], ([], (0, 0)))))).2).2).2).2).2))))))
  else (
   some (.inr sums))

noncomputable def nomination_Totals_L1 (out : List yT0) (v2 : List (yT0 × Int)) : List (Option (((List yT0) × List (yT0 × Int)) ⊕ ((List yT0) ⊕ ((List yT0) × Int)))) :=
  bif isNilL v2.tail then [
   some (.inr (.inl out))]
  else ((List.range v2.tail.length).map fun i =>
   bif decide (1099511627776 < ((pickAt (([], ([], ([], ([], (0, 0))))), 0) v2.tail i).headD (([], ([], ([], ([], (0, 0))))), 0)).2) then (
    some (.inr (.inr ([], 4))))
   else (
    gd (fits (out.length + 1) 80) <|
    some (.inl (out ++ [((((pickAt (([], ([], ([], ([], (0, 0))))), 0) v2.tail i).headD (([], ([], ([], ([], (0, 0))))), 0)).1).1, (((((pickAt (([], ([], ([], ([], (0, 0))))), 0) v2.tail i).headD (([], ([], ([], ([], (0, 0))))), 0)).1).2).1, ((((((pickAt (([], ([], ([], ([], (0, 0))))), 0) v2.tail i).headD (([], ([], ([], ([], (0, 0))))), 0)).1).2).2).1, (((((((pickAt (([], ([], ([], ([], (0, 0))))), 0) v2.tail i).headD (([], ([], ([], ([], (0, 0))))), 0)).1).2).2).2).1, ((((((((pickAt (([], ([], ([], ([], (0, 0))))), 0) v2.tail i).headD (([], ([], ([], ([], (0, 0))))), 0)).1).2).2).2).2).1, ((pickAt (([], ([], ([], ([], (0, 0))))), 0) v2.tail i).headD (([], ([], ([], ([], (0, 0))))), 0)).2)))))], pickAt (([], ([], ([], ([], (0, 0))))), 0) v2.tail i))))

noncomputable def nomination_Totals (l : List yT0) : Option ((List yT0) × Int) :=
  (nomination_Check l).bind fun r =>
  bif !decide (r = 0) then (
   some ([], r))
  else (
   (iter (fun x => nomination_Totals_L0 l x.1 x.2) (0, [])).bind fun s =>
   iterK (fun x2 => nomination_Totals_L1 x2.1 x2.2) ([], ((([], ([], ([], ([], (0, 0))))), 0) :: s)) fun s2 =>
   s2.elim (fun s3 =>
    (slices_SortFunc_api_Nomination_api_Nomination (fun h => (nomination_compare h.1 h.2.1).bind fun y => some y) s3).bind fun r2 =>
    some (r2, 0))
   (fun s4 =>
    some (s4.1, s4.2)))

noncomputable def fn_nomination_Totals : Fun :=
  { f := 36, np := 1, nr := 2,
    ji := ⟨[(0, .one (.data (.sl tT0)))], [], []⟩,
    jo := ⟨[(0, .one (.data (.sl tT0))), (1, ii)], [], []⟩,
    tw := fun x => nomination_Totals x }
noncomputable def cx_nomination_Totals : Cx := { Γ := types, ow := [], fs := [fn_nomination_Check, fn_slices_SortFunc_api_Nomination_api_Nomination, fn_nomination_compare], N := 53 }
theorem ok_nomination_Totals : FunOk Tryz.prog fn_nomination_Totals :=
  FunOk.intro (C := cx_nomination_Totals) (p := (nn (nn (nn (mm (nn (mm (.mk [] (some (⟨[(5, .one (.own 288)), (18, kk), (19, kk), (20, ii)], [], [(288, .map true 1000116 tT0 (.int .i64))]⟩, [⟨.x 0, ⟨[(5, .one (.own 288))], [], [(288, .map true 1000116 tT0 (.int .i64))]⟩⟩])) .nil .nil) .nil)) (nn (mm (mm (.mk [.fz [5]] none .nil .nil) (mm (.mk [] (some (⟨[(9, .one (.own 171)), (36, .one (.own 592))], [], [(171, .arr 51 tT0), (592, .iter false tT0 (.int .i64))]⟩, [⟨.x 2, ⟨[(9, .one (.own 171))], [], [(171, .arr 51 tT0)]⟩⟩, ⟨.r, ⟨[(2, .one (.data (.sl tT0))), (3, ii)], [], []⟩⟩])) .nil .nil) .nil)) .nil)))))))
    Tryz.func36 rfl nmr36 rfl rfl rfl rfl types_ok ⟨⟨ok_nomination_Check, ok_slices_SortFunc_api_Nomination_api_Nomination, ok_nomination_compare, trivial⟩, trivial⟩ mx (fun x => by kernel_rfl)

noncomputable def network_Port_1 (p : List UInt8 × Int × Int) (v : List UInt8) : Option (Bool) :=
  some (decide (p.1 = v))

noncomputable def fn_network_Port_1 : Fun :=
  { f := 79, np := 2, nr := 1,
    ji := ⟨[(0, .one (.data (.pair (.str) tT2))), (1, .one (.sel (.str)))], [], []⟩,
    jo := ⟨[(0, bb)], [], []⟩,
    tw := fun x => network_Port_1 x.1 x.2 }
noncomputable def cx_network_Port_1 : Cx := { Γ := types, ow := [], fs := [], N := 8 }
theorem ok_network_Port_1 : FunOk Tryz.prog fn_network_Port_1 :=
  FunOk.intro (C := cx_network_Port_1) (p := .nil)
    Tryz.func79 rfl nmr79 rfl rfl rfl rfl types_ok ⟨trivial, trivial⟩ mx (fun x => by kernel_rfl)

noncomputable def network_Port (n : List (List UInt8) × List yT1 × List (List UInt8 × Int × Int) × List (List UInt8 × Int × Int × Int × Int) × Int × Int) (name : List UInt8) : Option (Int) :=
  (slices_IndexFunc_api_Port_api_Port n.2.2.1 (fun h => (network_Port_1 h.1 name).bind fun y => some y)).bind fun r =>
  some r

noncomputable def fn_network_Port : Fun :=
  { f := 38, np := 2, nr := 1,
    ji := ⟨[(0, .one (.data (.pair (.sl (.str)) (.pair (.sl (.pair (.str) (.pair (.int .i64) (.pair (.int .i64) (.pair (.int .i64) (.pair (.int .i64) (.pair (.int .i64) (.sl (.pair (.int .i64) tT2))))))))) (.pair (.sl (.pair (.str) tT2)) (.pair (.sl (.pair (.str) (.pair (.int .i64) (.pair (.int .i64) tT2)))) tT2)))))), (1, ss)], [], []⟩,
    jo := ⟨[(0, ii)], [], []⟩,
    tw := fun x => network_Port x.1 x.2 }
noncomputable def cx_network_Port : Cx := { Γ := types, ow := [], fs := [fn_slices_IndexFunc_api_Port_api_Port, fn_network_Port_1], N := 9 }
theorem ok_network_Port : FunOk Tryz.prog fn_network_Port :=
  FunOk.intro (C := cx_network_Port) (p := (nn (mm (.mk [.fv [(3, .str)]] none .nil .nil) .nil)))
    Tryz.func38 rfl nmr38 rfl rfl rfl rfl types_ok ⟨⟨ok_slices_IndexFunc_api_Port_api_Port, ok_network_Port_1, trivial⟩, trivial⟩ mx (fun x => by kernel_rfl)

noncomputable def lots_rank (products : List (List UInt8 × Int × Int × Int × Int)) (order : List (List UInt8)) (index : Int) : Option (Int) :=
  gd (inB index products.length) <|
  (slices_Index_string_string order ((products.getD index.toNat ([], (0, (0, (0, 0))))).1)).bind fun r =>
  bif decide (0 ≤ r) then (
   some r)
  else (
   some (wi64 ((order.length : Int) + index)))

noncomputable def fn_lots_rank : Fun :=
  { f := 39, np := 3, nr := 1,
    ji := ⟨[(0, .one (.data (.sl (.pair (.str) (.pair (.int .i64) (.pair (.int .i64) tT2)))))), (1, .one (.data (.sl (.str)))), (2, ii)], [], []⟩,
    jo := ⟨[(0, ii)], [], []⟩,
    tw := fun x => lots_rank x.1 x.2.1 x.2.2 }
noncomputable def cx_lots_rank : Cx := { Γ := types, ow := [], fs := [fn_slices_Index_string_string], N := 22 }
theorem ok_lots_rank : FunOk Tryz.prog fn_lots_rank :=
  FunOk.intro (C := cx_lots_rank) (p := .nil)
    Tryz.func39 rfl nmr39 rfl rfl rfl rfl types_ok ⟨⟨ok_slices_Index_string_string, trivial⟩, trivial⟩ mx (fun x => by kernel_rfl)

noncomputable def slices_insertionSortCmpFunc_lots_made_L1 (a : Int) (cmp : (yT0 × (Int × List UInt8 × Int × Int) × Int) × (yT0 × (Int × List UInt8 × Int × Int) × Int) × Unit → Option Int) (j : Int) (data3 : List (yT0 × (Int × List UInt8 × Int × Int) × Int)) : Option ((Int × List (yT0 × (Int × List UInt8 × Int × Int) × Int)) ⊕ (List (yT0 × (Int × List UInt8 × Int × Int) × Int))) :=
  Option.bind (α := Bool × List (yT0 × (Int × List UInt8 × Int × Int) × Int)) (
    bif decide (a < j) then (
     gd (inB j data3.length) <|
     gd (inB (wi64 (j - 1)) data3.length) <|
     (cmp (data3.getD j.toNat (([], ([], ([], ([], (0, 0))))), ((0, ([], (0, 0))), 0)), data3.getD ((wi64 (j - 1)).toNat) (([], ([], ([], ([], (0, 0))))), ((0, ([], (0, 0))), 0)), ())).bind fun r =>
     some (decide (r < 0), data3))
    else (
     some (false, data3))) fun s =>
  bif s.1 then (
   gd (inB (wi64 (j - 1)) s.2.length) <|
   gd (inB j s.2.length) <|
   gd (inB j s.2.length) <|
   gd (inB (wi64 (j - 1)) (s.2.set j.toNat (s.2.getD ((wi64 (j - 1)).toNat) (([], ([], ([], ([], (0, 0))))), ((0, ([], (0, 0))), 0)))).length) <|
   some (.inl (wi64 (j - 1), (s.2.set j.toNat (s.2.getD ((wi64 (j - 1)).toNat) (([], ([], ([], ([], (0, 0))))), ((0, ([], (0, 0))), 0)))).set ((wi64 (j - 1)).toNat) (s.2.getD j.toNat (([], ([], ([], ([], (0, 0))))), ((0, ([], (0, 0))), 0))))))
  else (
   some (.inr s.2))

noncomputable def slices_insertionSortCmpFunc_lots_made_L0 (a : Int) (b : Int) (cmp : (yT0 × (Int × List UInt8 × Int × Int) × Int) × (yT0 × (Int × List UInt8 × Int × Int) × Int) × Unit → Option Int) (i : Int) (data2 : List (yT0 × (Int × List UInt8 × Int × Int) × Int)) : Option ((Int × List (yT0 × (Int × List UInt8 × Int × Int) × Int)) ⊕ (List (yT0 × (Int × List UInt8 × Int × Int) × Int))) :=
  bif decide (i < b) then (
   (iter (fun x => slices_insertionSortCmpFunc_lots_made_L1 a cmp x.1 x.2) (i, data2)).bind fun s2 =>
   some (.inl (wi64 (i + 1), s2)))
  else (
   some (.inr data2))

noncomputable def slices_insertionSortCmpFunc_lots_made (a : Int) (b : Int) (cmp : (yT0 × (Int × List UInt8 × Int × Int) × Int) × (yT0 × (Int × List UInt8 × Int × Int) × Int) × Unit → Option Int) (data : List (yT0 × (Int × List UInt8 × Int × Int) × Int)) : Option (List (yT0 × (Int × List UInt8 × Int × Int) × Int)) :=
  (iter (fun x2 => slices_insertionSortCmpFunc_lots_made_L0 a b cmp x2.1 x2.2) (wi64 (a + 1), data)).bind fun s3 =>
  some s3

noncomputable def fn_slices_insertionSortCmpFunc_lots_made : Fun :=
  { f := 111, np := 4, nr := 0,
    ji := ⟨[(0, .one (.own 0)), (1, ii), (2, ii), (3, .one (.fn [.pair tT0 tT1, .pair tT0 tT1] (.int .i64)))], [], [(0, .arr 90 (.pair tT0 tT1))]⟩,
    jo := ⟨[], [], [(0, .arr 90 (.pair tT0 tT1))]⟩,
    tw := fun x => slices_insertionSortCmpFunc_lots_made x.1 x.2.1 x.2.2.1 x.2.2.2 }
noncomputable def cx_slices_insertionSortCmpFunc_lots_made : Cx := { Γ := types, ow := [], fs := [], N := 53 }
theorem ok_slices_insertionSortCmpFunc_lots_made : FunOk Tryz.prog fn_slices_insertionSortCmpFunc_lots_made :=
  FunOk.intro (C := cx_slices_insertionSortCmpFunc_lots_made) (p := (nn (mm (.mk [] (some (⟨[(0, .one (.own 0)), (1, kk), (2, kk), (3, kk), (8, ii)], [], [(0, .arr 90 (.pair tT0 tT1))]⟩, [⟨.x 0, ⟨[], [], [(0, .arr 90 (.pair tT0 tT1))]⟩⟩])) (nn (mm (mm (nn (mm (.mk [] (some (⟨[(0, .one (.own 0)), (1, kk), (2, kk), (3, kk), (8, kk), (9, ii)], [], [(0, .arr 90 (.pair tT0 tT1))]⟩, [⟨.x 2, ⟨[(0, .one (.own 0)), (1, kk), (2, kk), (3, kk), (8, kk)], [], [(0, .arr 90 (.pair tT0 tT1))]⟩⟩])) (mm (mm (.mk [.join [⟨.n, ⟨[(0, .one (.own 0)), (1, kk), (2, kk), (3, kk), (8, kk), (9, kk), (34, bb)], [], [(0, .arr 90 (.pair tT0 tT1))]⟩⟩]] none .nil .nil) .nil) .nil) .nil) .nil)) .nil) .nil)) .nil) .nil)))
    Tryz.func111 rfl nmr111 rfl rfl rfl rfl types_ok ⟨trivial, trivial⟩ mx (fun x => by kernel_rfl)

noncomputable def slices_siftDownCmpFunc_lots_made_L0 (hi : Int) (first : Int) (cmp : (yT0 × (Int × List UInt8 × Int × Int) × Int) × (yT0 × (Int × List UInt8 × Int × Int) × Int) × Unit → Option Int) (root : Int) (data2 : List (yT0 × (Int × List UInt8 × Int × Int) × Int)) : Option ((Int × List (yT0 × (Int × List UInt8 × Int × Int) × Int)) ⊕ ((List (yT0 × (Int × List UInt8 × Int × Int) × Int)) ⊕ (List (yT0 × (Int × List UInt8 × Int × Int) × Int)))) :=
  bif decide (hi ≤ wi64 ((wi64 (2 * root)) + 1)) then (
   some (.inr (.inl data2)))
  else (
   Option.bind (α := Bool × List (yT0 × (Int × List UInt8 × Int × Int) × Int)) (
     bif decide (wi64 ((wi64 ((wi64 (2 * root)) + 1)) + 1) < hi) then (
      gd (inB (wi64 (first + (wi64 ((wi64 (2 * root)) + 1)))) data2.length) <|
      gd (inB (wi64 ((wi64 (first + (wi64 ((wi64 (2 * root)) + 1)))) + 1)) data2.length) <|
      (cmp (data2.getD ((wi64 (first + (wi64 ((wi64 (2 * root)) + 1)))).toNat) (([], ([], ([], ([], (0, 0))))), ((0, ([], (0, 0))), 0)), data2.getD ((wi64 ((wi64 (first + (wi64 ((wi64 (2 * root)) + 1)))) + 1)).toNat) (([], ([], ([], ([], (0, 0))))), ((0, ([], (0, 0))), 0)), ())).bind fun r =>
      some (decide (r < 0), data2))
     else (
      some (false, data2))) fun s =>
   Option.bind (α := Int × List (yT0 × (Int × List UInt8 × Int × Int) × Int)) (
     bif s.1 then (
      some (wi64 ((wi64 ((wi64 (2 * root)) + 1)) + 1), s.2))
     else (
      some (wi64 ((wi64 (2 * root)) + 1), s.2))) fun s2 =>
   gd (inB (wi64 (first + root)) s2.2.length) <|
   gd (inB (wi64 (first + s2.1)) s2.2.length) <|
   (cmp (s2.2.getD ((wi64 (first + root)).toNat) (([], ([], ([], ([], (0, 0))))), ((0, ([], (0, 0))), 0)), s2.2.getD ((wi64 (first + s2.1)).toNat) (([], ([], ([], ([], (0, 0))))), ((0, ([], (0, 0))), 0)), ())).bind fun r2 =>
   bif !(decide (r2 < 0)) then (
    some (.inr (.inr s2.2)))
   else (
    gd (inB (wi64 (first + s2.1)) s2.2.length) <|
    gd (inB (wi64 (first + root)) s2.2.length) <|
    gd (inB (wi64 (first + root)) s2.2.length) <|
    gd (inB (wi64 (first + s2.1)) (s2.2.set ((wi64 (first + root)).toNat) (s2.2.getD ((wi64 (first + s2.1)).toNat) (([], ([], ([], ([], (0, 0))))), ((0, ([], (0, 0))), 0)))).length) <|
    some (.inl (s2.1, (s2.2.set ((wi64 (first + root)).toNat) (s2.2.getD ((wi64 (first + s2.1)).toNat) (([], ([], ([], ([], (0, 0))))), ((0, ([], (0, 0))), 0)))).set ((wi64 (first + s2.1)).toNat) (s2.2.getD ((wi64 (first + root)).toNat) (([], ([], ([], ([], (0, 0))))), ((0, ([], (0, 0))), 0)))))))

noncomputable def slices_siftDownCmpFunc_lots_made (lo : Int) (hi : Int) (first : Int) (cmp : (yT0 × (Int × List UInt8 × Int × Int) × Int) × (yT0 × (Int × List UInt8 × Int × Int) × Int) × Unit → Option Int) (data : List (yT0 × (Int × List UInt8 × Int × Int) × Int)) : Option (List (yT0 × (Int × List UInt8 × Int × Int) × Int)) :=
  (iter (fun x => slices_siftDownCmpFunc_lots_made_L0 hi first cmp x.1 x.2) (lo, data)).bind fun s3 =>
  s3.elim (fun s4 =>
   some s4)
  (fun s5 =>
   some s5)

noncomputable def fn_slices_siftDownCmpFunc_lots_made : Fun :=
  { f := 131, np := 5, nr := 0,
    ji := ⟨[(0, .one (.own 0)), (1, ii), (2, ii), (3, ii), (4, .one (.fn [.pair tT0 tT1, .pair tT0 tT1] (.int .i64)))], [], [(0, .arr 90 (.pair tT0 tT1))]⟩,
    jo := ⟨[], [], [(0, .arr 90 (.pair tT0 tT1))]⟩,
    tw := fun x => slices_siftDownCmpFunc_lots_made x.1 x.2.1 x.2.2.1 x.2.2.2.1 x.2.2.2.2 }
noncomputable def cx_slices_siftDownCmpFunc_lots_made : Cx := { Γ := types, ow := [], fs := [], N := 82 }
theorem ok_slices_siftDownCmpFunc_lots_made : FunOk Tryz.prog fn_slices_siftDownCmpFunc_lots_made :=
  FunOk.intro (C := cx_slices_siftDownCmpFunc_lots_made) (p := (nn (mm (.mk [] (some (⟨[(0, .one (.own 0)), (2, kk), (3, kk), (4, kk), (10, ii)], [], [(0, .arr 90 (.pair tT0 tT1))]⟩, [⟨.x 0, ⟨[], [], [(0, .arr 90 (.pair tT0 tT1))]⟩⟩, ⟨.r, ⟨[], [], [(0, .arr 90 (.pair tT0 tT1))]⟩⟩])) (mm (nn (nn (mm (mm (.mk [.join [⟨.n, ⟨[(0, .one (.own 0)), (2, kk), (3, kk), (4, kk), (10, kk), (11, kk), (40, bb)], [], [(0, .arr 90 (.pair tT0 tT1))]⟩⟩]] none .nil .nil) (.mk [.join [⟨.n, ⟨[(0, .one (.own 0)), (2, kk), (3, kk), (4, kk), (10, kk), (11, ii)], [], [(0, .arr 90 (.pair tT0 tT1))]⟩⟩]] none .nil .nil)) .nil))) .nil) .nil) .nil)))
    Tryz.func131 rfl nmr131 rfl rfl rfl rfl types_ok ⟨trivial, trivial⟩ mx (fun x => by kernel_rfl)

noncomputable def slices_heapSortCmpFunc_lots_made_L0 (a : Int) (b : Int) (cmp : (yT0 × (Int × List UInt8 × Int × Int) × Int) × (yT0 × (Int × List UInt8 × Int × Int) × Int) × Unit → Option Int) (i : Int) (data2 : List (yT0 × (Int × List UInt8 × Int × Int) × Int)) : Option ((Int × List (yT0 × (Int × List UInt8 × Int × Int) × Int)) ⊕ (List (yT0 × (Int × List UInt8 × Int × Int) × Int))) :=
  bif decide (0 ≤ i) then (
   (slices_siftDownCmpFunc_lots_made i (wi64 (b - a)) a cmp data2).bind fun r =>
   some (.inl (wi64 (i - 1), r)))
  else (
   some (.inr data2))

noncomputable def slices_heapSortCmpFunc_lots_made_L1 (a : Int) (cmp : (yT0 × (Int × List UInt8 × Int × Int) × Int) × (yT0 × (Int × List UInt8 × Int × Int) × Int) × Unit → Option Int) (i2 : Int) (data3 : List (yT0 × (Int × List UInt8 × Int × Int) × Int)) : Option ((Int × List (yT0 × (Int × List UInt8 × Int × Int) × Int)) ⊕ (List (yT0 × (Int × List UInt8 × Int × Int) × Int))) :=
  bif decide (0 ≤ i2) then (
   gd (inB (wi64 (a + i2)) data3.length) <|
   gd (inB a data3.length) <|
   gd (inB a data3.length) <|
   gd (inB (wi64 (a + i2)) (data3.set a.toNat (data3.getD ((wi64 (a + i2)).toNat) (([], ([], ([], ([], (0, 0))))), ((0, ([], (0, 0))), 0)))).length) <|
   (slices_siftDownCmpFunc_lots_made 0 i2 a cmp ((data3.set a.toNat (data3.getD ((wi64 (a + i2)).toNat) (([], ([], ([], ([], (0, 0))))), ((0, ([], (0, 0))), 0)))).set ((wi64 (a + i2)).toNat) (data3.getD a.toNat (([], ([], ([], ([], (0, 0))))), ((0, ([], (0, 0))), 0))))).bind fun r2 =>
   some (.inl (wi64 (i2 - 1), r2)))
  else (
   some (.inr data3))

noncomputable def slices_heapSortCmpFunc_lots_made (a : Int) (b : Int) (cmp : (yT0 × (Int × List UInt8 × Int × Int) × Int) × (yT0 × (Int × List UInt8 × Int × Int) × Int) × Unit → Option Int) (data : List (yT0 × (Int × List UInt8 × Int × Int) × Int)) : Option (List (yT0 × (Int × List UInt8 × Int × Int) × Int)) :=
  (iter (fun x => slices_heapSortCmpFunc_lots_made_L0 a b cmp x.1 x.2) (wi64 (Int.tdiv (wi64 ((wi64 (b - a)) - 1)) 2), data)).bind fun s =>
  (iter (fun x2 => slices_heapSortCmpFunc_lots_made_L1 a cmp x2.1 x2.2) (wi64 ((wi64 (b - a)) - 1), s)).bind fun s2 =>
  some s2

noncomputable def fn_slices_heapSortCmpFunc_lots_made : Fun :=
  { f := 112, np := 4, nr := 0,
    ji := ⟨[(0, .one (.own 0)), (1, ii), (2, ii), (3, .one (.fn [.pair tT0 tT1, .pair tT0 tT1] (.int .i64)))], [], [(0, .arr 90 (.pair tT0 tT1))]⟩,
    jo := ⟨[], [], [(0, .arr 90 (.pair tT0 tT1))]⟩,
    tw := fun x => slices_heapSortCmpFunc_lots_made x.1 x.2.1 x.2.2.1 x.2.2.2 }
noncomputable def cx_slices_heapSortCmpFunc_lots_made : Cx := { Γ := types, ow := [], fs := [fn_slices_siftDownCmpFunc_lots_made], N := 60 }
theorem ok_slices_heapSortCmpFunc_lots_made : FunOk Tryz.prog fn_slices_heapSortCmpFunc_lots_made :=
  FunOk.intro (C := cx_slices_heapSortCmpFunc_lots_made) (p := (nn (nn (nn (mm (nn (mm (.mk [] (some (⟨[(0, .one (.own 0)), (3, kk), (8, kk), (9, kk), (10, kk), (11, ii)], [], [(0, .arr 90 (.pair tT0 tT1))]⟩, [⟨.x 0, ⟨[(0, .one (.own 0)), (3, kk), (8, kk), (9, kk), (10, kk)], [], [(0, .arr 90 (.pair tT0 tT1))]⟩⟩])) .nil .nil) .nil)) (nn (mm (.mk [] (some (⟨[(0, .one (.own 0)), (3, kk), (8, kk), (9, kk), (12, ii)], [], [(0, .arr 90 (.pair tT0 tT1))]⟩, [⟨.x 2, ⟨[], [], [(0, .arr 90 (.pair tT0 tT1))]⟩⟩])) .nil .nil) .nil)))))))
    Tryz.func112 rfl nmr112 rfl rfl rfl rfl types_ok ⟨⟨ok_slices_siftDownCmpFunc_lots_made, trivial⟩, trivial⟩ mx (fun x => by kernel_rfl)

noncomputable def slices_breakPatternsCmpFunc_lots_made_L0 (a : Int) (b : Int) (r : Int) (idx : Int) (random : Int) (data2 : List (yT0 × (Int × List UInt8 × Int × Int) × Int)) : Option ((Int × Int × List (yT0 × (Int × List UInt8 × Int × Int) × Int)) ⊕ (List (yT0 × (Int × List UInt8 × Int × Int) × Int))) :=
  bif decide (idx ≤ wi64 ((wi64 (a + (wi64 ((wi64 (Int.tdiv (wi64 (b - a)) 4)) * 2)))) + 1)) then (
   (slices_xorshift_Next random).bind fun r2 =>
   Option.bind (α := Int × List (yT0 × (Int × List UInt8 × Int × Int) × Int)) (
     bif decide (wi64 (b - a) ≤ wi64 (bitAnd .u64 r2.1 (wu64 (r - 1)))) then (
      some (wi64 ((wi64 (bitAnd .u64 r2.1 (wu64 (r - 1)))) - (wi64 (b - a))), data2))
     else (
      some (wi64 (bitAnd .u64 r2.1 (wu64 (r - 1))), data2))) fun s =>
   gd (inB (wi64 (a + s.1)) s.2.length) <|
   gd (inB idx s.2.length) <|
   gd (inB idx s.2.length) <|
   gd (inB (wi64 (a + s.1)) (s.2.set idx.toNat (s.2.getD ((wi64 (a + s.1)).toNat) (([], ([], ([], ([], (0, 0))))), ((0, ([], (0, 0))), 0)))).length) <|
   some (.inl (wi64 (idx + 1), r2.2, (s.2.set idx.toNat (s.2.getD ((wi64 (a + s.1)).toNat) (([], ([], ([], ([], (0, 0))))), ((0, ([], (0, 0))), 0)))).set ((wi64 (a + s.1)).toNat) (s.2.getD idx.toNat (([], ([], ([], ([], (0, 0))))), ((0, ([], (0, 0))), 0))))))
  else (
   some (.inr data2))

noncomputable def slices_breakPatternsCmpFunc_lots_made (a : Int) (b : Int) (cmp : (yT0 × (Int × List UInt8 × Int × Int) × Int) × (yT0 × (Int × List UInt8 × Int × Int) × Int) × Unit → Option Int) (data : List (yT0 × (Int × List UInt8 × Int × Int) × Int)) : Option (List (yT0 × (Int × List UInt8 × Int × Int) × Int)) :=
  bif decide (8 ≤ wi64 (b - a)) then (
   (slices_nextPowerOfTwo (wi64 (b - a))).bind fun r =>
   (iter (fun x => slices_breakPatternsCmpFunc_lots_made_L0 a b r x.1 x.2.1 x.2.2) (wi64 ((wi64 (a + (wi64 ((wi64 (Int.tdiv (wi64 (b - a)) 4)) * 2)))) - 1), wu64 (wi64 (b - a)), data)).bind fun s2 =>
   some s2)
  else (
   some data)

noncomputable def fn_slices_breakPatternsCmpFunc_lots_made : Fun :=
  { f := 113, np := 4, nr := 0,
    ji := ⟨[(0, .one (.own 0)), (1, ii), (2, ii), (3, .one (.fn [.pair tT0 tT1, .pair tT0 tT1] (.int .i64)))], [], [(0, .arr 90 (.pair tT0 tT1))]⟩,
    jo := ⟨[], [], [(0, .arr 90 (.pair tT0 tT1))]⟩,
    tw := fun x => slices_breakPatternsCmpFunc_lots_made x.1 x.2.1 x.2.2.1 x.2.2.2 }
noncomputable def cx_slices_breakPatternsCmpFunc_lots_made : Cx := { Γ := types, ow := [], fs := [fn_slices_nextPowerOfTwo, fn_slices_xorshift_Next], N := 67 }
theorem ok_slices_breakPatternsCmpFunc_lots_made : FunOk Tryz.prog fn_slices_breakPatternsCmpFunc_lots_made :=
  FunOk.intro (C := cx_slices_breakPatternsCmpFunc_lots_made) (p := (nn (nn (mm (nn (nn (nn (mm (.mk [] (some (⟨[(0, .one (.own 0)), (1, kk), (8, kk), (9, .one (.ptr 160 0)), (10, kk), (11, ii)], [(160, 161, [.data (.int .u64)])], [(0, .arr 90 (.pair tT0 tT1))]⟩, [⟨.x 0, ⟨[], [], [(0, .arr 90 (.pair tT0 tT1))]⟩⟩])) (nn (mm (mm (nn (mm (nn (.mk [.join [⟨.n, ⟨[(0, .one (.own 0)), (1, kk), (8, kk), (9, .one (.ptr 160 0)), (10, kk), (11, kk), (12, ii)], [(160, 161, [.keep])], [(0, .arr 90 (.pair tT0 tT1))]⟩⟩]] none .nil .nil)) .nil)) .nil) .nil)) .nil) .nil)))) .nil))))
    Tryz.func113 rfl nmr113 rfl rfl rfl rfl types_ok ⟨⟨ok_slices_nextPowerOfTwo, ok_slices_xorshift_Next, trivial⟩, trivial⟩ mx (fun x => by kernel_rfl)

noncomputable def slices_order2CmpFunc_lots_made (data : List (yT0 × (Int × List UInt8 × Int × Int) × Int)) (a : Int) (b : Int) (cmp : (yT0 × (Int × List UInt8 × Int × Int) × Int) × (yT0 × (Int × List UInt8 × Int × Int) × Int) × Unit → Option Int) (swaps : Int) : Option (Int × Int × Int) :=
  gd (inB b data.length) <|
  gd (inB a data.length) <|
  (cmp (data.getD b.toNat (([], ([], ([], ([], (0, 0))))), ((0, ([], (0, 0))), 0)), data.getD a.toNat (([], ([], ([], ([], (0, 0))))), ((0, ([], (0, 0))), 0)), ())).bind fun r =>
  bif decide (r < 0) then (
   some (b, a, wi64 (swaps + 1)))
  else (
   some (a, b, swaps))

noncomputable def fn_slices_order2CmpFunc_lots_made : Fun :=
  { f := 139, np := 5, nr := 2,
    ji := ⟨[(0, .one (.data (.sl (.pair tT0 tT1)))), (1, ii), (2, ii), (3, .one (.ptr 0 0)), (4, .one (.fn [.pair tT0 tT1, .pair tT0 tT1] (.int .i64)))], [(0, 3, [.data (.int .i64)])], []⟩,
    jo := ⟨[(0, ii), (1, ii)], [(0, 3, [.data (.int .i64)])], []⟩,
    tw := fun x => slices_order2CmpFunc_lots_made x.1 x.2.1 x.2.2.1 x.2.2.2.1 x.2.2.2.2 }
noncomputable def cx_slices_order2CmpFunc_lots_made : Cx := { Γ := types, ow := [], fs := [], N := 32 }
theorem ok_slices_order2CmpFunc_lots_made : FunOk Tryz.prog fn_slices_order2CmpFunc_lots_made :=
  FunOk.intro (C := cx_slices_order2CmpFunc_lots_made) (p := .nil)
    Tryz.func139 rfl nmr139 rfl rfl rfl rfl types_ok ⟨trivial, trivial⟩ mx (fun x => by kernel_rfl)

noncomputable def slices_medianCmpFunc_lots_made (data : List (yT0 × (Int × List UInt8 × Int × Int) × Int)) (a : Int) (b : Int) (c : Int) (cmp : (yT0 × (Int × List UInt8 × Int × Int) × Int) × (yT0 × (Int × List UInt8 × Int × Int) × Int) × Unit → Option Int) (swaps : Int) : Option (Int × Int) :=
  (slices_order2CmpFunc_lots_made data a b cmp swaps).bind fun r =>
  (slices_order2CmpFunc_lots_made data r.2.1 c cmp r.2.2).bind fun r2 =>
  (slices_order2CmpFunc_lots_made data r.1 r2.1 cmp r2.2.2).bind fun r3 =>
  some (r3.2.1, r3.2.2)

noncomputable def fn_slices_medianCmpFunc_lots_made : Fun :=
  { f := 135, np := 6, nr := 1,
    ji := ⟨[(0, .one (.data (.sl (.pair tT0 tT1)))), (1, ii), (2, ii), (3, ii), (4, .one (.ptr 0 0)), (5, .one (.fn [.pair tT0 tT1, .pair tT0 tT1] (.int .i64)))], [(0, 3, [.data (.int .i64)])], []⟩,
    jo := ⟨[(0, ii)], [(0, 3, [.data (.int .i64)])], []⟩,
    tw := fun x => slices_medianCmpFunc_lots_made x.1 x.2.1 x.2.2.1 x.2.2.2.1 x.2.2.2.2.1 x.2.2.2.2.2 }
noncomputable def cx_slices_medianCmpFunc_lots_made : Cx := { Γ := types, ow := [], fs := [fn_slices_order2CmpFunc_lots_made], N := 41 }
theorem ok_slices_medianCmpFunc_lots_made : FunOk Tryz.prog fn_slices_medianCmpFunc_lots_made :=
  FunOk.intro (C := cx_slices_medianCmpFunc_lots_made) (p := .nil)
    Tryz.func135 rfl nmr135 rfl rfl rfl rfl types_ok ⟨⟨ok_slices_order2CmpFunc_lots_made, trivial⟩, trivial⟩ mx (fun x => by kernel_rfl)

noncomputable def slices_medianAdjacentCmpFunc_lots_made (data : List (yT0 × (Int × List UInt8 × Int × Int) × Int)) (a : Int) (cmp : (yT0 × (Int × List UInt8 × Int × Int) × Int) × (yT0 × (Int × List UInt8 × Int × Int) × Int) × Unit → Option Int) (swaps : Int) : Option (Int × Int) :=
  (slices_medianCmpFunc_lots_made data (wi64 (a - 1)) a (wi64 (a + 1)) cmp swaps).bind fun r =>
  some (r.1, r.2)

noncomputable def fn_slices_medianAdjacentCmpFunc_lots_made : Fun :=
  { f := 134, np := 4, nr := 1,
    ji := ⟨[(0, .one (.data (.sl (.pair tT0 tT1)))), (1, ii), (2, .one (.ptr 0 0)), (3, .one (.fn [.pair tT0 tT1, .pair tT0 tT1] (.int .i64)))], [(0, 3, [.data (.int .i64)])], []⟩,
    jo := ⟨[(0, ii)], [(0, 3, [.data (.int .i64)])], []⟩,
    tw := fun x => slices_medianAdjacentCmpFunc_lots_made x.1 x.2.1 x.2.2.1 x.2.2.2 }
noncomputable def cx_slices_medianAdjacentCmpFunc_lots_made : Cx := { Γ := types, ow := [], fs := [fn_slices_medianCmpFunc_lots_made], N := 18 }
theorem ok_slices_medianAdjacentCmpFunc_lots_made : FunOk Tryz.prog fn_slices_medianAdjacentCmpFunc_lots_made :=
  FunOk.intro (C := cx_slices_medianAdjacentCmpFunc_lots_made) (p := .nil)
    Tryz.func134 rfl nmr134 rfl rfl rfl rfl types_ok ⟨⟨ok_slices_medianCmpFunc_lots_made, trivial⟩, trivial⟩ mx (fun x => by kernel_rfl)

noncomputable def slices_choosePivotCmpFunc_lots_made (data : List (yT0 × (Int × List UInt8 × Int × Int) × Int)) (a : Int) (b : Int) (cmp : (yT0 × (Int × List UInt8 × Int × Int) × Int) × (yT0 × (Int × List UInt8 × Int × Int) × Int) × Unit → Option Int) : Option (Int × Int) :=
  Option.bind (α := Int × Int) (
    bif decide (8 ≤ wi64 (b - a)) then (
     Option.bind (α := Int × Int × Int × Int) (
       bif decide (50 ≤ wi64 (b - a)) then (
        (slices_medianAdjacentCmpFunc_lots_made data (wi64 (a + (wi64 ((wi64 (Int.tdiv (wi64 (b - a)) 4)) * 1)))) cmp 0).bind fun r =>
        (slices_medianAdjacentCmpFunc_lots_made data (wi64 (a + (wi64 ((wi64 (Int.tdiv (wi64 (b - a)) 4)) * 2)))) cmp r.2).bind fun r2 =>
        (slices_medianAdjacentCmpFunc_lots_made data (wi64 (a + (wi64 ((wi64 (Int.tdiv (wi64 (b - a)) 4)) * 3)))) cmp r2.2).bind fun r3 =>
        some (r.1, r2.1, r3.1, r3.2))
       else (
        some (wi64 (a + (wi64 ((wi64 (Int.tdiv (wi64 (b - a)) 4)) * 1))), wi64 (a + (wi64 ((wi64 (Int.tdiv (wi64 (b - a)) 4)) * 2))), wi64 (a + (wi64 ((wi64 (Int.tdiv (wi64 (b - a)) 4)) * 3))), 0))) fun s =>
     (slices_medianCmpFunc_lots_made data s.1 s.2.1 s.2.2.1 cmp s.2.2.2).bind fun r4 =>
     some (r4.1, r4.2))
    else (
     some (wi64 (a + (wi64 ((wi64 (Int.tdiv (wi64 (b - a)) 4)) * 2))), 0))) fun s2 =>
  bif decide (s2.2 = 0) then (
   some (s2.1, 1))
  else (
   bif decide (s2.2 = 12) then (
    some (s2.1, 2))
   else (
    some (s2.1, 0)))

noncomputable def fn_slices_choosePivotCmpFunc_lots_made : Fun :=
  { f := 114, np := 4, nr := 2,
    ji := ⟨[(0, .one (.data (.sl (.pair tT0 tT1)))), (1, ii), (2, ii), (3, .one (.fn [.pair tT0 tT1, .pair tT0 tT1] (.int .i64)))], [], []⟩,
    jo := ⟨[(0, ii), (1, ii)], [], []⟩,
    tw := fun x => slices_choosePivotCmpFunc_lots_made x.1 x.2.1 x.2.2.1 x.2.2.2 }
noncomputable def cx_slices_choosePivotCmpFunc_lots_made : Cx := { Γ := types, ow := [], fs := [fn_slices_medianAdjacentCmpFunc_lots_made, fn_slices_medianCmpFunc_lots_made], N := 63 }
theorem ok_slices_choosePivotCmpFunc_lots_made : FunOk Tryz.prog fn_slices_choosePivotCmpFunc_lots_made :=
  FunOk.intro (C := cx_slices_choosePivotCmpFunc_lots_made) (p := (nn (nn (nn (nn (nn (nn (mm (nn (.mk [.join [⟨.n, ⟨[(11, .one (.ptr 192 0)), (13, ii)], [(192, 3, [.data (.int .i64)])], []⟩⟩]] none (mm (nn (.mk [.join [⟨.n, ⟨[(0, kk), (3, kk), (11, .one (.ptr 192 0)), (12, ii), (13, ii), (14, ii)], [(192, 3, [.data (.int .i64)])], []⟩⟩]] none .nil .nil)) .nil) .nil)) .nil))))))))
    Tryz.func114 rfl nmr114 rfl rfl rfl rfl types_ok ⟨⟨ok_slices_medianAdjacentCmpFunc_lots_made, ok_slices_medianCmpFunc_lots_made, trivial⟩, trivial⟩ mx (fun x => by kernel_rfl)

noncomputable def slices_reverseRangeCmpFunc_lots_made_L0 (i : Int) (j : Int) (data2 : List (yT0 × (Int × List UInt8 × Int × Int) × Int)) : Option ((Int × Int × List (yT0 × (Int × List UInt8 × Int × Int) × Int)) ⊕ (List (yT0 × (Int × List UInt8 × Int × Int) × Int))) :=
  bif decide (i < j) then (
   gd (inB j data2.length) <|
   gd (inB i data2.length) <|
   gd (inB i data2.length) <|
   gd (inB j (data2.set i.toNat (data2.getD j.toNat (([], ([], ([], ([], (0, 0))))), ((0, ([], (0, 0))), 0)))).length) <|
   some (.inl (wi64 (i + 1), wi64 (j - 1), (data2.set i.toNat (data2.getD j.toNat (([], ([], ([], ([], (0, 0))))), ((0, ([], (0, 0))), 0)))).set j.toNat (data2.getD i.toNat (([], ([], ([], ([], (0, 0))))), ((0, ([], (0, 0))), 0))))))
  else (
   some (.inr data2))

noncomputable def slices_reverseRangeCmpFunc_lots_made (a : Int) (b : Int) (cmp : (yT0 × (Int × List UInt8 × Int × Int) × Int) × (yT0 × (Int × List UInt8 × Int × Int) × Int) × Unit → Option Int) (data : List (yT0 × (Int × List UInt8 × Int × Int) × Int)) : Option (List (yT0 × (Int × List UInt8 × Int × Int) × Int)) :=
  (iter (fun x => slices_reverseRangeCmpFunc_lots_made_L0 x.1 x.2.1 x.2.2) (a, wi64 (b - 1), data)).bind fun s =>
  some s

noncomputable def fn_slices_reverseRangeCmpFunc_lots_made : Fun :=
  { f := 115, np := 4, nr := 0,
    ji := ⟨[(0, .one (.own 0)), (1, ii), (2, ii), (3, .one (.fn [.pair tT0 tT1, .pair tT0 tT1] (.int .i64)))], [], [(0, .arr 90 (.pair tT0 tT1))]⟩,
    jo := ⟨[], [], [(0, .arr 90 (.pair tT0 tT1))]⟩,
    tw := fun x => slices_reverseRangeCmpFunc_lots_made x.1 x.2.1 x.2.2.1 x.2.2.2 }
noncomputable def cx_slices_reverseRangeCmpFunc_lots_made : Cx := { Γ := types, ow := [], fs := [], N := 34 }
theorem ok_slices_reverseRangeCmpFunc_lots_made : FunOk Tryz.prog fn_slices_reverseRangeCmpFunc_lots_made :=
  FunOk.intro (C := cx_slices_reverseRangeCmpFunc_lots_made) (p := (nn (nn (mm (.mk [] (some (⟨[(0, .one (.own 0)), (8, ii), (9, ii)], [], [(0, .arr 90 (.pair tT0 tT1))]⟩, [⟨.x 0, ⟨[], [], [(0, .arr 90 (.pair tT0 tT1))]⟩⟩])) .nil .nil) .nil))))
    Tryz.func115 rfl nmr115 rfl rfl rfl rfl types_ok ⟨trivial, trivial⟩ mx (fun x => by kernel_rfl)

noncomputable def slices_partialInsertionSortCmpFunc_lots_made_L1 (b : Int) (cmp : (yT0 × (Int × List UInt8 × Int × Int) × Int) × (yT0 × (Int × List UInt8 × Int × Int) × Int) × Unit → Option Int) (i2 : Int) (data3 : List (yT0 × (Int × List UInt8 × Int × Int) × Int)) : Option ((Int × List (yT0 × (Int × List UInt8 × Int × Int) × Int)) ⊕ (Int × List (yT0 × (Int × List UInt8 × Int × Int) × Int))) :=
  Option.bind (α := Bool × List (yT0 × (Int × List UInt8 × Int × Int) × Int)) (
    bif decide (i2 < b) then (
     gd (inB i2 data3.length) <|
     gd (inB (wi64 (i2 - 1)) data3.length) <|
     (cmp (data3.getD i2.toNat (([], ([], ([], ([], (0, 0))))), ((0, ([], (0, 0))), 0)), data3.getD ((wi64 (i2 - 1)).toNat) (([], ([], ([], ([], (0, 0))))), ((0, ([], (0, 0))), 0)), ())).bind fun r =>
     some ((!(decide (r < 0))), data3))
    else (
     some (false, data3))) fun s =>
  bif s.1 then (
   some (.inl (wi64 (i2 + 1), s.2)))
  else (
   some (.inr (i2, s.2)))

noncomputable def slices_partialInsertionSortCmpFunc_lots_made_L2 (cmp : (yT0 × (Int × List UInt8 × Int × Int) × Int) × (yT0 × (Int × List UInt8 × Int × Int) × Int) × Unit → Option Int) (j2 : Int) (data4 : List (yT0 × (Int × List UInt8 × Int × Int) × Int)) : Option ((Int × List (yT0 × (Int × List UInt8 × Int × Int) × Int)) ⊕ (List (yT0 × (Int × List UInt8 × Int × Int) × Int))) :=
  bif decide (1 ≤ j2) then (
   gd (inB j2 data4.length) <|
   gd (inB (wi64 (j2 - 1)) data4.length) <|
   (cmp (data4.getD j2.toNat (([], ([], ([], ([], (0, 0))))), ((0, ([], (0, 0))), 0)), data4.getD ((wi64 (j2 - 1)).toNat) (([], ([], ([], ([], (0, 0))))), ((0, ([], (0, 0))), 0)), ())).bind fun r2 =>
   bif !(decide (r2 < 0)) then (
    some (.inr data4))
   else (
    gd (inB (wi64 (j2 - 1)) data4.length) <|
    gd (inB j2 data4.length) <|
    gd (inB j2 data4.length) <|
    gd (inB (wi64 (j2 - 1)) (data4.set j2.toNat (data4.getD ((wi64 (j2 - 1)).toNat) (([], ([], ([], ([], (0, 0))))), ((0, ([], (0, 0))), 0)))).length) <|
    some (.inl (wi64 (j2 - 1), (data4.set j2.toNat (data4.getD ((wi64 (j2 - 1)).toNat) (([], ([], ([], ([], (0, 0))))), ((0, ([], (0, 0))), 0)))).set ((wi64 (j2 - 1)).toNat) (data4.getD j2.toNat (([], ([], ([], ([], (0, 0))))), ((0, ([], (0, 0))), 0)))))))
  else (
   some (.inr data4))

noncomputable def slices_partialInsertionSortCmpFunc_lots_made_L3 (b : Int) (cmp : (yT0 × (Int × List UInt8 × Int × Int) × Int) × (yT0 × (Int × List UInt8 × Int × Int) × Int) × Unit → Option Int) (j3 : Int) (data5 : List (yT0 × (Int × List UInt8 × Int × Int) × Int)) : Option ((Int × List (yT0 × (Int × List UInt8 × Int × Int) × Int)) ⊕ (List (yT0 × (Int × List UInt8 × Int × Int) × Int))) :=
  bif decide (j3 < b) then (
   gd (inB j3 data5.length) <|
   gd (inB (wi64 (j3 - 1)) data5.length) <|
   (cmp (data5.getD j3.toNat (([], ([], ([], ([], (0, 0))))), ((0, ([], (0, 0))), 0)), data5.getD ((wi64 (j3 - 1)).toNat) (([], ([], ([], ([], (0, 0))))), ((0, ([], (0, 0))), 0)), ())).bind fun r3 =>
   bif !(decide (r3 < 0)) then (
    some (.inr data5))
   else (
    gd (inB (wi64 (j3 - 1)) data5.length) <|
    gd (inB j3 data5.length) <|
    gd (inB j3 data5.length) <|
    gd (inB (wi64 (j3 - 1)) (data5.set j3.toNat (data5.getD ((wi64 (j3 - 1)).toNat) (([], ([], ([], ([], (0, 0))))), ((0, ([], (0, 0))), 0)))).length) <|
    some (.inl (wi64 (j3 + 1), (data5.set j3.toNat (data5.getD ((wi64 (j3 - 1)).toNat) (([], ([], ([], ([], (0, 0))))), ((0, ([], (0, 0))), 0)))).set ((wi64 (j3 - 1)).toNat) (data5.getD j3.toNat (([], ([], ([], ([], (0, 0))))), ((0, ([], (0, 0))), 0)))))))
  else (
   some (.inr data5))

noncomputable def slices_partialInsertionSortCmpFunc_lots_made_L0 (a : Int) (b : Int) (cmp : (yT0 × (Int × List UInt8 × Int × Int) × Int) × (yT0 × (Int × List UInt8 × Int × Int) × Int) × Unit → Option Int) (i : Int) (j : Int) (data2 : List (yT0 × (Int × List UInt8 × Int × Int) × Int)) : Option ((Int × Int × List (yT0 × (Int × List UInt8 × Int × Int) × Int)) ⊕ ((List (yT0 × (Int × List UInt8 × Int × Int) × Int)) ⊕ (Bool × List (yT0 × (Int × List UInt8 × Int × Int) × Int)))) :=
  bif decide (j < 5) then (
   (iter (fun x => slices_partialInsertionSortCmpFunc_lots_made_L1 b cmp x.1 x.2) (i, data2)).bind fun s2 =>
   bif decide (s2.1 = b) then (
    some (.inr (.inr (true, s2.2))))
   else (
    bif decide (wi64 (b - a) < 50) then (
     some (.inr (.inr (false, s2.2))))
    else (
     gd (inB (wi64 (s2.1 - 1)) s2.2.length) <|
     gd (inB s2.1 s2.2.length) <|
     gd (inB s2.1 s2.2.length) <|
     gd (inB (wi64 (s2.1 - 1)) (s2.2.set s2.1.toNat (s2.2.getD ((wi64 (s2.1 - 1)).toNat) (([], ([], ([], ([], (0, 0))))), ((0, ([], (0, 0))), 0)))).length) <|
     Option.bind (α := List (yT0 × (Int × List UInt8 × Int × Int) × Int)) (
       bif decide (2 ≤ wi64 (s2.1 - a)) then (
        (iter (fun x2 => slices_partialInsertionSortCmpFunc_lots_made_L2 cmp x2.1 x2.2) (wi64 (s2.1 - 1), (s2.2.set s2.1.toNat (s2.2.getD ((wi64 (s2.1 - 1)).toNat) (([], ([], ([], ([], (0, 0))))), ((0, ([], (0, 0))), 0)))).set ((wi64 (s2.1 - 1)).toNat) (s2.2.getD s2.1.toNat (([], ([], ([], ([], (0, 0))))), ((0, ([], (0, 0))), 0))))).bind fun s3 =>
        some s3)
       else (
        some ((s2.2.set s2.1.toNat (s2.2.getD ((wi64 (s2.1 - 1)).toNat) (([], ([], ([], ([], (0, 0))))), ((0, ([], (0, 0))), 0)))).set ((wi64 (s2.1 - 1)).toNat) (s2.2.getD s2.1.toNat (([], ([], ([], ([], (0, 0))))), ((0, ([], (0, 0))), 0)))))) fun s4 =>
     Option.bind (α := List (yT0 × (Int × List UInt8 × Int × Int) × Int)) (
       bif decide (2 ≤ wi64 (b - s2.1)) then (
        (iter (fun x3 => slices_partialInsertionSortCmpFunc_lots_made_L3 b cmp x3.1 x3.2) (wi64 (s2.1 + 1), s4)).bind fun s5 =>
        some s5)
       else (
        some s4)) fun s6 =>
     some (.inl (s2.1, wi64 (j + 1), s6)))))
  else (
   some (.inr (.inl data2)))

noncomputable def slices_partialInsertionSortCmpFunc_lots_made (a : Int) (b : Int) (cmp : (yT0 × (Int × List UInt8 × Int × Int) × Int) × (yT0 × (Int × List UInt8 × Int × Int) × Int) × Unit → Option Int) (data : List (yT0 × (Int × List UInt8 × Int × Int) × Int)) : Option (Bool × List (yT0 × (Int × List UInt8 × Int × Int) × Int)) :=
  (iter (fun x4 => slices_partialInsertionSortCmpFunc_lots_made_L0 a b cmp x4.1 x4.2.1 x4.2.2) (wi64 (a + 1), 0, data)).bind fun s7 =>
  s7.elim (fun s8 =>
   some (false, s8))
  (fun s9 =>
   some (s9.1, s9.2))

noncomputable def fn_slices_partialInsertionSortCmpFunc_lots_made : Fun :=
  { f := 116, np := 4, nr := 1,
    ji := ⟨[(0, .one (.own 0)), (1, ii), (2, ii), (3, .one (.fn [.pair tT0 tT1, .pair tT0 tT1] (.int .i64)))], [], [(0, .arr 90 (.pair tT0 tT1))]⟩,
    jo := ⟨[(0, bb)], [], [(0, .arr 90 (.pair tT0 tT1))]⟩,
    tw := fun x => slices_partialInsertionSortCmpFunc_lots_made x.1 x.2.1 x.2.2.1 x.2.2.2 }
noncomputable def cx_slices_partialInsertionSortCmpFunc_lots_made : Cx := { Γ := types, ow := [], fs := [], N := 141 }
theorem ok_slices_partialInsertionSortCmpFunc_lots_made : FunOk Tryz.prog fn_slices_partialInsertionSortCmpFunc_lots_made :=
  FunOk.intro (C := cx_slices_partialInsertionSortCmpFunc_lots_made) (p := (nn (nn (mm (nn (mm (.mk [] (some (⟨[(0, .one (.own 0)), (1, kk), (2, kk), (3, kk), (9, ii), (10, ii)], [], [(0, .arr 90 (.pair tT0 tT1))]⟩, [⟨.x 0, ⟨[], [], [(0, .arr 90 (.pair tT0 tT1))]⟩⟩, ⟨.r, ⟨[(8, bb)], [], [(0, .arr 90 (.pair tT0 tT1))]⟩⟩])) (nn (mm (mm (mm (mm (.mk [] (some (⟨[(0, .one (.own 0)), (1, kk), (2, kk), (3, kk), (9, ii), (10, kk)], [], [(0, .arr 90 (.pair tT0 tT1))]⟩, [⟨.x 2, ⟨[(0, .one (.own 0)), (1, kk), (2, kk), (3, kk), (9, ii), (10, kk)], [], [(0, .arr 90 (.pair tT0 tT1))]⟩⟩])) (mm (mm (.mk [.join [⟨.n, ⟨[(0, .one (.own 0)), (1, kk), (2, kk), (3, kk), (9, kk), (10, kk), (36, bb)], [], [(0, .arr 90 (.pair tT0 tT1))]⟩⟩]] none .nil .nil) .nil) .nil) .nil) .nil) (nn (nn (nn (mm (nn (.mk [.join [⟨.n, ⟨[(0, .one (.own 0)), (1, kk), (2, kk), (3, kk), (9, kk), (10, kk)], [], [(0, .arr 90 (.pair tT0 tT1))]⟩⟩]] none (nn (mm (.mk [] (some (⟨[(0, .one (.own 0)), (1, kk), (2, kk), (3, kk), (9, kk), (10, kk), (11, ii)], [], [(0, .arr 90 (.pair tT0 tT1))]⟩, [⟨.x 4, ⟨[(0, .one (.own 0)), (1, kk), (2, kk), (3, kk), (9, kk), (10, kk)], [], [(0, .arr 90 (.pair tT0 tT1))]⟩⟩])) .nil .nil) .nil)) .nil)) (nn (.mk [.join [⟨.n, ⟨[(0, .one (.own 0)), (1, kk), (2, kk), (3, kk), (9, kk), (10, kk)], [], [(0, .arr 90 (.pair tT0 tT1))]⟩⟩]] none (nn (mm (.mk [] (some (⟨[(0, .one (.own 0)), (1, kk), (2, kk), (3, kk), (9, kk), (10, kk), (12, ii)], [], [(0, .arr 90 (.pair tT0 tT1))]⟩, [⟨.x 6, ⟨[(0, .one (.own 0)), (1, kk), (2, kk), (3, kk), (9, kk), (10, kk)], [], [(0, .arr 90 (.pair tT0 tT1))]⟩⟩])) .nil .nil) .nil)) .nil))))))) .nil) .nil)) .nil) .nil)) .nil))))
    Tryz.func116 rfl nmr116 rfl rfl rfl rfl types_ok ⟨trivial, trivial⟩ mx (fun x => by kernel_rfl)

noncomputable def slices_partitionEqualCmpFunc_lots_made_L1 (a : Int) (cmp : (yT0 × (Int × List UInt8 × Int × Int) × Int) × (yT0 × (Int × List UInt8 × Int × Int) × Int) × Unit → Option Int) (j : Int) (i2 : Int) (data3 : List (yT0 × (Int × List UInt8 × Int × Int) × Int)) : Option ((Int × List (yT0 × (Int × List UInt8 × Int × Int) × Int)) ⊕ (Int × List (yT0 × (Int × List UInt8 × Int × Int) × Int))) :=
  Option.bind (α := Bool × List (yT0 × (Int × List UInt8 × Int × Int) × Int)) (
    bif decide (i2 ≤ j) then (
     gd (inB a data3.length) <|
     gd (inB i2 data3.length) <|
     (cmp (data3.getD a.toNat (([], ([], ([], ([], (0, 0))))), ((0, ([], (0, 0))), 0)), data3.getD i2.toNat (([], ([], ([], ([], (0, 0))))), ((0, ([], (0, 0))), 0)), ())).bind fun r =>
     some ((!(decide (r < 0))), data3))
    else (
     some (false, data3))) fun s =>
  bif s.1 then (
   some (.inl (wi64 (i2 + 1), s.2)))
  else (
   some (.inr (i2, s.2)))

noncomputable def slices_partitionEqualCmpFunc_lots_made_L2 (a : Int) (cmp : (yT0 × (Int × List UInt8 × Int × Int) × Int) × (yT0 × (Int × List UInt8 × Int × Int) × Int) × Unit → Option Int) (s2 : Int × List (yT0 × (Int × List UInt8 × Int × Int) × Int)) (j2 : Int) (data4 : List (yT0 × (Int × List UInt8 × Int × Int) × Int)) : Option ((Int × List (yT0 × (Int × List UInt8 × Int × Int) × Int)) ⊕ (Int × List (yT0 × (Int × List UInt8 × Int × Int) × Int))) :=
  Option.bind (α := Bool × List (yT0 × (Int × List UInt8 × Int × Int) × Int)) (
    bif decide (s2.1 ≤ j2) then (
     gd (inB a data4.length) <|
     gd (inB j2 data4.length) <|
     (cmp (data4.getD a.toNat (([], ([], ([], ([], (0, 0))))), ((0, ([], (0, 0))), 0)), data4.getD j2.toNat (([], ([], ([], ([], (0, 0))))), ((0, ([], (0, 0))), 0)), ())).bind fun r2 =>
     some (decide (r2 < 0), data4))
    else (
     some (false, data4))) fun s3 =>
  bif s3.1 then (
   some (.inl (wi64 (j2 - 1), s3.2)))
  else (
   some (.inr (j2, s3.2)))

noncomputable def slices_partitionEqualCmpFunc_lots_made_L0 (a : Int) (cmp : (yT0 × (Int × List UInt8 × Int × Int) × Int) × (yT0 × (Int × List UInt8 × Int × Int) × Int) × Unit → Option Int) (i : Int) (j : Int) (data2 : List (yT0 × (Int × List UInt8 × Int × Int) × Int)) : Option ((Int × Int × List (yT0 × (Int × List UInt8 × Int × Int) × Int)) ⊕ (Int × List (yT0 × (Int × List UInt8 × Int × Int) × Int))) :=
  (iter (fun x => slices_partitionEqualCmpFunc_lots_made_L1 a cmp j x.1 x.2) (i, data2)).bind fun s2 =>
  (iter (fun x2 => slices_partitionEqualCmpFunc_lots_made_L2 a cmp s2 x2.1 x2.2) (j, s2.2)).bind fun s4 =>
  bif decide (s4.1 < s2.1) then (
   some (.inr (s2.1, s4.2)))
  else (
   gd (inB s4.1 s4.2.length) <|
   gd (inB s2.1 s4.2.length) <|
   gd (inB s2.1 s4.2.length) <|
   gd (inB s4.1 (s4.2.set s2.1.toNat (s4.2.getD s4.1.toNat (([], ([], ([], ([], (0, 0))))), ((0, ([], (0, 0))), 0)))).length) <|
   some (.inl (wi64 (s2.1 + 1), wi64 (s4.1 - 1), (s4.2.set s2.1.toNat (s4.2.getD s4.1.toNat (([], ([], ([], ([], (0, 0))))), ((0, ([], (0, 0))), 0)))).set s4.1.toNat (s4.2.getD s2.1.toNat (([], ([], ([], ([], (0, 0))))), ((0, ([], (0, 0))), 0))))))

noncomputable def slices_partitionEqualCmpFunc_lots_made (a : Int) (b : Int) (pivot : Int) (cmp : (yT0 × (Int × List UInt8 × Int × Int) × Int) × (yT0 × (Int × List UInt8 × Int × Int) × Int) × Unit → Option Int) (data : List (yT0 × (Int × List UInt8 × Int × Int) × Int)) : Option (Int × List (yT0 × (Int × List UInt8 × Int × Int) × Int)) :=
  gd (inB pivot data.length) <|
  gd (inB a data.length) <|
  gd (inB a data.length) <|
  gd (inB pivot (data.set a.toNat (data.getD pivot.toNat (([], ([], ([], ([], (0, 0))))), ((0, ([], (0, 0))), 0)))).length) <|
  (iter (fun x3 => slices_partitionEqualCmpFunc_lots_made_L0 a cmp x3.1 x3.2.1 x3.2.2) (wi64 (a + 1), wi64 (b - 1), (data.set a.toNat (data.getD pivot.toNat (([], ([], ([], ([], (0, 0))))), ((0, ([], (0, 0))), 0)))).set pivot.toNat (data.getD a.toNat (([], ([], ([], ([], (0, 0))))), ((0, ([], (0, 0))), 0))))).bind fun s5 =>
  some (s5.1, s5.2)

noncomputable def fn_slices_partitionEqualCmpFunc_lots_made : Fun :=
  { f := 117, np := 5, nr := 1,
    ji := ⟨[(0, .one (.own 0)), (1, ii), (2, ii), (3, ii), (4, .one (.fn [.pair tT0 tT1, .pair tT0 tT1] (.int .i64)))], [], [(0, .arr 90 (.pair tT0 tT1))]⟩,
    jo := ⟨[(0, ii)], [], [(0, .arr 90 (.pair tT0 tT1))]⟩,
    tw := fun x => slices_partitionEqualCmpFunc_lots_made x.1 x.2.1 x.2.2.1 x.2.2.2.1 x.2.2.2.2 }
noncomputable def cx_slices_partitionEqualCmpFunc_lots_made : Cx := { Γ := types, ow := [], fs := [], N := 90 }
theorem ok_slices_partitionEqualCmpFunc_lots_made : FunOk Tryz.prog fn_slices_partitionEqualCmpFunc_lots_made :=
  FunOk.intro (C := cx_slices_partitionEqualCmpFunc_lots_made) (p := (nn (nn (nn (mm (mm (.mk [] (some (⟨[(0, .one (.own 0)), (1, kk), (4, kk), (11, ii), (12, ii)], [], [(0, .arr 90 (.pair tT0 tT1))]⟩, [⟨.x 0, ⟨[(11, ii)], [], [(0, .arr 90 (.pair tT0 tT1))]⟩⟩])) (mm (mm (mm (.mk [] (some (⟨[(0, .one (.own 0)), (1, kk), (4, kk), (11, ii), (12, kk)], [], [(0, .arr 90 (.pair tT0 tT1))]⟩, [⟨.x 2, ⟨[(0, .one (.own 0)), (1, kk), (4, kk), (11, ii), (12, kk)], [], [(0, .arr 90 (.pair tT0 tT1))]⟩⟩])) (mm (mm (.mk [.join [⟨.n, ⟨[(0, .one (.own 0)), (1, kk), (4, kk), (11, kk), (12, kk), (47, bb)], [], [(0, .arr 90 (.pair tT0 tT1))]⟩⟩]] none .nil .nil) .nil) .nil) .nil) .nil) (mm (mm (.mk [] (some (⟨[(0, .one (.own 0)), (1, kk), (4, kk), (11, kk), (12, ii)], [], [(0, .arr 90 (.pair tT0 tT1))]⟩, [⟨.x 4, ⟨[(0, .one (.own 0)), (1, kk), (4, kk), (11, kk), (12, ii)], [], [(0, .arr 90 (.pair tT0 tT1))]⟩⟩])) (mm (mm (.mk [.join [⟨.n, ⟨[(0, .one (.own 0)), (1, kk), (4, kk), (11, kk), (12, kk), (65, bb)], [], [(0, .arr 90 (.pair tT0 tT1))]⟩⟩]] none .nil .nil) .nil) .nil) .nil) .nil) .nil)) .nil) .nil) .nil) .nil)))))
    Tryz.func117 rfl nmr117 rfl rfl rfl rfl types_ok ⟨trivial, trivial⟩ mx (fun x => by kernel_rfl)

noncomputable def slices_partitionCmpFunc_lots_made_L0 (a : Int) (b : Int) (cmp : (yT0 × (Int × List UInt8 × Int × Int) × Int) × (yT0 × (Int × List UInt8 × Int × Int) × Int) × Unit → Option Int) (i : Int) (data2 : List (yT0 × (Int × List UInt8 × Int × Int) × Int)) : Option ((Int × List (yT0 × (Int × List UInt8 × Int × Int) × Int)) ⊕ (Int × List (yT0 × (Int × List UInt8 × Int × Int) × Int))) :=
  Option.bind (α := Bool × List (yT0 × (Int × List UInt8 × Int × Int) × Int)) (
    bif decide (i ≤ wi64 (b - 1)) then (
     gd (inB i data2.length) <|
     gd (inB a data2.length) <|
     (cmp (data2.getD i.toNat (([], ([], ([], ([], (0, 0))))), ((0, ([], (0, 0))), 0)), data2.getD a.toNat (([], ([], ([], ([], (0, 0))))), ((0, ([], (0, 0))), 0)), ())).bind fun r =>
     some (decide (r < 0), data2))
    else (
     some (false, data2))) fun s =>
  bif s.1 then (
   some (.inl (wi64 (i + 1), s.2)))
  else (
   some (.inr (i, s.2)))

noncomputable def slices_partitionCmpFunc_lots_made_L1 (a : Int) (cmp : (yT0 × (Int × List UInt8 × Int × Int) × Int) × (yT0 × (Int × List UInt8 × Int × Int) × Int) × Unit → Option Int) (s2 : Int × List (yT0 × (Int × List UInt8 × Int × Int) × Int)) (j : Int) (data3 : List (yT0 × (Int × List UInt8 × Int × Int) × Int)) : Option ((Int × List (yT0 × (Int × List UInt8 × Int × Int) × Int)) ⊕ (Int × List (yT0 × (Int × List UInt8 × Int × Int) × Int))) :=
  Option.bind (α := Bool × List (yT0 × (Int × List UInt8 × Int × Int) × Int)) (
    bif decide (s2.1 ≤ j) then (
     gd (inB j data3.length) <|
     gd (inB a data3.length) <|
     (cmp (data3.getD j.toNat (([], ([], ([], ([], (0, 0))))), ((0, ([], (0, 0))), 0)), data3.getD a.toNat (([], ([], ([], ([], (0, 0))))), ((0, ([], (0, 0))), 0)), ())).bind fun r2 =>
     some ((!(decide (r2 < 0))), data3))
    else (
     some (false, data3))) fun s3 =>
  bif s3.1 then (
   some (.inl (wi64 (j - 1), s3.2)))
  else (
   some (.inr (j, s3.2)))

noncomputable def slices_partitionCmpFunc_lots_made_L3 (a : Int) (cmp : (yT0 × (Int × List UInt8 × Int × Int) × Int) × (yT0 × (Int × List UInt8 × Int × Int) × Int) × Unit → Option Int) (j2 : Int) (i3 : Int) (data5 : List (yT0 × (Int × List UInt8 × Int × Int) × Int)) : Option ((Int × List (yT0 × (Int × List UInt8 × Int × Int) × Int)) ⊕ (Int × List (yT0 × (Int × List UInt8 × Int × Int) × Int))) :=
  Option.bind (α := Bool × List (yT0 × (Int × List UInt8 × Int × Int) × Int)) (
    bif decide (i3 ≤ j2) then (
     gd (inB i3 data5.length) <|
     gd (inB a data5.length) <|
     (cmp (data5.getD i3.toNat (([], ([], ([], ([], (0, 0))))), ((0, ([], (0, 0))), 0)), data5.getD a.toNat (([], ([], ([], ([], (0, 0))))), ((0, ([], (0, 0))), 0)), ())).bind fun r3 =>
     some (decide (r3 < 0), data5))
    else (
     some (false, data5))) fun s5 =>
  bif s5.1 then (
   some (.inl (wi64 (i3 + 1), s5.2)))
  else (
   some (.inr (i3, s5.2)))

noncomputable def slices_partitionCmpFunc_lots_made_L4 (a : Int) (cmp : (yT0 × (Int × List UInt8 × Int × Int) × Int) × (yT0 × (Int × List UInt8 × Int × Int) × Int) × Unit → Option Int) (s6 : Int × List (yT0 × (Int × List UInt8 × Int × Int) × Int)) (j3 : Int) (data6 : List (yT0 × (Int × List UInt8 × Int × Int) × Int)) : Option ((Int × List (yT0 × (Int × List UInt8 × Int × Int) × Int)) ⊕ (Int × List (yT0 × (Int × List UInt8 × Int × Int) × Int))) :=
  Option.bind (α := Bool × List (yT0 × (Int × List UInt8 × Int × Int) × Int)) (
    bif decide (s6.1 ≤ j3) then (
     gd (inB j3 data6.length) <|
     gd (inB a data6.length) <|
     (cmp (data6.getD j3.toNat (([], ([], ([], ([], (0, 0))))), ((0, ([], (0, 0))), 0)), data6.getD a.toNat (([], ([], ([], ([], (0, 0))))), ((0, ([], (0, 0))), 0)), ())).bind fun r4 =>
     some ((!(decide (r4 < 0))), data6))
    else (
     some (false, data6))) fun s7 =>
  bif s7.1 then (
   some (.inl (wi64 (j3 - 1), s7.2)))
  else (
   some (.inr (j3, s7.2)))

noncomputable def slices_partitionCmpFunc_lots_made_L2 (a : Int) (cmp : (yT0 × (Int × List UInt8 × Int × Int) × Int) × (yT0 × (Int × List UInt8 × Int × Int) × Int) × Unit → Option Int) (i2 : Int) (j2 : Int) (data4 : List (yT0 × (Int × List UInt8 × Int × Int) × Int)) : Option ((Int × Int × List (yT0 × (Int × List UInt8 × Int × Int) × Int)) ⊕ (Int × List (yT0 × (Int × List UInt8 × Int × Int) × Int))) :=
  (iter (fun x3 => slices_partitionCmpFunc_lots_made_L3 a cmp j2 x3.1 x3.2) (i2, data4)).bind fun s6 =>
  (iter (fun x4 => slices_partitionCmpFunc_lots_made_L4 a cmp s6 x4.1 x4.2) (j2, s6.2)).bind fun s8 =>
  bif decide (s8.1 < s6.1) then (
   some (.inr (s8.1, s8.2)))
  else (
   gd (inB s8.1 s8.2.length) <|
   gd (inB s6.1 s8.2.length) <|
   gd (inB s6.1 s8.2.length) <|
   gd (inB s8.1 (s8.2.set s6.1.toNat (s8.2.getD s8.1.toNat (([], ([], ([], ([], (0, 0))))), ((0, ([], (0, 0))), 0)))).length) <|
   some (.inl (wi64 (s6.1 + 1), wi64 (s8.1 - 1), (s8.2.set s6.1.toNat (s8.2.getD s8.1.toNat (([], ([], ([], ([], (0, 0))))), ((0, ([], (0, 0))), 0)))).set s8.1.toNat (s8.2.getD s6.1.toNat (([], ([], ([], ([], (0, 0))))), ((0, ([], (0, 0))), 0))))))

noncomputable def slices_partitionCmpFunc_lots_made (a : Int) (b : Int) (pivot : Int) (cmp : (yT0 × (Int × List UInt8 × Int × Int) × Int) × (yT0 × (Int × List UInt8 × Int × Int) × Int) × Unit → Option Int) (data : List (yT0 × (Int × List UInt8 × Int × Int) × Int)) : Option (Int × Bool × List (yT0 × (Int × List UInt8 × Int × Int) × Int)) :=
  gd (inB pivot data.length) <|
  gd (inB a data.length) <|
  gd (inB a data.length) <|
  gd (inB pivot (data.set a.toNat (data.getD pivot.toNat (([], ([], ([], ([], (0, 0))))), ((0, ([], (0, 0))), 0)))).length) <|
  (iter (fun x => slices_partitionCmpFunc_lots_made_L0 a b cmp x.1 x.2) (wi64 (a + 1), (data.set a.toNat (data.getD pivot.toNat (([], ([], ([], ([], (0, 0))))), ((0, ([], (0, 0))), 0)))).set pivot.toNat (data.getD a.toNat (([], ([], ([], ([], (0, 0))))), ((0, ([], (0, 0))), 0))))).bind fun s2 =>
  (iter (fun x2 => slices_partitionCmpFunc_lots_made_L1 a cmp s2 x2.1 x2.2) (wi64 (b - 1), s2.2)).bind fun s4 =>
  bif decide (s4.1 < s2.1) then (
   gd (inB a s4.2.length) <|
   gd (inB s4.1 s4.2.length) <|
   gd (inB s4.1 s4.2.length) <|
   gd (inB a (s4.2.set s4.1.toNat (s4.2.getD a.toNat (([], ([], ([], ([], (0, 0))))), ((0, ([], (0, 0))), 0)))).length) <|
   some (s4.1, true, (s4.2.set s4.1.toNat (s4.2.getD a.toNat (([], ([], ([], ([], (0, 0))))), ((0, ([], (0, 0))), 0)))).set a.toNat (s4.2.getD s4.1.toNat (([], ([], ([], ([], (0, 0))))), ((0, ([], (0, 0))), 0)))))
  else (
   gd (inB s4.1 s4.2.length) <|
   gd (inB s2.1 s4.2.length) <|
   gd (inB s2.1 s4.2.length) <|
   gd (inB s4.1 (s4.2.set s2.1.toNat (s4.2.getD s4.1.toNat (([], ([], ([], ([], (0, 0))))), ((0, ([], (0, 0))), 0)))).length) <|
   (iter (fun x5 => slices_partitionCmpFunc_lots_made_L2 a cmp x5.1 x5.2.1 x5.2.2) (wi64 (s2.1 + 1), wi64 (s4.1 - 1), (s4.2.set s2.1.toNat (s4.2.getD s4.1.toNat (([], ([], ([], ([], (0, 0))))), ((0, ([], (0, 0))), 0)))).set s4.1.toNat (s4.2.getD s2.1.toNat (([], ([], ([], ([], (0, 0))))), ((0, ([], (0, 0))), 0))))).bind fun s9 =>
   gd (inB a s9.2.length) <|
   gd (inB s9.1 s9.2.length) <|
   gd (inB s9.1 s9.2.length) <|
   gd (inB a (s9.2.set s9.1.toNat (s9.2.getD a.toNat (([], ([], ([], ([], (0, 0))))), ((0, ([], (0, 0))), 0)))).length) <|
   some (s9.1, false, (s9.2.set s9.1.toNat (s9.2.getD a.toNat (([], ([], ([], ([], (0, 0))))), ((0, ([], (0, 0))), 0)))).set a.toNat (s9.2.getD s9.1.toNat (([], ([], ([], ([], (0, 0))))), ((0, ([], (0, 0))), 0)))))

noncomputable def fn_slices_partitionCmpFunc_lots_made : Fun :=
  { f := 118, np := 5, nr := 2,
    ji := ⟨[(0, .one (.own 0)), (1, ii), (2, ii), (3, ii), (4, .one (.fn [.pair tT0 tT1, .pair tT0 tT1] (.int .i64)))], [], [(0, .arr 90 (.pair tT0 tT1))]⟩,
    jo := ⟨[(0, ii), (1, bb)], [], [(0, .arr 90 (.pair tT0 tT1))]⟩,
    tw := fun x => slices_partitionCmpFunc_lots_made x.1 x.2.1 x.2.2.1 x.2.2.2.1 x.2.2.2.2 }
noncomputable def cx_slices_partitionCmpFunc_lots_made : Cx := { Γ := types, ow := [], fs := [], N := 178 }
theorem ok_slices_partitionCmpFunc_lots_made : FunOk Tryz.prog fn_slices_partitionCmpFunc_lots_made :=
  FunOk.intro (C := cx_slices_partitionCmpFunc_lots_made) (p := (nn (nn (nn (mm (mm (.mk [] (some (⟨[(0, .one (.own 0)), (1, kk), (4, kk), (12, ii), (13, kk)], [], [(0, .arr 90 (.pair tT0 tT1))]⟩, [⟨.x 0, ⟨[(0, .one (.own 0)), (1, kk), (4, kk), (12, ii), (13, kk)], [], [(0, .arr 90 (.pair tT0 tT1))]⟩⟩])) (mm (mm (.mk [.join [⟨.n, ⟨[(0, .one (.own 0)), (1, kk), (4, kk), (12, kk), (13, kk), (47, bb)], [], [(0, .arr 90 (.pair tT0 tT1))]⟩⟩]] none .nil .nil) .nil) .nil) .nil) .nil) (mm (mm (.mk [] (some (⟨[(0, .one (.own 0)), (1, kk), (4, kk), (12, kk), (13, ii)], [], [(0, .arr 90 (.pair tT0 tT1))]⟩, [⟨.x 2, ⟨[(0, .one (.own 0)), (1, kk), (4, kk), (12, kk), (13, ii)], [], [(0, .arr 90 (.pair tT0 tT1))]⟩⟩])) (mm (mm (.mk [.join [⟨.n, ⟨[(0, .one (.own 0)), (1, kk), (4, kk), (12, kk), (13, kk), (66, bb)], [], [(0, .arr 90 (.pair tT0 tT1))]⟩⟩]] none .nil .nil) .nil) .nil) .nil) .nil) (nn (nn (nn (nn (mm (mm (.mk [] (some (⟨[(0, .one (.own 0)), (1, kk), (4, kk), (12, ii), (13, ii)], [], [(0, .arr 90 (.pair tT0 tT1))]⟩, [⟨.x 4, ⟨[(0, .one (.own 0)), (1, kk), (13, ii)], [], [(0, .arr 90 (.pair tT0 tT1))]⟩⟩])) (mm (mm (mm (.mk [] (some (⟨[(0, .one (.own 0)), (1, kk), (4, kk), (12, ii), (13, kk)], [], [(0, .arr 90 (.pair tT0 tT1))]⟩, [⟨.x 6, ⟨[(0, .one (.own 0)), (1, kk), (4, kk), (12, ii), (13, kk)], [], [(0, .arr 90 (.pair tT0 tT1))]⟩⟩])) (mm (mm (.mk [.join [⟨.n, ⟨[(0, .one (.own 0)), (1, kk), (4, kk), (12, kk), (13, kk), (120, bb)], [], [(0, .arr 90 (.pair tT0 tT1))]⟩⟩]] none .nil .nil) .nil) .nil) .nil) .nil) (mm (mm (.mk [] (some (⟨[(0, .one (.own 0)), (1, kk), (4, kk), (12, kk), (13, ii)], [], [(0, .arr 90 (.pair tT0 tT1))]⟩, [⟨.x 8, ⟨[(0, .one (.own 0)), (1, kk), (4, kk), (12, kk), (13, ii)], [], [(0, .arr 90 (.pair tT0 tT1))]⟩⟩])) (mm (mm (.mk [.join [⟨.n, ⟨[(0, .one (.own 0)), (1, kk), (4, kk), (12, kk), (13, kk), (139, bb)], [], [(0, .arr 90 (.pair tT0 tT1))]⟩⟩]] none .nil .nil) .nil) .nil) .nil) .nil) .nil)) .nil) .nil) .nil) .nil)))))))))))
    Tryz.func118 rfl nmr118 rfl rfl rfl rfl types_ok ⟨trivial, trivial⟩ mx (fun x => by kernel_rfl)

noncomputable def slices_pdqsortCmpFunc_lots_made_L0 (cmp : (yT0 × (Int × List UInt8 × Int × Int) × Int) × (yT0 × (Int × List UInt8 × Int × Int) × Int) × Unit → Option Int) (rec : Int → Int → Int → ((yT0 × (Int × List UInt8 × Int × Int) × Int) × (yT0 × (Int × List UInt8 × Int × Int) × Int) × Unit → Option Int) → List (yT0 × (Int × List UInt8 × Int × Int) × Int) → Option (List (yT0 × (Int × List UInt8 × Int × Int) × Int))) (a2 : Int) (b2 : Int) (limit2 : Int) (wasBalanced : Bool) (wasPartitioned : Bool) (data2 : List (yT0 × (Int × List UInt8 × Int × Int) × Int)) : Option ((Int × Int × Int × Bool × Bool × List (yT0 × (Int × List UInt8 × Int × Int) × Int)) ⊕ (List (yT0 × (Int × List UInt8 × Int × Int) × Int))) :=
  bif decide (wi64 (b2 - a2) ≤ 12) then (
   (slices_insertionSortCmpFunc_lots_made a2 b2 cmp data2).bind fun r =>
   some (.inr r))
  else (
   bif decide (limit2 = 0) then (
    (slices_heapSortCmpFunc_lots_made a2 b2 cmp data2).bind fun r2 =>
    some (.inr r2))
   else (
    Option.bind (α := Int × List (yT0 × (Int × List UInt8 × Int × Int) × Int)) (
      bif !wasBalanced then (
       (slices_breakPatternsCmpFunc_lots_made a2 b2 cmp data2).bind fun r3 =>
       some (wi64 (limit2 - 1), r3))
      else (
       some (limit2, data2))) fun s =>
    (slices_choosePivotCmpFunc_lots_made s.2 a2 b2 cmp).bind fun r4 =>
    Option.bind (α := Int × Int × List (yT0 × (Int × List UInt8 × Int × Int) × Int)) (
      bif decide (r4.2 = 2) then (
       (slices_reverseRangeCmpFunc_lots_made a2 b2 cmp s.2).bind fun r5 =>
       some (wi64 ((wi64 (b2 - 1)) - (wi64 (r4.1 - a2))), 1, r5))
      else (
       some (r4.1, r4.2, s.2))) fun s2 =>
    Option.bind (α := Bool × List (yT0 × (Int × List UInt8 × Int × Int) × Int)) (
      bif wasBalanced then (
       bif wasPartitioned then (
        some (decide (s2.2.1 = 1), s2.2.2))
       else (
        some (false, s2.2.2)))
      else (
       some (false, s2.2.2))) fun s3 =>
    Option.bind (α := (List (yT0 × (Int × List UInt8 × Int × Int) × Int)) ⊕ (List (yT0 × (Int × List UInt8 × Int × Int) × Int))) (
      bif s3.1 then (
       (slices_partialInsertionSortCmpFunc_lots_made a2 b2 cmp s3.2).bind fun r6 =>
       bif r6.1 then (
        some (.inr r6.2))
       else (
        some (.inl r6.2)))
      else (
       some (.inl s3.2))) fun s4 =>
    s4.elim (fun s5 =>
     Option.bind (α := Bool × List (yT0 × (Int × List UInt8 × Int × Int) × Int)) (
       bif decide (0 < a2) then (
        gd (inB (wi64 (a2 - 1)) s5.length) <|
        gd (inB s2.1 s5.length) <|
        (cmp (s5.getD ((wi64 (a2 - 1)).toNat) (([], ([], ([], ([], (0, 0))))), ((0, ([], (0, 0))), 0)), s5.getD s2.1.toNat (([], ([], ([], ([], (0, 0))))), ((0, ([], (0, 0))), 0)), ())).bind fun r7 =>
        some ((!(decide (r7 < 0))), s5))
       else (
        some (false, s5))) fun s7 =>
     bif s7.1 then (
      (slices_partitionEqualCmpFunc_lots_made a2 b2 s2.1 cmp s7.2).bind fun r8 =>
      some (.inl (r8.1, b2, s.1, wasBalanced, wasPartitioned, r8.2)))
     else (
      (slices_partitionCmpFunc_lots_made a2 b2 s2.1 cmp s7.2).bind fun r9 =>
      bif decide (wi64 (r9.1 - a2) < wi64 (b2 - r9.1)) then (
       (rec a2 r9.1 s.1 cmp r9.2.2).bind fun r10 =>
       some (.inl (wi64 (r9.1 + 1), b2, s.1, decide (wi64 (Int.tdiv (wi64 (b2 - a2)) 8) ≤ wi64 (r9.1 - a2)), r9.2.1, r10)))
      else (
       (rec (wi64 (r9.1 + 1)) b2 s.1 cmp r9.2.2).bind fun r11 =>
       some (.inl (a2, r9.1, s.1, decide (wi64 (Int.tdiv (wi64 (b2 - a2)) 8) ≤ wi64 (b2 - r9.1)), r9.2.1, r11)))))
    (fun s6 =>
     some (.inr s6))))

noncomputable def slices_pdqsortCmpFunc_lots_made_S (rec : Int → Int → Int → ((yT0 × (Int × List UInt8 × Int × Int) × Int) × (yT0 × (Int × List UInt8 × Int × Int) × Int) × Unit → Option Int) → List (yT0 × (Int × List UInt8 × Int × Int) × Int) → Option (List (yT0 × (Int × List UInt8 × Int × Int) × Int))) (a : Int) (b : Int) (limit : Int) (cmp : (yT0 × (Int × List UInt8 × Int × Int) × Int) × (yT0 × (Int × List UInt8 × Int × Int) × Int) × Unit → Option Int) (data : List (yT0 × (Int × List UInt8 × Int × Int) × Int)) : Option (List (yT0 × (Int × List UInt8 × Int × Int) × Int)) :=
  (iter (fun x => slices_pdqsortCmpFunc_lots_made_L0 cmp rec x.1 x.2.1 x.2.2.1 x.2.2.2.1 x.2.2.2.2.1 x.2.2.2.2.2) (a, b, limit, true, true, data)).bind fun s8 =>
  some s8

noncomputable def slices_pdqsortCmpFunc_lots_made_F : Nat → Int → Int → Int → ((yT0 × (Int × List UInt8 × Int × Int) × Int) × (yT0 × (Int × List UInt8 × Int × Int) × Int) × Unit → Option Int) → List (yT0 × (Int × List UInt8 × Int × Int) × Int) → Option (List (yT0 × (Int × List UInt8 × Int × Int) × Int))
  | 0 => fun _ _ _ _ _ => none
  | n + 1 => slices_pdqsortCmpFunc_lots_made_S (slices_pdqsortCmpFunc_lots_made_F n)

noncomputable def slices_pdqsortCmpFunc_lots_made (a : Int) (b : Int) (limit : Int) (cmp : (yT0 × (Int × List UInt8 × Int × Int) × Int) × (yT0 × (Int × List UInt8 × Int × Int) × Int) × Unit → Option Int) (data : List (yT0 × (Int × List UInt8 × Int × Int) × Int)) : Option (List (yT0 × (Int × List UInt8 × Int × Int) × Int)) := slices_pdqsortCmpFunc_lots_made_F 18446744073709551616 a b limit cmp data

noncomputable def fn_slices_pdqsortCmpFunc_lots_made_F (n : Nat) : Fun :=
  { f := 81, np := 5, nr := 0,
    ji := ⟨[(0, .one (.own 0)), (1, ii), (2, ii), (3, ii), (4, .one (.fn [.pair tT0 tT1, .pair tT0 tT1] (.int .i64)))], [], [(0, .arr 90 (.pair tT0 tT1))]⟩,
    jo := ⟨[], [], [(0, .arr 90 (.pair tT0 tT1))]⟩,
    tw := fun x => slices_pdqsortCmpFunc_lots_made_F n x.1 x.2.1 x.2.2.1 x.2.2.2.1 x.2.2.2.2 }
noncomputable def fn_slices_pdqsortCmpFunc_lots_made : Fun := fn_slices_pdqsortCmpFunc_lots_made_F 18446744073709551616
noncomputable def cx_slices_pdqsortCmpFunc_lots_made (n : Nat) : Cx := { Γ := types, ow := [], fs := [fn_slices_insertionSortCmpFunc_lots_made, fn_slices_heapSortCmpFunc_lots_made, fn_slices_breakPatternsCmpFunc_lots_made, fn_slices_choosePivotCmpFunc_lots_made, fn_slices_reverseRangeCmpFunc_lots_made, fn_slices_partialInsertionSortCmpFunc_lots_made, fn_slices_partitionEqualCmpFunc_lots_made, fn_slices_partitionCmpFunc_lots_made, fn_slices_pdqsortCmpFunc_lots_made_F n], N := 148 }
theorem ok_slices_pdqsortCmpFunc_lots_made_F : ∀ n : Nat, FunOk Tryz.prog (fn_slices_pdqsortCmpFunc_lots_made_F n)
  | 0 => FunOk.nothing Tryz.func81 rfl nmr81 (fun x => rfl)
  | n + 1 => FunOk.intro (C := cx_slices_pdqsortCmpFunc_lots_made n) (p := (nn (nn (mm (.mk [] (some (⟨[(0, .one (.own 0)), (1, ii), (2, ii), (3, ii), (4, kk), (10, bb), (11, bb)], [], [(0, .arr 90 (.pair tT0 tT1))]⟩, [⟨.r, ⟨[], [], [(0, .arr 90 (.pair tT0 tT1))]⟩⟩])) (mm (nn (nn (nn (mm (nn (.mk [.join [⟨.n, ⟨[(0, .one (.own 0)), (1, kk), (2, kk), (3, ii), (4, kk), (10, kk), (11, kk), (12, kk)], [], [(0, .arr 90 (.pair tT0 tT1))]⟩⟩]] none .nil .nil)) (nn (mm (nn (.mk [.join [⟨.n, ⟨[(0, .one (.own 0)), (1, kk), (2, kk), (3, kk), (4, kk), (10, kk), (11, kk), (12, kk), (13, ii), (14, ii)], [], [(0, .arr 90 (.pair tT0 tT1))]⟩⟩]] none .nil .nil)) (mm (mm (.mk [.join [⟨.n, ⟨[(0, .one (.own 0)), (1, kk), (2, kk), (3, kk), (4, kk), (10, kk), (11, kk), (12, kk), (13, kk), (75, bb)], [], [(0, .arr 90 (.pair tT0 tT1))]⟩⟩]] none .nil .nil) (.mk [.join [⟨.n, ⟨[(0, .one (.own 0)), (1, kk), (2, kk), (3, kk), (4, kk), (10, kk), (11, kk), (12, kk), (13, kk)], [], [(0, .arr 90 (.pair tT0 tT1))]⟩⟩, ⟨.r, ⟨[], [], [(0, .arr 90 (.pair tT0 tT1))]⟩⟩]] none .nil .nil)) (mm (mm (.mk [.join [⟨.n, ⟨[(0, .one (.own 0)), (1, kk), (2, kk), (3, kk), (4, kk), (10, kk), (11, kk), (12, kk), (13, kk), (97, bb)], [], [(0, .arr 90 (.pair tT0 tT1))]⟩⟩]] none .nil .nil) .nil) .nil)))))))) .nil) .nil) .nil))))
    Tryz.func81 rfl nmr81 rfl rfl rfl rfl types_ok ⟨⟨ok_slices_insertionSortCmpFunc_lots_made, ok_slices_heapSortCmpFunc_lots_made, ok_slices_breakPatternsCmpFunc_lots_made, ok_slices_choosePivotCmpFunc_lots_made, ok_slices_reverseRangeCmpFunc_lots_made, ok_slices_partialInsertionSortCmpFunc_lots_made, ok_slices_partitionEqualCmpFunc_lots_made, ok_slices_partitionCmpFunc_lots_made, ok_slices_pdqsortCmpFunc_lots_made_F n, trivial⟩, trivial⟩ mx (fun x => by kernel_rfl)
theorem ok_slices_pdqsortCmpFunc_lots_made : FunOk Tryz.prog fn_slices_pdqsortCmpFunc_lots_made := ok_slices_pdqsortCmpFunc_lots_made_F 18446744073709551616

noncomputable def slices_SortFunc_lots_made_lots_made (cmp : (yT0 × (Int × List UInt8 × Int × Int) × Int) × (yT0 × (Int × List UInt8 × Int × Int) × Int) × Unit → Option Int) (x : List (yT0 × (Int × List UInt8 × Int × Int) × Int)) : Option (List (yT0 × (Int × List UInt8 × Int × Int) × Int)) :=
  (math_bits_Len (wu64 (x.length : Int))).bind fun r =>
  (slices_pdqsortCmpFunc_lots_made 0 (x.length : Int) r cmp x).bind fun r2 =>
  some r2

noncomputable def fn_slices_SortFunc_lots_made_lots_made : Fun :=
  { f := 40, np := 2, nr := 0,
    ji := ⟨[(0, .one (.own 0)), (1, .one (.fn [.pair tT0 tT1, .pair tT0 tT1] (.int .i64)))], [], [(0, .arr 90 (.pair tT0 tT1))]⟩,
    jo := ⟨[], [], [(0, .arr 90 (.pair tT0 tT1))]⟩,
    tw := fun x => slices_SortFunc_lots_made_lots_made x.1 x.2 }
noncomputable def cx_slices_SortFunc_lots_made_lots_made : Cx := { Γ := types, ow := [], fs := [fn_math_bits_Len, fn_slices_pdqsortCmpFunc_lots_made], N := 14 }
theorem ok_slices_SortFunc_lots_made_lots_made : FunOk Tryz.prog fn_slices_SortFunc_lots_made_lots_made :=
  FunOk.intro (C := cx_slices_SortFunc_lots_made_lots_made) (p := .nil)
    Tryz.func40 rfl nmr40 rfl rfl rfl rfl types_ok ⟨⟨ok_math_bits_Len, ok_slices_pdqsortCmpFunc_lots_made, trivial⟩, trivial⟩ mx (fun x => by kernel_rfl)

noncomputable def lots_Batches_1 (a : yT0 × (Int × List UInt8 × Int × Int) × Int) (b : yT0 × (Int × List UInt8 × Int × Int) × Int) : Option (Int) :=
  (cmp_Compare_int a.1.2.2.2.2.1 b.1.2.2.2.2.1).bind fun r =>
  (cmp_Compare_int a.2.2 b.2.2).bind fun r2 =>
  (cmp_Compare_string a.1.1 b.1.1).bind fun r3 =>
  (cmp_Compare_string a.1.2.2.1 b.1.2.2.1).bind fun r4 =>
  (cmp_Compare_string a.1.2.2.2.1 b.1.2.2.2.1).bind fun r5 =>
  (cmp_Or_int [r, r2, r3, r4, r5]).bind fun r6 =>
  some r6

noncomputable def fn_lots_Batches_1 : Fun :=
  { f := 41, np := 2, nr := 1,
    ji := ⟨[(0, .one (.data (.pair tT0 tT1))), (1, .one (.data (.pair tT0 tT1)))], [], []⟩,
    jo := ⟨[(0, ii)], [], []⟩,
    tw := fun x => lots_Batches_1 x.1 x.2 }
noncomputable def cx_lots_Batches_1 : Cx := { Γ := types, ow := [], fs := [fn_cmp_Compare_int, fn_cmp_Compare_string, fn_cmp_Or_int], N := 38 }
theorem ok_lots_Batches_1 : FunOk Tryz.prog fn_lots_Batches_1 :=
  FunOk.intro (C := cx_lots_Batches_1) (p := .nil)
    Tryz.func41 rfl nmr41 rfl rfl rfl rfl types_ok ⟨⟨ok_cmp_Compare_int, ok_cmp_Compare_string, ok_cmp_Or_int, trivial⟩, trivial⟩ mx (fun x => by kernel_rfl)

noncomputable def lots_Batches_L0 (n : List (List UInt8) × List yT1 × List (List UInt8 × Int × Int) × List (List UInt8 × Int × Int × Int × Int) × Int × Int) (products : List (List UInt8 × Int × Int × Int × Int)) (order : List (List UInt8)) (r4 : (List yT0) × Int) (v : Int) (all : List (yT0 × (Int × List UInt8 × Int × Int) × Int)) : Option ((Int × List (yT0 × (Int × List UInt8 × Int × Int) × Int)) ⊕ ((List (yT0 × (Int × List UInt8 × Int × Int) × Int)) ⊕ ((List (Int × List UInt8 × Int × Int)) × (List (Int × Int × Int)) × Int))) :=
  bif decide (v < (r4.1.length : Int)) then (
   gd (inB v r4.1.length) <|
   (product_Find products (((r4.1.getD v.toNat ([], ([], ([], ([], (0, 0)))))).2).1)).bind fun r5 =>
   (network_Port (n.1, (n.2.1, (n.2.2.1, (n.2.2.2.1, (n.2.2.2.2.1, n.2.2.2.2.2))))) ((((r4.1.getD v.toNat ([], ([], ([], ([], (0, 0)))))).2).2).1)).bind fun r6 =>
   (network_Port (n.1, (n.2.1, (n.2.2.1, (n.2.2.2.1, (n.2.2.2.2.1, n.2.2.2.2.2))))) (((((r4.1.getD v.toNat ([], ([], ([], ([], (0, 0)))))).2).2).2).1)).bind fun r7 =>
   Option.bind (α := Bool × List (yT0 × (Int × List UInt8 × Int × Int) × Int)) (
     bif decide (r5 < 0) then (
      some (true, all))
     else (
      bif decide (r6 < 0) then (
       some (true, all))
      else (
       some (decide (r7 < 0), all)))) fun s =>
   bif s.1 then (
    some (.inr (.inr ([], [], 8))))
   else (
    (lots_rank products order r5).bind fun r8 =>
    gd (fits (s.2.length + 1) 128) <|
    some (.inl (wi64 (v + 1), s.2 ++ [(((r4.1.getD v.toNat ([], ([], ([], ([], (0, 0)))))).1, (((r4.1.getD v.toNat ([], ([], ([], ([], (0, 0)))))).2).1, ((((r4.1.getD v.toNat ([], ([], ([], ([], (0, 0)))))).2).2).1, (((((r4.1.getD v.toNat ([], ([], ([], ([], (0, 0)))))).2).2).2).1, ((((((r4.1.getD v.toNat ([], ([], ([], ([], (0, 0)))))).2).2).2).2).1, (((((r4.1.getD v.toNat ([], ([], ([], ([], (0, 0)))))).2).2).2).2).2))))), ((r5, ((r4.1.getD v.toNat ([], ([], ([], ([], (0, 0)))))).1, (r6, r7))), r8))]))))
  else (
   some (.inr (.inl all)))

noncomputable def lots_Batches_L1 (r9 : List (yT0 × (Int × List UInt8 × Int × Int) × Int)) (v2 : Int) (batches : List (Int × List UInt8 × Int × Int)) (lots : List (Int × Int × Int)) (v3 : List (yT0 × (Int × List UInt8 × Int × Int) × Int)) : Option ((Int × (List (Int × List UInt8 × Int × Int)) × (List (Int × Int × Int)) × List (yT0 × (Int × List UInt8 × Int × Int) × Int)) ⊕ ((List (Int × List UInt8 × Int × Int)) × List (Int × Int × Int))) :=
  bif decide (v2 < (r9.length : Int)) then (
   gd (inB v2 v3.length) <|
   gd (fits (batches.length + 1) 40) <|
   gd (fits (lots.length + 1) 24) <|
   some (.inl (wi64 (v2 + 1), batches ++ [((((v3.getD v2.toNat (([], ([], ([], ([], (0, 0))))), ((0, ([], (0, 0))), 0))).2).1).1, (((((v3.getD v2.toNat (([], ([], ([], ([], (0, 0))))), ((0, ([], (0, 0))), 0))).2).1).2).1, ((((((v3.getD v2.toNat (([], ([], ([], ([], (0, 0))))), ((0, ([], (0, 0))), 0))).2).1).2).2).1, (((((v3.getD v2.toNat (([], ([], ([], ([], (0, 0))))), ((0, ([], (0, 0))), 0))).2).1).2).2).2)))], lots ++ [(v2, (((((((v3.getD v2.toNat (([], ([], ([], ([], (0, 0))))), ((0, ([], (0, 0))), 0))).1).2).2).2).2).2, 0))], v3)))
  else (
   some (.inr (batches, lots)))

noncomputable def lots_Batches (n : List (List UInt8) × List yT1 × List (List UInt8 × Int × Int) × List (List UInt8 × Int × Int × Int × Int) × Int × Int) (products : List (List UInt8 × Int × Int × Int × Int)) (l : List yT0) (order : List (List UInt8)) : Option ((List (Int × List UInt8 × Int × Int)) × (List (Int × Int × Int)) × Int) :=
  (network_Check (n.1, (n.2.1, (n.2.2.1, (n.2.2.2.1, (n.2.2.2.2.1, n.2.2.2.2.2)))))).bind fun r =>
  bif !decide (r = 0) then (
   some ([], [], r))
  else (
   (product_Check products).bind fun r2 =>
   bif !decide (r2 = 0) then (
    some ([], [], r2))
   else (
    (nomination_Check l).bind fun r3 =>
    bif !decide (r3 = 0) then (
     some ([], [], r3))
    else (
     (nomination_Totals l).bind fun r4 =>
     bif !decide (r4.2 = 0) then (
      some ([], [], r4.2))
     else (
      bif decide (200 < (r4.1.length : Int)) then (
       some ([], [], 4))
      else (
       (iter (fun x => lots_Batches_L0 n products order r4 x.1 x.2) (0, [])).bind fun s2 =>
       s2.elim (fun s3 =>
        (slices_SortFunc_lots_made_lots_made (fun h => (lots_Batches_1 h.1 h.2.1).bind fun y => some y) s3).bind fun r9 =>
        (iter (fun x2 => lots_Batches_L1 r9 x2.1 x2.2.1 x2.2.2.1 x2.2.2.2) (0, [], [], r9)).bind fun s5 =>
        some (s5.1, s5.2, 0))
       (fun s4 =>
        some (s4.1, s4.2.1, s4.2.2)))))))

noncomputable def fn_lots_Batches : Fun :=
  { f := 11, np := 4, nr := 3,
    ji := ⟨[(0, .one (.data (.pair (.sl (.str)) (.pair (.sl (.pair (.str) (.pair (.int .i64) (.pair (.int .i64) (.pair (.int .i64) (.pair (.int .i64) (.pair (.int .i64) (.sl (.pair (.int .i64) tT2))))))))) (.pair (.sl (.pair (.str) tT2)) (.pair (.sl (.pair (.str) (.pair (.int .i64) (.pair (.int .i64) tT2)))) tT2)))))), (1, .one (.data (.sl (.pair (.str) (.pair (.int .i64) (.pair (.int .i64) tT2)))))), (2, .one (.data (.sl tT0))), (3, .one (.data (.sl (.str))))], [], []⟩,
    jo := ⟨[(0, .one (.data (.sl (.pair (.int .i64) (.pair (.str) tT2))))), (1, .one (.data (.sl (.pair (.int .i64) tT2)))), (2, ii)], [], []⟩,
    tw := fun x => lots_Batches x.1 x.2.1 x.2.2.1 x.2.2.2 }
noncomputable def cx_lots_Batches : Cx := { Γ := types, ow := [], fs := [fn_network_Check, fn_product_Check, fn_nomination_Check, fn_nomination_Totals, fn_product_Find, fn_network_Port, fn_lots_rank, fn_slices_SortFunc_lots_made_lots_made, fn_lots_Batches_1], N := 121 }
theorem ok_lots_Batches : FunOk Tryz.prog fn_lots_Batches :=
  FunOk.intro (C := cx_lots_Batches) (p := (nn (nn (nn (nn (nn (nn (nn (nn (mm (nn (mm (.mk [] (some (⟨[(1, kk), (3, kk), (4, .one (.ptr 80 0)), (16, .one (.own 283)), (50, kk), (51, kk), (52, ii)], [(80, 32, [.keep, .keep, .keep, .keep, .keep, .keep])], [(283, .arr 90 (.pair tT0 tT1))]⟩, [⟨.x 0, ⟨[(16, .one (.own 283))], [], [(283, .arr 90 (.pair tT0 tT1))]⟩⟩, ⟨.r, ⟨[(8, .one (.data (.sl (.pair (.int .i64) (.pair (.str) tT2))))), (9, .one (.data (.sl (.pair (.int .i64) tT2)))), (10, ii)], [], []⟩⟩])) (nn (nn (mm (mm (nn (nn (mm (mm (.mk [.join [⟨.n, ⟨[(1, kk), (3, kk), (4, .one (.ptr 80 0)), (16, .one (.own 283)), (18, .one (.ptr 304 0)), (19, .one (.ptr 320 0)), (50, kk), (51, kk), (52, kk), (83, bb)], [(80, 32, [.keep, .keep, .keep, .keep, .keep, .keep]), (304, 51, [.keep, .keep, .keep, .keep, .keep, .keep]), (320, 49, [.keep, .keep, .keep, .keep])], [(283, .arr 90 (.pair tT0 tT1))]⟩⟩]] none .nil .nil) .nil) .nil))) .nil) .nil))) .nil) .nil)) (nn (nn (nn (mm (nn (mm (.mk [] (some (⟨[(20, .one (.own 347)), (21, .one (.own 363)), (98, .one (.own 283)), (99, kk), (100, ii)], [], [(347, .arr 49 (.pair (.int .i64) (.pair (.str) tT2))), (363, .arr 47 (.pair (.int .i64) tT2)), (283, .arr 90 (.pair tT0 tT1))]⟩, [⟨.x 2, ⟨[(20, .one (.own 347)), (21, .one (.own 363))], [], [(347, .arr 49 (.pair (.int .i64) (.pair (.str) tT2))), (363, .arr 47 (.pair (.int .i64) tT2))]⟩⟩])) .nil .nil) .nil)) .nil))))))))))))))
    Tryz.func11 rfl nmr11 rfl rfl rfl rfl types_ok ⟨⟨ok_network_Check, ok_product_Check, ok_nomination_Check, ok_nomination_Totals, ok_product_Find, ok_network_Port, ok_lots_rank, ok_slices_SortFunc_lots_made_lots_made, ok_lots_Batches_1, trivial⟩, trivial⟩ mx (fun x => by kernel_rfl)

noncomputable def law29_awake : Option (Bool) :=
  (lots_Batches ([[97], [98]], ([([103], (0, (1, (10, (0, (0, [(0, (0, 1000)), (10, (0, 1000))]))))))], ([([112], (0, 0)), ([113], (1, 0))], ([], (0, 0))))) [([111], (800, (0, (0, 1000))))] [([115], ([111], ([112], ([113], (1, 50))))), ([115], ([111], ([112], ([113], (1, 70)))))] []).bind fun r =>
  bif decide (r.2.2 = 0) then (
   bif decide ((r.1.length : Int) = 1) then (
    bif decide ((r.2.1.length : Int) = 1) then (
     gd (inB 0 r.2.1.length) <|
     bif decide ((r.2.1.getD 0 (0, (0, 0))).1 = 0) && (decide (((r.2.1.getD 0 (0, (0, 0))).2).1 = 120) && decide (((r.2.1.getD 0 (0, (0, 0))).2).2 = 0)) then (
      gd (inB 0 r.1.length) <|
      some (decide ((r.1.getD 0 (0, ([], (0, 0)))).1 = 0) && (decide (((r.1.getD 0 (0, ([], (0, 0)))).2).1 = [115]) && (decide ((((r.1.getD 0 (0, ([], (0, 0)))).2).2).1 = 0) && decide ((((r.1.getD 0 (0, ([], (0, 0)))).2).2).2 = 1)))))
     else (
      some false))
    else (
     some false))
   else (
    some false))
  else (
   some false)

noncomputable def fn_law29_awake : Fun :=
  { f := 7, np := 0, nr := 1,
    ji := ⟨[], [], []⟩,
    jo := ⟨[(0, bb)], [], []⟩,
    tw := fun x => law29_awake }
noncomputable def cx_law29_awake : Cx := { Γ := types, ow := [], fs := [fn_lots_Batches], N := 57 }
theorem ok_law29_awake : FunOk Tryz.prog fn_law29_awake :=
  FunOk.intro (C := cx_law29_awake) (p := .nil)
    Tryz.func7 rfl nmr7 rfl rfl rfl rfl types_ok ⟨⟨ok_lots_Batches, trivial⟩, trivial⟩ mx (fun x => by kernel_rfl)

noncomputable def keep_New (l : List Int) : Option (List Int × Int) :=
  gd (cutG none (some (.i64, min (l.length : Int) 2000)) l.length) <|
  some (l.take (min (l.length : Int) 2000).toNat, 0)

noncomputable def fn_keep_New : Fun :=
  { f := 8, np := 1, nr := 1,
    ji := ⟨[(0, .one (.data (.sl (.int .i64))))], [], []⟩,
    jo := ⟨[(0, .one (.ptr 0 0))], [(0, 76, [.data (.sl (.int .i64)), .data (.int .i64)])], []⟩,
    tw := fun x => keep_New x }
noncomputable def cx_keep_New : Cx := { Γ := types, ow := [], fs := [], N := 10 }
theorem ok_keep_New : FunOk Tryz.prog fn_keep_New :=
  FunOk.intro (C := cx_keep_New) (p := .nil)
    Tryz.func8 rfl nmr8 rfl rfl rfl rfl types_ok ⟨trivial, trivial⟩ mx (fun x => by kernel_rfl)

noncomputable def keep_Src_Raw (s : List Int) (s2 : Int) : Option (Int × List Int × Int) :=
  bif decide ((s.length : Int) ≤ s2) then (
   some (0, s, s2))
  else (
   gd (inB (wi64 ((wi64 (s2 + 1)) - 1)) s.length) <|
   some (s.getD (wi64 ((wi64 (s2 + 1)) - 1)).toNat 0, s, wi64 (s2 + 1)))

noncomputable def fn_keep_Src_Raw : Fun :=
  { f := 49, np := 1, nr := 1,
    ji := ⟨[(0, .one (.ptr 0 0))], [(0, 76, [.data (.sl (.int .i64)), .data (.int .i64)])], []⟩,
    jo := ⟨[(0, ii)], [(0, 76, [.data (.sl (.int .i64)), .data (.int .i64)])], []⟩,
    tw := fun x => keep_Src_Raw x.1 x.2 }
noncomputable def cx_keep_Src_Raw : Cx := { Γ := types, ow := [], fs := [], N := 31 }
theorem ok_keep_Src_Raw : FunOk Tryz.prog fn_keep_Src_Raw :=
  FunOk.intro (C := cx_keep_Src_Raw) (p := .nil)
    Tryz.func49 rfl nmr49 rfl rfl rfl rfl types_ok ⟨trivial, trivial⟩ mx (fun x => by kernel_rfl)

noncomputable def keep_Mod (x : Int) (n : Int) : Option (Int) :=
  bif decide (n < 1) then (
   some 0)
  else (
   gd (!decide (n = 0)) <|
   bif decide (Int.tmod x n < 0) then (
    some (wi64 ((Int.tmod x n) + n)))
   else (
    some (Int.tmod x n)))

noncomputable def fn_keep_Mod : Fun :=
  { f := 48, np := 2, nr := 1,
    ji := ⟨[(0, ii), (1, ii)], [], []⟩,
    jo := ⟨[(0, ii)], [], []⟩,
    tw := fun x => keep_Mod x.1 x.2 }
noncomputable def cx_keep_Mod : Cx := { Γ := types, ow := [], fs := [], N := 16 }
theorem ok_keep_Mod : FunOk Tryz.prog fn_keep_Mod :=
  FunOk.intro (C := cx_keep_Mod) (p := .nil)
    Tryz.func48 rfl nmr48 rfl rfl rfl rfl types_ok ⟨trivial, trivial⟩ mx (fun x => by kernel_rfl)

noncomputable def keep_Src_N (n : Int) (s : List Int) (s2 : Int) : Option (Int × List Int × Int) :=
  (keep_Src_Raw s s2).bind fun r =>
  (keep_Mod r.1 n).bind fun r2 =>
  some (r2, r.2.1, r.2.2)

noncomputable def fn_keep_Src_N : Fun :=
  { f := 18, np := 2, nr := 1,
    ji := ⟨[(0, .one (.ptr 0 0)), (1, ii)], [(0, 76, [.data (.sl (.int .i64)), .data (.int .i64)])], []⟩,
    jo := ⟨[(0, ii)], [(0, 76, [.data (.sl (.int .i64)), .data (.int .i64)])], []⟩,
    tw := fun x => keep_Src_N x.1 x.2.1 x.2.2 }
noncomputable def cx_keep_Src_N : Cx := { Γ := types, ow := [], fs := [fn_keep_Src_Raw, fn_keep_Mod], N := 9 }
theorem ok_keep_Src_N : FunOk Tryz.prog fn_keep_Src_N :=
  FunOk.intro (C := cx_keep_Src_N) (p := .nil)
    Tryz.func18 rfl nmr18 rfl rfl rfl rfl types_ok ⟨⟨ok_keep_Src_Raw, ok_keep_Mod, trivial⟩, trivial⟩ mx (fun x => by kernel_rfl)

noncomputable def keep_Src_Pick (l : List Int) (s : List Int) (s2 : Int) : Option (Int × List Int × Int) :=
  (keep_Src_N (l.length : Int) s s2).bind fun r =>
  gd (inB r.1 l.length) <|
  some (l.getD r.1.toNat 0, r.2.1, r.2.2)

noncomputable def fn_keep_Src_Pick : Fun :=
  { f := 22, np := 2, nr := 1,
    ji := ⟨[(0, .one (.ptr 0 0)), (1, .one (.data (.sl (.int .i64))))], [(0, 76, [.data (.sl (.int .i64)), .data (.int .i64)])], []⟩,
    jo := ⟨[(0, ii)], [(0, 76, [.data (.sl (.int .i64)), .data (.int .i64)])], []⟩,
    tw := fun x => keep_Src_Pick x.1 x.2.1 x.2.2 }
noncomputable def cx_keep_Src_Pick : Cx := { Γ := types, ow := [], fs := [fn_keep_Src_N], N := 12 }
theorem ok_keep_Src_Pick : FunOk Tryz.prog fn_keep_Src_Pick :=
  FunOk.intro (C := cx_keep_Src_Pick) (p := .nil)
    Tryz.func22 rfl nmr22 rfl rfl rfl rfl types_ok ⟨⟨ok_keep_Src_N, trivial⟩, trivial⟩ mx (fun x => by kernel_rfl)

noncomputable def keep_Src_Range (lo : Int) (hi : Int) (s : List Int) (s2 : Int) : Option (Int × List Int × Int) :=
  (keep_Src_N (wi64 ((wi64 (hi - lo)) + 1)) s s2).bind fun r =>
  some (wi64 (lo + r.1), r.2.1, r.2.2)

noncomputable def fn_keep_Src_Range : Fun :=
  { f := 29, np := 3, nr := 1,
    ji := ⟨[(0, .one (.ptr 0 0)), (1, ii), (2, ii)], [(0, 76, [.data (.sl (.int .i64)), .data (.int .i64)])], []⟩,
    jo := ⟨[(0, ii)], [(0, 76, [.data (.sl (.int .i64)), .data (.int .i64)])], []⟩,
    tw := fun x => keep_Src_Range x.1 x.2.1 x.2.2.1 x.2.2.2 }
noncomputable def cx_keep_Src_Range : Cx := { Γ := types, ow := [], fs := [fn_keep_Src_N], N := 15 }
theorem ok_keep_Src_Range : FunOk Tryz.prog fn_keep_Src_Range :=
  FunOk.intro (C := cx_keep_Src_Range) (p := .nil)
    Tryz.func29 rfl nmr29 rfl rfl rfl rfl types_ok ⟨⟨ok_keep_Src_N, trivial⟩, trivial⟩ mx (fun x => by kernel_rfl)

noncomputable def keep_name (first : List UInt8) (n : Int) : Option (List UInt8) :=
  gd (Nat.ble (first.length + (toBytes [wu8 (wi64 (97 + (Int.tmod n 26)))]).length) 9223372036854775807) <|
  some (first ++ (toBytes [wu8 (wi64 (97 + (Int.tmod n 26)))]))

noncomputable def fn_keep_name : Fun :=
  { f := 30, np := 2, nr := 1,
    ji := ⟨[(0, ss), (1, ii)], [], []⟩,
    jo := ⟨[(0, ss)], [], []⟩,
    tw := fun x => keep_name x.1 x.2 }
noncomputable def cx_keep_name : Cx := { Γ := types, ow := [], fs := [], N := 13 }
theorem ok_keep_name : FunOk Tryz.prog fn_keep_name :=
  FunOk.intro (C := cx_keep_name) (p := .nil)
    Tryz.func30 rfl nmr30 rfl rfl rfl rfl types_ok ⟨trivial, trivial⟩ mx (fun x => by kernel_rfl)

noncomputable def keep_Src_Segment_L0 (r3 : Int × List Int × Int) (r6 : Int × List Int × Int) (vat : Int) (s4 : List Int) (s5 : Int) (x : List (Int × Int × Int)) : Option ((Int × List Int × Int × List (Int × Int × Int)) ⊕ (List Int × Int × List (Int × Int × Int))) :=
  Option.bind (α := Bool × List Int × Int × List (Int × Int × Int)) (
    bif decide ((x.length : Int) < 7) then (
     (keep_Src_N 3 s4 s5).bind fun r8 =>
     some (decide (0 < r8.1), r8.2.1, r8.2.2, x))
    else (
     some (false, s4, s5, x))) fun s6 =>
  bif s6.1 then (
   (keep_Src_Range 1 40 s6.2.1 s6.2.2.1).bind fun r9 =>
   bif decide (r3.1 ≤ wi64 (vat + r9.1)) then (
    some (.inr (r9.2.1, r9.2.2, s6.2.2.2)))
   else (
    (keep_Src_Range (-5) 60 r9.2.1 r9.2.2).bind fun r10 =>
    (keep_Src_Pick [1, 1, 10] r10.2.1 r10.2.2).bind fun r11 =>
    (keep_Src_N 3 r11.2.1 r11.2.2).bind fun r12 =>
    gd (fits (s6.2.2.2.length + 1) 24) <|
    some (.inl (wi64 (vat + r9.1), r12.2.1, r12.2.2, s6.2.2.2 ++ [(wi64 (vat + r9.1), (wi64 (r10.1 * r11.1), wi64 (r6.1 - (wi64 (r12.1 * 1000)))))]))))
  else (
   some (.inr (s6.2.1, s6.2.2.1, s6.2.2.2)))

noncomputable def keep_Src_Segment (k : Int) (vfrom : Int) (to : Int) (s : List Int) (s2 : Int) : Option (yT1 × List Int × Int) :=
  (keep_Src_N 4 s s2).bind fun r =>
  Option.bind (α := Int × Int) (
    bif decide (r.1 = 0) then (
     some (to, vfrom))
    else (
     some (vfrom, to))) fun s3 =>
  (keep_name [103] k).bind fun r2 =>
  (keep_Src_Pick [1, 2, 7, 20, 60, 200, 1000] r.2.1 r.2.2).bind fun r3 =>
  (keep_Src_Pick [0, 1, 5, 1000] r3.2.1 r3.2.2).bind fun r4 =>
  (keep_Src_Pick [0, 50, 1000, 100000] r4.2.1 r4.2.2).bind fun r5 =>
  (keep_Src_Pick [1000000, 6000000, 100000000] r5.2.1 r5.2.2).bind fun r6 =>
  (keep_Src_Range (-5) 30 r6.2.1 r6.2.2).bind fun r7 =>
  (iter (fun x2 => keep_Src_Segment_L0 r3 r6 x2.1 x2.2.1 x2.2.2.1 x2.2.2.2) (0, r7.2.1, r7.2.2, [(0, (r7.1, r6.1))])).bind fun s7 =>
  (keep_Src_Range (-5) 30 s7.1 s7.2.1).bind fun r13 =>
  gd (fits (s7.2.2.length + 1) 24) <|
  some ((r2, (s3.1, (s3.2, (r3.1, (r4.1, (r5.1, s7.2.2 ++ [(r3.1, (r13.1, r6.1))])))))), r13.2.1, r13.2.2)

noncomputable def fn_keep_Src_Segment : Fun :=
  { f := 31, np := 4, nr := 1,
    ji := ⟨[(0, .one (.ptr 0 0)), (1, ii), (2, ii), (3, ii)], [(0, 76, [.data (.sl (.int .i64)), .data (.int .i64)])], []⟩,
    jo := ⟨[(0, .one (.data (.pair (.str) (.pair (.int .i64) (.pair (.int .i64) (.pair (.int .i64) (.pair (.int .i64) (.pair (.int .i64) (.sl (.pair (.int .i64) tT2))))))))))], [(0, 76, [.data (.sl (.int .i64)), .data (.int .i64)])], []⟩,
    tw := fun x => keep_Src_Segment x.1 x.2.1 x.2.2.1 x.2.2.2.1 x.2.2.2.2 }
noncomputable def cx_keep_Src_Segment : Cx := { Γ := types, ow := [], fs := [fn_keep_Src_N, fn_keep_name, fn_keep_Src_Pick, fn_keep_Src_Range], N := 90 }
theorem ok_keep_Src_Segment : FunOk Tryz.prog fn_keep_Src_Segment :=
  FunOk.intro (C := cx_keep_Src_Segment) (p := (nn (mm (nn (.mk [.join [⟨.n, ⟨[(0, .one (.ptr 0 0)), (1, kk), (2, ii), (3, ii), (8, .one (.ptr 144 0))], [(0, 76, [.keep, .keep]), (144, 72, [.keep, .keep, .keep, .keep, .keep, .keep, .keep])], []⟩⟩]] none .nil .nil)) (nn (nn (nn (mm (nn (mm (.mk [] (some (⟨[(0, .one (.ptr 0 0)), (8, .one (.ptr 144 0)), (9, .one (.ptr 160 0)), (10, kk), (11, ii)], [(0, 76, [.data (.sl (.int .i64)), .data (.int .i64)]), (144, 72, [.keep, .keep, .keep, .keep, .keep, .keep, .keep]), (160, 72, [.keep, .keep, .keep, .keep, .keep, .keep, .own 2681])], [(2681, .arr 69 (.pair (.int .i64) tT2))]⟩, [⟨.x 0, ⟨[(0, .one (.ptr 0 0)), (8, .one (.ptr 144 0)), (9, .one (.ptr 160 0)), (10, kk)], [(0, 76, [.data (.sl (.int .i64)), .data (.int .i64)]), (144, 72, [.keep, .keep, .keep, .keep, .keep, .keep, .keep]), (160, 72, [.keep, .keep, .keep, .keep, .keep, .keep, .own 2681])], [(2681, .arr 69 (.pair (.int .i64) tT2))]⟩⟩])) (mm (mm (.mk [.join [⟨.n, ⟨[(0, .one (.ptr 0 0)), (8, .one (.ptr 144 0)), (9, .one (.ptr 160 0)), (10, kk), (11, kk), (51, bb)], [(0, 76, [.data (.sl (.int .i64)), .data (.int .i64)]), (144, 72, [.keep, .keep, .keep, .keep, .keep, .keep, .keep]), (160, 72, [.keep, .keep, .keep, .keep, .keep, .keep, .own 2681])], [(2681, .arr 69 (.pair (.int .i64) tT2))]⟩⟩]] none .nil .nil) .nil) .nil) .nil) .nil)) .nil)))))))
    Tryz.func31 rfl nmr31 rfl rfl rfl rfl types_ok ⟨⟨ok_keep_Src_N, ok_keep_name, ok_keep_Src_Pick, ok_keep_Src_Range, trivial⟩, trivial⟩ mx (fun x => by kernel_rfl)

noncomputable def keep_Src_Network_L0 (i : Int) (n : List (List UInt8)) : Option ((Int × List (List UInt8)) ⊕ (List (List UInt8))) :=
  bif decide (0 < i) then (
   (keep_name [110] (n.length : Int)).bind fun r4 =>
   gd (fits (n.length + 1) 16) <|
   some (.inl (wi64 (i - 1), n ++ [r4])))
  else (
   some (.inr n))

noncomputable def keep_Src_Network_L1 (s3 : List (List UInt8)) (i2 : Int) (s4 : List Int) (s5 : Int) (n2 : List (List UInt8)) (n3 : List yT1) : Option ((Int × List Int × Int × List (List UInt8) × List yT1) ⊕ (List Int × Int × List (List UInt8) × List yT1)) :=
  bif decide (i2 < wi64 ((s3.length : Int) - 1)) then (
   (keep_Src_Segment (n3.length : Int) i2 (wi64 (i2 + 1)) s4 s5).bind fun r5 =>
   gd (fits (n3.length + 1) 80) <|
   some (.inl (wi64 (i2 + 1), r5.2.1, r5.2.2, n2, n3 ++ [(r5.1.1, (r5.1.2.1, (r5.1.2.2.1, (r5.1.2.2.2.1, (r5.1.2.2.2.2.1, (r5.1.2.2.2.2.2.1, r5.1.2.2.2.2.2.2))))))])))
  else (
   some (.inr (s4, s5, n2, n3)))

noncomputable def keep_Src_Network_L2 (s3 : List (List UInt8)) (i3 : Int) (s7 : List Int) (s8 : Int) (n4 : List (List UInt8)) (n5 : List yT1) : Option ((Int × List Int × Int × List (List UInt8) × List yT1) ⊕ (List Int × Int × List (List UInt8) × List yT1)) :=
  bif decide (0 < i3) then (
   (keep_Src_N (wi64 ((s3.length : Int) - 1)) s7 s8).bind fun r7 =>
   (keep_Src_Range (wi64 (r7.1 + 1)) (wi64 ((s3.length : Int) - 1)) r7.2.1 r7.2.2).bind fun r8 =>
   (keep_Src_Segment (n5.length : Int) r7.1 r8.1 r8.2.1 r8.2.2).bind fun r9 =>
   gd (fits (n5.length + 1) 80) <|
   some (.inl (wi64 (i3 - 1), r9.2.1, r9.2.2, n4, n5 ++ [(r9.1.1, (r9.1.2.1, (r9.1.2.2.1, (r9.1.2.2.2.1, (r9.1.2.2.2.2.1, (r9.1.2.2.2.2.2.1, r9.1.2.2.2.2.2.2))))))])))
  else (
   some (.inr (s7, s8, n4, n5)))

noncomputable def keep_Src_Network_L3 (s3 : List (List UInt8)) (i4 : Int) (s10 : List Int) (s11 : Int) (n6 : List (List UInt8)) (n7 : List yT1) (n8 : List (List UInt8 × Int × Int)) (n9 : List (List UInt8 × Int × Int × Int × Int)) : Option ((Int × List Int × Int × List (List UInt8) × (List yT1) × (List (List UInt8 × Int × Int)) × List (List UInt8 × Int × Int × Int × Int)) ⊕ (List Int × Int × List (List UInt8) × (List yT1) × (List (List UInt8 × Int × Int)) × List (List UInt8 × Int × Int × Int × Int))) :=
  bif decide (i4 ≤ wi64 ((s3.length : Int) - 1)) then (
   Option.bind (α := Bool × List Int × Int × List (List UInt8) × (List yT1) × (List (List UInt8 × Int × Int)) × List (List UInt8 × Int × Int × Int × Int)) (
     bif decide (i4 = 0) then (
      some (true, s10, s11, n6, n7, n8, n9))
     else (
      bif decide (i4 = wi64 ((s3.length : Int) - 1)) then (
       some (true, s10, s11, n6, n7, n8, n9))
      else (
       (keep_Src_N 2 s10 s11).bind fun r10 =>
       some (decide (r10.1 = 0), r10.2.1, r10.2.2, n6, n7, n8, n9)))) fun s12 =>
   Option.bind (α := List Int × Int × List (List UInt8) × (List yT1) × (List (List UInt8 × Int × Int)) × List (List UInt8 × Int × Int × Int × Int)) (
     bif s12.1 then (
      (keep_name [113] (s12.2.2.2.2.2.1.length : Int)).bind fun r11 =>
      (keep_Src_Pick [300000, 1000000, 0, 5000000] s12.2.1 s12.2.2.1).bind fun r12 =>
      gd (fits (s12.2.2.2.2.2.1.length + 1) 32) <|
      some (r12.2.1, r12.2.2, s12.2.2.2.1, s12.2.2.2.2.1, s12.2.2.2.2.2.1 ++ [(r11, (i4, r12.1))], s12.2.2.2.2.2.2))
     else (
      some (s12.2.1, s12.2.2.1, s12.2.2.2.1, s12.2.2.2.2.1, s12.2.2.2.2.2.1, s12.2.2.2.2.2.2))) fun s13 =>
   Option.bind (α := Bool × List Int × Int × List (List UInt8) × (List yT1) × (List (List UInt8 × Int × Int)) × List (List UInt8 × Int × Int × Int × Int)) (
     bif decide (i4 < wi64 ((s3.length : Int) - 1)) then (
      (keep_Src_N 3 s13.1 s13.2.1).bind fun r13 =>
      some (decide (r13.1 = 0), r13.2.1, r13.2.2, s13.2.2.1, s13.2.2.2.1, s13.2.2.2.2.1, s13.2.2.2.2.2))
     else (
      some (false, s13.1, s13.2.1, s13.2.2.1, s13.2.2.2.1, s13.2.2.2.2.1, s13.2.2.2.2.2))) fun s14 =>
   Option.bind (α := List Int × Int × List (List UInt8) × (List yT1) × (List (List UInt8 × Int × Int)) × List (List UInt8 × Int × Int × Int × Int)) (
     bif s14.1 then (
      (keep_name [115] (s14.2.2.2.2.2.2.length : Int)).bind fun r14 =>
      (keep_Src_Pick [500000, 2000000, 0] s14.2.1 s14.2.2.1).bind fun r15 =>
      (keep_Src_Pick [0, 200, 100000] r15.2.1 r15.2.2).bind fun r16 =>
      (keep_Src_Pick [0, 100000, 400000] r16.2.1 r16.2.2).bind fun r17 =>
      gd (fits (s14.2.2.2.2.2.2.length + 1) 48) <|
      some (r17.2.1, r17.2.2, s14.2.2.2.1, s14.2.2.2.2.1, s14.2.2.2.2.2.1, s14.2.2.2.2.2.2 ++ [(r14, (i4, (r15.1, (r16.1, r17.1))))]))
     else (
      some (s14.2.1, s14.2.2.1, s14.2.2.2.1, s14.2.2.2.2.1, s14.2.2.2.2.2.1, s14.2.2.2.2.2.2))) fun s15 =>
   some (.inl (wi64 (i4 + 1), s15.1, s15.2.1, s15.2.2.1, s15.2.2.2.1, s15.2.2.2.2.1, s15.2.2.2.2.2)))
  else (
   some (.inr (s10, s11, n6, n7, n8, n9)))

noncomputable def keep_Src_Network (s : List Int) (s2 : Int) : Option ((List (List UInt8) × List yT1 × List (List UInt8 × Int × Int) × List (List UInt8 × Int × Int × Int × Int) × Int × Int) × List Int × Int) :=
  (keep_Src_Pick [(-100000), 0, 50000] s s2).bind fun r =>
  (keep_Src_Pick [0, 1, 5, 100] r.2.1 r.2.2).bind fun r2 =>
  (keep_Src_Range 2 6 r2.2.1 r2.2.2).bind fun r3 =>
  (iter (fun x => keep_Src_Network_L0 x.1 x.2) (r3.1, [])).bind fun s3 =>
  (iter (fun x2 => keep_Src_Network_L1 s3 x2.1 x2.2.1 x2.2.2.1 x2.2.2.2.1 x2.2.2.2.2) (0, r3.2.1, r3.2.2, s3, [])).bind fun s6 =>
  (keep_Src_N 4 s6.1 s6.2.1).bind fun r6 =>
  (iter (fun x3 => keep_Src_Network_L2 s3 x3.1 x3.2.1 x3.2.2.1 x3.2.2.2.1 x3.2.2.2.2) (r6.1, r6.2.1, r6.2.2, s6.2.2.1, s6.2.2.2)).bind fun s9 =>
  (iter (fun x4 => keep_Src_Network_L3 s3 x4.1 x4.2.1 x4.2.2.1 x4.2.2.2.1 x4.2.2.2.2.1 x4.2.2.2.2.2.1 x4.2.2.2.2.2.2) (0, s9.1, s9.2.1, s9.2.2.1, s9.2.2.2, [], [])).bind fun s16 =>
  some ((s16.2.2.1, (s16.2.2.2.1, (s16.2.2.2.2.1, (s16.2.2.2.2.2, (r.1, r2.1))))), s16.1, s16.2.1)

noncomputable def fn_keep_Src_Network : Fun :=
  { f := 9, np := 1, nr := 1,
    ji := ⟨[(0, .one (.ptr 0 0))], [(0, 76, [.data (.sl (.int .i64)), .data (.int .i64)])], []⟩,
    jo := ⟨[(0, .one (.data (.pair (.sl (.str)) (.pair (.sl (.pair (.str) (.pair (.int .i64) (.pair (.int .i64) (.pair (.int .i64) (.pair (.int .i64) (.pair (.int .i64) (.sl (.pair (.int .i64) tT2))))))))) (.pair (.sl (.pair (.str) tT2)) (.pair (.sl (.pair (.str) (.pair (.int .i64) (.pair (.int .i64) tT2)))) tT2))))))], [(0, 76, [.data (.sl (.int .i64)), .data (.int .i64)])], []⟩,
    tw := fun x => keep_Src_Network x.1 x.2 }
noncomputable def cx_keep_Src_Network : Cx := { Γ := types, ow := [], fs := [fn_keep_Src_Pick, fn_keep_Src_Range, fn_keep_name, fn_keep_Src_Segment, fn_keep_Src_N], N := 139 }
theorem ok_keep_Src_Network : FunOk Tryz.prog fn_keep_Src_Network :=
  FunOk.intro (C := cx_keep_Src_Network) (p := (nn (nn (mm (nn (mm (.mk [] (some (⟨[(0, .one (.ptr 0 0)), (2, .one (.ptr 48 0)), (3, .one (.ptr 64 0)), (4, ii)], [(0, 76, [.keep, .keep]), (48, 32, [.keep, .keep, .keep, .keep, .keep, .keep]), (64, 32, [.own 1049, .keep, .keep, .keep, .keep, .keep])], [(1049, .arr 9 (.str))]⟩, [⟨.x 0, ⟨[(0, .one (.ptr 0 0)), (2, .one (.ptr 48 0)), (3, .one (.ptr 64 0))], [(0, 76, [.keep, .keep]), (48, 32, [.keep, .keep, .keep, .keep, .keep, .keep]), (64, 32, [.own 1049, .keep, .keep, .keep, .keep, .keep])], [(1049, .arr 9 (.str))]⟩⟩])) .nil .nil) .nil)) (nn (mm (nn (mm (.mk [] (some (⟨[(0, .one (.ptr 0 0)), (2, .one (.ptr 48 0)), (3, .one (.ptr 64 0)), (5, kk), (6, ii)], [(0, 76, [.data (.sl (.int .i64)), .data (.int .i64)]), (48, 32, [.keep, .keep, .keep, .keep, .keep, .keep]), (64, 32, [.own 1049, .own 1065, .keep, .keep, .keep, .keep])], [(1049, .arr 9 (.str)), (1065, .arr 72 (.pair (.str) (.pair (.int .i64) (.pair (.int .i64) (.pair (.int .i64) (.pair (.int .i64) (.pair (.int .i64) (.sl (.pair (.int .i64) tT2)))))))))]⟩, [⟨.x 2, ⟨[(0, .one (.ptr 0 0)), (2, .one (.ptr 48 0)), (3, .one (.ptr 64 0)), (5, kk)], [(0, 76, [.data (.sl (.int .i64)), .data (.int .i64)]), (48, 32, [.keep, .keep, .keep, .keep, .keep, .keep]), (64, 32, [.own 1049, .own 1065, .keep, .keep, .keep, .keep])], [(1049, .arr 9 (.str)), (1065, .arr 72 (.pair (.str) (.pair (.int .i64) (.pair (.int .i64) (.pair (.int .i64) (.pair (.int .i64) (.pair (.int .i64) (.sl (.pair (.int .i64) tT2)))))))))]⟩⟩])) .nil .nil) .nil)) (mm (nn (mm (.mk [] (some (⟨[(0, .one (.ptr 0 0)), (2, .one (.ptr 48 0)), (3, .one (.ptr 64 0)), (5, kk), (7, ii)], [(0, 76, [.data (.sl (.int .i64)), .data (.int .i64)]), (48, 32, [.keep, .keep, .keep, .keep, .keep, .keep]), (64, 32, [.own 1049, .own 1065, .keep, .keep, .keep, .keep])], [(1049, .arr 9 (.str)), (1065, .arr 72 (.pair (.str) (.pair (.int .i64) (.pair (.int .i64) (.pair (.int .i64) (.pair (.int .i64) (.pair (.int .i64) (.sl (.pair (.int .i64) tT2)))))))))]⟩, [⟨.x 4, ⟨[(0, .one (.ptr 0 0)), (2, .one (.ptr 48 0)), (3, .one (.ptr 64 0)), (5, kk)], [(0, 76, [.data (.sl (.int .i64)), .data (.int .i64)]), (48, 32, [.keep, .keep, .keep, .keep, .keep, .keep]), (64, 32, [.own 1049, .own 1065, .keep, .keep, .keep, .keep])], [(1049, .arr 9 (.str)), (1065, .arr 72 (.pair (.str) (.pair (.int .i64) (.pair (.int .i64) (.pair (.int .i64) (.pair (.int .i64) (.pair (.int .i64) (.sl (.pair (.int .i64) tT2)))))))))]⟩⟩])) .nil .nil) .nil)) (mm (nn (mm (.mk [] (some (⟨[(0, .one (.ptr 0 0)), (2, .one (.ptr 48 0)), (3, .one (.ptr 64 0)), (5, kk), (9, ii)], [(0, 76, [.data (.sl (.int .i64)), .data (.int .i64)]), (48, 32, [.keep, .keep, .keep, .keep, .keep, .keep]), (64, 32, [.own 1049, .own 1065, .own 1081, .own 1097, .keep, .keep])], [(1049, .arr 9 (.str)), (1065, .arr 72 (.pair (.str) (.pair (.int .i64) (.pair (.int .i64) (.pair (.int .i64) (.pair (.int .i64) (.pair (.int .i64) (.sl (.pair (.int .i64) tT2))))))))), (1081, .arr 74 (.pair (.str) tT2)), (1097, .arr 80 (.pair (.str) (.pair (.int .i64) (.pair (.int .i64) tT2))))]⟩, [⟨.x 6, ⟨[(2, .one (.ptr 48 0)), (3, .one (.ptr 64 0))], [(48, 32, [.keep, .keep, .keep, .keep, .keep, .keep]), (64, 32, [.own 1049, .own 1065, .own 1081, .own 1097, .keep, .keep]), (0, 76, [.data (.sl (.int .i64)), .data (.int .i64)])], [(1049, .arr 9 (.str)), (1065, .arr 72 (.pair (.str) (.pair (.int .i64) (.pair (.int .i64) (.pair (.int .i64) (.pair (.int .i64) (.pair (.int .i64) (.sl (.pair (.int .i64) tT2))))))))), (1081, .arr 74 (.pair (.str) tT2)), (1097, .arr 80 (.pair (.str) (.pair (.int .i64) (.pair (.int .i64) tT2))))]⟩⟩])) (nn (mm (mm (mm (mm (.mk [.join [⟨.n, ⟨[(0, .one (.ptr 0 0)), (2, .one (.ptr 48 0)), (3, .one (.ptr 64 0)), (5, kk), (9, kk), (95, bb)], [(0, 76, [.data (.sl (.int .i64)), .data (.int .i64)]), (48, 32, [.keep, .keep, .keep, .keep, .keep, .keep]), (64, 32, [.own 1049, .own 1065, .own 1081, .own 1097, .keep, .keep])], [(1049, .arr 9 (.str)), (1065, .arr 72 (.pair (.str) (.pair (.int .i64) (.pair (.int .i64) (.pair (.int .i64) (.pair (.int .i64) (.pair (.int .i64) (.sl (.pair (.int .i64) tT2))))))))), (1081, .arr 74 (.pair (.str) tT2)), (1097, .arr 80 (.pair (.str) (.pair (.int .i64) (.pair (.int .i64) tT2))))]⟩⟩]] none .nil .nil) (.mk [.join [⟨.n, ⟨[(0, .one (.ptr 0 0)), (2, .one (.ptr 48 0)), (3, .one (.ptr 64 0)), (5, kk), (9, kk)], [(0, 76, [.data (.sl (.int .i64)), .data (.int .i64)]), (48, 32, [.keep, .keep, .keep, .keep, .keep, .keep]), (64, 32, [.own 1049, .own 1065, .own 1081, .own 1097, .keep, .keep])], [(1049, .arr 9 (.str)), (1065, .arr 72 (.pair (.str) (.pair (.int .i64) (.pair (.int .i64) (.pair (.int .i64) (.pair (.int .i64) (.pair (.int .i64) (.sl (.pair (.int .i64) tT2))))))))), (1081, .arr 74 (.pair (.str) tT2)), (1097, .arr 80 (.pair (.str) (.pair (.int .i64) (.pair (.int .i64) tT2))))]⟩⟩]] none .nil .nil)) (mm (.mk [.join [⟨.n, ⟨[(0, .one (.ptr 0 0)), (2, .one (.ptr 48 0)), (3, .one (.ptr 64 0)), (5, kk), (9, kk), (117, bb)], [(0, 76, [.data (.sl (.int .i64)), .data (.int .i64)]), (48, 32, [.keep, .keep, .keep, .keep, .keep, .keep]), (64, 32, [.own 1049, .own 1065, .own 1081, .own 1097, .keep, .keep])], [(1049, .arr 9 (.str)), (1065, .arr 72 (.pair (.str) (.pair (.int .i64) (.pair (.int .i64) (.pair (.int .i64) (.pair (.int .i64) (.pair (.int .i64) (.sl (.pair (.int .i64) tT2))))))))), (1081, .arr 74 (.pair (.str) tT2)), (1097, .arr 80 (.pair (.str) (.pair (.int .i64) (.pair (.int .i64) tT2))))]⟩⟩]] none .nil .nil) (.mk [.join [⟨.n, ⟨[(0, .one (.ptr 0 0)), (2, .one (.ptr 48 0)), (3, .one (.ptr 64 0)), (5, kk), (9, kk)], [(0, 76, [.data (.sl (.int .i64)), .data (.int .i64)]), (48, 32, [.keep, .keep, .keep, .keep, .keep, .keep]), (64, 32, [.own 1049, .own 1065, .own 1081, .own 1097, .keep, .keep])], [(1049, .arr 9 (.str)), (1065, .arr 72 (.pair (.str) (.pair (.int .i64) (.pair (.int .i64) (.pair (.int .i64) (.pair (.int .i64) (.pair (.int .i64) (.sl (.pair (.int .i64) tT2))))))))), (1081, .arr 74 (.pair (.str) tT2)), (1097, .arr 80 (.pair (.str) (.pair (.int .i64) (.pair (.int .i64) tT2))))]⟩⟩]] none .nil .nil))) .nil) .nil)) .nil) .nil)) .nil))))))))
    Tryz.func9 rfl nmr9 rfl rfl rfl rfl types_ok ⟨⟨ok_keep_Src_Pick, ok_keep_Src_Range, ok_keep_name, ok_keep_Src_Segment, ok_keep_Src_N, trivial⟩, trivial⟩ mx (fun x => by kernel_rfl)

noncomputable def keep_Src_Product (n : Int) (s : List Int) (s2 : Int) : Option ((List UInt8 × Int × Int × Int × Int) × List Int × Int) :=
  (keep_name [112] n).bind fun r =>
  (keep_Src_Range 400 1200 s s2).bind fun r2 =>
  (keep_Src_Pick [0, 830, 2000, 1] r2.2.1 r2.2.2).bind fun r3 =>
  (keep_Src_Pick [0, 800, 5000, 3] r3.2.1 r3.2.2).bind fun r4 =>
  (keep_Src_Pick [1, 700, 1000, 1300, 2000] r4.2.1 r4.2.2).bind fun r5 =>
  some ((r, (r2.1, (r3.1, (r4.1, r5.1)))), r5.2.1, r5.2.2)

noncomputable def fn_keep_Src_Product : Fun :=
  { f := 32, np := 2, nr := 1,
    ji := ⟨[(0, .one (.ptr 0 0)), (1, ii)], [(0, 76, [.data (.sl (.int .i64)), .data (.int .i64)])], []⟩,
    jo := ⟨[(0, .one (.data (.pair (.str) (.pair (.int .i64) (.pair (.int .i64) tT2)))))], [(0, 76, [.data (.sl (.int .i64)), .data (.int .i64)])], []⟩,
    tw := fun x => keep_Src_Product x.1 x.2.1 x.2.2 }
noncomputable def cx_keep_Src_Product : Cx := { Γ := types, ow := [], fs := [fn_keep_name, fn_keep_Src_Range, fn_keep_Src_Pick], N := 19 }
theorem ok_keep_Src_Product : FunOk Tryz.prog fn_keep_Src_Product :=
  FunOk.intro (C := cx_keep_Src_Product) (p := .nil)
    Tryz.func32 rfl nmr32 rfl rfl rfl rfl types_ok ⟨⟨ok_keep_name, ok_keep_Src_Range, ok_keep_Src_Pick, trivial⟩, trivial⟩ mx (fun x => by kernel_rfl)

noncomputable def keep_Src_Products_L0 (i : Int) (s3 : List Int) (s4 : Int) (out : List (List UInt8 × Int × Int × Int × Int)) : Option ((Int × List Int × Int × List (List UInt8 × Int × Int × Int × Int)) ⊕ (List Int × Int × List (List UInt8 × Int × Int × Int × Int))) :=
  bif decide (0 < i) then (
   (keep_Src_Product (out.length : Int) s3 s4).bind fun r2 =>
   gd (fits (out.length + 1) 48) <|
   some (.inl (wi64 (i - 1), r2.2.1, r2.2.2, out ++ [(r2.1.1, (r2.1.2.1, (r2.1.2.2.1, (r2.1.2.2.2.1, r2.1.2.2.2.2))))])))
  else (
   some (.inr (s3, s4, out)))

noncomputable def keep_Src_Products (s : List Int) (s2 : Int) : Option (List Int × Int × List (List UInt8 × Int × Int × Int × Int)) :=
  (keep_Src_Range 1 4 s s2).bind fun r =>
  (iter (fun x => keep_Src_Products_L0 x.1 x.2.1 x.2.2.1 x.2.2.2) (r.1, r.2.1, r.2.2, [])).bind fun s5 =>
  some (s5.1, s5.2.1, s5.2.2)

noncomputable def fn_keep_Src_Products : Fun :=
  { f := 10, np := 1, nr := 1,
    ji := ⟨[(0, .one (.ptr 0 0))], [(0, 76, [.data (.sl (.int .i64)), .data (.int .i64)])], []⟩,
    jo := ⟨[(0, .one (.own 1))], [(0, 76, [.data (.sl (.int .i64)), .data (.int .i64)])], [(1, .arr 44 (.pair (.str) (.pair (.int .i64) (.pair (.int .i64) tT2))))]⟩,
    tw := fun x => keep_Src_Products x.1 x.2 }
noncomputable def cx_keep_Src_Products : Cx := { Γ := types, ow := [], fs := [fn_keep_Src_Range, fn_keep_Src_Product], N := 19 }
theorem ok_keep_Src_Products : FunOk Tryz.prog fn_keep_Src_Products :=
  FunOk.intro (C := cx_keep_Src_Products) (p := (nn (nn (mm (nn (mm (.mk [] (some (⟨[(0, .one (.ptr 0 0)), (3, .one (.own 75)), (4, ii)], [(0, 76, [.data (.sl (.int .i64)), .data (.int .i64)])], [(75, .arr 44 (.pair (.str) (.pair (.int .i64) (.pair (.int .i64) tT2))))]⟩, [⟨.x 0, ⟨[(3, .one (.own 75))], [(0, 76, [.data (.sl (.int .i64)), .data (.int .i64)])], [(75, .arr 44 (.pair (.str) (.pair (.int .i64) (.pair (.int .i64) tT2))))]⟩⟩])) .nil .nil) .nil)) .nil))))
    Tryz.func10 rfl nmr10 rfl rfl rfl rfl types_ok ⟨⟨ok_keep_Src_Range, ok_keep_Src_Product, trivial⟩, trivial⟩ mx (fun x => by kernel_rfl)

noncomputable def keep_Src_Text (l : List (List UInt8)) (s : List Int) (s2 : Int) : Option (List UInt8 × List Int × Int) :=
  (keep_Src_N (l.length : Int) s s2).bind fun r =>
  gd (inB r.1 l.length) <|
  some (l.getD r.1.toNat [], r.2.1, r.2.2)

noncomputable def fn_keep_Src_Text : Fun :=
  { f := 45, np := 2, nr := 1,
    ji := ⟨[(0, .one (.ptr 0 0)), (1, .one (.data (.sl (.str))))], [(0, 76, [.data (.sl (.int .i64)), .data (.int .i64)])], []⟩,
    jo := ⟨[(0, ss)], [(0, 76, [.data (.sl (.int .i64)), .data (.int .i64)])], []⟩,
    tw := fun x => keep_Src_Text x.1 x.2.1 x.2.2 }
noncomputable def cx_keep_Src_Text : Cx := { Γ := types, ow := [], fs := [fn_keep_Src_N], N := 12 }
theorem ok_keep_Src_Text : FunOk Tryz.prog fn_keep_Src_Text :=
  FunOk.intro (C := cx_keep_Src_Text) (p := .nil)
    Tryz.func45 rfl nmr45 rfl rfl rfl rfl types_ok ⟨⟨ok_keep_Src_N, trivial⟩, trivial⟩ mx (fun x => by kernel_rfl)

noncomputable def law29_nominations_L0 (n : List (List UInt8) × List yT1 × List (List UInt8 × Int × Int) × List (List UInt8 × Int × Int × Int × Int) × Int × Int) (products : List (List UInt8 × Int × Int × Int × Int)) (i : Int) (s3 : List Int) (s4 : Int) (l : List yT0) : Option ((Int × List Int × Int × List yT0) ⊕ (List Int × Int × List yT0)) :=
  bif decide (0 < i) then (
   (keep_Src_Text [[97], [98], [99]] s3 s4).bind fun r2 =>
   (keep_Src_N (products.length : Int) r2.2.1 r2.2.2).bind fun r3 =>
   gd (inB r3.1 products.length) <|
   (keep_Src_N (n.2.2.1.length : Int) r3.2.1 r3.2.2).bind fun r4 =>
   gd (inB r4.1 n.2.2.1.length) <|
   (keep_Src_N 3 r4.2.1 r4.2.2).bind fun r5 =>
   (keep_Src_Range 1 500 r5.2.1 r5.2.2).bind fun r6 =>
   (keep_Src_N (n.2.2.1.length : Int) r6.2.1 r6.2.2).bind fun r7 =>
   gd (inB r7.1 n.2.2.1.length) <|
   Option.bind (α := List UInt8 × List UInt8 × List yT0) (
     bif decide ((n.2.2.1.getD r7.1.toNat ([], (0, 0))).1 = (n.2.2.1.getD r4.1.toNat ([], (0, 0))).1) then (
      gd (inB 0 n.2.2.1.length) <|
      gd (inB (wi64 ((n.2.2.1.length : Int) - 1)) n.2.2.1.length) <|
      some ((n.2.2.1.getD (wi64 ((n.2.2.1.length : Int) - 1)).toNat ([], (0, 0))).1, (n.2.2.1.getD 0 ([], (0, 0))).1, l))
     else (
      some ((n.2.2.1.getD r4.1.toNat ([], (0, 0))).1, (n.2.2.1.getD r7.1.toNat ([], (0, 0))).1, l))) fun s5 =>
   gd (fits (s5.2.2.length + 1) 80) <|
   some (.inl (wi64 (i - 1), r7.2.1, r7.2.2, s5.2.2 ++ [(r2.1, ((products.getD r3.1.toNat ([], (0, (0, (0, 0))))).1, (s5.1, (s5.2.1, (r5.1, r6.1)))))])))
  else (
   some (.inr (s3, s4, l)))

noncomputable def law29_nominations (n : List (List UInt8) × List yT1 × List (List UInt8 × Int × Int) × List (List UInt8 × Int × Int × Int × Int) × Int × Int) (products : List (List UInt8 × Int × Int × Int × Int)) (s : List Int) (s2 : Int) : Option (List Int × Int × List yT0) :=
  (keep_Src_N 14 s s2).bind fun r =>
  (iter (fun x => law29_nominations_L0 n products x.1 x.2.1 x.2.2.1 x.2.2.2) (r.1, r.2.1, r.2.2, [])).bind fun s6 =>
  some (s6.1, s6.2.1, s6.2.2)

noncomputable def fn_law29_nominations : Fun :=
  { f := 12, np := 3, nr := 1,
    ji := ⟨[(0, .one (.ptr 0 0)), (1, .one (.data (.pair (.sl (.str)) (.pair (.sl (.pair (.str) (.pair (.int .i64) (.pair (.int .i64) (.pair (.int .i64) (.pair (.int .i64) (.pair (.int .i64) (.sl (.pair (.int .i64) tT2))))))))) (.pair (.sl (.pair (.str) tT2)) (.pair (.sl (.pair (.str) (.pair (.int .i64) (.pair (.int .i64) tT2)))) tT2)))))), (2, .one (.data (.sl (.pair (.str) (.pair (.int .i64) (.pair (.int .i64) tT2))))))], [(0, 76, [.data (.sl (.int .i64)), .data (.int .i64)])], []⟩,
    jo := ⟨[(0, .one (.own 1))], [(0, 76, [.data (.sl (.int .i64)), .data (.int .i64)])], [(1, .arr 51 tT0)]⟩,
    tw := fun x => law29_nominations x.1 x.2.1 x.2.2.1 x.2.2.2 }
noncomputable def cx_law29_nominations : Cx := { Γ := types, ow := [], fs := [fn_keep_Src_N, fn_keep_Src_Text, fn_keep_Src_Range], N := 79 }
theorem ok_law29_nominations : FunOk Tryz.prog fn_law29_nominations :=
  FunOk.intro (C := cx_law29_nominations) (p := (nn (nn (mm (nn (mm (.mk [] (some (⟨[(0, .one (.ptr 0 0)), (2, kk), (4, .one (.ptr 80 0)), (7, .one (.own 139)), (8, ii)], [(0, 76, [.data (.sl (.int .i64)), .data (.int .i64)]), (80, 32, [.keep, .keep, .keep, .keep, .keep, .keep])], [(139, .arr 51 tT0)]⟩, [⟨.x 0, ⟨[(7, .one (.own 139))], [(0, 76, [.data (.sl (.int .i64)), .data (.int .i64)])], [(139, .arr 51 tT0)]⟩⟩])) (nn (mm (mm (nn (nn (mm (nn (.mk [.join [⟨.n, ⟨[(0, .one (.ptr 0 0)), (2, kk), (4, .one (.ptr 80 0)), (7, .one (.own 139)), (8, kk), (9, .one (.ptr 160 0))], [(0, 76, [.keep, .keep]), (80, 32, [.keep, .keep, .keep, .keep, .keep, .keep]), (160, 51, [.keep, .keep, .data (.str), .data (.str), .keep, .keep])], [(139, .arr 51 tT0)]⟩⟩]] none .nil .nil)) .nil))) .nil) .nil)) .nil) .nil)) .nil))))
    Tryz.func12 rfl nmr12 rfl rfl rfl rfl types_ok ⟨⟨ok_keep_Src_N, ok_keep_Src_Text, ok_keep_Src_Range, trivial⟩, trivial⟩ mx (fun x => by kernel_rfl)

noncomputable def ref03_Name_L0 (s : List UInt8) (i : Int) : Option (Int ⊕ (Unit ⊕ Bool)) :=
  bif decide (i < (s.length : Int)) then (
   Option.bind (α := Bool) (
     gd (inB i s.length) <|
     bif decide ((Int.ofNat (s.getD i.toNat 0).toNat) < 97) then (
      gd (inB i s.length) <|
      bif decide ((Int.ofNat (s.getD i.toNat 0).toNat) < 48) then (
       gd (inB i s.length) <|
       some (!decide ((Int.ofNat (s.getD i.toNat 0).toNat) = 45)))
      else (
       gd (inB i s.length) <|
       bif decide (57 < (Int.ofNat (s.getD i.toNat 0).toNat)) then (
        gd (inB i s.length) <|
        some (!decide ((Int.ofNat (s.getD i.toNat 0).toNat) = 45)))
       else (
        some false)))
     else (
      gd (inB i s.length) <|
      bif decide (122 < (Int.ofNat (s.getD i.toNat 0).toNat)) then (
       gd (inB i s.length) <|
       bif decide ((Int.ofNat (s.getD i.toNat 0).toNat) < 48) then (
        gd (inB i s.length) <|
        some (!decide ((Int.ofNat (s.getD i.toNat 0).toNat) = 45)))
       else (
        gd (inB i s.length) <|
        bif decide (57 < (Int.ofNat (s.getD i.toNat 0).toNat)) then (
         gd (inB i s.length) <|
         some (!decide ((Int.ofNat (s.getD i.toNat 0).toNat) = 45)))
        else (
         some false)))
      else (
       some false))) fun s3 =>
   bif s3 then (
    some (.inr (.inr false)))
   else (
    some (.inl (wi64 (i + 1)))))
  else (
   some (.inr (.inl ())))

noncomputable def ref03_Name (s : List UInt8) : Option (Bool) :=
  Option.bind (α := Bool) (
    bif decide ((s.length : Int) < 1) then (
     some true)
    else (
     bif decide (12 < (s.length : Int)) then (
      some true)
     else (
      gd (inB 0 s.length) <|
      bif decide ((Int.ofNat (s.getD 0 0).toNat) < 97) then (
       some true)
      else (
       gd (inB 0 s.length) <|
       some (decide (122 < (Int.ofNat (s.getD 0 0).toNat))))))) fun s2 =>
  bif s2 then (
   some false)
  else (
   (iter (fun x => ref03_Name_L0 s x) 0).bind fun s4 =>
   s4.elim (fun s5 =>
    some true)
   (fun s6 =>
    some s6))

noncomputable def fn_ref03_Name : Fun :=
  { f := 88, np := 1, nr := 1,
    ji := ⟨[(0, ss)], [], []⟩,
    jo := ⟨[(0, bb)], [], []⟩,
    tw := fun x => ref03_Name x }
noncomputable def cx_ref03_Name : Cx := { Γ := types, ow := [], fs := [], N := 56 }
theorem ok_ref03_Name : FunOk Tryz.prog fn_ref03_Name :=
  FunOk.intro (C := cx_ref03_Name) (p := (nn (mm (mm (.mk [.join [⟨.n, ⟨[(0, kk), (21, bb)], [], []⟩⟩]] none .nil .nil) .nil) (mm (nn (mm (.mk [] (some (⟨[(0, kk), (3, ii)], [], []⟩, [⟨.x 0, ⟨[], [], []⟩⟩, ⟨.r, ⟨[(2, bb)], [], []⟩⟩])) (nn (mm (mm (mm (.mk [.join [⟨.n, ⟨[(0, kk), (3, kk), (55, bb)], [], []⟩⟩]] none .nil .nil) .nil) .nil) .nil)) .nil) .nil)) .nil))))
    Tryz.func88 rfl nmr88 rfl rfl rfl rfl types_ok ⟨trivial, trivial⟩ mx (fun x => by kernel_rfl)

noncomputable def ref11_Valid (n : List UInt8 × List UInt8 × List UInt8 × List UInt8 × Int × Int) : Option (Bool) :=
  (ref03_Name n.1).bind fun r =>
  bif r then (
   (ref03_Name n.2.1).bind fun r2 =>
   bif r2 then (
    (ref03_Name n.2.2.1).bind fun r3 =>
    bif r3 then (
     (ref03_Name n.2.2.2.1).bind fun r4 =>
     bif r4 then (
      bif !decide (n.2.2.1 = n.2.2.2.1) then (
       bif decide (0 ≤ n.2.2.2.2.1) then (
        bif decide (n.2.2.2.2.1 ≤ 1000000) then (
         bif decide (1 ≤ n.2.2.2.2.2) then (
          some (decide (n.2.2.2.2.2 ≤ 1099511627776)))
         else (
          some false))
        else (
         some false))
       else (
        some false))
      else (
       some false))
     else (
      some false))
    else (
     some false))
   else (
    some false))
  else (
   some false)

noncomputable def fn_ref11_Valid : Fun :=
  { f := 85, np := 1, nr := 1,
    ji := ⟨[(0, .one (.data tT0))], [], []⟩,
    jo := ⟨[(0, bb)], [], []⟩,
    tw := fun x => ref11_Valid x }
noncomputable def cx_ref11_Valid : Cx := { Γ := types, ow := [], fs := [fn_ref03_Name], N := 48 }
theorem ok_ref11_Valid : FunOk Tryz.prog fn_ref11_Valid :=
  FunOk.intro (C := cx_ref11_Valid) (p := .nil)
    Tryz.func85 rfl nmr85 rfl rfl rfl rfl types_ok ⟨⟨ok_ref03_Name, trivial⟩, trivial⟩ mx (fun x => by kernel_rfl)

noncomputable def ref11_Check_L0 (l : List yT0) (v : Int) : Option (Int ⊕ (Unit ⊕ Int)) :=
  bif decide (v < (l.length : Int)) then (
   gd (inB v l.length) <|
   (ref11_Valid (l.getD v.toNat ([], ([], ([], ([], (0, 0))))))).bind fun r =>
   bif !r then (
    some (.inr (.inr 9)))
   else (
    some (.inl (wi64 (v + 1)))))
  else (
   some (.inr (.inl ())))

noncomputable def ref11_Check (l : List yT0) : Option (Int) :=
  bif decide (400 < (l.length : Int)) then (
   some 4)
  else (
   (iter (fun x => ref11_Check_L0 l x) 0).bind fun s =>
   s.elim (fun s2 =>
    some 0)
   (fun s3 =>
    some s3))

noncomputable def fn_ref11_Check : Fun :=
  { f := 46, np := 1, nr := 1,
    ji := ⟨[(0, .one (.data (.sl tT0)))], [], []⟩,
    jo := ⟨[(0, ii)], [], []⟩,
    tw := fun x => ref11_Check x }
noncomputable def cx_ref11_Check : Cx := { Γ := types, ow := [], fs := [fn_ref11_Valid], N := 19 }
theorem ok_ref11_Check : FunOk Tryz.prog fn_ref11_Check :=
  FunOk.intro (C := cx_ref11_Check) (p := (nn (nn (mm (nn (mm (.mk [] (some (⟨[(0, kk), (8, kk), (9, ii)], [], []⟩, [⟨.x 0, ⟨[], [], []⟩⟩, ⟨.r, ⟨[(2, ii)], [], []⟩⟩])) .nil .nil) .nil)) .nil))))
    Tryz.func46 rfl nmr46 rfl rfl rfl rfl types_ok ⟨⟨ok_ref11_Valid, trivial⟩, trivial⟩ mx (fun x => by kernel_rfl)

noncomputable def ref11_Cmp_L0 (a : List UInt8 × List UInt8 × List UInt8 × List UInt8 × Int × Int) (b : List UInt8 × List UInt8 × List UInt8 × List UInt8 × Int × Int) (v : Int) : Option (Int ⊕ (Unit ⊕ Int)) :=
  bif decide (v < ([a.1, a.2.1, a.2.2.1, a.2.2.2.1].length : Int)) then (
   gd (inB v [a.1, a.2.1, a.2.2.1, a.2.2.2.1].length) <|
   gd (inB v [b.1, b.2.1, b.2.2.1, b.2.2.2.1].length) <|
   bif Op.bytesLess ([a.1, a.2.1, a.2.2.1, a.2.2.2.1].getD v.toNat []) ([b.1, b.2.1, b.2.2.1, b.2.2.2.1].getD v.toNat []) then (
    some (.inr (.inr (-1))))
   else (
    gd (inB v [a.1, a.2.1, a.2.2.1, a.2.2.2.1].length) <|
    gd (inB v [b.1, b.2.1, b.2.2.1, b.2.2.2.1].length) <|
    bif !(Op.bytesLess ([a.1, a.2.1, a.2.2.1, a.2.2.2.1].getD v.toNat []) ([b.1, b.2.1, b.2.2.1, b.2.2.2.1].getD v.toNat []) || decide ([a.1, a.2.1, a.2.2.1, a.2.2.2.1].getD v.toNat [] = [b.1, b.2.1, b.2.2.1, b.2.2.2.1].getD v.toNat [])) then (
     some (.inr (.inr 1)))
    else (
     some (.inl (wi64 (v + 1))))))
  else (
   some (.inr (.inl ())))

noncomputable def ref11_Cmp (a : List UInt8 × List UInt8 × List UInt8 × List UInt8 × Int × Int) (b : List UInt8 × List UInt8 × List UInt8 × List UInt8 × Int × Int) : Option (Int) :=
  bif !decide (a.2.2.2.2.1 = b.2.2.2.2.1) then (
   bif decide (a.2.2.2.2.1 < b.2.2.2.2.1) then (
    some (-1))
   else (
    some 1))
  else (
   (iter (fun x => ref11_Cmp_L0 a b x) 0).bind fun s =>
   s.elim (fun s2 =>
    some 0)
   (fun s3 =>
    some s3))

noncomputable def fn_ref11_Cmp : Fun :=
  { f := 47, np := 2, nr := 1,
    ji := ⟨[(0, .one (.data tT0)), (1, .one (.data tT0))], [], []⟩,
    jo := ⟨[(0, ii)], [], []⟩,
    tw := fun x => ref11_Cmp x.1 x.2 }
noncomputable def cx_ref11_Cmp : Cx := { Γ := types, ow := [], fs := [], N := 60 }
theorem ok_ref11_Cmp : FunOk Tryz.prog fn_ref11_Cmp :=
  FunOk.intro (C := cx_ref11_Cmp) (p := (nn (nn (nn (mm (nn (mm (.mk [] (some (⟨[(5, kk), (6, kk), (37, kk), (38, ii)], [], []⟩, [⟨.x 0, ⟨[], [], []⟩⟩, ⟨.r, ⟨[(4, ii)], [], []⟩⟩])) .nil .nil) .nil)) .nil)))))
    Tryz.func47 rfl nmr47 rfl rfl rfl rfl types_ok ⟨trivial, trivial⟩ mx (fun x => by kernel_rfl)

noncomputable def ref11_Totals_L1 (l : List yT0) (v : Int) (vat : Int) (out2 : List yT0) : Option ((Int × List yT0) ⊕ (Int × List yT0)) :=
  Option.bind (α := Bool × List yT0) (
    bif decide (vat < (out2.length : Int)) then (
     gd (inB vat out2.length) <|
     (ref11_Cmp (out2.getD vat.toNat ([], ([], ([], ([], (0, 0)))))) ((l.getD v.toNat ([], ([], ([], ([], (0, 0)))))).1, (((l.getD v.toNat ([], ([], ([], ([], (0, 0)))))).2).1, ((((l.getD v.toNat ([], ([], ([], ([], (0, 0)))))).2).2).1, (((((l.getD v.toNat ([], ([], ([], ([], (0, 0)))))).2).2).2).1, ((((((l.getD v.toNat ([], ([], ([], ([], (0, 0)))))).2).2).2).2).1, (((((l.getD v.toNat ([], ([], ([], ([], (0, 0)))))).2).2).2).2).2)))))).bind fun r2 =>
     some (decide (r2 < 0), out2))
    else (
     some (false, out2))) fun s =>
  bif s.1 then (
   some (.inl (wi64 (vat + 1), s.2)))
  else (
   some (.inr (vat, s.2)))

noncomputable def ref11_Totals_L0 (l : List yT0) (v : Int) (out : List yT0) : Option ((Int × List yT0) ⊕ (List yT0)) :=
  bif decide (v < (l.length : Int)) then (
   Option.bind (α := List yT0) (
     gd (inB v l.length) <|
     (iter (fun x => ref11_Totals_L1 l v x.1 x.2) (0, out)).bind fun s2 =>
     Option.bind (α := Bool × List yT0) (
       bif decide (s2.1 < (s2.2.length : Int)) then (
        gd (inB s2.1 s2.2.length) <|
        (ref11_Cmp (s2.2.getD s2.1.toNat ([], ([], ([], ([], (0, 0)))))) ((l.getD v.toNat ([], ([], ([], ([], (0, 0)))))).1, (((l.getD v.toNat ([], ([], ([], ([], (0, 0)))))).2).1, ((((l.getD v.toNat ([], ([], ([], ([], (0, 0)))))).2).2).1, (((((l.getD v.toNat ([], ([], ([], ([], (0, 0)))))).2).2).2).1, ((((((l.getD v.toNat ([], ([], ([], ([], (0, 0)))))).2).2).2).2).1, (((((l.getD v.toNat ([], ([], ([], ([], (0, 0)))))).2).2).2).2).2)))))).bind fun r3 =>
        some (decide (r3 = 0), s2.2))
       else (
        some (false, s2.2))) fun s3 =>
     bif s3.1 then (
      gd (inB s2.1 s3.2.length) <|
      gd (inB s2.1 s3.2.length) <|
      some (s3.2.set s2.1.toNat ((s3.2.getD s2.1.toNat ([], ([], ([], ([], (0, 0)))))).1, (((s3.2.getD s2.1.toNat ([], ([], ([], ([], (0, 0)))))).2).1, ((((s3.2.getD s2.1.toNat ([], ([], ([], ([], (0, 0)))))).2).2).1, (((((s3.2.getD s2.1.toNat ([], ([], ([], ([], (0, 0)))))).2).2).2).1, ((((((s3.2.getD s2.1.toNat ([], ([], ([], ([], (0, 0)))))).2).2).2).2).1, wi64 (((((((s3.2.getD s2.1.toNat ([], ([], ([], ([], (0, 0)))))).2).2).2).2).2) + ((((((l.getD v.toNat ([], ([], ([], ([], (0, 0)))))).2).2).2).2).2)))))))))
     else (
      gd (cutG none (some (.i64, s2.1)) s3.2.length) <|
      gd (fits (0 + (s3.2.take s2.1.toNat).length) 80) <|
      gd (fits (([] ++ (s3.2.take s2.1.toNat)).length + 1) 80) <|
      gd (cutG (some (.i64, s2.1)) none s3.2.length) <|
      gd (fits ((([] ++ (s3.2.take s2.1.toNat)) ++ [((l.getD v.toNat ([], ([], ([], ([], (0, 0)))))).1, (((l.getD v.toNat ([], ([], ([], ([], (0, 0)))))).2).1, ((((l.getD v.toNat ([], ([], ([], ([], (0, 0)))))).2).2).1, (((((l.getD v.toNat ([], ([], ([], ([], (0, 0)))))).2).2).2).1, ((((((l.getD v.toNat ([], ([], ([], ([], (0, 0)))))).2).2).2).2).1, (((((l.getD v.toNat ([], ([], ([], ([], (0, 0)))))).2).2).2).2).2)))))]).length + (s3.2.drop s2.1.toNat).length) 80) <|
      some ((([] ++ (s3.2.take s2.1.toNat)) ++ [((l.getD v.toNat ([], ([], ([], ([], (0, 0)))))).1, (((l.getD v.toNat ([], ([], ([], ([], (0, 0)))))).2).1, ((((l.getD v.toNat ([], ([], ([], ([], (0, 0)))))).2).2).1, (((((l.getD v.toNat ([], ([], ([], ([], (0, 0)))))).2).2).2).1, ((((((l.getD v.toNat ([], ([], ([], ([], (0, 0)))))).2).2).2).2).1, (((((l.getD v.toNat ([], ([], ([], ([], (0, 0)))))).2).2).2).2).2)))))]) ++ (s3.2.drop s2.1.toNat)))) fun s4 =>
   some (.inl (wi64 (v + 1), s4)))
  else (
   some (.inr out))

noncomputable def ref11_Totals_L2 (s5 : List yT0) (v2 : Int) (out3 : List yT0) : Option ((Int × List yT0) ⊕ ((List yT0) ⊕ ((List yT0) × Int))) :=
  bif decide (v2 < (s5.length : Int)) then (
   gd (inB v2 out3.length) <|
   bif decide (1099511627776 < (((((out3.getD v2.toNat ([], ([], ([], ([], (0, 0)))))).2).2).2).2).2) then (
    some (.inr (.inr ([], 4))))
   else (
    some (.inl (wi64 (v2 + 1), out3))))
  else (
   some (.inr (.inl out3)))

noncomputable def ref11_Totals (l : List yT0) : Option ((List yT0) × Int) :=
  (ref11_Check l).bind fun r =>
  bif !decide (r = 0) then (
   some ([], r))
  else (
   (iter (fun x2 => ref11_Totals_L0 l x2.1 x2.2) (0, [])).bind fun s5 =>
   (iter (fun x3 => ref11_Totals_L2 s5 x3.1 x3.2) (0, s5)).bind fun s6 =>
   s6.elim (fun s7 =>
    some (s7, 0))
   (fun s8 =>
    some (s8.1, s8.2)))

noncomputable def fn_ref11_Totals : Fun :=
  { f := 14, np := 1, nr := 2,
    ji := ⟨[(0, .one (.data (.sl tT0)))], [], []⟩,
    jo := ⟨[(0, .one (.data (.sl tT0))), (1, ii)], [], []⟩,
    tw := fun x => ref11_Totals x }
noncomputable def cx_ref11_Totals : Cx := { Γ := types, ow := [59], fs := [fn_ref11_Check, fn_ref11_Cmp], N := 85 }
theorem ok_ref11_Totals : FunOk Tryz.prog fn_ref11_Totals :=
  FunOk.intro (C := cx_ref11_Totals) (p := (nn (nn (nn (mm (nn (mm (.mk [] (some (⟨[(5, .one (.own 107)), (15, kk), (16, kk), (17, ii)], [], [(107, .arr 51 tT0)]⟩, [⟨.x 0, ⟨[(5, .one (.own 107))], [], [(107, .arr 51 tT0)]⟩⟩])) (nn (nn (mm (.mk [.join [⟨.n, ⟨[(5, .one (.own 107)), (15, kk), (16, kk), (17, kk)], [], [(107, .arr 51 tT0)]⟩⟩]] none (nn (nn (mm (mm (.mk [] (some (⟨[(5, .one (.own 107)), (7, .one (.ptr 128 0)), (8, ii), (15, kk), (16, kk), (17, kk)], [(128, 51, [.keep, .keep, .keep, .keep, .keep, .keep])], [(107, .arr 51 tT0)]⟩, [⟨.x 2, ⟨[(5, .one (.own 107)), (7, .one (.ptr 128 0)), (8, ii), (15, kk), (16, kk), (17, kk)], [(128, 51, [.keep, .keep, .keep, .keep, .keep, .keep])], [(107, .arr 51 tT0)]⟩⟩])) (mm (mm (.mk [.join [⟨.n, ⟨[(5, .one (.own 107)), (7, .one (.ptr 128 0)), (8, kk), (15, kk), (16, kk), (17, kk), (33, bb)], [(128, 51, [.keep, .keep, .keep, .keep, .keep, .keep])], [(107, .arr 51 tT0)]⟩⟩]] none .nil .nil) .nil) .nil) .nil) .nil) (mm (mm (.mk [.join [⟨.n, ⟨[(5, .one (.own 107)), (7, .one (.ptr 128 0)), (8, kk), (15, kk), (16, kk), (17, kk), (48, bb)], [(128, 51, [.keep, .keep, .keep, .keep, .keep, .keep])], [(107, .arr 51 tT0)]⟩⟩]] none .nil .nil) .nil) (.mk [.fz [5]] none .nil .nil))))) .nil) .nil))) .nil) .nil)) (mm (nn (mm (.mk [] (some (⟨[(5, .one (.own 107)), (73, kk), (74, ii)], [], [(107, .arr 51 tT0)]⟩, [⟨.x 4, ⟨[(5, .one (.own 107))], [], [(107, .arr 51 tT0)]⟩⟩, ⟨.r, ⟨[(2, .one (.data (.sl tT0))), (3, ii)], [], []⟩⟩])) .nil .nil) .nil)) .nil))))))
    Tryz.func14 rfl nmr14 rfl rfl rfl rfl types_ok ⟨⟨ok_ref11_Check, ok_ref11_Cmp, trivial⟩, trivial⟩ mx (fun x => by kernel_rfl)

noncomputable def ref29_SameBatches_L0 (a : List (Int × List UInt8 × Int × Int)) (b : List (Int × List UInt8 × Int × Int)) (i : Int) : Option (Int ⊕ (Unit ⊕ Bool)) :=
  bif decide (i < (a.length : Int)) then (
   gd (inB i a.length) <|
   gd (inB i b.length) <|
   bif !(decide ((a.getD i.toNat (0, ([], (0, 0)))).1 = (b.getD i.toNat (0, ([], (0, 0)))).1) && (decide (((a.getD i.toNat (0, ([], (0, 0)))).2).1 = ((b.getD i.toNat (0, ([], (0, 0)))).2).1) && (decide ((((a.getD i.toNat (0, ([], (0, 0)))).2).2).1 = (((b.getD i.toNat (0, ([], (0, 0)))).2).2).1) && decide ((((a.getD i.toNat (0, ([], (0, 0)))).2).2).2 = (((b.getD i.toNat (0, ([], (0, 0)))).2).2).2)))) then (
    some (.inr (.inr false)))
   else (
    some (.inl (wi64 (i + 1)))))
  else (
   some (.inr (.inl ())))

noncomputable def ref29_SameBatches (a : List (Int × List UInt8 × Int × Int)) (b : List (Int × List UInt8 × Int × Int)) : Option (Bool) :=
  bif !decide ((a.length : Int) = (b.length : Int)) then (
   some false)
  else (
   (iter (fun x => ref29_SameBatches_L0 a b x) 0).bind fun s =>
   s.elim (fun s2 =>
    some true)
   (fun s3 =>
    some s3))

noncomputable def fn_ref29_SameBatches : Fun :=
  { f := 15, np := 2, nr := 1,
    ji := ⟨[(0, .one (.data (.sl (.pair (.int .i64) (.pair (.str) tT2))))), (1, .one (.data (.sl (.pair (.int .i64) (.pair (.str) tT2)))))], [], []⟩,
    jo := ⟨[(0, bb)], [], []⟩,
    tw := fun x => ref29_SameBatches x.1 x.2 }
noncomputable def cx_ref29_SameBatches : Cx := { Γ := types, ow := [], fs := [], N := 26 }
theorem ok_ref29_SameBatches : FunOk Tryz.prog fn_ref29_SameBatches :=
  FunOk.intro (C := cx_ref29_SameBatches) (p := (nn (nn (mm (nn (mm (.mk [] (some (⟨[(0, kk), (1, kk), (5, ii)], [], []⟩, [⟨.x 0, ⟨[], [], []⟩⟩, ⟨.r, ⟨[(4, bb)], [], []⟩⟩])) .nil .nil) .nil)) .nil))))
    Tryz.func15 rfl nmr15 rfl rfl rfl rfl types_ok ⟨trivial, trivial⟩ mx (fun x => by kernel_rfl)

noncomputable def ref29_Same_L0 (a : List (Int × Int × Int)) (b : List (Int × Int × Int)) (i : Int) : Option (Int ⊕ (Unit ⊕ Bool)) :=
  bif decide (i < (a.length : Int)) then (
   gd (inB i a.length) <|
   gd (inB i b.length) <|
   bif !(decide ((a.getD i.toNat (0, (0, 0))).1 = (b.getD i.toNat (0, (0, 0))).1) && (decide (((a.getD i.toNat (0, (0, 0))).2).1 = ((b.getD i.toNat (0, (0, 0))).2).1) && decide (((a.getD i.toNat (0, (0, 0))).2).2 = ((b.getD i.toNat (0, (0, 0))).2).2))) then (
    some (.inr (.inr false)))
   else (
    some (.inl (wi64 (i + 1)))))
  else (
   some (.inr (.inl ())))

noncomputable def ref29_Same (a : List (Int × Int × Int)) (b : List (Int × Int × Int)) : Option (Bool) :=
  bif !decide ((a.length : Int) = (b.length : Int)) then (
   some false)
  else (
   (iter (fun x => ref29_Same_L0 a b x) 0).bind fun s =>
   s.elim (fun s2 =>
    some true)
   (fun s3 =>
    some s3))

noncomputable def fn_ref29_Same : Fun :=
  { f := 16, np := 2, nr := 1,
    ji := ⟨[(0, .one (.data (.sl (.pair (.int .i64) tT2)))), (1, .one (.data (.sl (.pair (.int .i64) tT2))))], [], []⟩,
    jo := ⟨[(0, bb)], [], []⟩,
    tw := fun x => ref29_Same x.1 x.2 }
noncomputable def cx_ref29_Same : Cx := { Γ := types, ow := [], fs := [], N := 26 }
theorem ok_ref29_Same : FunOk Tryz.prog fn_ref29_Same :=
  FunOk.intro (C := cx_ref29_Same) (p := (nn (nn (mm (nn (mm (.mk [] (some (⟨[(0, kk), (1, kk), (5, ii)], [], []⟩, [⟨.x 0, ⟨[], [], []⟩⟩, ⟨.r, ⟨[(4, bb)], [], []⟩⟩])) .nil .nil) .nil)) .nil))))
    Tryz.func16 rfl nmr16 rfl rfl rfl rfl types_ok ⟨trivial, trivial⟩ mx (fun x => by kernel_rfl)


end Go.Proofs.YtiojagjejddocaaGreatDoor
