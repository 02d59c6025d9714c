/- Functions, evaluated. No condition. -/
import Derived.Test.YtiojagjejddocaaGreatDoorProg
import Derived.Test.YtiojagjejddocaaGreatDoorSqY
namespace Go.Proofs.YtiojagjejddocaaGreatDoor
open Go Go.Sq
abbrev yT0 : Type := List UInt8 × List UInt8 × List UInt8 × List UInt8 × Int × Int
abbrev yT1 : Type := List UInt8 × Int × Int × Int × Int × Int × List (Int × Int × Int)
abbrev tT0 : Ty := .pair (.str) (.pair (.str) (.pair (.str) (.pair (.str) (.pair (.int .i64) (.int .i64)))))
abbrev tT1 : Ty := .pair (.int .i64) (.int .i64)
def ti3 : TI := { t := 3, desc := .int .i64, size := 1, bytes := 8, zero := .int .i64 0, τ := .int .i64, eq := false }
theorem tk3 : ti3.ok Tryz.prog := ⟨Tryz.underlying3, by kernel_rfl, fun h => by cases h⟩
def ti4 : TI := { t := 4, desc := .bool, size := 1, bytes := 1, zero := .bool false, τ := .bool, eq := false }
theorem tk4 : ti4.ok Tryz.prog := ⟨Tryz.underlying4, by kernel_rfl, fun h => by cases h⟩
def ti5 : TI := { t := 5, desc := .int .u8, size := 1, bytes := 1, zero := .int .u8 0, τ := .int .u8, eq := false }
theorem tk5 : ti5.ok Tryz.prog := ⟨Tryz.underlying5, by kernel_rfl, fun h => by cases h⟩
def ti9 : TI := { t := 9, desc := .string, size := 1, bytes := 16, zero := .string ⟨#[]⟩, τ := .str, eq := false }
theorem tk9 : ti9.ok Tryz.prog := ⟨Tryz.underlying9, by kernel_rfl, fun h => by cases h⟩
def ti22 : TI := { t := 22, desc := .slice 3, size := 1, bytes := 24, zero := .slice none 0 0, τ := .sl (.int .i64), eq := false }
theorem tk22 : ti22.ok Tryz.prog := ⟨Tryz.underlying22, by kernel_rfl, fun h => by cases h⟩
def ti27 : TI := { t := 27, desc := .slice 9, size := 1, bytes := 24, zero := .slice none 0 0, τ := .sl (.str), eq := false }
theorem tk27 : ti27.ok Tryz.prog := ⟨Tryz.underlying27, by kernel_rfl, fun h => by cases h⟩
def ti28 : TI := { t := 28, desc := .slice 72, size := 1, bytes := 24, zero := .slice none 0 0, τ := .sl (.pair (.str) (.pair (.int .i64) (.pair (.int .i64) (.pair (.int .i64) (.pair (.int .i64) (.pair (.int .i64) (.sl (.pair (.int .i64) tT1)))))))), eq := false }
theorem tk28 : ti28.ok Tryz.prog := ⟨Tryz.underlying28, by kernel_rfl, fun h => by cases h⟩
def ti29 : TI := { t := 29, desc := .slice 74, size := 1, bytes := 24, zero := .slice none 0 0, τ := .sl (.pair (.str) tT1), eq := false }
theorem tk29 : ti29.ok Tryz.prog := ⟨Tryz.underlying29, by kernel_rfl, fun h => by cases h⟩
def ti30 : TI := { t := 30, desc := .slice 80, size := 1, bytes := 24, zero := .slice none 0 0, τ := .sl (.pair (.str) (.pair (.int .i64) (.pair (.int .i64) tT1))), eq := false }
theorem tk30 : ti30.ok Tryz.prog := ⟨Tryz.underlying30, by kernel_rfl, fun h => by cases h⟩
def ti32 : TI := { t := 32, desc := .struct #[{ name := "Nodes", type := 27, offset := 0, embedded := false, tag := "", pkgPath := "", byteOffset := 0 }, { name := "Segments", type := 28, offset := 1, embedded := false, tag := "", pkgPath := "", byteOffset := 24 }, { name := "Ports", type := 29, offset := 2, embedded := false, tag := "", pkgPath := "", byteOffset := 48 }, { name := "Stations", type := 30, offset := 3, embedded := false, tag := "", pkgPath := "", byteOffset := 72 }, { name := "Vapour", type := 3, offset := 4, embedded := false, tag := "", pkgPath := "", byteOffset := 96 }, { name := "Settle", type := 3, offset := 5, embedded := false, tag := "", pkgPath := "", byteOffset := 104 }], size := 6, bytes := 112, zero := .agg #[.slice none 0 0, .slice none 0 0, .slice none 0 0, .slice none 0 0, .int .i64 0, .int .i64 0], τ := .pair (.sl (.str)) (.pair (.sl (.pair (.str) (.pair (.int .i64) (.pair (.int .i64) (.pair (.int .i64) (.pair (.int .i64) (.pair (.int .i64) (.sl (.pair (.int .i64) tT1))))))))) (.pair (.sl (.pair (.str) tT1)) (.pair (.sl (.pair (.str) (.pair (.int .i64) (.pair (.int .i64) tT1)))) tT1))), eq := true }
theorem tk32 : ti32.ok Tryz.prog := ⟨Tryz.underlying32, by kernel_rfl, fun _ => ⟨Tryz.eqGuardType32, Tryz.stoodInHeld32⟩⟩
def ti34 : TI := { t := 34, desc := .slice 44, size := 1, bytes := 24, zero := .slice none 0 0, τ := .sl (.pair (.str) (.pair (.int .i64) (.pair (.int .i64) tT1))), eq := false }
theorem tk34 : ti34.ok Tryz.prog := ⟨Tryz.underlying34, by kernel_rfl, fun h => by cases h⟩
def ti36 : TI := { t := 36, desc := .slice 49, size := 1, bytes := 24, zero := .slice none 0 0, τ := .sl (.pair (.int .i64) (.pair (.str) tT1)), eq := false }
theorem tk36 : ti36.ok Tryz.prog := ⟨Tryz.underlying36, by kernel_rfl, fun h => by cases h⟩
def ti37 : TI := { t := 37, desc := .slice 47, size := 1, bytes := 24, zero := .slice none 0 0, τ := .sl (.pair (.int .i64) tT1), eq := false }
theorem tk37 : ti37.ok Tryz.prog := ⟨Tryz.underlying37, by kernel_rfl, fun h => by cases h⟩
def ti41 : TI := { t := 41, desc := .slice 51, size := 1, bytes := 24, zero := .slice none 0 0, τ := .sl tT0, eq := false }
theorem tk41 : ti41.ok Tryz.prog := ⟨Tryz.underlying41, by kernel_rfl, fun h => by cases h⟩
def ti44 : TI := { t := 44, desc := .struct #[{ name := "Name", type := 9, offset := 0, embedded := false, tag := "", pkgPath := "", byteOffset := 0 }, { name := "Density", type := 3, offset := 1, embedded := false, tag := "", pkgPath := "", byteOffset := 16 }, { name := "Expansion", type := 3, offset := 2, embedded := false, tag := "", pkgPath := "", byteOffset := 24 }, { name := "Compress", type := 3, offset := 3, embedded := false, tag := "", pkgPath := "", byteOffset := 32 }, { name := "Friction", type := 3, offset := 4, embedded := false, tag := "", pkgPath := "", byteOffset := 40 }], size := 5, bytes := 48, zero := .agg #[.string ⟨#[]⟩, .int .i64 0, .int .i64 0, .int .i64 0, .int .i64 0], τ := .pair (.str) (.pair (.int .i64) (.pair (.int .i64) tT1)), eq := true }
theorem tk44 : ti44.ok Tryz.prog := ⟨Tryz.underlying44, by kernel_rfl, fun _ => ⟨Tryz.eqGuardType44, Tryz.stoodInHeld44⟩⟩
def ti47 : TI := { t := 47, desc := .struct #[{ name := "Batch", type := 3, offset := 0, embedded := false, tag := "", pkgPath := "", byteOffset := 0 }, { name := "Volume", type := 3, offset := 1, embedded := false, tag := "", pkgPath := "", byteOffset := 8 }, { name := "Done", type := 3, offset := 2, embedded := false, tag := "", pkgPath := "", byteOffset := 16 }], size := 3, bytes := 24, zero := .agg #[.int .i64 0, .int .i64 0, .int .i64 0], τ := .pair (.int .i64) tT1, eq := true }
theorem tk47 : ti47.ok Tryz.prog := ⟨Tryz.underlying47, by kernel_rfl, fun _ => ⟨Tryz.eqGuardType47, Tryz.stoodInHeld47⟩⟩
def ti49 : TI := { t := 49, desc := .struct #[{ name := "Product", type := 3, offset := 0, embedded := false, tag := "", pkgPath := "", byteOffset := 0 }, { name := "Shipper", type := 9, offset := 1, embedded := false, tag := "", pkgPath := "", byteOffset := 8 }, { name := "From", type := 3, offset := 2, embedded := false, tag := "", pkgPath := "", byteOffset := 24 }, { name := "To", type := 3, offset := 3, embedded := false, tag := "", pkgPath := "", byteOffset := 32 }], size := 4, bytes := 40, zero := .agg #[.int .i64 0, .string ⟨#[]⟩, .int .i64 0, .int .i64 0], τ := .pair (.int .i64) (.pair (.str) tT1), eq := true }
theorem tk49 : ti49.ok Tryz.prog := ⟨Tryz.underlying49, by kernel_rfl, fun _ => ⟨Tryz.eqGuardType49, Tryz.stoodInHeld49⟩⟩
def ti51 : TI := { t := 51, desc := .struct #[{ name := "Shipper", type := 9, offset := 0, embedded := false, tag := "", pkgPath := "", byteOffset := 0 }, { name := "Product", type := 9, offset := 1, embedded := false, tag := "", pkgPath := "", byteOffset := 16 }, { name := "From", type := 9, offset := 2, embedded := false, tag := "", pkgPath := "", byteOffset := 32 }, { name := "To", type := 9, offset := 3, embedded := false, tag := "", pkgPath := "", byteOffset := 48 }, { name := "Cycle", type := 3, offset := 4, embedded := false, tag := "", pkgPath := "", byteOffset := 64 }, { name := "Volume", type := 3, offset := 5, embedded := false, tag := "", pkgPath := "", byteOffset := 72 }], size := 6, bytes := 80, zero := .agg #[.string ⟨#[]⟩, .string ⟨#[]⟩, .string ⟨#[]⟩, .string ⟨#[]⟩, .int .i64 0, .int .i64 0], τ := .pair (.str) (.pair (.str) (.pair (.str) (.pair (.str) tT1))), eq := true }
theorem tk51 : ti51.ok Tryz.prog := ⟨Tryz.underlying51, by kernel_rfl, fun _ => ⟨Tryz.eqGuardType51, Tryz.stoodInHeld51⟩⟩
def ti69 : TI := { t := 69, desc := .struct #[{ name := "At", type := 3, offset := 0, embedded := false, tag := "", pkgPath := "", byteOffset := 0 }, { name := "Height", type := 3, offset := 1, embedded := false, tag := "", pkgPath := "", byteOffset := 8 }, { name := "Limit", type := 3, offset := 2, embedded := false, tag := "", pkgPath := "", byteOffset := 16 }], size := 3, bytes := 24, zero := .agg #[.int .i64 0, .int .i64 0, .int .i64 0], τ := .pair (.int .i64) tT1, eq := true }
theorem tk69 : ti69.ok Tryz.prog := ⟨Tryz.underlying69, by kernel_rfl, fun _ => ⟨Tryz.eqGuardType69, Tryz.stoodInHeld69⟩⟩
def ti70 : TI := { t := 70, desc := .slice 69, size := 1, bytes := 24, zero := .slice none 0 0, τ := .sl (.pair (.int .i64) tT1), eq := false }
theorem tk70 : ti70.ok Tryz.prog := ⟨Tryz.underlying70, by kernel_rfl, fun h => by cases h⟩
def ti72 : TI := { t := 72, desc := .struct #[{ name := "Name", type := 9, offset := 0, embedded := false, tag := "", pkgPath := "", byteOffset := 0 }, { name := "From", type := 3, offset := 1, embedded := false, tag := "", pkgPath := "", byteOffset := 16 }, { name := "To", type := 3, offset := 2, embedded := false, tag := "", pkgPath := "", byteOffset := 24 }, { name := "Capacity", type := 3, offset := 3, embedded := false, tag := "", pkgPath := "", byteOffset := 32 }, { name := "Resist", type := 3, offset := 4, embedded := false, tag := "", pkgPath := "", byteOffset := 40 }, { name := "Wave", type := 3, offset := 5, embedded := false, tag := "", pkgPath := "", byteOffset := 48 }, { name := "Points", type := 70, offset := 6, embedded := false, tag := "", pkgPath := "", byteOffset := 56 }], size := 7, bytes := 80, zero := .agg #[.string ⟨#[]⟩, .int .i64 0, .int .i64 0, .int .i64 0, .int .i64 0, .int .i64 0, .slice none 0 0], τ := .pair (.str) (.pair (.int .i64) (.pair (.int .i64) (.pair (.int .i64) (.pair (.int .i64) (.pair (.int .i64) (.sl (.pair (.int .i64) tT1))))))), eq := true }
theorem tk72 : ti72.ok Tryz.prog := ⟨Tryz.underlying72, by kernel_rfl, fun _ => ⟨Tryz.eqGuardType72, Tryz.stoodInHeld72⟩⟩
def ti74 : TI := { t := 74, desc := .struct #[{ name := "Name", type := 9, offset := 0, embedded := false, tag := "", pkgPath := "", byteOffset := 0 }, { name := "Node", type := 3, offset := 1, embedded := false, tag := "", pkgPath := "", byteOffset := 16 }, { name := "Pressure", type := 3, offset := 2, embedded := false, tag := "", pkgPath := "", byteOffset := 24 }], size := 3, bytes := 32, zero := .agg #[.string ⟨#[]⟩, .int .i64 0, .int .i64 0], τ := .pair (.str) tT1, eq := true }
theorem tk74 : ti74.ok Tryz.prog := ⟨Tryz.underlying74, by kernel_rfl, fun _ => ⟨Tryz.eqGuardType74, Tryz.stoodInHeld74⟩⟩
def ti76 : TI := { t := 76, desc := .struct #[{ name := "L", type := 22, offset := 0, embedded := false, tag := "", pkgPath := "", byteOffset := 0 }, { name := "At", type := 3, offset := 1, embedded := false, tag := "", pkgPath := "", byteOffset := 24 }], size := 2, bytes := 32, zero := .agg #[.slice none 0 0, .int .i64 0], τ := .pair (.sl (.int .i64)) (.int .i64), eq := true }
theorem tk76 : ti76.ok Tryz.prog := ⟨Tryz.underlying76, by kernel_rfl, fun _ => ⟨Tryz.eqGuardType76, Tryz.stoodInHeld76⟩⟩
def ti80 : TI := { t := 80, desc := .struct #[{ name := "Name", type := 9, offset := 0, embedded := false, tag := "", pkgPath := "", byteOffset := 0 }, { name := "Node", type := 3, offset := 1, embedded := false, tag := "", pkgPath := "", byteOffset := 16 }, { name := "Head", type := 3, offset := 2, embedded := false, tag := "", pkgPath := "", byteOffset := 24 }, { name := "Fall", type := 3, offset := 3, embedded := false, tag := "", pkgPath := "", byteOffset := 32 }, { name := "Suction", type := 3, offset := 4, embedded := false, tag := "", pkgPath := "", byteOffset := 40 }], size := 5, bytes := 48, zero := .agg #[.string ⟨#[]⟩, .int .i64 0, .int .i64 0, .int .i64 0, .int .i64 0], τ := .pair (.str) (.pair (.int .i64) (.pair (.int .i64) tT1)), eq := true }
theorem tk80 : ti80.ok Tryz.prog := ⟨Tryz.underlying80, by kernel_rfl, fun _ => ⟨Tryz.eqGuardType80, Tryz.stoodInHeld80⟩⟩
def ti85 : TI := { t := 85, desc := .slice 90, size := 1, bytes := 24, zero := .slice none 0 0, τ := .sl (.pair tT0 (.pair (.pair (.int .i64) (.pair (.str) tT1)) (.int .i64))), eq := false }
theorem tk85 : ti85.ok Tryz.prog := ⟨Tryz.underlying85, by kernel_rfl, fun h => by cases h⟩
def ti90 : TI := { t := 90, desc := .struct #[{ name := "nomination", type := 51, offset := 0, embedded := false, tag := "", pkgPath := "batchline/lots", byteOffset := 0 }, { name := "batch", type := 49, offset := 6, embedded := false, tag := "", pkgPath := "batchline/lots", byteOffset := 80 }, { name := "rank", type := 3, offset := 10, embedded := false, tag := "", pkgPath := "batchline/lots", byteOffset := 120 }], size := 11, bytes := 128, zero := .agg #[.string ⟨#[]⟩, .string ⟨#[]⟩, .string ⟨#[]⟩, .string ⟨#[]⟩, .int .i64 0, .int .i64 0, .int .i64 0, .string ⟨#[]⟩, .int .i64 0, .int .i64 0, .int .i64 0], τ := .pair tT0 (.pair (.pair (.int .i64) (.pair (.str) tT1)) (.int .i64)), eq := true }
theorem tk90 : ti90.ok Tryz.prog := ⟨Tryz.underlying90, by kernel_rfl, fun _ => ⟨Tryz.eqGuardType90, Tryz.stoodInHeld90⟩⟩
def ti98 : TI := { t := 98, desc := .slice 100, size := 1, bytes := 24, zero := .slice none 0 0, τ := .sl (.pair tT0 (.pair (.int .i64) (.pair (.int .i64) (.pair (.str) tT1)))), eq := false }
theorem tk98 : ti98.ok Tryz.prog := ⟨Tryz.underlying98, by kernel_rfl, fun h => by cases h⟩
def ti100 : TI := { t := 100, desc := .struct #[{ name := "n", type := 51, offset := 0, embedded := false, tag := "", pkgPath := "batchline/batchlineref29", byteOffset := 0 }, { name := "rank", type := 3, offset := 6, embedded := false, tag := "", pkgPath := "batchline/batchlineref29", byteOffset := 80 }, { name := "batch", type := 49, offset := 7, embedded := false, tag := "", pkgPath := "batchline/batchlineref29", byteOffset := 88 }], size := 11, bytes := 128, zero := .agg #[.string ⟨#[]⟩, .string ⟨#[]⟩, .string ⟨#[]⟩, .string ⟨#[]⟩, .int .i64 0, .int .i64 0, .int .i64 0, .int .i64 0, .string ⟨#[]⟩, .int .i64 0, .int .i64 0], τ := .pair tT0 (.pair (.int .i64) (.pair (.int .i64) (.pair (.str) tT1))), eq := true }
theorem tk100 : ti100.ok Tryz.prog := ⟨Tryz.underlying100, by kernel_rfl, fun _ => ⟨Tryz.eqGuardType100, Tryz.stoodInHeld100⟩⟩
def ti103 : TI := { t := 103, desc := .func #[3] #[4] false, size := 1, bytes := 8, zero := .nilFunc, τ := .fnc 57, eq := false }
theorem tk103 : ti103.ok Tryz.prog := ⟨Tryz.underlying103, by kernel_rfl, fun h => by cases h⟩
def ti107 : TI := { t := 107, desc := .slice 5, size := 1, bytes := 24, zero := .slice none 0 0, τ := .sl (.int .u8), eq := false }
theorem tk107 : ti107.ok Tryz.prog := ⟨Tryz.underlying107, by kernel_rfl, fun h => by cases h⟩
def ti109 : TI := { t := 109, desc := .array 4 27, size := 4, bytes := 96, zero := .agg #[.slice none 0 0, .slice none 0 0, .slice none 0 0, .slice none 0 0], τ := .pair (.sl (.str)) (.pair (.sl (.str)) (.pair (.sl (.str)) (.sl (.str)))), eq := false }
theorem tk109 : ti109.ok Tryz.prog := ⟨Tryz.underlying109, by kernel_rfl, fun h => by cases h⟩
def ti116 : TI := { t := 116, desc := .map 51 3, size := 1, bytes := 8, zero := .map none, τ := .map tT0 (.int .i64), eq := false }
theorem tk116 : ti116.ok Tryz.prog := ⟨Tryz.underlying116, by kernel_rfl, fun h => by cases h⟩
def ti124 : TI := { t := 124, desc := .int .u64, size := 1, bytes := 8, zero := .int .u64 0, τ := .int .u64, eq := false }
theorem tk124 : ti124.ok Tryz.prog := ⟨Tryz.underlying124, by kernel_rfl, fun h => by cases h⟩
def ti136 : TI := { t := 136, desc := .array 4 3, size := 4, bytes := 32, zero := .agg #[.int .i64 0, .int .i64 0, .int .i64 0, .int .i64 0], τ := .pair (.int .i64) (.pair (.int .i64) tT1), eq := false }
theorem tk136 : ti136.ok Tryz.prog := ⟨Tryz.underlying136, by kernel_rfl, fun h => by cases h⟩
def ti139 : TI := { t := 139, desc := .struct #[{ name := "least", type := 3, offset := 0, embedded := false, tag := "", pkgPath := "batchline/product", byteOffset := 0 }, { name := "most", type := 3, offset := 1, embedded := false, tag := "", pkgPath := "batchline/product", byteOffset := 8 }], size := 2, bytes := 16, zero := .agg #[.int .i64 0, .int .i64 0], τ := .pair (.int .i64) (.int .i64), eq := true }
theorem tk139 : ti139.ok Tryz.prog := ⟨Tryz.underlying139, by kernel_rfl, fun _ => ⟨Tryz.eqGuardType139, Tryz.stoodInHeld139⟩⟩
def ti140 : TI := { t := 140, desc := .array 4 139, size := 8, bytes := 64, zero := .agg #[.int .i64 0, .int .i64 0, .int .i64 0, .int .i64 0, .int .i64 0, .int .i64 0, .int .i64 0, .int .i64 0], τ := .pair tT1 (.pair tT1 (.pair tT1 tT1)), eq := false }
theorem tk140 : ti140.ok Tryz.prog := ⟨Tryz.underlying140, by kernel_rfl, fun h => by cases h⟩
def ti151 : TI := { t := 151, desc := .int .u32, size := 1, bytes := 4, zero := .int .u32 0, τ := .int .u32, eq := false }
theorem tk151 : ti151.ok Tryz.prog := ⟨Tryz.underlying151, by kernel_rfl, fun h => by cases h⟩
def ti153 : TI := { t := 153, desc := .int .u64, size := 1, bytes := 8, zero := .int .u64 0, τ := .int .u64, eq := false }
theorem tk153 : ti153.ok Tryz.prog := ⟨Tryz.underlying153, by kernel_rfl, fun h => by cases h⟩
def ti161 : TI := { t := 161, desc := .int .u64, size := 1, bytes := 8, zero := .int .u64 0, τ := .int .u64, eq := false }
theorem tk161 : ti161.ok Tryz.prog := ⟨Tryz.underlying161, by kernel_rfl, fun h => by cases h⟩
def types : List TI := [ti3, ti4, ti5, ti9, ti22, ti27, ti28, ti29, ti30, ti32, ti34, ti36, ti37, ti41, ti44, ti47, ti49, ti51, ti69, ti70, ti72, ti74, ti76, ti80, ti85, ti90, ti98, ti100, ti103, ti107, ti109, ti116, ti124, ti136, ti139, ti140, ti151, ti153, ti161]
theorem types_ok : Tys Tryz.prog types := ⟨tk3, tk4, tk5, tk9, tk22, tk27, tk28, tk29, tk30, tk32, tk34, tk36, tk37, tk41, tk44, tk47, tk49, tk51, tk69, tk70, tk72, tk74, tk76, tk80, tk85, tk90, tk98, tk100, tk103, tk107, tk109, tk116, tk124, tk136, tk139, tk140, tk151, tk153, tk161, trivial⟩
abbrev str_0 : List UInt8 := [0, 1, 2, 2, 3, 3, 3, 3, 4, 4, 4, 4, 4, 4, 4, 4, 5, 5, 5, 5, 5, 5, 5, 5, 5, 5, 5, 5, 5, 5, 5, 5, 6, 6, 6, 6, 6, 6, 6, 6, 6, 6, 6, 6, 6, 6, 6, 6, 6, 6, 6, 6, 6, 6, 6, 6, 6, 6, 6, 6, 6, 6, 6, 6, 7, 7, 7, 7, 7, 7, 7, 7, 7, 7, 7, 7, 7, 7, 7, 7, 7, 7, 7, 7, 7, 7, 7, 7, 7, 7, 7, 7, 7, 7, 7, 7, 7, 7, 7, 7, 7, 7, 7, 7, 7, 7, 7, 7, 7, 7, 7, 7, 7, 7, 7, 7, 7, 7, 7, 7, 7, 7, 7, 7, 7, 7, 7, 7, 8, 8, 8, 8, 8, 8, 8, 8, 8, 8, 8, 8, 8, 8, 8, 8, 8, 8, 8, 8, 8, 8, 8, 8, 8, 8, 8, 8, 8, 8, 8, 8, 8, 8, 8, 8, 8, 8, 8, 8, 8, 8, 8, 8, 8, 8, 8, 8, 8, 8, 8, 8, 8, 8, 8, 8, 8, 8, 8, 8, 8, 8, 8, 8, 8, 8, 8, 8, 8, 8, 8, 8, 8, 8, 8, 8, 8, 8, 8, 8, 8, 8, 8, 8, 8, 8, 8, 8, 8, 8, 8, 8, 8, 8, 8, 8, 8, 8, 8, 8, 8, 8, 8, 8, 8, 8, 8, 8, 8, 8, 8, 8, 8, 8, 8, 8, 8, 8, 8, 8, 8, 8, 8, 8, 8, 8, 8, 8]
abbrev kO_0 : KO yT0 := keyO tT0
theorem mx : Tryz.prog.follows .mixedOrders = true := by kernel_rfl

abbrev kk : Sh := .one .keep
abbrev ii : Sh := .one (.data (.int .i64))
abbrev bb : Sh := .one (.data .bool)
abbrev ss : Sh := .one (.data .str)
abbrev nn (r : Plan) : Plan := .mk [] none .nil r
abbrev mm (l r : Plan) : Plan := .mk [] none l r
noncomputable def second_Few (l : List Int) : Option (Bool) :=
 some (decide ((l.length : Int) ≤ 400))

noncomputable def fn_second_Few : Fun :=
 ⟨6, 1, 1,
 ⟨[(0, .one (.data (.sl (.int .i64))))], [], []⟩,
 ⟨[(0, bb)], [], []⟩,
 fun x => second_Few x⟩
noncomputable def cx_second_Few : Cx := ⟨types, [], [], 6, []⟩
theorem ok_second_Few : FunOk Tryz.prog fn_second_Few :=
 FunOk.intro (C := cx_second_Few) (p := .nil)
  Tryz.func6 rfl (by kernel_rfl) rfl rfl rfl rfl types_ok ⟨trivial, trivial⟩ mx (fun x => by kernel_rfl)

noncomputable def slices_IndexFunc_api_Segment_api_Segment_L0 (s : List yT1) (f : yT1 × Unit → Option Bool) (v : Int) : Option (Int ⊕ (Unit ⊕ Int)) :=
 bif decide (v < (s.length : Int)) then (
 gd (inB v s.length) <|
 (f (s.getD v.toNat ([], (0, (0, (0, (0, (0, [])))))), ())).bind fun r =>
 bif r then (
 some (.inr (.inr v)))
 else (
 some (.inl (wi64 (v + 1)))))
 else (
 some (.inr (.inl ())))

noncomputable def slices_IndexFunc_api_Segment_api_Segment (s : List yT1) (f : yT1 × Unit → Option Bool) : Option (Int) :=
 (iter (fun x => slices_IndexFunc_api_Segment_api_Segment_L0 s f x) 0).bind fun s2 =>
 s2.elim (fun s3 =>
 some (-1))
 (fun s4 =>
 some s4)

noncomputable def fn_slices_IndexFunc_api_Segment_api_Segment : Fun :=
 ⟨121, 2, 1,
 ⟨[(0, .one (.data (.sl (.pair (.str) (.pair (.int .i64) (.pair (.int .i64) (.pair (.int .i64) (.pair (.int .i64) (.pair (.int .i64) (.sl (.pair (.int .i64) tT1))))))))))), (1, .one (.fn [.pair (.str) (.pair (.int .i64) (.pair (.int .i64) (.pair (.int .i64) (.pair (.int .i64) (.pair (.int .i64) (.sl (.pair (.int .i64) tT1)))))))] (.bool)))], [], []⟩,
 ⟨[(0, ii)], [], []⟩,
 fun x => slices_IndexFunc_api_Segment_api_Segment x.1 x.2⟩
noncomputable def cx_slices_IndexFunc_api_Segment_api_Segment : Cx := ⟨types, [], [], 19, []⟩
theorem ok_slices_IndexFunc_api_Segment_api_Segment : FunOk Tryz.prog fn_slices_IndexFunc_api_Segment_api_Segment :=
 FunOk.intro (C := cx_slices_IndexFunc_api_Segment_api_Segment) (p := (nn (mm (nn (mm (.mk [] (some (⟨[(0, kk), (1, kk), (7, kk), (8, ii)], [], []⟩, [⟨.x 0, ⟨[], [], []⟩⟩, ⟨.r, ⟨[(4, ii)], [], []⟩⟩])) .nil .nil) .nil)) .nil)))
  Tryz.func121 rfl (by kernel_rfl) rfl rfl rfl rfl types_ok ⟨trivial, trivial⟩ mx (fun x => by kernel_rfl)

noncomputable def slices_ContainsFunc_api_Segment_api_Segment (s : List yT1) (f : yT1 × Unit → Option Bool) : Option (Bool) :=
 (slices_IndexFunc_api_Segment_api_Segment s f).bind fun r =>
 some (decide (0 ≤ r))

noncomputable def fn_slices_ContainsFunc_api_Segment_api_Segment : Fun :=
 ⟨93, 2, 1,
 ⟨[(0, .one (.data (.sl (.pair (.str) (.pair (.int .i64) (.pair (.int .i64) (.pair (.int .i64) (.pair (.int .i64) (.pair (.int .i64) (.sl (.pair (.int .i64) tT1))))))))))), (1, .one (.fn [.pair (.str) (.pair (.int .i64) (.pair (.int .i64) (.pair (.int .i64) (.pair (.int .i64) (.pair (.int .i64) (.sl (.pair (.int .i64) tT1)))))))] (.bool)))], [], []⟩,
 ⟨[(0, bb)], [], []⟩,
 fun x => slices_ContainsFunc_api_Segment_api_Segment x.1 x.2⟩
noncomputable def cx_slices_ContainsFunc_api_Segment_api_Segment : Cx := ⟨types, [], [fn_slices_IndexFunc_api_Segment_api_Segment], 9, []⟩
theorem ok_slices_ContainsFunc_api_Segment_api_Segment : FunOk Tryz.prog fn_slices_ContainsFunc_api_Segment_api_Segment :=
 FunOk.intro (C := cx_slices_ContainsFunc_api_Segment_api_Segment) (p := .nil)
  Tryz.func93 rfl (by kernel_rfl) rfl rfl rfl rfl types_ok ⟨⟨ok_slices_IndexFunc_api_Segment_api_Segment, trivial⟩, trivial⟩ mx (fun x => by kernel_rfl)

noncomputable def network_limits_1 (s : List UInt8 × Int × Int × Int × Int × Int × List (Int × Int × Int)) : Option (Bool) :=
 bif decide ((s.2.2.2.2.2.2.length : Int) < 2) then (
 some true)
 else (
 some (decide (8 < (s.2.2.2.2.2.2.length : Int))))

noncomputable def fn_network_limits_1 : Fun :=
 ⟨94, 1, 1,
 ⟨[(0, .one (.data (.pair (.str) (.pair (.int .i64) (.pair (.int .i64) (.pair (.int .i64) (.pair (.int .i64) (.pair (.int .i64) (.sl (.pair (.int .i64) tT1))))))))))], [], []⟩,
 ⟨[(0, bb)], [], []⟩,
 fun x => network_limits_1 x⟩
noncomputable def cx_network_limits_1 : Cx := ⟨types, [], [], 13, []⟩
theorem ok_network_limits_1 : FunOk Tryz.prog fn_network_limits_1 :=
 FunOk.intro (C := cx_network_limits_1) (p := .nil)
  Tryz.func94 rfl (by kernel_rfl) rfl rfl rfl rfl types_ok ⟨trivial, trivial⟩ mx (fun x => by kernel_rfl)

noncomputable def network_limits (n : List (List UInt8) × List yT1 × List (List UInt8 × Int × Int) × List (List UInt8 × Int × Int × Int × Int) × Int × Int) : Option (Bool) :=
 Option.bind (α := Bool) (
 bif decide ((n.1.length : Int) < 1) then (
 some true)
 else (
 bif decide (24 < (n.1.length : Int)) then (
 some true)
 else (
 bif decide (32 < (n.2.1.length : Int)) then (
 some true)
 else (
 bif decide (24 < (n.2.2.1.length : Int)) then (
 some true)
 else (
 some (decide (12 < (n.2.2.2.1.length : Int)))))))) fun s =>
 bif s then (
 some false)
 else (
 (slices_ContainsFunc_api_Segment_api_Segment n.2.1 (fun h => (network_limits_1 h.1).bind fun y => some y)).bind fun r =>
 some (!r))

noncomputable def fn_network_limits : Fun :=
 ⟨62, 1, 1,
 ⟨[(0, .one (.data (.pair (.sl (.str)) (.pair (.sl (.pair (.str) (.pair (.int .i64) (.pair (.int .i64) (.pair (.int .i64) (.pair (.int .i64) (.pair (.int .i64) (.sl (.pair (.int .i64) tT1))))))))) (.pair (.sl (.pair (.str) tT1)) (.pair (.sl (.pair (.str) (.pair (.int .i64) (.pair (.int .i64) tT1)))) tT1))))))], [], []⟩,
 ⟨[(0, bb)], [], []⟩,
 fun x => network_limits x⟩
noncomputable def cx_network_limits : Cx := ⟨types, [], [fn_slices_ContainsFunc_api_Segment_api_Segment, fn_network_limits_1], 35, []⟩
theorem ok_network_limits : FunOk Tryz.prog fn_network_limits :=
 FunOk.intro (C := cx_network_limits) (p := (nn (mm (mm (.mk [.join [⟨.n, ⟨[(1, .one (.ptr 32 0)), (30, bb)], [(32, 32, [.keep, .keep, .keep, .keep, .keep, .keep])], []⟩⟩]] none .nil .nil) .nil) .nil)))
  Tryz.func62 rfl (by kernel_rfl) rfl rfl rfl rfl types_ok ⟨⟨ok_slices_ContainsFunc_api_Segment_api_Segment, ok_network_limits_1, trivial⟩, trivial⟩ mx (fun x => by kernel_rfl)

noncomputable def network_names_L0 (n : List (List UInt8) × List yT1 × List (List UInt8 × Int × Int) × List (List UInt8 × Int × Int × Int × Int) × Int × Int) (v : Int) (out : List (List UInt8)) : Option ((Int × List (List UInt8)) ⊕ (List (List UInt8))) :=
 bif decide (v < (n.2.1.length : Int)) then (
 gd (inB v n.2.1.length) <|
 gd (fits (out.length + 1) 16) <|
 some (.inl (wi64 (v + 1), out ++ [(n.2.1.getD v.toNat ([], (0, (0, (0, (0, (0, []))))))).1])))
 else (
 some (.inr out))

noncomputable def network_names_L1 (n : List (List UInt8) × List yT1 × List (List UInt8 × Int × Int) × List (List UInt8 × Int × Int × Int × Int) × Int × Int) (v2 : Int) (out2 : List (List UInt8)) (out3 : List (List UInt8)) : Option ((Int × List (List UInt8) × List (List UInt8)) ⊕ (List (List UInt8) × List (List UInt8))) :=
 bif decide (v2 < (n.2.2.1.length : Int)) then (
 gd (inB v2 n.2.2.1.length) <|
 gd (fits (out3.length + 1) 16) <|
 some (.inl (wi64 (v2 + 1), out2, out3 ++ [(n.2.2.1.getD v2.toNat ([], (0, 0))).1])))
 else (
 some (.inr (out2, out3)))

noncomputable def network_names_L2 (n : List (List UInt8) × List yT1 × List (List UInt8 × Int × Int) × List (List UInt8 × Int × Int × Int × Int) × Int × Int) (v3 : Int) (out4 : List (List UInt8)) (out5 : List (List UInt8)) (out6 : List (List UInt8)) : Option ((Int × List (List UInt8) × List (List UInt8) × List (List UInt8)) ⊕ (List (List UInt8) × List (List UInt8) × List (List UInt8))) :=
 bif decide (v3 < (n.2.2.2.1.length : Int)) then (
 gd (inB v3 n.2.2.2.1.length) <|
 gd (fits (out6.length + 1) 16) <|
 some (.inl (wi64 (v3 + 1), out4, out5, out6 ++ [(n.2.2.2.1.getD v3.toNat ([], (0, (0, (0, 0))))).1])))
 else (
 some (.inr (out4, out5, out6)))

noncomputable def network_names (n : List (List UInt8) × List yT1 × List (List UInt8 × Int × Int) × List (List UInt8 × Int × Int × Int × Int) × Int × Int) : Option (List (List UInt8) × List (List UInt8) × List (List UInt8) × List (List UInt8)) :=
 (iter (fun x => network_names_L0 n x.1 x.2) (0, [])).bind fun s =>
 (iter (fun x2 => network_names_L1 n x2.1 x2.2.1 x2.2.2) (0, s, [])).bind fun s2 =>
 (iter (fun x3 => network_names_L2 n x3.1 x3.2.1 x3.2.2.1 x3.2.2.2) (0, s2.1, s2.2, [])).bind fun s3 =>
 some (n.1, (s3.1, (s3.2.1, s3.2.2)))

noncomputable def fn_network_names : Fun :=
 ⟨63, 1, 1,
 ⟨[(0, .one (.data (.pair (.sl (.str)) (.pair (.sl (.pair (.str) (.pair (.int .i64) (.pair (.int .i64) (.pair (.int .i64) (.pair (.int .i64) (.pair (.int .i64) (.sl (.pair (.int .i64) tT1))))))))) (.pair (.sl (.pair (.str) tT1)) (.pair (.sl (.pair (.str) (.pair (.int .i64) (.pair (.int .i64) tT1)))) tT1))))))], [], []⟩,
 ⟨[(0, .one (.data (.pair (.sl (.str)) (.pair (.sl (.str)) (.pair (.sl (.str)) (.sl (.str)))))))], [], []⟩,
 fun x => network_names x⟩
noncomputable def cx_network_names : Cx := ⟨types, [], [], 59, []⟩
theorem ok_network_names : FunOk Tryz.prog fn_network_names :=
 FunOk.intro (C := cx_network_names) (p := (nn (nn (nn (mm (nn (mm (.mk [] (some (⟨[(1, .one (.ptr 32 0)), (2, .one (.ptr 48 0)), (3, .one (.ptr 64 0)), (14, kk), (15, kk), (16, ii)], [(32, 32, [.keep, .keep, .keep, .keep, .keep, .keep]), (48, 109, [.keep, .keep, .keep, .keep]), (64, 109, [.keep, .own 1065, .keep, .keep])], [(1065, .arr 9 (.str))]⟩, [⟨.x 0, ⟨[(1, .one (.ptr 32 0)), (2, .one (.ptr 48 0)), (3, .one (.ptr 64 0))], [(32, 32, [.keep, .keep, .keep, .keep, .keep, .keep]), (48, 109, [.keep, .keep, .keep, .keep]), (64, 109, [.keep, .own 1065, .keep, .keep])], [(1065, .arr 9 (.str))]⟩⟩])) .nil .nil) .nil)) (mm (nn (mm (.mk [] (some (⟨[(1, .one (.ptr 32 0)), (2, .one (.ptr 48 0)), (3, .one (.ptr 64 0)), (29, kk), (30, kk), (31, ii)], [(32, 32, [.keep, .keep, .keep, .keep, .keep, .keep]), (48, 109, [.keep, .keep, .keep, .keep]), (64, 109, [.keep, .own 1065, .own 1081, .keep])], [(1065, .arr 9 (.str)), (1081, .arr 9 (.str))]⟩, [⟨.x 2, ⟨[(1, .one (.ptr 32 0)), (2, .one (.ptr 48 0)), (3, .one (.ptr 64 0))], [(32, 32, [.keep, .keep, .keep, .keep, .keep, .keep]), (48, 109, [.keep, .keep, .keep, .keep]), (64, 109, [.keep, .own 1065, .own 1081, .keep])], [(1065, .arr 9 (.str)), (1081, .arr 9 (.str))]⟩⟩])) .nil .nil) .nil)) (mm (nn (mm (.mk [] (some (⟨[(2, .one (.ptr 48 0)), (3, .one (.ptr 64 0)), (44, kk), (45, kk), (46, ii)], [(48, 109, [.keep, .keep, .keep, .keep]), (64, 109, [.keep, .own 1065, .own 1081, .own 1097])], [(1065, .arr 9 (.str)), (1081, .arr 9 (.str)), (1097, .arr 9 (.str))]⟩, [⟨.x 4, ⟨[(2, .one (.ptr 48 0)), (3, .one (.ptr 64 0))], [(48, 109, [.keep, .keep, .keep, .keep]), (64, 109, [.keep, .own 1065, .own 1081, .own 1097])], [(1065, .arr 9 (.str)), (1081, .arr 9 (.str)), (1097, .arr 9 (.str))]⟩⟩])) .nil .nil) .nil)) .nil)))))))
  Tryz.func63 rfl (by kernel_rfl) rfl rfl rfl rfl types_ok ⟨trivial, trivial⟩ mx (fun x => by kernel_rfl)

noncomputable def slices_IndexFunc_string_string_L0 (s : List (List UInt8)) (f : List UInt8 × Unit → Option Bool) (v : Int) : Option (Int ⊕ (Unit ⊕ Int)) :=
 bif decide (v < (s.length : Int)) then (
 gd (inB v s.length) <|
 (f (s.getD v.toNat [], ())).bind fun r =>
 bif r then (
 some (.inr (.inr v)))
 else (
 some (.inl (wi64 (v + 1)))))
 else (
 some (.inr (.inl ())))

noncomputable def slices_IndexFunc_string_string (s : List (List UInt8)) (f : List UInt8 × Unit → Option Bool) : Option (Int) :=
 (iter (fun x => slices_IndexFunc_string_string_L0 s f x) 0).bind fun s2 =>
 s2.elim (fun s3 =>
 some (-1))
 (fun s4 =>
 some s4)

noncomputable def fn_slices_IndexFunc_string_string : Fun :=
 ⟨95, 2, 1,
 ⟨[(0, .one (.data (.sl (.str)))), (1, .one (.fn [.str] (.bool)))], [], []⟩,
 ⟨[(0, ii)], [], []⟩,
 fun x => slices_IndexFunc_string_string x.1 x.2⟩
noncomputable def cx_slices_IndexFunc_string_string : Cx := ⟨types, [], [], 19, []⟩
theorem ok_slices_IndexFunc_string_string : FunOk Tryz.prog fn_slices_IndexFunc_string_string :=
 FunOk.intro (C := cx_slices_IndexFunc_string_string) (p := (nn (mm (nn (mm (.mk [] (some (⟨[(0, kk), (1, kk), (7, kk), (8, ii)], [], []⟩, [⟨.x 0, ⟨[], [], []⟩⟩, ⟨.r, ⟨[(4, ii)], [], []⟩⟩])) .nil .nil) .nil)) .nil)))
  Tryz.func95 rfl (by kernel_rfl) rfl rfl rfl rfl types_ok ⟨trivial, trivial⟩ mx (fun x => by kernel_rfl)

noncomputable def slices_ContainsFunc_string_string (s : List (List UInt8)) (f : List UInt8 × Unit → Option Bool) : Option (Bool) :=
 (slices_IndexFunc_string_string s f).bind fun r =>
 some (decide (0 ≤ r))

noncomputable def fn_slices_ContainsFunc_string_string : Fun :=
 ⟨64, 2, 1,
 ⟨[(0, .one (.data (.sl (.str)))), (1, .one (.fn [.str] (.bool)))], [], []⟩,
 ⟨[(0, bb)], [], []⟩,
 fun x => slices_ContainsFunc_string_string x.1 x.2⟩
noncomputable def cx_slices_ContainsFunc_string_string : Cx := ⟨types, [], [fn_slices_IndexFunc_string_string], 9, []⟩
theorem ok_slices_ContainsFunc_string_string : FunOk Tryz.prog fn_slices_ContainsFunc_string_string :=
 FunOk.intro (C := cx_slices_ContainsFunc_string_string) (p := .nil)
  Tryz.func64 rfl (by kernel_rfl) rfl rfl rfl rfl types_ok ⟨⟨ok_slices_IndexFunc_string_string, trivial⟩, trivial⟩ mx (fun x => by kernel_rfl)

noncomputable def lines_place (c : Int) : Option (Int) :=
 Option.bind (α := Unit ⊕ Unit ⊕ Int) (
 Option.bind (α := Bool) (
 bif decide (97 ≤ c) then (
 some (decide (c ≤ 122)))
 else (
 some false)) fun s =>
 bif s then (
 some (.inr (.inr 1)))
 else (
 Option.bind (α := Bool) (
 bif decide (48 ≤ c) then (
 some (decide (c ≤ 57)))
 else (
 some false)) fun s2 =>
 bif s2 then (
 some (.inl ()))
 else (
 bif decide (c = 45) then (
 some (.inl ()))
 else (
 some (.inr (.inl ())))))) fun s3 =>
 s3.elim (fun s4 =>
 some 2)
 (fun s5 =>
 s5.elim (fun s6 =>
 some 0)
 (fun s7 =>
 some s7))

noncomputable def fn_lines_place : Fun :=
 ⟨96, 1, 1,
 ⟨[(0, .one (.data (.int .u8)))], [], []⟩,
 ⟨[(0, ii)], [], []⟩,
 fun x => lines_place x⟩
noncomputable def cx_lines_place : Cx := ⟨types, [], [], 20, []⟩
theorem ok_lines_place : FunOk Tryz.prog fn_lines_place :=
 FunOk.intro (C := cx_lines_place) (p := (nn (mm (mm (mm (.mk [.join [⟨.n, ⟨[], [], []⟩⟩, ⟨.x 0, ⟨[], [], []⟩⟩, ⟨.r, ⟨[(2, ii)], [], []⟩⟩]] none (mm (mm (mm (mm (mm (mm (.mk [.join [⟨.n, ⟨[(0, kk), (3, bb)], [], []⟩⟩]] none .nil .nil) .nil) (mm (mm (.mk [.join [⟨.n, ⟨[(0, kk), (10, bb)], [], []⟩⟩]] none .nil .nil) .nil) .nil)) .nil) .nil) .nil) .nil) .nil) .nil) .nil) .nil)))
  Tryz.func96 rfl (by kernel_rfl) rfl rfl rfl rfl types_ok ⟨trivial, trivial⟩ mx (fun x => by kernel_rfl)

noncomputable def lines_Name_L0 (s : List UInt8) (v : Int) : Option (Int ⊕ (Unit ⊕ Bool)) :=
 bif decide (v < (s.length : Int)) then (
 gd (inB v s.length) <|
 (lines_place (Int.ofNat (s.getD v.toNat 0).toNat)).bind fun r2 =>
 bif decide (r2 = 0) then (
 some (.inr (.inr false)))
 else (
 some (.inl (wi64 (v + 1)))))
 else (
 some (.inr (.inl ())))

noncomputable def lines_Name (s : List UInt8) : Option (Bool) :=
 Option.bind (α := Bool) (
 bif decide ((s.length : Int) < 1) then (
 some true)
 else (
 bif decide (12 < (s.length : Int)) then (
 some true)
 else (
 gd (inB 0 s.length) <|
 (lines_place (Int.ofNat (s.getD 0 0).toNat)).bind fun r =>
 some (!decide (r = 1))))) fun s2 =>
 bif s2 then (
 some false)
 else (
 (iter (fun x => lines_Name_L0 s x) 0).bind fun s3 =>
 s3.elim (fun s4 =>
 some true)
 (fun s5 =>
 some s5))

noncomputable def fn_lines_Name : Fun :=
 ⟨66, 1, 1,
 ⟨[(0, ss)], [], []⟩,
 ⟨[(0, bb)], [], []⟩,
 fun x => lines_Name x⟩
noncomputable def cx_lines_Name : Cx := ⟨types, [], [fn_lines_place], 29, []⟩
theorem ok_lines_Name : FunOk Tryz.prog fn_lines_Name :=
 FunOk.intro (C := cx_lines_Name) (p := (nn (mm (mm (.mk [.join [⟨.n, ⟨[(0, kk), (17, bb)], [], []⟩⟩]] none .nil .nil) .nil) (mm (nn (mm (.mk [] (some (⟨[(0, kk), (19, kk), (20, ii)], [], []⟩, [⟨.x 0, ⟨[], [], []⟩⟩, ⟨.r, ⟨[(2, bb)], [], []⟩⟩])) .nil .nil) .nil)) .nil))))
  Tryz.func66 rfl (by kernel_rfl) rfl rfl rfl rfl types_ok ⟨⟨ok_lines_place, trivial⟩, trivial⟩ mx (fun x => by kernel_rfl)

noncomputable def network_Check_1 (s : List UInt8) : Option (Bool) :=
 (lines_Name s).bind fun r =>
 some (!r)

noncomputable def fn_network_Check_1 : Fun :=
 ⟨65, 1, 1,
 ⟨[(0, ss)], [], []⟩,
 ⟨[(0, bb)], [], []⟩,
 fun x => network_Check_1 x⟩
noncomputable def cx_network_Check_1 : Cx := ⟨types, [], [fn_lines_Name], 6, []⟩
theorem ok_network_Check_1 : FunOk Tryz.prog fn_network_Check_1 :=
 FunOk.intro (C := cx_network_Check_1) (p := .nil)
  Tryz.func65 rfl (by kernel_rfl) rfl rfl rfl rfl types_ok ⟨⟨ok_lines_Name, trivial⟩, trivial⟩ mx (fun x => by kernel_rfl)

noncomputable def slices_Index_string_string_L0 (s : List (List UInt8)) (v : List UInt8) (v2 : Int) : Option (Int ⊕ (Unit ⊕ Int)) :=
 bif decide (v2 < (s.length : Int)) then (
 gd (inB v2 s.length) <|
 bif decide (v = s.getD v2.toNat []) then (
 some (.inr (.inr v2)))
 else (
 some (.inl (wi64 (v2 + 1)))))
 else (
 some (.inr (.inl ())))

noncomputable def slices_Index_string_string (s : List (List UInt8)) (v : List UInt8) : Option (Int) :=
 (iter (fun x => slices_Index_string_string_L0 s v x) 0).bind fun s2 =>
 s2.elim (fun s3 =>
 some (-1))
 (fun s4 =>
 some s4)

noncomputable def fn_slices_Index_string_string : Fun :=
 ⟨80, 2, 1,
 ⟨[(0, .one (.data (.sl (.str)))), (1, ss)], [], []⟩,
 ⟨[(0, ii)], [], []⟩,
 fun x => slices_Index_string_string x.1 x.2⟩
noncomputable def cx_slices_Index_string_string : Cx := ⟨types, [], [], 19, []⟩
theorem ok_slices_Index_string_string : FunOk Tryz.prog fn_slices_Index_string_string :=
 FunOk.intro (C := cx_slices_Index_string_string) (p := (nn (mm (nn (mm (.mk [] (some (⟨[(0, kk), (1, kk), (7, kk), (8, ii)], [], []⟩, [⟨.x 0, ⟨[], [], []⟩⟩, ⟨.r, ⟨[(4, ii)], [], []⟩⟩])) .nil .nil) .nil)) .nil)))
  Tryz.func80 rfl (by kernel_rfl) rfl rfl rfl rfl types_ok ⟨trivial, trivial⟩ mx (fun x => by kernel_rfl)

noncomputable def network_twice_1 (x : List UInt8 × Int × Int × Int × Int) (v : List UInt8 × Int × Int × Int × Int) : Option (Bool) :=
 some (decide (x.2.1 = v.2.1))

noncomputable def fn_network_twice_1 : Fun :=
 ⟨98, 2, 1,
 ⟨[(0, .one (.data (.pair (.str) (.pair (.int .i64) (.pair (.int .i64) tT1))))), (1, .one (.sel (.pair (.str) (.pair (.int .i64) (.pair (.int .i64) tT1)))))], [], []⟩,
 ⟨[(0, bb)], [], []⟩,
 fun x => network_twice_1 x.1 x.2⟩
noncomputable def cx_network_twice_1 : Cx := ⟨types, [], [], 9, []⟩
theorem ok_network_twice_1 : FunOk Tryz.prog fn_network_twice_1 :=
 FunOk.intro (C := cx_network_twice_1) (p := .nil)
  Tryz.func98 rfl (by kernel_rfl) rfl rfl rfl rfl types_ok ⟨trivial, trivial⟩ mx (fun x => by kernel_rfl)

noncomputable def slices_IndexFunc_api_Station_api_Station_L0 (s : List (List UInt8 × Int × Int × Int × Int)) (f : (List UInt8 × Int × Int × Int × Int) × Unit → Option Bool) (v : Int) : Option (Int ⊕ (Unit ⊕ Int)) :=
 bif decide (v < (s.length : Int)) then (
 gd (inB v s.length) <|
 (f (s.getD v.toNat ([], (0, (0, (0, 0)))), ())).bind fun r =>
 bif r then (
 some (.inr (.inr v)))
 else (
 some (.inl (wi64 (v + 1)))))
 else (
 some (.inr (.inl ())))

noncomputable def slices_IndexFunc_api_Station_api_Station (s : List (List UInt8 × Int × Int × Int × Int)) (f : (List UInt8 × Int × Int × Int × Int) × Unit → Option Bool) : Option (Int) :=
 (iter (fun x => slices_IndexFunc_api_Station_api_Station_L0 s f x) 0).bind fun s2 =>
 s2.elim (fun s3 =>
 some (-1))
 (fun s4 =>
 some s4)

noncomputable def fn_slices_IndexFunc_api_Station_api_Station : Fun :=
 ⟨97, 2, 1,
 ⟨[(0, .one (.data (.sl (.pair (.str) (.pair (.int .i64) (.pair (.int .i64) tT1)))))), (1, .one (.fn [.pair (.str) (.pair (.int .i64) (.pair (.int .i64) tT1))] (.bool)))], [], []⟩,
 ⟨[(0, ii)], [], []⟩,
 fun x => slices_IndexFunc_api_Station_api_Station x.1 x.2⟩
noncomputable def cx_slices_IndexFunc_api_Station_api_Station : Cx := ⟨types, [], [], 19, []⟩
theorem ok_slices_IndexFunc_api_Station_api_Station : FunOk Tryz.prog fn_slices_IndexFunc_api_Station_api_Station :=
 FunOk.intro (C := cx_slices_IndexFunc_api_Station_api_Station) (p := (nn (mm (nn (mm (.mk [] (some (⟨[(0, kk), (1, kk), (7, kk), (8, ii)], [], []⟩, [⟨.x 0, ⟨[], [], []⟩⟩, ⟨.r, ⟨[(4, ii)], [], []⟩⟩])) .nil .nil) .nil)) .nil)))
  Tryz.func97 rfl (by kernel_rfl) rfl rfl rfl rfl types_ok ⟨trivial, trivial⟩ mx (fun x => by kernel_rfl)

noncomputable def network_twice_L1 (r : List (List UInt8) × List (List UInt8) × List (List UInt8) × List (List UInt8)) (v : Int) (v2 : Int) : Option (Int ⊕ (Unit ⊕ Bool)) :=
 bif decide (v2 < (([r.1, r.2.1, r.2.2.1, r.2.2.2].getD v.toNat []).length : Int)) then (
 gd (inB v2 ([r.1, r.2.1, r.2.2.1, r.2.2.2].getD v.toNat []).length) <|
 (slices_Index_string_string ([r.1, r.2.1, r.2.2.1, r.2.2.2].getD v.toNat []) (([r.1, r.2.1, r.2.2.1, r.2.2.2].getD v.toNat []).getD v2.toNat [])).bind fun r2 =>
 bif decide (r2 < v2) then (
 some (.inr (.inr true)))
 else (
 some (.inl (wi64 (v2 + 1)))))
 else (
 some (.inr (.inl ())))

noncomputable def network_twice_L0 (r : List (List UInt8) × List (List UInt8) × List (List UInt8) × List (List UInt8)) (v : Int) : Option (Int ⊕ (Unit ⊕ Bool)) :=
 bif decide (v < 4) then (
 gd (inB v 4) <|
 (iter (fun x => network_twice_L1 r v x) 0).bind fun s =>
 s.elim (fun s2 =>
 some (.inl (wi64 (v + 1))))
 (fun s3 =>
 some (.inr (.inr s3))))
 else (
 some (.inr (.inl ())))

noncomputable def network_twice_L2 (n : List (List UInt8) × List yT1 × List (List UInt8 × Int × Int) × List (List UInt8 × Int × Int × Int × Int) × Int × Int) (v3 : Int) : Option (Int ⊕ (Unit ⊕ Bool)) :=
 bif decide (v3 < (n.2.2.2.1.length : Int)) then (
 gd (inB v3 n.2.2.2.1.length) <|
 (slices_IndexFunc_api_Station_api_Station n.2.2.2.1 (fun h => (network_twice_1 h.1 ((n.2.2.2.1.getD v3.toNat ([], (0, (0, (0, 0))))).1, (((n.2.2.2.1.getD v3.toNat ([], (0, (0, (0, 0))))).2).1, ((((n.2.2.2.1.getD v3.toNat ([], (0, (0, (0, 0))))).2).2).1, (((((n.2.2.2.1.getD v3.toNat ([], (0, (0, (0, 0))))).2).2).2).1, ((((n.2.2.2.1.getD v3.toNat ([], (0, (0, (0, 0))))).2).2).2).2))))).bind fun y => some y)).bind fun r3 =>
 bif decide (r3 < v3) then (
 some (.inr (.inr true)))
 else (
 some (.inl (wi64 (v3 + 1)))))
 else (
 some (.inr (.inl ())))

noncomputable def network_twice (n : List (List UInt8) × List yT1 × List (List UInt8 × Int × Int) × List (List UInt8 × Int × Int × Int × Int) × Int × Int) : Option (Bool) :=
 (network_names (n.1, (n.2.1, (n.2.2.1, (n.2.2.2.1, (n.2.2.2.2.1, n.2.2.2.2.2)))))).bind fun r =>
 (iter (fun x2 => network_twice_L0 r x2) 0).bind fun s4 =>
 s4.elim (fun s5 =>
 (iter (fun x3 => network_twice_L2 n x3) 0).bind fun s7 =>
 s7.elim (fun s8 =>
 some false)
 (fun s9 =>
 some s9))
 (fun s6 =>
 some s6)

noncomputable def fn_network_twice : Fun :=
 ⟨67, 1, 1,
 ⟨[(0, .one (.data (.pair (.sl (.str)) (.pair (.sl (.pair (.str) (.pair (.int .i64) (.pair (.int .i64) (.pair (.int .i64) (.pair (.int .i64) (.pair (.int .i64) (.sl (.pair (.int .i64) tT1))))))))) (.pair (.sl (.pair (.str) tT1)) (.pair (.sl (.pair (.str) (.pair (.int .i64) (.pair (.int .i64) tT1)))) tT1))))))], [], []⟩,
 ⟨[(0, bb)], [], []⟩,
 fun x => network_twice x⟩
noncomputable def cx_network_twice : Cx := ⟨types, [], [fn_network_names, fn_slices_Index_string_string, fn_slices_IndexFunc_api_Station_api_Station, fn_network_twice_1], 43, []⟩
theorem ok_network_twice : FunOk Tryz.prog fn_network_twice :=
 FunOk.intro (C := cx_network_twice) (p := (nn (mm (nn (mm (.mk [] (some (⟨[(1, .one (.ptr 32 0)), (10, kk), (11, ii)], [(32, 32, [.keep, .keep, .keep, .keep, .keep, .keep])], []⟩, [⟨.x 0, ⟨[(1, .one (.ptr 32 0))], [(32, 32, [.keep, .keep, .keep, .keep, .keep, .keep])], []⟩⟩, ⟨.r, ⟨[(2, bb)], [], []⟩⟩])) (nn (nn (mm (mm (nn (nn (mm (.mk [] (some (⟨[(1, .one (.ptr 32 0)), (4, kk), (10, kk), (11, kk), (14, kk), (15, kk), (16, ii)], [(32, 32, [.keep, .keep, .keep, .keep, .keep, .keep])], []⟩, [⟨.x 2, ⟨[(1, .one (.ptr 32 0)), (10, kk), (11, kk)], [(32, 32, [.keep, .keep, .keep, .keep, .keep, .keep])], []⟩⟩, ⟨.r, ⟨[(2, bb)], [], []⟩⟩])) .nil .nil) .nil))) .nil) .nil))) .nil) .nil)) (mm (nn (mm (.mk [] (some (⟨[(1, .one (.ptr 32 0)), (29, kk), (30, kk), (31, ii)], [(32, 32, [.keep, .keep, .keep, .keep, .keep, .keep])], []⟩, [⟨.x 4, ⟨[], [], []⟩⟩, ⟨.r, ⟨[(2, bb)], [], []⟩⟩])) (nn (nn (mm (mm (nn (mm (.mk [.fv [(8, .pair (.str) (.pair (.int .i64) (.pair (.int .i64) tT1)))]] none .nil .nil) .nil)) .nil) .nil))) .nil) .nil)) .nil))))
  Tryz.func67 rfl (by kernel_rfl) rfl rfl rfl rfl types_ok ⟨⟨ok_network_names, ok_slices_Index_string_string, ok_slices_IndexFunc_api_Station_api_Station, ok_network_twice_1, trivial⟩, trivial⟩ mx (fun x => by kernel_rfl)

noncomputable def network_known_1 (k : Int) (v : List (List UInt8) × List yT1 × List (List UInt8 × Int × Int) × List (List UInt8 × Int × Int × Int × Int) × Int × Int) : Option (Bool) :=
 bif decide (k < 0) then (
 some true)
 else (
 some (decide ((v.1.length : Int) ≤ k)))

noncomputable def fn_network_known_1 : Fun :=
 ⟨100, 2, 1,
 ⟨[(0, ii), (1, .one (.sel (.pair (.sl (.str)) (.pair (.sl (.pair (.str) (.pair (.int .i64) (.pair (.int .i64) (.pair (.int .i64) (.pair (.int .i64) (.pair (.int .i64) (.sl (.pair (.int .i64) tT1))))))))) (.pair (.sl (.pair (.str) tT1)) (.pair (.sl (.pair (.str) (.pair (.int .i64) (.pair (.int .i64) tT1)))) tT1))))))], [], []⟩,
 ⟨[(0, bb)], [], []⟩,
 fun x => network_known_1 x.1 x.2⟩
noncomputable def cx_network_known_1 : Cx := ⟨types, [], [], 13, []⟩
theorem ok_network_known_1 : FunOk Tryz.prog fn_network_known_1 :=
 FunOk.intro (C := cx_network_known_1) (p := .nil)
  Tryz.func100 rfl (by kernel_rfl) rfl rfl rfl rfl types_ok ⟨trivial, trivial⟩ mx (fun x => by kernel_rfl)

noncomputable def slices_IndexFunc_int_int_L0 (s : List Int) (f : Int × Unit → Option Bool) (v : Int) : Option (Int ⊕ (Unit ⊕ Int)) :=
 bif decide (v < (s.length : Int)) then (
 gd (inB v s.length) <|
 (f (s.getD v.toNat 0, ())).bind fun r =>
 bif r then (
 some (.inr (.inr v)))
 else (
 some (.inl (wi64 (v + 1)))))
 else (
 some (.inr (.inl ())))

noncomputable def slices_IndexFunc_int_int (s : List Int) (f : Int × Unit → Option Bool) : Option (Int) :=
 (iter (fun x => slices_IndexFunc_int_int_L0 s f x) 0).bind fun s2 =>
 s2.elim (fun s3 =>
 some (-1))
 (fun s4 =>
 some s4)

noncomputable def fn_slices_IndexFunc_int_int : Fun :=
 ⟨122, 2, 1,
 ⟨[(0, .one (.data (.sl (.int .i64)))), (1, .one (.fn [.int .i64] (.bool)))], [], []⟩,
 ⟨[(0, ii)], [], []⟩,
 fun x => slices_IndexFunc_int_int x.1 x.2⟩
noncomputable def cx_slices_IndexFunc_int_int : Cx := ⟨types, [], [], 19, []⟩
theorem ok_slices_IndexFunc_int_int : FunOk Tryz.prog fn_slices_IndexFunc_int_int :=
 FunOk.intro (C := cx_slices_IndexFunc_int_int) (p := (nn (mm (nn (mm (.mk [] (some (⟨[(0, kk), (1, kk), (7, kk), (8, ii)], [], []⟩, [⟨.x 0, ⟨[], [], []⟩⟩, ⟨.r, ⟨[(4, ii)], [], []⟩⟩])) .nil .nil) .nil)) .nil)))
  Tryz.func122 rfl (by kernel_rfl) rfl rfl rfl rfl types_ok ⟨trivial, trivial⟩ mx (fun x => by kernel_rfl)

noncomputable def slices_ContainsFunc_int_int (s : List Int) (f : Int × Unit → Option Bool) : Option (Bool) :=
 (slices_IndexFunc_int_int s f).bind fun r =>
 some (decide (0 ≤ r))

noncomputable def fn_slices_ContainsFunc_int_int : Fun :=
 ⟨99, 2, 1,
 ⟨[(0, .one (.data (.sl (.int .i64)))), (1, .one (.fn [.int .i64] (.bool)))], [], []⟩,
 ⟨[(0, bb)], [], []⟩,
 fun x => slices_ContainsFunc_int_int x.1 x.2⟩
noncomputable def cx_slices_ContainsFunc_int_int : Cx := ⟨types, [], [fn_slices_IndexFunc_int_int], 9, []⟩
theorem ok_slices_ContainsFunc_int_int : FunOk Tryz.prog fn_slices_ContainsFunc_int_int :=
 FunOk.intro (C := cx_slices_ContainsFunc_int_int) (p := .nil)
  Tryz.func99 rfl (by kernel_rfl) rfl rfl rfl rfl types_ok ⟨⟨ok_slices_IndexFunc_int_int, trivial⟩, trivial⟩ mx (fun x => by kernel_rfl)

noncomputable def network_known_L0 (n : List (List UInt8) × List yT1 × List (List UInt8 × Int × Int) × List (List UInt8 × Int × Int × Int × Int) × Int × Int) (v : Int) (all : List Int) : Option ((Int × List Int) ⊕ (List Int)) :=
 bif decide (v < (n.2.1.length : Int)) then (
 gd (inB v n.2.1.length) <|
 gd (fits (all.length + 2) 8) <|
 some (.inl (wi64 (v + 1), all ++ [((n.2.1.getD v.toNat ([], (0, (0, (0, (0, (0, []))))))).2).1, (((n.2.1.getD v.toNat ([], (0, (0, (0, (0, (0, []))))))).2).2).1])))
 else (
 some (.inr all))

noncomputable def network_known_L1 (n : List (List UInt8) × List yT1 × List (List UInt8 × Int × Int) × List (List UInt8 × Int × Int × Int × Int) × Int × Int) (v2 : Int) (all2 : List Int) : Option ((Int × List Int) ⊕ (List Int)) :=
 bif decide (v2 < (n.2.2.1.length : Int)) then (
 gd (inB v2 n.2.2.1.length) <|
 gd (fits (all2.length + 1) 8) <|
 some (.inl (wi64 (v2 + 1), all2 ++ [((n.2.2.1.getD v2.toNat ([], (0, 0))).2).1])))
 else (
 some (.inr all2))

noncomputable def network_known_L2 (n : List (List UInt8) × List yT1 × List (List UInt8 × Int × Int) × List (List UInt8 × Int × Int × Int × Int) × Int × Int) (v3 : Int) (all3 : List Int) : Option ((Int × List Int) ⊕ (List Int)) :=
 bif decide (v3 < (n.2.2.2.1.length : Int)) then (
 gd (inB v3 n.2.2.2.1.length) <|
 gd (fits (all3.length + 1) 8) <|
 some (.inl (wi64 (v3 + 1), all3 ++ [((n.2.2.2.1.getD v3.toNat ([], (0, (0, (0, 0))))).2).1])))
 else (
 some (.inr all3))

noncomputable def network_known (n : List (List UInt8) × List yT1 × List (List UInt8 × Int × Int) × List (List UInt8 × Int × Int × Int × Int) × Int × Int) : Option (Bool) :=
 (iter (fun x => network_known_L0 n x.1 x.2) (0, [])).bind fun s =>
 (iter (fun x2 => network_known_L1 n x2.1 x2.2) (0, s)).bind fun s2 =>
 (iter (fun x3 => network_known_L2 n x3.1 x3.2) (0, s2)).bind fun s3 =>
 (slices_ContainsFunc_int_int s3 (fun h => (network_known_1 h.1 (n.1, (n.2.1, (n.2.2.1, (n.2.2.2.1, (n.2.2.2.2.1, n.2.2.2.2.2)))))).bind fun y => some y)).bind fun r =>
 some (!r)

noncomputable def fn_network_known : Fun :=
 ⟨68, 1, 1,
 ⟨[(0, .one (.data (.pair (.sl (.str)) (.pair (.sl (.pair (.str) (.pair (.int .i64) (.pair (.int .i64) (.pair (.int .i64) (.pair (.int .i64) (.pair (.int .i64) (.sl (.pair (.int .i64) tT1))))))))) (.pair (.sl (.pair (.str) tT1)) (.pair (.sl (.pair (.str) (.pair (.int .i64) (.pair (.int .i64) tT1)))) tT1))))))], [], []⟩,
 ⟨[(0, bb)], [], []⟩,
 fun x => network_known x⟩
noncomputable def cx_network_known : Cx := ⟨types, [], [fn_slices_ContainsFunc_int_int, fn_network_known_1], 55, []⟩
theorem ok_network_known : FunOk Tryz.prog fn_network_known :=
 FunOk.intro (C := cx_network_known) (p := (nn (nn (mm (nn (mm (.mk [] (some (⟨[(1, .one (.ptr 32 0)), (3, .one (.own 75)), (11, kk), (12, kk), (13, ii)], [(32, 32, [.keep, .keep, .keep, .keep, .keep, .keep])], [(75, .arr 3 (.int .i64))]⟩, [⟨.x 0, ⟨[(1, .one (.ptr 32 0)), (3, .one (.own 75))], [(32, 32, [.keep, .keep, .keep, .keep, .keep, .keep])], [(75, .arr 3 (.int .i64))]⟩⟩])) .nil .nil) .nil)) (mm (nn (mm (.mk [] (some (⟨[(1, .one (.ptr 32 0)), (3, .one (.own 75)), (26, kk), (27, kk), (28, ii)], [(32, 32, [.keep, .keep, .keep, .keep, .keep, .keep])], [(75, .arr 3 (.int .i64))]⟩, [⟨.x 2, ⟨[(1, .one (.ptr 32 0)), (3, .one (.own 75))], [(32, 32, [.keep, .keep, .keep, .keep, .keep, .keep])], [(75, .arr 3 (.int .i64))]⟩⟩])) .nil .nil) .nil)) (mm (nn (mm (.mk [] (some (⟨[(1, .one (.ptr 32 0)), (3, .one (.own 75)), (39, kk), (40, kk), (41, ii)], [(32, 32, [.keep, .keep, .keep, .keep, .keep, .keep])], [(75, .arr 3 (.int .i64))]⟩, [⟨.x 4, ⟨[(1, .one (.ptr 32 0)), (3, .one (.own 75))], [(32, 32, [.keep, .keep, .keep, .keep, .keep, .keep])], [(75, .arr 3 (.int .i64))]⟩⟩])) .nil .nil) .nil)) (mm (.mk [.fv [(1, .pair (.sl (.str)) (.pair (.sl (.pair (.str) (.pair (.int .i64) (.pair (.int .i64) (.pair (.int .i64) (.pair (.int .i64) (.pair (.int .i64) (.sl (.pair (.int .i64) tT1))))))))) (.pair (.sl (.pair (.str) tT1)) (.pair (.sl (.pair (.str) (.pair (.int .i64) (.pair (.int .i64) tT1)))) tT1))))]] none .nil .nil) .nil)))))))
  Tryz.func68 rfl (by kernel_rfl) rfl rfl rfl rfl types_ok ⟨⟨ok_slices_ContainsFunc_int_int, ok_network_known_1, trivial⟩, trivial⟩ mx (fun x => by kernel_rfl)

noncomputable def network_in (n : Int) (least : Int) (most : Int) : Option (Bool) :=
 bif decide (least ≤ n) then (
 some (decide (n ≤ most)))
 else (
 some false)

noncomputable def fn_network_in : Fun :=
 ⟨105, 3, 1,
 ⟨[(0, ii), (1, ii), (2, ii)], [], []⟩,
 ⟨[(0, bb)], [], []⟩,
 fun x => network_in x.1 x.2.1 x.2.2⟩
noncomputable def cx_network_in : Cx := ⟨types, [], [], 15, []⟩
theorem ok_network_in : FunOk Tryz.prog fn_network_in :=
 FunOk.intro (C := cx_network_in) (p := .nil)
  Tryz.func105 rfl (by kernel_rfl) rfl rfl rfl rfl types_ok ⟨trivial, trivial⟩ mx (fun x => by kernel_rfl)

noncomputable def network_pipe_L0 (s : List UInt8 × Int × Int × Int × Int × Int × List (Int × Int × Int)) (v : Int) : Option (Int ⊕ (Unit ⊕ Bool)) :=
 bif decide (v < (s.2.2.2.2.2.2.length : Int)) then (
 gd (inB v s.2.2.2.2.2.2.length) <|
 Option.bind (α := Bool) (
 (network_in (((s.2.2.2.2.2.2.getD v.toNat (0, (0, 0))).2).1) (-500) 5000).bind fun r4 =>
 bif !r4 then (
 some true)
 else (
 (network_in (((s.2.2.2.2.2.2.getD v.toNat (0, (0, 0))).2).2) 0 100000000).bind fun r5 =>
 bif !r5 then (
 some true)
 else (
 bif decide (0 < v) then (
 gd (inB (wi64 (v - 1)) s.2.2.2.2.2.2.length) <|
 some (decide ((s.2.2.2.2.2.2.getD v.toNat (0, (0, 0))).1 ≤ (s.2.2.2.2.2.2.getD (wi64 (v - 1)).toNat (0, (0, 0))).1)))
 else (
 some false)))) fun s3 =>
 bif s3 then (
 some (.inr (.inr false)))
 else (
 some (.inl (wi64 (v + 1)))))
 else (
 some (.inr (.inl ())))

noncomputable def network_pipe (s : List UInt8 × Int × Int × Int × Int × Int × List (Int × Int × Int)) : Option (Bool) :=
 Option.bind (α := Bool) (
 bif decide (s.2.1 = s.2.2.1) then (
 some true)
 else (
 (network_in s.2.2.2.1 1 1000000).bind fun r =>
 bif !r then (
 some true)
 else (
 (network_in s.2.2.2.2.1 0 1000).bind fun r2 =>
 bif !r2 then (
 some true)
 else (
 (network_in s.2.2.2.2.2.1 0 100000).bind fun r3 =>
 some (!r3))))) fun s2 =>
 bif s2 then (
 some false)
 else (
 (iter (fun x => network_pipe_L0 s x) 0).bind fun s4 =>
 s4.elim (fun s5 =>
 gd (inB 0 s.2.2.2.2.2.2.length) <|
 bif decide ((s.2.2.2.2.2.2.getD 0 (0, (0, 0))).1 = 0) then (
 gd (inB (wi64 ((s.2.2.2.2.2.2.length : Int) - 1)) s.2.2.2.2.2.2.length) <|
 some (decide ((s.2.2.2.2.2.2.getD (wi64 ((s.2.2.2.2.2.2.length : Int) - 1)).toNat (0, (0, 0))).1 = s.2.2.2.1)))
 else (
 some false))
 (fun s6 =>
 some s6))

noncomputable def fn_network_pipe : Fun :=
 ⟨102, 1, 1,
 ⟨[(0, .one (.data (.pair (.str) (.pair (.int .i64) (.pair (.int .i64) (.pair (.int .i64) (.pair (.int .i64) (.pair (.int .i64) (.sl (.pair (.int .i64) tT1))))))))))], [], []⟩,
 ⟨[(0, bb)], [], []⟩,
 fun x => network_pipe x⟩
noncomputable def cx_network_pipe : Cx := ⟨types, [], [fn_network_in], 83, []⟩
theorem ok_network_pipe : FunOk Tryz.prog fn_network_pipe :=
 FunOk.intro (C := cx_network_pipe) (p := (nn (mm (mm (.mk [.join [⟨.n, ⟨[(1, .one (.ptr 32 0)), (27, bb)], [(32, 72, [.keep, .keep, .keep, .keep, .keep, .keep, .keep])], []⟩⟩]] none .nil .nil) .nil) (mm (nn (mm (.mk [] (some (⟨[(1, .one (.ptr 32 0)), (29, kk), (30, kk), (31, ii)], [(32, 72, [.keep, .keep, .keep, .keep, .keep, .keep, .keep])], []⟩, [⟨.x 0, ⟨[(1, .one (.ptr 32 0))], [(32, 72, [.keep, .keep, .keep, .keep, .keep, .keep, .keep])], []⟩⟩, ⟨.r, ⟨[(2, bb)], [], []⟩⟩])) (nn (nn (mm (mm (nn (mm (.mk [.join [⟨.n, ⟨[(1, .one (.ptr 32 0)), (29, kk), (30, kk), (31, kk), (61, bb)], [(32, 72, [.keep, .keep, .keep, .keep, .keep, .keep, .keep])], []⟩⟩]] none .nil .nil) .nil)) .nil) .nil))) .nil) .nil)) .nil))))
  Tryz.func102 rfl (by kernel_rfl) rfl rfl rfl rfl types_ok ⟨⟨ok_network_in, trivial⟩, trivial⟩ mx (fun x => by kernel_rfl)

noncomputable def network_proper_1 (s : List UInt8 × Int × Int × Int × Int × Int × List (Int × Int × Int)) : Option (Bool) :=
 (network_pipe (s.1, (s.2.1, (s.2.2.1, (s.2.2.2.1, (s.2.2.2.2.1, (s.2.2.2.2.2.1, s.2.2.2.2.2.2))))))).bind fun r =>
 some (!r)

noncomputable def fn_network_proper_1 : Fun :=
 ⟨101, 1, 1,
 ⟨[(0, .one (.data (.pair (.str) (.pair (.int .i64) (.pair (.int .i64) (.pair (.int .i64) (.pair (.int .i64) (.pair (.int .i64) (.sl (.pair (.int .i64) tT1))))))))))], [], []⟩,
 ⟨[(0, bb)], [], []⟩,
 fun x => network_proper_1 x⟩
noncomputable def cx_network_proper_1 : Cx := ⟨types, [], [fn_network_pipe], 6, []⟩
theorem ok_network_proper_1 : FunOk Tryz.prog fn_network_proper_1 :=
 FunOk.intro (C := cx_network_proper_1) (p := .nil)
  Tryz.func101 rfl (by kernel_rfl) rfl rfl rfl rfl types_ok ⟨⟨ok_network_pipe, trivial⟩, trivial⟩ mx (fun x => by kernel_rfl)

noncomputable def slices_IndexFunc_api_Port_api_Port_L0 (s : List (List UInt8 × Int × Int)) (f : (List UInt8 × Int × Int) × Unit → Option Bool) (v : Int) : Option (Int ⊕ (Unit ⊕ Int)) :=
 bif decide (v < (s.length : Int)) then (
 gd (inB v s.length) <|
 (f (s.getD v.toNat ([], (0, 0)), ())).bind fun r =>
 bif r then (
 some (.inr (.inr v)))
 else (
 some (.inl (wi64 (v + 1)))))
 else (
 some (.inr (.inl ())))

noncomputable def slices_IndexFunc_api_Port_api_Port (s : List (List UInt8 × Int × Int)) (f : (List UInt8 × Int × Int) × Unit → Option Bool) : Option (Int) :=
 (iter (fun x => slices_IndexFunc_api_Port_api_Port_L0 s f x) 0).bind fun s2 =>
 s2.elim (fun s3 =>
 some (-1))
 (fun s4 =>
 some s4)

noncomputable def fn_slices_IndexFunc_api_Port_api_Port : Fun :=
 ⟨78, 2, 1,
 ⟨[(0, .one (.data (.sl (.pair (.str) tT1)))), (1, .one (.fn [.pair (.str) tT1] (.bool)))], [], []⟩,
 ⟨[(0, ii)], [], []⟩,
 fun x => slices_IndexFunc_api_Port_api_Port x.1 x.2⟩
noncomputable def cx_slices_IndexFunc_api_Port_api_Port : Cx := ⟨types, [], [], 19, []⟩
theorem ok_slices_IndexFunc_api_Port_api_Port : FunOk Tryz.prog fn_slices_IndexFunc_api_Port_api_Port :=
 FunOk.intro (C := cx_slices_IndexFunc_api_Port_api_Port) (p := (nn (mm (nn (mm (.mk [] (some (⟨[(0, kk), (1, kk), (7, kk), (8, ii)], [], []⟩, [⟨.x 0, ⟨[], [], []⟩⟩, ⟨.r, ⟨[(4, ii)], [], []⟩⟩])) .nil .nil) .nil)) .nil)))
  Tryz.func78 rfl (by kernel_rfl) rfl rfl rfl rfl types_ok ⟨trivial, trivial⟩ mx (fun x => by kernel_rfl)

noncomputable def slices_ContainsFunc_api_Port_api_Port (s : List (List UInt8 × Int × Int)) (f : (List UInt8 × Int × Int) × Unit → Option Bool) : Option (Bool) :=
 (slices_IndexFunc_api_Port_api_Port s f).bind fun r =>
 some (decide (0 ≤ r))

noncomputable def fn_slices_ContainsFunc_api_Port_api_Port : Fun :=
 ⟨103, 2, 1,
 ⟨[(0, .one (.data (.sl (.pair (.str) tT1)))), (1, .one (.fn [.pair (.str) tT1] (.bool)))], [], []⟩,
 ⟨[(0, bb)], [], []⟩,
 fun x => slices_ContainsFunc_api_Port_api_Port x.1 x.2⟩
noncomputable def cx_slices_ContainsFunc_api_Port_api_Port : Cx := ⟨types, [], [fn_slices_IndexFunc_api_Port_api_Port], 9, []⟩
theorem ok_slices_ContainsFunc_api_Port_api_Port : FunOk Tryz.prog fn_slices_ContainsFunc_api_Port_api_Port :=
 FunOk.intro (C := cx_slices_ContainsFunc_api_Port_api_Port) (p := .nil)
  Tryz.func103 rfl (by kernel_rfl) rfl rfl rfl rfl types_ok ⟨⟨ok_slices_IndexFunc_api_Port_api_Port, trivial⟩, trivial⟩ mx (fun x => by kernel_rfl)

noncomputable def network_proper_2 (p : List UInt8 × Int × Int) : Option (Bool) :=
 (network_in p.2.2 0 100000000).bind fun r =>
 some (!r)

noncomputable def fn_network_proper_2 : Fun :=
 ⟨104, 1, 1,
 ⟨[(0, .one (.data (.pair (.str) tT1)))], [], []⟩,
 ⟨[(0, bb)], [], []⟩,
 fun x => network_proper_2 x⟩
noncomputable def cx_network_proper_2 : Cx := ⟨types, [], [fn_network_in], 7, []⟩
theorem ok_network_proper_2 : FunOk Tryz.prog fn_network_proper_2 :=
 FunOk.intro (C := cx_network_proper_2) (p := .nil)
  Tryz.func104 rfl (by kernel_rfl) rfl rfl rfl rfl types_ok ⟨⟨ok_network_in, trivial⟩, trivial⟩ mx (fun x => by kernel_rfl)

noncomputable def slices_ContainsFunc_api_Station_api_Station (s : List (List UInt8 × Int × Int × Int × Int)) (f : (List UInt8 × Int × Int × Int × Int) × Unit → Option Bool) : Option (Bool) :=
 (slices_IndexFunc_api_Station_api_Station s f).bind fun r =>
 some (decide (0 ≤ r))

noncomputable def fn_slices_ContainsFunc_api_Station_api_Station : Fun :=
 ⟨106, 2, 1,
 ⟨[(0, .one (.data (.sl (.pair (.str) (.pair (.int .i64) (.pair (.int .i64) tT1)))))), (1, .one (.fn [.pair (.str) (.pair (.int .i64) (.pair (.int .i64) tT1))] (.bool)))], [], []⟩,
 ⟨[(0, bb)], [], []⟩,
 fun x => slices_ContainsFunc_api_Station_api_Station x.1 x.2⟩
noncomputable def cx_slices_ContainsFunc_api_Station_api_Station : Cx := ⟨types, [], [fn_slices_IndexFunc_api_Station_api_Station], 9, []⟩
theorem ok_slices_ContainsFunc_api_Station_api_Station : FunOk Tryz.prog fn_slices_ContainsFunc_api_Station_api_Station :=
 FunOk.intro (C := cx_slices_ContainsFunc_api_Station_api_Station) (p := .nil)
  Tryz.func106 rfl (by kernel_rfl) rfl rfl rfl rfl types_ok ⟨⟨ok_slices_IndexFunc_api_Station_api_Station, trivial⟩, trivial⟩ mx (fun x => by kernel_rfl)

noncomputable def network_proper_3 (s : List UInt8 × Int × Int × Int × Int) : Option (Bool) :=
 (network_in s.2.2.1 0 100000000).bind fun r =>
 bif !r then (
 some true)
 else (
 (network_in s.2.2.2.1 0 100000).bind fun r2 =>
 bif !r2 then (
 some true)
 else (
 (network_in s.2.2.2.2 0 100000000).bind fun r3 =>
 some (!r3)))

noncomputable def fn_network_proper_3 : Fun :=
 ⟨107, 1, 1,
 ⟨[(0, .one (.data (.pair (.str) (.pair (.int .i64) (.pair (.int .i64) tT1)))))], [], []⟩,
 ⟨[(0, bb)], [], []⟩,
 fun x => network_proper_3 x⟩
noncomputable def cx_network_proper_3 : Cx := ⟨types, [], [fn_network_in], 19, []⟩
theorem ok_network_proper_3 : FunOk Tryz.prog fn_network_proper_3 :=
 FunOk.intro (C := cx_network_proper_3) (p := .nil)
  Tryz.func107 rfl (by kernel_rfl) rfl rfl rfl rfl types_ok ⟨⟨ok_network_in, trivial⟩, trivial⟩ mx (fun x => by kernel_rfl)

noncomputable def network_proper (n : List (List UInt8) × List yT1 × List (List UInt8 × Int × Int) × List (List UInt8 × Int × Int × Int × Int) × Int × Int) : Option (Bool) :=
 (slices_ContainsFunc_api_Segment_api_Segment n.2.1 (fun h => (network_proper_1 h.1).bind fun y => some y)).bind fun r =>
 bif r then (
 some false)
 else (
 (slices_ContainsFunc_api_Port_api_Port n.2.2.1 (fun h2 => (network_proper_2 h2.1).bind fun y => some y)).bind fun r2 =>
 bif r2 then (
 some false)
 else (
 (slices_ContainsFunc_api_Station_api_Station n.2.2.2.1 (fun h3 => (network_proper_3 h3.1).bind fun y => some y)).bind fun r3 =>
 bif r3 then (
 some false)
 else (
 (network_in n.2.2.2.2.1 (-100000) 100000000).bind fun r4 =>
 bif r4 then (
 (network_in n.2.2.2.2.2 0 100).bind fun r5 =>
 some r5)
 else (
 some false))))

noncomputable def fn_network_proper : Fun :=
 ⟨69, 1, 1,
 ⟨[(0, .one (.data (.pair (.sl (.str)) (.pair (.sl (.pair (.str) (.pair (.int .i64) (.pair (.int .i64) (.pair (.int .i64) (.pair (.int .i64) (.pair (.int .i64) (.sl (.pair (.int .i64) tT1))))))))) (.pair (.sl (.pair (.str) tT1)) (.pair (.sl (.pair (.str) (.pair (.int .i64) (.pair (.int .i64) tT1)))) tT1))))))], [], []⟩,
 ⟨[(0, bb)], [], []⟩,
 fun x => network_proper x⟩
noncomputable def cx_network_proper : Cx := ⟨types, [], [fn_slices_ContainsFunc_api_Segment_api_Segment, fn_network_proper_1, fn_slices_ContainsFunc_api_Port_api_Port, fn_network_proper_2, fn_slices_ContainsFunc_api_Station_api_Station, fn_network_proper_3, fn_network_in], 20, []⟩
theorem ok_network_proper : FunOk Tryz.prog fn_network_proper :=
 FunOk.intro (C := cx_network_proper) (p := .nil)
  Tryz.func69 rfl (by kernel_rfl) rfl rfl rfl rfl types_ok ⟨⟨ok_slices_ContainsFunc_api_Segment_api_Segment, ok_network_proper_1, ok_slices_ContainsFunc_api_Port_api_Port, ok_network_proper_2, ok_slices_ContainsFunc_api_Station_api_Station, ok_network_proper_3, ok_network_in, trivial⟩, trivial⟩ mx (fun x => by kernel_rfl)

noncomputable def network_Check_L0 (r2 : List (List UInt8) × List (List UInt8) × List (List UInt8) × List (List UInt8)) (v : Int) : Option (Int ⊕ (Unit ⊕ Int)) :=
 bif decide (v < 4) then (
 gd (inB v 4) <|
 (slices_ContainsFunc_string_string ([r2.1, r2.2.1, r2.2.2.1, r2.2.2.2].getD v.toNat []) (fun h => (network_Check_1 h.1).bind fun y => some y)).bind fun r3 =>
 bif r3 then (
 some (.inr (.inr 3)))
 else (
 some (.inl (wi64 (v + 1)))))
 else (
 some (.inr (.inl ())))

noncomputable def network_Check (n : List (List UInt8) × List yT1 × List (List UInt8 × Int × Int) × List (List UInt8 × Int × Int × Int × Int) × Int × Int) : Option (Int) :=
 (network_limits (n.1, (n.2.1, (n.2.2.1, (n.2.2.2.1, (n.2.2.2.2.1, n.2.2.2.2.2)))))).bind fun r =>
 bif !r then (
 some 4)
 else (
 (network_names (n.1, (n.2.1, (n.2.2.1, (n.2.2.2.1, (n.2.2.2.2.1, n.2.2.2.2.2)))))).bind fun r2 =>
 (iter (fun x => network_Check_L0 r2 x) 0).bind fun s =>
 s.elim (fun s2 =>
 (network_twice (n.1, (n.2.1, (n.2.2.1, (n.2.2.2.1, (n.2.2.2.2.1, n.2.2.2.2.2)))))).bind fun r4 =>
 bif r4 then (
 some 7)
 else (
 (network_known (n.1, (n.2.1, (n.2.2.1, (n.2.2.2.1, (n.2.2.2.2.1, n.2.2.2.2.2)))))).bind fun r5 =>
 bif !r5 then (
 some 8)
 else (
 (network_proper (n.1, (n.2.1, (n.2.2.1, (n.2.2.2.1, (n.2.2.2.2.1, n.2.2.2.2.2)))))).bind fun r6 =>
 bif !r6 then (
 some 9)
 else (
 some 0))))
 (fun s3 =>
 some s3))

noncomputable def fn_network_Check : Fun :=
 ⟨33, 1, 1,
 ⟨[(0, .one (.data (.pair (.sl (.str)) (.pair (.sl (.pair (.str) (.pair (.int .i64) (.pair (.int .i64) (.pair (.int .i64) (.pair (.int .i64) (.pair (.int .i64) (.sl (.pair (.int .i64) tT1))))))))) (.pair (.sl (.pair (.str) tT1)) (.pair (.sl (.pair (.str) (.pair (.int .i64) (.pair (.int .i64) tT1)))) tT1))))))], [], []⟩,
 ⟨[(0, ii)], [], []⟩,
 fun x => network_Check x⟩
noncomputable def cx_network_Check : Cx := ⟨types, [], [fn_network_limits, fn_network_names, fn_slices_ContainsFunc_string_string, fn_network_Check_1, fn_network_twice, fn_network_known, fn_network_proper], 27, []⟩
theorem ok_network_Check : FunOk Tryz.prog fn_network_Check :=
 FunOk.intro (C := cx_network_Check) (p := (nn (nn (mm (nn (mm (.mk [] (some (⟨[(1, .one (.ptr 32 0)), (9, kk), (10, ii)], [(32, 32, [.keep, .keep, .keep, .keep, .keep, .keep])], []⟩, [⟨.x 0, ⟨[(1, .one (.ptr 32 0))], [(32, 32, [.keep, .keep, .keep, .keep, .keep, .keep])], []⟩⟩, ⟨.r, ⟨[(2, ii)], [], []⟩⟩])) .nil .nil) .nil)) .nil))))
  Tryz.func33 rfl (by kernel_rfl) rfl rfl rfl rfl types_ok ⟨⟨ok_network_limits, ok_network_names, ok_slices_ContainsFunc_string_string, ok_network_Check_1, ok_network_twice, ok_network_known, ok_network_proper, trivial⟩, trivial⟩ mx (fun x => by kernel_rfl)

noncomputable def product_numbers (p : List UInt8 × Int × Int × Int × Int) : Option (Int × Int × Int × Int) :=
 some (p.2.1, (p.2.2.1, (p.2.2.2.1, p.2.2.2.2)))

noncomputable def fn_product_numbers : Fun :=
 ⟨108, 1, 1,
 ⟨[(0, .one (.data (.pair (.str) (.pair (.int .i64) (.pair (.int .i64) tT1)))))], [], []⟩,
 ⟨[(0, .one (.data (.pair (.int .i64) (.pair (.int .i64) tT1))))], [], []⟩,
 fun x => product_numbers x⟩
noncomputable def cx_product_numbers : Cx := ⟨types, [], [], 12, []⟩
theorem ok_product_numbers : FunOk Tryz.prog fn_product_numbers :=
 FunOk.intro (C := cx_product_numbers) (p := .nil)
  Tryz.func108 rfl (by kernel_rfl) rfl rfl rfl rfl types_ok ⟨trivial, trivial⟩ mx (fun x => by kernel_rfl)

noncomputable def product_Valid_L0 (r : Int × Int × Int × Int) (v : Int) : Option (Int ⊕ (Unit ⊕ Bool)) :=
 bif decide (v < 4) then (
 gd (inB v 4) <|
 Option.bind (α := Bool) (
 gd (inB v 4) <|
 bif decide ([r.1, r.2.1, r.2.2.1, r.2.2.2].getD v.toNat 0 < ([((400 : Int), (1200 : Int)), ((0 : Int), (2000 : Int)), ((0 : Int), (5000 : Int)), ((1 : Int), (2000 : Int))].getD v.toNat (0, 0)).1) then (
 some true)
 else (
 gd (inB v 4) <|
 some (decide (([((400 : Int), (1200 : Int)), ((0 : Int), (2000 : Int)), ((0 : Int), (5000 : Int)), ((1 : Int), (2000 : Int))].getD v.toNat (0, 0)).2 < [r.1, r.2.1, r.2.2.1, r.2.2.2].getD v.toNat 0)))) fun s =>
 bif s then (
 some (.inr (.inr false)))
 else (
 some (.inl (wi64 (v + 1)))))
 else (
 some (.inr (.inl ())))

noncomputable def product_Valid (p : List UInt8 × Int × Int × Int × Int) : Option (Bool) :=
 (product_numbers (p.1, (p.2.1, (p.2.2.1, (p.2.2.2.1, p.2.2.2.2))))).bind fun r =>
 (iter (fun x => product_Valid_L0 r x) 0).bind fun s2 =>
 s2.elim (fun s3 =>
 (lines_Name p.1).bind fun r2 =>
 some r2)
 (fun s4 =>
 some s4)

noncomputable def fn_product_Valid : Fun :=
 ⟨70, 1, 1,
 ⟨[(0, .one (.data (.pair (.str) (.pair (.int .i64) (.pair (.int .i64) tT1)))))], [], []⟩,
 ⟨[(0, bb)], [], []⟩,
 fun x => product_Valid x⟩
noncomputable def cx_product_Valid : Cx := ⟨types, [], [fn_product_numbers, fn_lines_Name], 31, []⟩
theorem ok_product_Valid : FunOk Tryz.prog fn_product_Valid :=
 FunOk.intro (C := cx_product_Valid) (p := (nn (nn (mm (nn (mm (.mk [] (some (⟨[(1, .one (.ptr 32 0)), (3, .one (.ptr 64 0)), (8, kk), (9, ii)], [(32, 44, [.keep, .keep, .keep, .keep, .keep]), (64, 136, [.keep, .keep, .keep, .keep])], []⟩, [⟨.x 0, ⟨[(1, .one (.ptr 32 0))], [(32, 44, [.keep, .keep, .keep, .keep, .keep])], []⟩⟩, ⟨.r, ⟨[(2, bb)], [], []⟩⟩])) (nn (nn (mm (mm (nn (mm (.mk [.join [⟨.n, ⟨[(1, .one (.ptr 32 0)), (3, .one (.ptr 64 0)), (8, kk), (9, kk), (26, bb)], [(32, 44, [.keep, .keep, .keep, .keep, .keep]), (64, 136, [.keep, .keep, .keep, .keep])], []⟩⟩]] none .nil .nil) .nil)) .nil) .nil))) .nil) .nil)) .nil))))
  Tryz.func70 rfl (by kernel_rfl) rfl rfl rfl rfl types_ok ⟨⟨ok_product_numbers, ok_lines_Name, trivial⟩, trivial⟩ mx (fun x => by kernel_rfl)

noncomputable def product_Find_1 (p : List UInt8 × Int × Int × Int × Int) (v : List UInt8) : Option (Bool) :=
 some (decide (p.1 = v))

noncomputable def fn_product_Find_1 : Fun :=
 ⟨77, 2, 1,
 ⟨[(0, .one (.data (.pair (.str) (.pair (.int .i64) (.pair (.int .i64) tT1))))), (1, .one (.sel (.str)))], [], []⟩,
 ⟨[(0, bb)], [], []⟩,
 fun x => product_Find_1 x.1 x.2⟩
noncomputable def cx_product_Find_1 : Cx := ⟨types, [], [], 8, []⟩
theorem ok_product_Find_1 : FunOk Tryz.prog fn_product_Find_1 :=
 FunOk.intro (C := cx_product_Find_1) (p := .nil)
  Tryz.func77 rfl (by kernel_rfl) rfl rfl rfl rfl types_ok ⟨trivial, trivial⟩ mx (fun x => by kernel_rfl)

noncomputable def slices_IndexFunc_api_Product_api_Product_L0 (s : List (List UInt8 × Int × Int × Int × Int)) (f : (List UInt8 × Int × Int × Int × Int) × Unit → Option Bool) (v : Int) : Option (Int ⊕ (Unit ⊕ Int)) :=
 bif decide (v < (s.length : Int)) then (
 gd (inB v s.length) <|
 (f (s.getD v.toNat ([], (0, (0, (0, 0)))), ())).bind fun r =>
 bif r then (
 some (.inr (.inr v)))
 else (
 some (.inl (wi64 (v + 1)))))
 else (
 some (.inr (.inl ())))

noncomputable def slices_IndexFunc_api_Product_api_Product (s : List (List UInt8 × Int × Int × Int × Int)) (f : (List UInt8 × Int × Int × Int × Int) × Unit → Option Bool) : Option (Int) :=
 (iter (fun x => slices_IndexFunc_api_Product_api_Product_L0 s f x) 0).bind fun s2 =>
 s2.elim (fun s3 =>
 some (-1))
 (fun s4 =>
 some s4)

noncomputable def fn_slices_IndexFunc_api_Product_api_Product : Fun :=
 ⟨76, 2, 1,
 ⟨[(0, .one (.data (.sl (.pair (.str) (.pair (.int .i64) (.pair (.int .i64) tT1)))))), (1, .one (.fn [.pair (.str) (.pair (.int .i64) (.pair (.int .i64) tT1))] (.bool)))], [], []⟩,
 ⟨[(0, ii)], [], []⟩,
 fun x => slices_IndexFunc_api_Product_api_Product x.1 x.2⟩
noncomputable def cx_slices_IndexFunc_api_Product_api_Product : Cx := ⟨types, [], [], 19, []⟩
theorem ok_slices_IndexFunc_api_Product_api_Product : FunOk Tryz.prog fn_slices_IndexFunc_api_Product_api_Product :=
 FunOk.intro (C := cx_slices_IndexFunc_api_Product_api_Product) (p := (nn (mm (nn (mm (.mk [] (some (⟨[(0, kk), (1, kk), (7, kk), (8, ii)], [], []⟩, [⟨.x 0, ⟨[], [], []⟩⟩, ⟨.r, ⟨[(4, ii)], [], []⟩⟩])) .nil .nil) .nil)) .nil)))
  Tryz.func76 rfl (by kernel_rfl) rfl rfl rfl rfl types_ok ⟨trivial, trivial⟩ mx (fun x => by kernel_rfl)

noncomputable def product_Find (l : List (List UInt8 × Int × Int × Int × Int)) (name : List UInt8) : Option (Int) :=
 (slices_IndexFunc_api_Product_api_Product l (fun h => (product_Find_1 h.1 name).bind fun y => some y)).bind fun r =>
 some r

noncomputable def fn_product_Find : Fun :=
 ⟨37, 2, 1,
 ⟨[(0, .one (.data (.sl (.pair (.str) (.pair (.int .i64) (.pair (.int .i64) tT1)))))), (1, ss)], [], []⟩,
 ⟨[(0, ii)], [], []⟩,
 fun x => product_Find x.1 x.2⟩
noncomputable def cx_product_Find : Cx := ⟨types, [], [fn_slices_IndexFunc_api_Product_api_Product, fn_product_Find_1], 8, []⟩
theorem ok_product_Find : FunOk Tryz.prog fn_product_Find :=
 FunOk.intro (C := cx_product_Find) (p := (nn (mm (.mk [.fv [(3, .str)]] none .nil .nil) .nil)))
  Tryz.func37 rfl (by kernel_rfl) rfl rfl rfl rfl types_ok ⟨⟨ok_slices_IndexFunc_api_Product_api_Product, ok_product_Find_1, trivial⟩, trivial⟩ mx (fun x => by kernel_rfl)

noncomputable def product_Check_L0 (l : List (List UInt8 × Int × Int × Int × Int)) (v : Int) : Option (Int ⊕ (Unit ⊕ Int)) :=
 bif decide (v < (l.length : Int)) then (
 gd (inB v l.length) <|
 (product_Valid ((l.getD v.toNat ([], (0, (0, (0, 0))))).1, (((l.getD v.toNat ([], (0, (0, (0, 0))))).2).1, ((((l.getD v.toNat ([], (0, (0, (0, 0))))).2).2).1, (((((l.getD v.toNat ([], (0, (0, (0, 0))))).2).2).2).1, ((((l.getD v.toNat ([], (0, (0, (0, 0))))).2).2).2).2))))).bind fun r =>
 bif !r then (
 some (.inr (.inr 9)))
 else (
 some (.inl (wi64 (v + 1)))))
 else (
 some (.inr (.inl ())))

noncomputable def product_Check_L1 (l : List (List UInt8 × Int × Int × Int × Int)) (v2 : Int) : Option (Int ⊕ (Unit ⊕ Int)) :=
 bif decide (v2 < (l.length : Int)) then (
 gd (inB v2 l.length) <|
 (product_Find l ((l.getD v2.toNat ([], (0, (0, (0, 0))))).1)).bind fun r2 =>
 bif decide (r2 < v2) then (
 some (.inr (.inr 7)))
 else (
 some (.inl (wi64 (v2 + 1)))))
 else (
 some (.inr (.inl ())))

noncomputable def product_Check (l : List (List UInt8 × Int × Int × Int × Int)) : Option (Int) :=
 bif decide (16 < (l.length : Int)) then (
 some 4)
 else (
 (iter (fun x => product_Check_L0 l x) 0).bind fun s =>
 s.elim (fun s2 =>
 (iter (fun x2 => product_Check_L1 l x2) 0).bind fun s4 =>
 s4.elim (fun s5 =>
 some 0)
 (fun s6 =>
 some s6))
 (fun s3 =>
 some s3))

noncomputable def fn_product_Check : Fun :=
 ⟨34, 1, 1,
 ⟨[(0, .one (.data (.sl (.pair (.str) (.pair (.int .i64) (.pair (.int .i64) tT1))))))], [], []⟩,
 ⟨[(0, ii)], [], []⟩,
 fun x => product_Check x⟩
noncomputable def cx_product_Check : Cx := ⟨types, [], [fn_product_Valid, fn_product_Find], 34, []⟩
theorem ok_product_Check : FunOk Tryz.prog fn_product_Check :=
 FunOk.intro (C := cx_product_Check) (p := (nn (nn (mm (nn (mm (.mk [] (some (⟨[(0, kk), (10, kk), (11, kk), (12, ii)], [], []⟩, [⟨.x 0, ⟨[(0, kk)], [], []⟩⟩, ⟨.r, ⟨[(2, ii)], [], []⟩⟩])) .nil .nil) .nil)) (mm (nn (mm (.mk [] (some (⟨[(0, kk), (20, kk), (21, kk), (22, ii)], [], []⟩, [⟨.x 2, ⟨[], [], []⟩⟩, ⟨.r, ⟨[(2, ii)], [], []⟩⟩])) .nil .nil) .nil)) .nil)))))
  Tryz.func34 rfl (by kernel_rfl) rfl rfl rfl rfl types_ok ⟨⟨ok_product_Valid, ok_product_Find, trivial⟩, trivial⟩ mx (fun x => by kernel_rfl)

noncomputable def slices_IndexFunc_api_Nomination_api_Nomination_L0 (s : List yT0) (f : yT0 × Unit → Option Bool) (v : Int) : Option (Int ⊕ (Unit ⊕ Int)) :=
 bif decide (v < (s.length : Int)) then (
 gd (inB v s.length) <|
 (f (s.getD v.toNat ([], ([], ([], ([], (0, 0))))), ())).bind fun r =>
 bif r then (
 some (.inr (.inr v)))
 else (
 some (.inl (wi64 (v + 1)))))
 else (
 some (.inr (.inl ())))

noncomputable def slices_IndexFunc_api_Nomination_api_Nomination (s : List yT0) (f : yT0 × Unit → Option Bool) : Option (Int) :=
 (iter (fun x => slices_IndexFunc_api_Nomination_api_Nomination_L0 s f x) 0).bind fun s2 =>
 s2.elim (fun s3 =>
 some (-1))
 (fun s4 =>
 some s4)

noncomputable def fn_slices_IndexFunc_api_Nomination_api_Nomination : Fun :=
 ⟨109, 2, 1,
 ⟨[(0, .one (.data (.sl tT0))), (1, .one (.fn [.pair (.str) (.pair (.str) (.pair (.str) (.pair (.str) tT1)))] (.bool)))], [], []⟩,
 ⟨[(0, ii)], [], []⟩,
 fun x => slices_IndexFunc_api_Nomination_api_Nomination x.1 x.2⟩
noncomputable def cx_slices_IndexFunc_api_Nomination_api_Nomination : Cx := ⟨types, [], [], 19, []⟩
theorem ok_slices_IndexFunc_api_Nomination_api_Nomination : FunOk Tryz.prog fn_slices_IndexFunc_api_Nomination_api_Nomination :=
 FunOk.intro (C := cx_slices_IndexFunc_api_Nomination_api_Nomination) (p := (nn (mm (nn (mm (.mk [] (some (⟨[(0, kk), (1, kk), (7, kk), (8, ii)], [], []⟩, [⟨.x 0, ⟨[], [], []⟩⟩, ⟨.r, ⟨[(4, ii)], [], []⟩⟩])) .nil .nil) .nil)) .nil)))
  Tryz.func109 rfl (by kernel_rfl) rfl rfl rfl rfl types_ok ⟨trivial, trivial⟩ mx (fun x => by kernel_rfl)

noncomputable def slices_ContainsFunc_api_Nomination_api_Nomination (s : List yT0) (f : yT0 × Unit → Option Bool) : Option (Bool) :=
 (slices_IndexFunc_api_Nomination_api_Nomination s f).bind fun r =>
 some (decide (0 ≤ r))

noncomputable def fn_slices_ContainsFunc_api_Nomination_api_Nomination : Fun :=
 ⟨71, 2, 1,
 ⟨[(0, .one (.data (.sl tT0))), (1, .one (.fn [.pair (.str) (.pair (.str) (.pair (.str) (.pair (.str) tT1)))] (.bool)))], [], []⟩,
 ⟨[(0, bb)], [], []⟩,
 fun x => slices_ContainsFunc_api_Nomination_api_Nomination x.1 x.2⟩
noncomputable def cx_slices_ContainsFunc_api_Nomination_api_Nomination : Cx := ⟨types, [], [fn_slices_IndexFunc_api_Nomination_api_Nomination], 9, []⟩
theorem ok_slices_ContainsFunc_api_Nomination_api_Nomination : FunOk Tryz.prog fn_slices_ContainsFunc_api_Nomination_api_Nomination :=
 FunOk.intro (C := cx_slices_ContainsFunc_api_Nomination_api_Nomination) (p := .nil)
  Tryz.func71 rfl (by kernel_rfl) rfl rfl rfl rfl types_ok ⟨⟨ok_slices_IndexFunc_api_Nomination_api_Nomination, trivial⟩, trivial⟩ mx (fun x => by kernel_rfl)

noncomputable def nomination_valid_L0 (n : List UInt8 × List UInt8 × List UInt8 × List UInt8 × Int × Int) (v : Int) : Option (Int ⊕ (Unit ⊕ Bool)) :=
 bif decide (v < ([n.1, n.2.1, n.2.2.1, n.2.2.2.1].length : Int)) then (
 gd (inB v [n.1, n.2.1, n.2.2.1, n.2.2.2.1].length) <|
 (lines_Name ([n.1, n.2.1, n.2.2.1, n.2.2.2.1].getD v.toNat [])).bind fun r =>
 bif !r then (
 some (.inr (.inr false)))
 else (
 some (.inl (wi64 (v + 1)))))
 else (
 some (.inr (.inl ())))

noncomputable def nomination_valid (n : List UInt8 × List UInt8 × List UInt8 × List UInt8 × Int × Int) : Option (Bool) :=
 (iter (fun x => nomination_valid_L0 n x) 0).bind fun s =>
 s.elim (fun s2 =>
 bif !decide (n.2.2.1 = n.2.2.2.1) then (
 bif decide (0 ≤ n.2.2.2.2.1) then (
 bif decide (n.2.2.2.2.1 ≤ 1000000) then (
 bif decide (1 ≤ n.2.2.2.2.2) then (
 some (decide (n.2.2.2.2.2 ≤ 1099511627776)))
 else (
 some false))
 else (
 some false))
 else (
 some false))
 else (
 some false))
 (fun s3 =>
 some s3)

noncomputable def fn_nomination_valid : Fun :=
 ⟨73, 1, 1,
 ⟨[(0, .one (.data tT0))], [], []⟩,
 ⟨[(0, bb)], [], []⟩,
 fun x => nomination_valid x⟩
noncomputable def cx_nomination_valid : Cx := ⟨types, [], [fn_lines_Name], 48, []⟩
theorem ok_nomination_valid : FunOk Tryz.prog fn_nomination_valid :=
 FunOk.intro (C := cx_nomination_valid) (p := (nn (mm (nn (mm (.mk [] (some (⟨[(1, .one (.ptr 32 0)), (13, kk), (14, kk), (15, ii)], [(32, 51, [.keep, .keep, .keep, .keep, .keep, .keep])], []⟩, [⟨.x 0, ⟨[(1, .one (.ptr 32 0))], [(32, 51, [.keep, .keep, .keep, .keep, .keep, .keep])], []⟩⟩, ⟨.r, ⟨[(2, bb)], [], []⟩⟩])) .nil .nil) .nil)) .nil)))
  Tryz.func73 rfl (by kernel_rfl) rfl rfl rfl rfl types_ok ⟨⟨ok_lines_Name, trivial⟩, trivial⟩ mx (fun x => by kernel_rfl)

noncomputable def nomination_Check_1 (n : List UInt8 × List UInt8 × List UInt8 × List UInt8 × Int × Int) : Option (Bool) :=
 (nomination_valid (n.1, (n.2.1, (n.2.2.1, (n.2.2.2.1, (n.2.2.2.2.1, n.2.2.2.2.2)))))).bind fun r =>
 some (!r)

noncomputable def fn_nomination_Check_1 : Fun :=
 ⟨72, 1, 1,
 ⟨[(0, .one (.data tT0))], [], []⟩,
 ⟨[(0, bb)], [], []⟩,
 fun x => nomination_Check_1 x⟩
noncomputable def cx_nomination_Check_1 : Cx := ⟨types, [], [fn_nomination_valid], 6, []⟩
theorem ok_nomination_Check_1 : FunOk Tryz.prog fn_nomination_Check_1 :=
 FunOk.intro (C := cx_nomination_Check_1) (p := .nil)
  Tryz.func72 rfl (by kernel_rfl) rfl rfl rfl rfl types_ok ⟨⟨ok_nomination_valid, trivial⟩, trivial⟩ mx (fun x => by kernel_rfl)

noncomputable def nomination_Check (l : List yT0) : Option (Int) :=
 bif decide (400 < (l.length : Int)) then (
 some 4)
 else (
 (slices_ContainsFunc_api_Nomination_api_Nomination l (fun h => (nomination_Check_1 h.1).bind fun y => some y)).bind fun r =>
 bif r then (
 some 9)
 else (
 some 0))

noncomputable def fn_nomination_Check : Fun :=
 ⟨35, 1, 1,
 ⟨[(0, .one (.data (.sl tT0)))], [], []⟩,
 ⟨[(0, ii)], [], []⟩,
 fun x => nomination_Check x⟩
noncomputable def cx_nomination_Check : Cx := ⟨types, [], [fn_slices_ContainsFunc_api_Nomination_api_Nomination, fn_nomination_Check_1], 8, []⟩
theorem ok_nomination_Check : FunOk Tryz.prog fn_nomination_Check :=
 FunOk.intro (C := cx_nomination_Check) (p := .nil)
  Tryz.func35 rfl (by kernel_rfl) rfl rfl rfl rfl types_ok ⟨⟨ok_slices_ContainsFunc_api_Nomination_api_Nomination, ok_nomination_Check_1, trivial⟩, trivial⟩ mx (fun x => by kernel_rfl)

noncomputable def math_bits_Len32 (x : Int) : Option (Int) :=
 Option.bind (α := Int × Int) (
 bif decide (65536 ≤ x) then (
 some (Int.fdiv x (2 ^ shAmt .u32 16), 16))
 else (
 some (x, 0))) fun s =>
 Option.bind (α := Int × Int) (
 bif decide (256 ≤ s.1) then (
 some (Int.fdiv s.1 (2 ^ shAmt .u32 8), wi64 (s.2 + 8)))
 else (
 some (s.1, s.2))) fun s2 =>
 gd (inB (wu8 s2.1) str_0.length) <|
 some (wi64 (s2.2 + (wi64 (Int.ofNat (str_0.getD (wu8 s2.1).toNat 0).toNat))))

noncomputable def fn_math_bits_Len32 : Fun :=
 ⟨119, 1, 1,
 ⟨[(0, .one (.data (.int .u32)))], [], []⟩,
 ⟨[(0, ii)], [], []⟩,
 fun x => math_bits_Len32 x⟩
noncomputable def cx_math_bits_Len32 : Cx := ⟨types, [], [], 19, []⟩
set_option maxRecDepth 100000 in
theorem ok_math_bits_Len32 : FunOk Tryz.prog fn_math_bits_Len32 :=
 FunOk.intro (C := cx_math_bits_Len32) (p := (nn (mm (nn (.mk [.join [⟨.n, ⟨[(0, .one (.data (.int .u32))), (2, ii)], [], []⟩⟩]] none .nil .nil)) (mm (nn (.mk [.join [⟨.n, ⟨[(0, .one (.data (.int .u32))), (2, ii)], [], []⟩⟩]] none .nil .nil)) .nil))))
  Tryz.func119 rfl (by kernel_rfl) rfl rfl rfl rfl types_ok ⟨trivial, trivial⟩ mx (fun x => by kernel_rfl)

noncomputable def math_bits_Len64 (x : Int) : Option (Int) :=
 Option.bind (α := Int × Int) (
 bif decide (4294967296 ≤ x) then (
 some (Int.fdiv x (2 ^ shAmt .u64 32), 32))
 else (
 some (x, 0))) fun s =>
 Option.bind (α := Int × Int) (
 bif decide (65536 ≤ s.1) then (
 some (Int.fdiv s.1 (2 ^ shAmt .u64 16), wi64 (s.2 + 16)))
 else (
 some (s.1, s.2))) fun s2 =>
 Option.bind (α := Int × Int) (
 bif decide (256 ≤ s2.1) then (
 some (Int.fdiv s2.1 (2 ^ shAmt .u64 8), wi64 (s2.2 + 8)))
 else (
 some (s2.1, s2.2))) fun s3 =>
 gd (inB (wu8 s3.1) str_0.length) <|
 some (wi64 (s3.2 + (wi64 (Int.ofNat (str_0.getD (wu8 s3.1).toNat 0).toNat))))

noncomputable def fn_math_bits_Len64 : Fun :=
 ⟨120, 1, 1,
 ⟨[(0, .one (.data (.int .u64)))], [], []⟩,
 ⟨[(0, ii)], [], []⟩,
 fun x => math_bits_Len64 x⟩
noncomputable def cx_math_bits_Len64 : Cx := ⟨types, [], [], 25, []⟩
set_option maxRecDepth 100000 in
theorem ok_math_bits_Len64 : FunOk Tryz.prog fn_math_bits_Len64 :=
 FunOk.intro (C := cx_math_bits_Len64) (p := (nn (mm (nn (.mk [.join [⟨.n, ⟨[(0, .one (.data (.int .u64))), (2, ii)], [], []⟩⟩]] none .nil .nil)) (mm (nn (.mk [.join [⟨.n, ⟨[(0, .one (.data (.int .u64))), (2, ii)], [], []⟩⟩]] none .nil .nil)) (mm (nn (.mk [.join [⟨.n, ⟨[(0, .one (.data (.int .u64))), (2, ii)], [], []⟩⟩]] none .nil .nil)) .nil)))))
  Tryz.func120 rfl (by kernel_rfl) rfl rfl rfl rfl types_ok ⟨trivial, trivial⟩ mx (fun x => by kernel_rfl)

noncomputable def math_bits_Len (x : Int) : Option (Int) :=
 (math_bits_Len64 x).bind fun r =>
 some r

noncomputable def fn_math_bits_Len : Fun :=
 ⟨82, 1, 1,
 ⟨[(0, .one (.data (.int .u64)))], [], []⟩,
 ⟨[(0, ii)], [], []⟩,
 fun x => math_bits_Len x⟩
noncomputable def cx_math_bits_Len : Cx := ⟨types, [], [fn_math_bits_Len64], 8, []⟩
theorem ok_math_bits_Len : FunOk Tryz.prog fn_math_bits_Len :=
 FunOk.intro (C := cx_math_bits_Len) (p := .nil)
  Tryz.func82 rfl (by kernel_rfl) rfl rfl rfl rfl types_ok ⟨⟨ok_math_bits_Len64, trivial⟩, trivial⟩ mx (fun x => by kernel_rfl)

noncomputable def gs_insertionSortCmpFunc_L1 {E : Type} (dE : E) (a : Int) (cmp : E × E × Unit → Option Int) (j : Int) (data3 : List E) : Option ((Int × List E) ⊕ (List E)) :=
 Option.bind (α := Bool × List E) (
 bif decide (a < j) then (
 gd (inB j data3.length) <|
 gd (inB (wi64 (j - 1)) data3.length) <|
 (cmp (data3.getD j.toNat dE, data3.getD ((wi64 (j - 1)).toNat) dE, ())).bind fun r =>
 some (decide (r < 0), data3))
 else (
 some (false, data3))) fun s =>
 bif s.1 then (
 gd (inB (wi64 (j - 1)) s.2.length) <|
 gd (inB j s.2.length) <|
 gd (inB j s.2.length) <|
 gd (inB (wi64 (j - 1)) (s.2.set j.toNat (s.2.getD ((wi64 (j - 1)).toNat) dE)).length) <|
 some (.inl (wi64 (j - 1), (s.2.set j.toNat (s.2.getD ((wi64 (j - 1)).toNat) dE)).set ((wi64 (j - 1)).toNat) (s.2.getD j.toNat dE))))
 else (
 some (.inr s.2))

noncomputable def gs_insertionSortCmpFunc_L0 {E : Type} (dE : E) (a : Int) (b : Int) (cmp : E × E × Unit → Option Int) (i : Int) (data2 : List E) : Option ((Int × List E) ⊕ (List E)) :=
 bif decide (i < b) then (
 (iter (fun x => gs_insertionSortCmpFunc_L1 dE a cmp x.1 x.2) (i, data2)).bind fun s2 =>
 some (.inl (wi64 (i + 1), s2)))
 else (
 some (.inr data2))

noncomputable def gs_insertionSortCmpFunc {E : Type} (dE : E) (a : Int) (b : Int) (cmp : E × E × Unit → Option Int) (data : List E) : Option (List E) :=
 (iter (fun x2 => gs_insertionSortCmpFunc_L0 dE a b cmp x2.1 x2.2) (wi64 (a + 1), data)).bind fun s3 =>
 some s3

noncomputable def fn_slices_insertionSortCmpFunc_api_Nomination : Fun :=
 ⟨123, 4, 0,
 ⟨[(0, .one (.own 0)), (1, ii), (2, ii), (3, .one (.fn [.pair (.str) (.pair (.str) (.pair (.str) (.pair (.str) tT1))), .pair (.str) (.pair (.str) (.pair (.str) (.pair (.str) tT1)))] (.int .i64)))], [], [(0, .arr 51 tT0)]⟩,
 ⟨[], [], [(0, .arr 51 tT0)]⟩,
 fun x => (gs_insertionSortCmpFunc (E := yT0) ([], ([], ([], ([], (0, 0)))))) x.1 x.2.1 x.2.2.1 x.2.2.2⟩
noncomputable def cx_slices_insertionSortCmpFunc_api_Nomination : Cx := ⟨types, [], [], 53, []⟩
theorem ok_slices_insertionSortCmpFunc_api_Nomination : FunOk Tryz.prog fn_slices_insertionSortCmpFunc_api_Nomination :=
 FunOk.intro (C := cx_slices_insertionSortCmpFunc_api_Nomination) (p := (nn (mm (.mk [] (some (⟨[(0, .one (.own 0)), (1, kk), (2, kk), (3, kk), (8, ii)], [], [(0, .arr 51 tT0)]⟩, [⟨.x 0, ⟨[], [], [(0, .arr 51 tT0)]⟩⟩])) (nn (mm (mm (nn (mm (.mk [] (some (⟨[(0, .one (.own 0)), (1, kk), (2, kk), (3, kk), (8, kk), (9, ii)], [], [(0, .arr 51 tT0)]⟩, [⟨.x 2, ⟨[(0, .one (.own 0)), (1, kk), (2, kk), (3, kk), (8, kk)], [], [(0, .arr 51 tT0)]⟩⟩])) (mm (mm (.mk [.join [⟨.n, ⟨[(0, .one (.own 0)), (1, kk), (2, kk), (3, kk), (8, kk), (9, kk), (34, bb)], [], [(0, .arr 51 tT0)]⟩⟩]] none .nil .nil) .nil) .nil) .nil) .nil)) .nil) .nil)) .nil) .nil)))
  Tryz.func123 rfl (by kernel_rfl) rfl rfl rfl rfl types_ok ⟨trivial, trivial⟩ mx (fun x => by kernel_rfl)

noncomputable def gs_siftDownCmpFunc_L0 {E : Type} (dE : E) (hi : Int) (first : Int) (cmp : E × E × Unit → Option Int) (root : Int) (data2 : List E) : Option ((Int × List E) ⊕ ((List E) ⊕ (List E))) :=
 bif decide (hi ≤ wi64 ((wi64 (2 * root)) + 1)) then (
 some (.inr (.inl data2)))
 else (
 Option.bind (α := Bool × List E) (
 bif decide (wi64 ((wi64 ((wi64 (2 * root)) + 1)) + 1) < hi) then (
 gd (inB (wi64 (first + (wi64 ((wi64 (2 * root)) + 1)))) data2.length) <|
 gd (inB (wi64 ((wi64 (first + (wi64 ((wi64 (2 * root)) + 1)))) + 1)) data2.length) <|
 (cmp (data2.getD ((wi64 (first + (wi64 ((wi64 (2 * root)) + 1)))).toNat) dE, data2.getD ((wi64 ((wi64 (first + (wi64 ((wi64 (2 * root)) + 1)))) + 1)).toNat) dE, ())).bind fun r =>
 some (decide (r < 0), data2))
 else (
 some (false, data2))) fun s =>
 Option.bind (α := Int × List E) (
 bif s.1 then (
 some (wi64 ((wi64 ((wi64 (2 * root)) + 1)) + 1), s.2))
 else (
 some (wi64 ((wi64 (2 * root)) + 1), s.2))) fun s2 =>
 gd (inB (wi64 (first + root)) s2.2.length) <|
 gd (inB (wi64 (first + s2.1)) s2.2.length) <|
 (cmp (s2.2.getD ((wi64 (first + root)).toNat) dE, s2.2.getD ((wi64 (first + s2.1)).toNat) dE, ())).bind fun r2 =>
 bif !(decide (r2 < 0)) then (
 some (.inr (.inr s2.2)))
 else (
 gd (inB (wi64 (first + s2.1)) s2.2.length) <|
 gd (inB (wi64 (first + root)) s2.2.length) <|
 gd (inB (wi64 (first + root)) s2.2.length) <|
 gd (inB (wi64 (first + s2.1)) (s2.2.set ((wi64 (first + root)).toNat) (s2.2.getD ((wi64 (first + s2.1)).toNat) dE)).length) <|
 some (.inl (s2.1, (s2.2.set ((wi64 (first + root)).toNat) (s2.2.getD ((wi64 (first + s2.1)).toNat) dE)).set ((wi64 (first + s2.1)).toNat) (s2.2.getD ((wi64 (first + root)).toNat) dE)))))

noncomputable def gs_siftDownCmpFunc {E : Type} (dE : E) (lo : Int) (hi : Int) (first : Int) (cmp : E × E × Unit → Option Int) (data : List E) : Option (List E) :=
 (iter (fun x => gs_siftDownCmpFunc_L0 dE hi first cmp x.1 x.2) (lo, data)).bind fun s3 =>
 s3.elim (fun s4 =>
 some s4)
 (fun s5 =>
 some s5)

noncomputable def fn_slices_siftDownCmpFunc_api_Nomination : Fun :=
 ⟨136, 5, 0,
 ⟨[(0, .one (.own 0)), (1, ii), (2, ii), (3, ii), (4, .one (.fn [.pair (.str) (.pair (.str) (.pair (.str) (.pair (.str) tT1))), .pair (.str) (.pair (.str) (.pair (.str) (.pair (.str) tT1)))] (.int .i64)))], [], [(0, .arr 51 tT0)]⟩,
 ⟨[], [], [(0, .arr 51 tT0)]⟩,
 fun x => (gs_siftDownCmpFunc (E := yT0) ([], ([], ([], ([], (0, 0)))))) x.1 x.2.1 x.2.2.1 x.2.2.2.1 x.2.2.2.2⟩
noncomputable def cx_slices_siftDownCmpFunc_api_Nomination : Cx := ⟨types, [], [], 82, []⟩
theorem ok_slices_siftDownCmpFunc_api_Nomination : FunOk Tryz.prog fn_slices_siftDownCmpFunc_api_Nomination :=
 FunOk.intro (C := cx_slices_siftDownCmpFunc_api_Nomination) (p := (nn (mm (.mk [] (some (⟨[(0, .one (.own 0)), (2, kk), (3, kk), (4, kk), (10, ii)], [], [(0, .arr 51 tT0)]⟩, [⟨.x 0, ⟨[], [], [(0, .arr 51 tT0)]⟩⟩, ⟨.r, ⟨[], [], [(0, .arr 51 tT0)]⟩⟩])) (mm (nn (nn (mm (mm (.mk [.join [⟨.n, ⟨[(0, .one (.own 0)), (2, kk), (3, kk), (4, kk), (10, kk), (11, kk), (40, bb)], [], [(0, .arr 51 tT0)]⟩⟩]] none .nil .nil) (.mk [.join [⟨.n, ⟨[(0, .one (.own 0)), (2, kk), (3, kk), (4, kk), (10, kk), (11, ii)], [], [(0, .arr 51 tT0)]⟩⟩]] none .nil .nil)) .nil))) .nil) .nil) .nil)))
  Tryz.func136 rfl (by kernel_rfl) rfl rfl rfl rfl types_ok ⟨trivial, trivial⟩ mx (fun x => by kernel_rfl)

noncomputable def gs_heapSortCmpFunc_L0 {E : Type} (dE : E) (a : Int) (b : Int) (cmp : E × E × Unit → Option Int) (i : Int) (data2 : List E) : Option ((Int × List E) ⊕ (List E)) :=
 bif decide (0 ≤ i) then (
 (gs_siftDownCmpFunc dE i (wi64 (b - a)) a cmp data2).bind fun r =>
 some (.inl (wi64 (i - 1), r)))
 else (
 some (.inr data2))

noncomputable def gs_heapSortCmpFunc_L1 {E : Type} (dE : E) (a : Int) (cmp : E × E × Unit → Option Int) (i2 : Int) (data3 : List E) : Option ((Int × List E) ⊕ (List E)) :=
 bif decide (0 ≤ i2) then (
 gd (inB (wi64 (a + i2)) data3.length) <|
 gd (inB a data3.length) <|
 gd (inB a data3.length) <|
 gd (inB (wi64 (a + i2)) (data3.set a.toNat (data3.getD ((wi64 (a + i2)).toNat) dE)).length) <|
 (gs_siftDownCmpFunc dE 0 i2 a cmp ((data3.set a.toNat (data3.getD ((wi64 (a + i2)).toNat) dE)).set ((wi64 (a + i2)).toNat) (data3.getD a.toNat dE))).bind fun r2 =>
 some (.inl (wi64 (i2 - 1), r2)))
 else (
 some (.inr data3))

noncomputable def gs_heapSortCmpFunc {E : Type} (dE : E) (a : Int) (b : Int) (cmp : E × E × Unit → Option Int) (data : List E) : Option (List E) :=
 (iter (fun x => gs_heapSortCmpFunc_L0 dE a b cmp x.1 x.2) (wi64 (Int.tdiv (wi64 ((wi64 (b - a)) - 1)) 2), data)).bind fun s =>
 (iter (fun x2 => gs_heapSortCmpFunc_L1 dE a cmp x2.1 x2.2) (wi64 ((wi64 (b - a)) - 1), s)).bind fun s2 =>
 some s2

noncomputable def fn_slices_heapSortCmpFunc_api_Nomination : Fun :=
 ⟨124, 4, 0,
 ⟨[(0, .one (.own 0)), (1, ii), (2, ii), (3, .one (.fn [.pair (.str) (.pair (.str) (.pair (.str) (.pair (.str) tT1))), .pair (.str) (.pair (.str) (.pair (.str) (.pair (.str) tT1)))] (.int .i64)))], [], [(0, .arr 51 tT0)]⟩,
 ⟨[], [], [(0, .arr 51 tT0)]⟩,
 fun x => (gs_heapSortCmpFunc (E := yT0) ([], ([], ([], ([], (0, 0)))))) x.1 x.2.1 x.2.2.1 x.2.2.2⟩
noncomputable def cx_slices_heapSortCmpFunc_api_Nomination : Cx := ⟨types, [], [fn_slices_siftDownCmpFunc_api_Nomination], 60, []⟩
theorem ok_slices_heapSortCmpFunc_api_Nomination : FunOk Tryz.prog fn_slices_heapSortCmpFunc_api_Nomination :=
 FunOk.intro (C := cx_slices_heapSortCmpFunc_api_Nomination) (p := (nn (nn (nn (mm (nn (mm (.mk [] (some (⟨[(0, .one (.own 0)), (3, kk), (8, kk), (9, kk), (10, kk), (11, ii)], [], [(0, .arr 51 tT0)]⟩, [⟨.x 0, ⟨[(0, .one (.own 0)), (3, kk), (8, kk), (9, kk), (10, kk)], [], [(0, .arr 51 tT0)]⟩⟩])) .nil .nil) .nil)) (nn (mm (.mk [] (some (⟨[(0, .one (.own 0)), (3, kk), (8, kk), (9, kk), (12, ii)], [], [(0, .arr 51 tT0)]⟩, [⟨.x 2, ⟨[], [], [(0, .arr 51 tT0)]⟩⟩])) .nil .nil) .nil)))))))
  Tryz.func124 rfl (by kernel_rfl) rfl rfl rfl rfl types_ok ⟨⟨ok_slices_siftDownCmpFunc_api_Nomination, trivial⟩, trivial⟩ mx (fun x => by kernel_rfl)

noncomputable def slices_nextPowerOfTwo (length : Int) : Option (Int) :=
 (math_bits_Len (wu64 length)).bind fun r =>
 gd (!decide (r < 0)) <|
 some (wu64 (1 * 2 ^ shAmt .u64 r))

noncomputable def fn_slices_nextPowerOfTwo : Fun :=
 ⟨132, 1, 1,
 ⟨[(0, ii)], [], []⟩,
 ⟨[(0, .one (.data (.int .u64)))], [], []⟩,
 fun x => slices_nextPowerOfTwo x⟩
noncomputable def cx_slices_nextPowerOfTwo : Cx := ⟨types, [], [fn_math_bits_Len], 7, []⟩
theorem ok_slices_nextPowerOfTwo : FunOk Tryz.prog fn_slices_nextPowerOfTwo :=
 FunOk.intro (C := cx_slices_nextPowerOfTwo) (p := .nil)
  Tryz.func132 rfl (by kernel_rfl) rfl rfl rfl rfl types_ok ⟨⟨ok_math_bits_Len, trivial⟩, trivial⟩ mx (fun x => by kernel_rfl)

noncomputable def slices_xorshift_Next (r : Int) : Option (Int × Int) :=
 some (bitXor .u64 (bitXor .u64 (bitXor .u64 r (wu64 (r * 2 ^ shAmt .u64 13))) (Int.fdiv (bitXor .u64 r (wu64 (r * 2 ^ shAmt .u64 13))) (2 ^ shAmt .u64 7))) (wu64 ((bitXor .u64 (bitXor .u64 r (wu64 (r * 2 ^ shAmt .u64 13))) (Int.fdiv (bitXor .u64 r (wu64 (r * 2 ^ shAmt .u64 13))) (2 ^ shAmt .u64 7))) * 2 ^ shAmt .u64 17)), bitXor .u64 (bitXor .u64 (bitXor .u64 r (wu64 (r * 2 ^ shAmt .u64 13))) (Int.fdiv (bitXor .u64 r (wu64 (r * 2 ^ shAmt .u64 13))) (2 ^ shAmt .u64 7))) (wu64 ((bitXor .u64 (bitXor .u64 r (wu64 (r * 2 ^ shAmt .u64 13))) (Int.fdiv (bitXor .u64 r (wu64 (r * 2 ^ shAmt .u64 13))) (2 ^ shAmt .u64 7))) * 2 ^ shAmt .u64 17)))

noncomputable def fn_slices_xorshift_Next : Fun :=
 ⟨133, 1, 1,
 ⟨[(0, .one (.ptr 0 0))], [(0, 161, [.data (.int .u64)])], []⟩,
 ⟨[(0, .one (.data (.int .u64)))], [(0, 161, [.data (.int .u64)])], []⟩,
 fun x => slices_xorshift_Next x⟩
noncomputable def cx_slices_xorshift_Next : Cx := ⟨types, [], [], 33, []⟩
theorem ok_slices_xorshift_Next : FunOk Tryz.prog fn_slices_xorshift_Next :=
 FunOk.intro (C := cx_slices_xorshift_Next) (p := .nil)
  Tryz.func133 rfl (by kernel_rfl) rfl rfl rfl rfl types_ok ⟨trivial, trivial⟩ mx (fun x => by kernel_rfl)

noncomputable def gs_breakPatternsCmpFunc_L0 {E : Type} (dE : E) (a : Int) (b : Int) (r : Int) (idx : Int) (random : Int) (data2 : List E) : Option ((Int × Int × List E) ⊕ (List E)) :=
 bif decide (idx ≤ wi64 ((wi64 (a + (wi64 ((wi64 (Int.tdiv (wi64 (b - a)) 4)) * 2)))) + 1)) then (
 (slices_xorshift_Next random).bind fun r2 =>
 Option.bind (α := Int × List E) (
 bif decide (wi64 (b - a) ≤ wi64 (bitAnd .u64 r2.1 (wu64 (r - 1)))) then (
 some (wi64 ((wi64 (bitAnd .u64 r2.1 (wu64 (r - 1)))) - (wi64 (b - a))), data2))
 else (
 some (wi64 (bitAnd .u64 r2.1 (wu64 (r - 1))), data2))) fun s =>
 gd (inB (wi64 (a + s.1)) s.2.length) <|
 gd (inB idx s.2.length) <|
 gd (inB idx s.2.length) <|
 gd (inB (wi64 (a + s.1)) (s.2.set idx.toNat (s.2.getD ((wi64 (a + s.1)).toNat) dE)).length) <|
 some (.inl (wi64 (idx + 1), r2.2, (s.2.set idx.toNat (s.2.getD ((wi64 (a + s.1)).toNat) dE)).set ((wi64 (a + s.1)).toNat) (s.2.getD idx.toNat dE))))
 else (
 some (.inr data2))

noncomputable def gs_breakPatternsCmpFunc {E : Type} (dE : E) (a : Int) (b : Int) (cmp : E × E × Unit → Option Int) (data : List E) : Option (List E) :=
 bif decide (8 ≤ wi64 (b - a)) then (
 (slices_nextPowerOfTwo (wi64 (b - a))).bind fun r =>
 (iter (fun x => gs_breakPatternsCmpFunc_L0 dE a b r x.1 x.2.1 x.2.2) (wi64 ((wi64 (a + (wi64 ((wi64 (Int.tdiv (wi64 (b - a)) 4)) * 2)))) - 1), wu64 (wi64 (b - a)), data)).bind fun s2 =>
 some s2)
 else (
 some data)

noncomputable def fn_slices_breakPatternsCmpFunc_api_Nomination : Fun :=
 ⟨125, 4, 0,
 ⟨[(0, .one (.own 0)), (1, ii), (2, ii), (3, .one (.fn [.pair (.str) (.pair (.str) (.pair (.str) (.pair (.str) tT1))), .pair (.str) (.pair (.str) (.pair (.str) (.pair (.str) tT1)))] (.int .i64)))], [], [(0, .arr 51 tT0)]⟩,
 ⟨[], [], [(0, .arr 51 tT0)]⟩,
 fun x => (gs_breakPatternsCmpFunc (E := yT0) ([], ([], ([], ([], (0, 0)))))) x.1 x.2.1 x.2.2.1 x.2.2.2⟩
noncomputable def cx_slices_breakPatternsCmpFunc_api_Nomination : Cx := ⟨types, [], [fn_slices_nextPowerOfTwo, fn_slices_xorshift_Next], 67, []⟩
theorem ok_slices_breakPatternsCmpFunc_api_Nomination : FunOk Tryz.prog fn_slices_breakPatternsCmpFunc_api_Nomination :=
 FunOk.intro (C := cx_slices_breakPatternsCmpFunc_api_Nomination) (p := (nn (nn (mm (nn (nn (nn (mm (.mk [] (some (⟨[(0, .one (.own 0)), (1, kk), (8, kk), (9, .one (.ptr 160 0)), (10, kk), (11, ii)], [(160, 161, [.data (.int .u64)])], [(0, .arr 51 tT0)]⟩, [⟨.x 0, ⟨[], [], [(0, .arr 51 tT0)]⟩⟩])) (nn (mm (mm (nn (mm (nn (.mk [.join [⟨.n, ⟨[(0, .one (.own 0)), (1, kk), (8, kk), (9, .one (.ptr 160 0)), (10, kk), (11, kk), (12, ii)], [(160, 161, [.keep])], [(0, .arr 51 tT0)]⟩⟩]] none .nil .nil)) .nil)) .nil) .nil)) .nil) .nil)))) .nil))))
  Tryz.func125 rfl (by kernel_rfl) rfl rfl rfl rfl types_ok ⟨⟨ok_slices_nextPowerOfTwo, ok_slices_xorshift_Next, trivial⟩, trivial⟩ mx (fun x => by kernel_rfl)

noncomputable def gs_order2CmpFunc {E : Type} (dE : E) (data : List E) (a : Int) (b : Int) (cmp : E × E × Unit → Option Int) (swaps : Int) : Option (Int × Int × Int) :=
 gd (inB b data.length) <|
 gd (inB a data.length) <|
 (cmp (data.getD b.toNat dE, data.getD a.toNat dE, ())).bind fun r =>
 bif decide (r < 0) then (
 some (b, a, wi64 (swaps + 1)))
 else (
 some (a, b, swaps))

noncomputable def fn_slices_order2CmpFunc_api_Nomination : Fun :=
 ⟨140, 5, 2,
 ⟨[(0, .one (.data (.sl tT0))), (1, ii), (2, ii), (3, .one (.ptr 0 0)), (4, .one (.fn [.pair (.str) (.pair (.str) (.pair (.str) (.pair (.str) tT1))), .pair (.str) (.pair (.str) (.pair (.str) (.pair (.str) tT1)))] (.int .i64)))], [(0, 3, [.data (.int .i64)])], []⟩,
 ⟨[(0, ii), (1, ii)], [(0, 3, [.data (.int .i64)])], []⟩,
 fun x => (gs_order2CmpFunc (E := yT0) ([], ([], ([], ([], (0, 0)))))) x.1 x.2.1 x.2.2.1 x.2.2.2.1 x.2.2.2.2⟩
noncomputable def cx_slices_order2CmpFunc_api_Nomination : Cx := ⟨types, [], [], 32, []⟩
theorem ok_slices_order2CmpFunc_api_Nomination : FunOk Tryz.prog fn_slices_order2CmpFunc_api_Nomination :=
 FunOk.intro (C := cx_slices_order2CmpFunc_api_Nomination) (p := .nil)
  Tryz.func140 rfl (by kernel_rfl) rfl rfl rfl rfl types_ok ⟨trivial, trivial⟩ mx (fun x => by kernel_rfl)

noncomputable def gs_medianCmpFunc {E : Type} (dE : E) (data : List E) (a : Int) (b : Int) (c : Int) (cmp : E × E × Unit → Option Int) (swaps : Int) : Option (Int × Int) :=
 (gs_order2CmpFunc dE data a b cmp swaps).bind fun r =>
 (gs_order2CmpFunc dE data r.2.1 c cmp r.2.2).bind fun r2 =>
 (gs_order2CmpFunc dE data r.1 r2.1 cmp r2.2.2).bind fun r3 =>
 some (r3.2.1, r3.2.2)

noncomputable def fn_slices_medianCmpFunc_api_Nomination : Fun :=
 ⟨138, 6, 1,
 ⟨[(0, .one (.data (.sl tT0))), (1, ii), (2, ii), (3, ii), (4, .one (.ptr 0 0)), (5, .one (.fn [.pair (.str) (.pair (.str) (.pair (.str) (.pair (.str) tT1))), .pair (.str) (.pair (.str) (.pair (.str) (.pair (.str) tT1)))] (.int .i64)))], [(0, 3, [.data (.int .i64)])], []⟩,
 ⟨[(0, ii)], [(0, 3, [.data (.int .i64)])], []⟩,
 fun x => (gs_medianCmpFunc (E := yT0) ([], ([], ([], ([], (0, 0)))))) x.1 x.2.1 x.2.2.1 x.2.2.2.1 x.2.2.2.2.1 x.2.2.2.2.2⟩
noncomputable def cx_slices_medianCmpFunc_api_Nomination : Cx := ⟨types, [], [fn_slices_order2CmpFunc_api_Nomination], 41, []⟩
theorem ok_slices_medianCmpFunc_api_Nomination : FunOk Tryz.prog fn_slices_medianCmpFunc_api_Nomination :=
 FunOk.intro (C := cx_slices_medianCmpFunc_api_Nomination) (p := .nil)
  Tryz.func138 rfl (by kernel_rfl) rfl rfl rfl rfl types_ok ⟨⟨ok_slices_order2CmpFunc_api_Nomination, trivial⟩, trivial⟩ mx (fun x => by kernel_rfl)

noncomputable def gs_medianAdjacentCmpFunc {E : Type} (dE : E) (data : List E) (a : Int) (cmp : E × E × Unit → Option Int) (swaps : Int) : Option (Int × Int) :=
 (gs_medianCmpFunc dE data (wi64 (a - 1)) a (wi64 (a + 1)) cmp swaps).bind fun r =>
 some (r.1, r.2)

noncomputable def fn_slices_medianAdjacentCmpFunc_api_Nomination : Fun :=
 ⟨137, 4, 1,
 ⟨[(0, .one (.data (.sl tT0))), (1, ii), (2, .one (.ptr 0 0)), (3, .one (.fn [.pair (.str) (.pair (.str) (.pair (.str) (.pair (.str) tT1))), .pair (.str) (.pair (.str) (.pair (.str) (.pair (.str) tT1)))] (.int .i64)))], [(0, 3, [.data (.int .i64)])], []⟩,
 ⟨[(0, ii)], [(0, 3, [.data (.int .i64)])], []⟩,
 fun x => (gs_medianAdjacentCmpFunc (E := yT0) ([], ([], ([], ([], (0, 0)))))) x.1 x.2.1 x.2.2.1 x.2.2.2⟩
noncomputable def cx_slices_medianAdjacentCmpFunc_api_Nomination : Cx := ⟨types, [], [fn_slices_medianCmpFunc_api_Nomination], 18, []⟩
theorem ok_slices_medianAdjacentCmpFunc_api_Nomination : FunOk Tryz.prog fn_slices_medianAdjacentCmpFunc_api_Nomination :=
 FunOk.intro (C := cx_slices_medianAdjacentCmpFunc_api_Nomination) (p := .nil)
  Tryz.func137 rfl (by kernel_rfl) rfl rfl rfl rfl types_ok ⟨⟨ok_slices_medianCmpFunc_api_Nomination, trivial⟩, trivial⟩ mx (fun x => by kernel_rfl)

noncomputable def gs_choosePivotCmpFunc {E : Type} (dE : E) (data : List E) (a : Int) (b : Int) (cmp : E × E × Unit → Option Int) : Option (Int × Int) :=
 Option.bind (α := Int × Int) (
 bif decide (8 ≤ wi64 (b - a)) then (
 Option.bind (α := Int × Int × Int × Int) (
 bif decide (50 ≤ wi64 (b - a)) then (
 (gs_medianAdjacentCmpFunc dE data (wi64 (a + (wi64 ((wi64 (Int.tdiv (wi64 (b - a)) 4)) * 1)))) cmp 0).bind fun r =>
 (gs_medianAdjacentCmpFunc dE data (wi64 (a + (wi64 ((wi64 (Int.tdiv (wi64 (b - a)) 4)) * 2)))) cmp r.2).bind fun r2 =>
 (gs_medianAdjacentCmpFunc dE data (wi64 (a + (wi64 ((wi64 (Int.tdiv (wi64 (b - a)) 4)) * 3)))) cmp r2.2).bind fun r3 =>
 some (r.1, r2.1, r3.1, r3.2))
 else (
 some (wi64 (a + (wi64 ((wi64 (Int.tdiv (wi64 (b - a)) 4)) * 1))), wi64 (a + (wi64 ((wi64 (Int.tdiv (wi64 (b - a)) 4)) * 2))), wi64 (a + (wi64 ((wi64 (Int.tdiv (wi64 (b - a)) 4)) * 3))), 0))) fun s =>
 (gs_medianCmpFunc dE data s.1 s.2.1 s.2.2.1 cmp s.2.2.2).bind fun r4 =>
 some (r4.1, r4.2))
 else (
 some (wi64 (a + (wi64 ((wi64 (Int.tdiv (wi64 (b - a)) 4)) * 2))), 0))) fun s2 =>
 bif decide (s2.2 = 0) then (
 some (s2.1, 1))
 else (
 bif decide (s2.2 = 12) then (
 some (s2.1, 2))
 else (
 some (s2.1, 0)))

noncomputable def fn_slices_choosePivotCmpFunc_api_Nomination : Fun :=
 ⟨126, 4, 2,
 ⟨[(0, .one (.data (.sl tT0))), (1, ii), (2, ii), (3, .one (.fn [.pair (.str) (.pair (.str) (.pair (.str) (.pair (.str) tT1))), .pair (.str) (.pair (.str) (.pair (.str) (.pair (.str) tT1)))] (.int .i64)))], [], []⟩,
 ⟨[(0, ii), (1, ii)], [], []⟩,
 fun x => (gs_choosePivotCmpFunc (E := yT0) ([], ([], ([], ([], (0, 0)))))) x.1 x.2.1 x.2.2.1 x.2.2.2⟩
noncomputable def cx_slices_choosePivotCmpFunc_api_Nomination : Cx := ⟨types, [], [fn_slices_medianAdjacentCmpFunc_api_Nomination, fn_slices_medianCmpFunc_api_Nomination], 63, []⟩
theorem ok_slices_choosePivotCmpFunc_api_Nomination : FunOk Tryz.prog fn_slices_choosePivotCmpFunc_api_Nomination :=
 FunOk.intro (C := cx_slices_choosePivotCmpFunc_api_Nomination) (p := (nn (nn (nn (nn (nn (nn (mm (nn (.mk [.join [⟨.n, ⟨[(11, .one (.ptr 192 0)), (13, ii)], [(192, 3, [.data (.int .i64)])], []⟩⟩]] none (mm (nn (.mk [.join [⟨.n, ⟨[(0, kk), (3, kk), (11, .one (.ptr 192 0)), (12, ii), (13, ii), (14, ii)], [(192, 3, [.data (.int .i64)])], []⟩⟩]] none .nil .nil)) .nil) .nil)) .nil))))))))
  Tryz.func126 rfl (by kernel_rfl) rfl rfl rfl rfl types_ok ⟨⟨ok_slices_medianAdjacentCmpFunc_api_Nomination, ok_slices_medianCmpFunc_api_Nomination, trivial⟩, trivial⟩ mx (fun x => by kernel_rfl)

noncomputable def gs_reverseRangeCmpFunc_L0 {E : Type} (dE : E) (i : Int) (j : Int) (data2 : List E) : Option ((Int × Int × List E) ⊕ (List E)) :=
 bif decide (i < j) then (
 gd (inB j data2.length) <|
 gd (inB i data2.length) <|
 gd (inB i data2.length) <|
 gd (inB j (data2.set i.toNat (data2.getD j.toNat dE)).length) <|
 some (.inl (wi64 (i + 1), wi64 (j - 1), (data2.set i.toNat (data2.getD j.toNat dE)).set j.toNat (data2.getD i.toNat dE))))
 else (
 some (.inr data2))

noncomputable def gs_reverseRangeCmpFunc {E : Type} (dE : E) (a : Int) (b : Int) (cmp : E × E × Unit → Option Int) (data : List E) : Option (List E) :=
 (iter (fun x => gs_reverseRangeCmpFunc_L0 dE x.1 x.2.1 x.2.2) (a, wi64 (b - 1), data)).bind fun s =>
 some s

noncomputable def fn_slices_reverseRangeCmpFunc_api_Nomination : Fun :=
 ⟨127, 4, 0,
 ⟨[(0, .one (.own 0)), (1, ii), (2, ii), (3, .one (.fn [.pair (.str) (.pair (.str) (.pair (.str) (.pair (.str) tT1))), .pair (.str) (.pair (.str) (.pair (.str) (.pair (.str) tT1)))] (.int .i64)))], [], [(0, .arr 51 tT0)]⟩,
 ⟨[], [], [(0, .arr 51 tT0)]⟩,
 fun x => (gs_reverseRangeCmpFunc (E := yT0) ([], ([], ([], ([], (0, 0)))))) x.1 x.2.1 x.2.2.1 x.2.2.2⟩
noncomputable def cx_slices_reverseRangeCmpFunc_api_Nomination : Cx := ⟨types, [], [], 34, []⟩
theorem ok_slices_reverseRangeCmpFunc_api_Nomination : FunOk Tryz.prog fn_slices_reverseRangeCmpFunc_api_Nomination :=
 FunOk.intro (C := cx_slices_reverseRangeCmpFunc_api_Nomination) (p := (nn (nn (mm (.mk [] (some (⟨[(0, .one (.own 0)), (8, ii), (9, ii)], [], [(0, .arr 51 tT0)]⟩, [⟨.x 0, ⟨[], [], [(0, .arr 51 tT0)]⟩⟩])) .nil .nil) .nil))))
  Tryz.func127 rfl (by kernel_rfl) rfl rfl rfl rfl types_ok ⟨trivial, trivial⟩ mx (fun x => by kernel_rfl)

noncomputable def gs_partialInsertionSortCmpFunc_L1 {E : Type} (dE : E) (b : Int) (cmp : E × E × Unit → Option Int) (i2 : Int) (data3 : List E) : Option ((Int × List E) ⊕ (Int × List E)) :=
 Option.bind (α := Bool × List E) (
 bif decide (i2 < b) then (
 gd (inB i2 data3.length) <|
 gd (inB (wi64 (i2 - 1)) data3.length) <|
 (cmp (data3.getD i2.toNat dE, data3.getD ((wi64 (i2 - 1)).toNat) dE, ())).bind fun r =>
 some ((!(decide (r < 0))), data3))
 else (
 some (false, data3))) fun s =>
 bif s.1 then (
 some (.inl (wi64 (i2 + 1), s.2)))
 else (
 some (.inr (i2, s.2)))

noncomputable def gs_partialInsertionSortCmpFunc_L2 {E : Type} (dE : E) (cmp : E × E × Unit → Option Int) (j2 : Int) (data4 : List E) : Option ((Int × List E) ⊕ (List E)) :=
 bif decide (1 ≤ j2) then (
 gd (inB j2 data4.length) <|
 gd (inB (wi64 (j2 - 1)) data4.length) <|
 (cmp (data4.getD j2.toNat dE, data4.getD ((wi64 (j2 - 1)).toNat) dE, ())).bind fun r2 =>
 bif !(decide (r2 < 0)) then (
 some (.inr data4))
 else (
 gd (inB (wi64 (j2 - 1)) data4.length) <|
 gd (inB j2 data4.length) <|
 gd (inB j2 data4.length) <|
 gd (inB (wi64 (j2 - 1)) (data4.set j2.toNat (data4.getD ((wi64 (j2 - 1)).toNat) dE)).length) <|
 some (.inl (wi64 (j2 - 1), (data4.set j2.toNat (data4.getD ((wi64 (j2 - 1)).toNat) dE)).set ((wi64 (j2 - 1)).toNat) (data4.getD j2.toNat dE)))))
 else (
 some (.inr data4))

noncomputable def gs_partialInsertionSortCmpFunc_L3 {E : Type} (dE : E) (b : Int) (cmp : E × E × Unit → Option Int) (j3 : Int) (data5 : List E) : Option ((Int × List E) ⊕ (List E)) :=
 bif decide (j3 < b) then (
 gd (inB j3 data5.length) <|
 gd (inB (wi64 (j3 - 1)) data5.length) <|
 (cmp (data5.getD j3.toNat dE, data5.getD ((wi64 (j3 - 1)).toNat) dE, ())).bind fun r3 =>
 bif !(decide (r3 < 0)) then (
 some (.inr data5))
 else (
 gd (inB (wi64 (j3 - 1)) data5.length) <|
 gd (inB j3 data5.length) <|
 gd (inB j3 data5.length) <|
 gd (inB (wi64 (j3 - 1)) (data5.set j3.toNat (data5.getD ((wi64 (j3 - 1)).toNat) dE)).length) <|
 some (.inl (wi64 (j3 + 1), (data5.set j3.toNat (data5.getD ((wi64 (j3 - 1)).toNat) dE)).set ((wi64 (j3 - 1)).toNat) (data5.getD j3.toNat dE)))))
 else (
 some (.inr data5))

noncomputable def gs_partialInsertionSortCmpFunc_L0 {E : Type} (dE : E) (a : Int) (b : Int) (cmp : E × E × Unit → Option Int) (i : Int) (j : Int) (data2 : List E) : Option ((Int × Int × List E) ⊕ ((List E) ⊕ (Bool × List E))) :=
 bif decide (j < 5) then (
 (iter (fun x => gs_partialInsertionSortCmpFunc_L1 dE b cmp x.1 x.2) (i, data2)).bind fun s2 =>
 bif decide (s2.1 = b) then (
 some (.inr (.inr (true, s2.2))))
 else (
 bif decide (wi64 (b - a) < 50) then (
 some (.inr (.inr (false, s2.2))))
 else (
 gd (inB (wi64 (s2.1 - 1)) s2.2.length) <|
 gd (inB s2.1 s2.2.length) <|
 gd (inB s2.1 s2.2.length) <|
 gd (inB (wi64 (s2.1 - 1)) (s2.2.set s2.1.toNat (s2.2.getD ((wi64 (s2.1 - 1)).toNat) dE)).length) <|
 Option.bind (α := List E) (
 bif decide (2 ≤ wi64 (s2.1 - a)) then (
 (iter (fun x2 => gs_partialInsertionSortCmpFunc_L2 dE cmp x2.1 x2.2) (wi64 (s2.1 - 1), (s2.2.set s2.1.toNat (s2.2.getD ((wi64 (s2.1 - 1)).toNat) dE)).set ((wi64 (s2.1 - 1)).toNat) (s2.2.getD s2.1.toNat dE))).bind fun s3 =>
 some s3)
 else (
 some ((s2.2.set s2.1.toNat (s2.2.getD ((wi64 (s2.1 - 1)).toNat) dE)).set ((wi64 (s2.1 - 1)).toNat) (s2.2.getD s2.1.toNat dE)))) fun s4 =>
 Option.bind (α := List E) (
 bif decide (2 ≤ wi64 (b - s2.1)) then (
 (iter (fun x3 => gs_partialInsertionSortCmpFunc_L3 dE b cmp x3.1 x3.2) (wi64 (s2.1 + 1), s4)).bind fun s5 =>
 some s5)
 else (
 some s4)) fun s6 =>
 some (.inl (s2.1, wi64 (j + 1), s6)))))
 else (
 some (.inr (.inl data2)))

noncomputable def gs_partialInsertionSortCmpFunc {E : Type} (dE : E) (a : Int) (b : Int) (cmp : E × E × Unit → Option Int) (data : List E) : Option (Bool × List E) :=
 (iter (fun x4 => gs_partialInsertionSortCmpFunc_L0 dE a b cmp x4.1 x4.2.1 x4.2.2) (wi64 (a + 1), 0, data)).bind fun s7 =>
 s7.elim (fun s8 =>
 some (false, s8))
 (fun s9 =>
 some (s9.1, s9.2))

noncomputable def fn_slices_partialInsertionSortCmpFunc_api_Nomination : Fun :=
 ⟨128, 4, 1,
 ⟨[(0, .one (.own 0)), (1, ii), (2, ii), (3, .one (.fn [.pair (.str) (.pair (.str) (.pair (.str) (.pair (.str) tT1))), .pair (.str) (.pair (.str) (.pair (.str) (.pair (.str) tT1)))] (.int .i64)))], [], [(0, .arr 51 tT0)]⟩,
 ⟨[(0, bb)], [], [(0, .arr 51 tT0)]⟩,
 fun x => (gs_partialInsertionSortCmpFunc (E := yT0) ([], ([], ([], ([], (0, 0)))))) x.1 x.2.1 x.2.2.1 x.2.2.2⟩
noncomputable def cx_slices_partialInsertionSortCmpFunc_api_Nomination : Cx := ⟨types, [], [], 141, []⟩
theorem ok_slices_partialInsertionSortCmpFunc_api_Nomination : FunOk Tryz.prog fn_slices_partialInsertionSortCmpFunc_api_Nomination :=
 FunOk.intro (C := cx_slices_partialInsertionSortCmpFunc_api_Nomination) (p := (nn (nn (mm (nn (mm (.mk [] (some (⟨[(0, .one (.own 0)), (1, kk), (2, kk), (3, kk), (9, ii), (10, ii)], [], [(0, .arr 51 tT0)]⟩, [⟨.x 0, ⟨[], [], [(0, .arr 51 tT0)]⟩⟩, ⟨.r, ⟨[(8, bb)], [], [(0, .arr 51 tT0)]⟩⟩])) (nn (mm (mm (mm (mm (.mk [] (some (⟨[(0, .one (.own 0)), (1, kk), (2, kk), (3, kk), (9, ii), (10, kk)], [], [(0, .arr 51 tT0)]⟩, [⟨.x 2, ⟨[(0, .one (.own 0)), (1, kk), (2, kk), (3, kk), (9, ii), (10, kk)], [], [(0, .arr 51 tT0)]⟩⟩])) (mm (mm (.mk [.join [⟨.n, ⟨[(0, .one (.own 0)), (1, kk), (2, kk), (3, kk), (9, kk), (10, kk), (36, bb)], [], [(0, .arr 51 tT0)]⟩⟩]] none .nil .nil) .nil) .nil) .nil) .nil) (nn (nn (nn (mm (nn (.mk [.join [⟨.n, ⟨[(0, .one (.own 0)), (1, kk), (2, kk), (3, kk), (9, kk), (10, kk)], [], [(0, .arr 51 tT0)]⟩⟩]] none (nn (mm (.mk [] (some (⟨[(0, .one (.own 0)), (1, kk), (2, kk), (3, kk), (9, kk), (10, kk), (11, ii)], [], [(0, .arr 51 tT0)]⟩, [⟨.x 4, ⟨[(0, .one (.own 0)), (1, kk), (2, kk), (3, kk), (9, kk), (10, kk)], [], [(0, .arr 51 tT0)]⟩⟩])) .nil .nil) .nil)) .nil)) (nn (.mk [.join [⟨.n, ⟨[(0, .one (.own 0)), (1, kk), (2, kk), (3, kk), (9, kk), (10, kk)], [], [(0, .arr 51 tT0)]⟩⟩]] none (nn (mm (.mk [] (some (⟨[(0, .one (.own 0)), (1, kk), (2, kk), (3, kk), (9, kk), (10, kk), (12, ii)], [], [(0, .arr 51 tT0)]⟩, [⟨.x 6, ⟨[(0, .one (.own 0)), (1, kk), (2, kk), (3, kk), (9, kk), (10, kk)], [], [(0, .arr 51 tT0)]⟩⟩])) .nil .nil) .nil)) .nil))))))) .nil) .nil)) .nil) .nil)) .nil))))
  Tryz.func128 rfl (by kernel_rfl) rfl rfl rfl rfl types_ok ⟨trivial, trivial⟩ mx (fun x => by kernel_rfl)

noncomputable def gs_partitionEqualCmpFunc_L1 {E : Type} (dE : E) (a : Int) (cmp : E × E × Unit → Option Int) (j : Int) (i2 : Int) (data3 : List E) : Option ((Int × List E) ⊕ (Int × List E)) :=
 Option.bind (α := Bool × List E) (
 bif decide (i2 ≤ j) then (
 gd (inB a data3.length) <|
 gd (inB i2 data3.length) <|
 (cmp (data3.getD a.toNat dE, data3.getD i2.toNat dE, ())).bind fun r =>
 some ((!(decide (r < 0))), data3))
 else (
 some (false, data3))) fun s =>
 bif s.1 then (
 some (.inl (wi64 (i2 + 1), s.2)))
 else (
 some (.inr (i2, s.2)))

noncomputable def gs_partitionEqualCmpFunc_L2 {E : Type} (dE : E) (a : Int) (cmp : E × E × Unit → Option Int) (s2 : Int × List E) (j2 : Int) (data4 : List E) : Option ((Int × List E) ⊕ (Int × List E)) :=
 Option.bind (α := Bool × List E) (
 bif decide (s2.1 ≤ j2) then (
 gd (inB a data4.length) <|
 gd (inB j2 data4.length) <|
 (cmp (data4.getD a.toNat dE, data4.getD j2.toNat dE, ())).bind fun r2 =>
 some (decide (r2 < 0), data4))
 else (
 some (false, data4))) fun s3 =>
 bif s3.1 then (
 some (.inl (wi64 (j2 - 1), s3.2)))
 else (
 some (.inr (j2, s3.2)))

noncomputable def gs_partitionEqualCmpFunc_L0 {E : Type} (dE : E) (a : Int) (cmp : E × E × Unit → Option Int) (i : Int) (j : Int) (data2 : List E) : Option ((Int × Int × List E) ⊕ (Int × List E)) :=
 (iter (fun x => gs_partitionEqualCmpFunc_L1 dE a cmp j x.1 x.2) (i, data2)).bind fun s2 =>
 (iter (fun x2 => gs_partitionEqualCmpFunc_L2 dE a cmp s2 x2.1 x2.2) (j, s2.2)).bind fun s4 =>
 bif decide (s4.1 < s2.1) then (
 some (.inr (s2.1, s4.2)))
 else (
 gd (inB s4.1 s4.2.length) <|
 gd (inB s2.1 s4.2.length) <|
 gd (inB s2.1 s4.2.length) <|
 gd (inB s4.1 (s4.2.set s2.1.toNat (s4.2.getD s4.1.toNat dE)).length) <|
 some (.inl (wi64 (s2.1 + 1), wi64 (s4.1 - 1), (s4.2.set s2.1.toNat (s4.2.getD s4.1.toNat dE)).set s4.1.toNat (s4.2.getD s2.1.toNat dE))))

noncomputable def gs_partitionEqualCmpFunc {E : Type} (dE : E) (a : Int) (b : Int) (pivot : Int) (cmp : E × E × Unit → Option Int) (data : List E) : Option (Int × List E) :=
 gd (inB pivot data.length) <|
 gd (inB a data.length) <|
 gd (inB a data.length) <|
 gd (inB pivot (data.set a.toNat (data.getD pivot.toNat dE)).length) <|
 (iter (fun x3 => gs_partitionEqualCmpFunc_L0 dE a cmp x3.1 x3.2.1 x3.2.2) (wi64 (a + 1), wi64 (b - 1), (data.set a.toNat (data.getD pivot.toNat dE)).set pivot.toNat (data.getD a.toNat dE))).bind fun s5 =>
 some (s5.1, s5.2)

noncomputable def fn_slices_partitionEqualCmpFunc_api_Nomination : Fun :=
 ⟨129, 5, 1,
 ⟨[(0, .one (.own 0)), (1, ii), (2, ii), (3, ii), (4, .one (.fn [.pair (.str) (.pair (.str) (.pair (.str) (.pair (.str) tT1))), .pair (.str) (.pair (.str) (.pair (.str) (.pair (.str) tT1)))] (.int .i64)))], [], [(0, .arr 51 tT0)]⟩,
 ⟨[(0, ii)], [], [(0, .arr 51 tT0)]⟩,
 fun x => (gs_partitionEqualCmpFunc (E := yT0) ([], ([], ([], ([], (0, 0)))))) x.1 x.2.1 x.2.2.1 x.2.2.2.1 x.2.2.2.2⟩
noncomputable def cx_slices_partitionEqualCmpFunc_api_Nomination : Cx := ⟨types, [], [], 90, []⟩
theorem ok_slices_partitionEqualCmpFunc_api_Nomination : FunOk Tryz.prog fn_slices_partitionEqualCmpFunc_api_Nomination :=
 FunOk.intro (C := cx_slices_partitionEqualCmpFunc_api_Nomination) (p := (nn (nn (nn (mm (mm (.mk [] (some (⟨[(0, .one (.own 0)), (1, kk), (4, kk), (11, ii), (12, ii)], [], [(0, .arr 51 tT0)]⟩, [⟨.x 0, ⟨[(11, ii)], [], [(0, .arr 51 tT0)]⟩⟩])) (mm (mm (mm (.mk [] (some (⟨[(0, .one (.own 0)), (1, kk), (4, kk), (11, ii), (12, kk)], [], [(0, .arr 51 tT0)]⟩, [⟨.x 2, ⟨[(0, .one (.own 0)), (1, kk), (4, kk), (11, ii), (12, kk)], [], [(0, .arr 51 tT0)]⟩⟩])) (mm (mm (.mk [.join [⟨.n, ⟨[(0, .one (.own 0)), (1, kk), (4, kk), (11, kk), (12, kk), (47, bb)], [], [(0, .arr 51 tT0)]⟩⟩]] none .nil .nil) .nil) .nil) .nil) .nil) (mm (mm (.mk [] (some (⟨[(0, .one (.own 0)), (1, kk), (4, kk), (11, kk), (12, ii)], [], [(0, .arr 51 tT0)]⟩, [⟨.x 4, ⟨[(0, .one (.own 0)), (1, kk), (4, kk), (11, kk), (12, ii)], [], [(0, .arr 51 tT0)]⟩⟩])) (mm (mm (.mk [.join [⟨.n, ⟨[(0, .one (.own 0)), (1, kk), (4, kk), (11, kk), (12, kk), (65, bb)], [], [(0, .arr 51 tT0)]⟩⟩]] none .nil .nil) .nil) .nil) .nil) .nil) .nil)) .nil) .nil) .nil) .nil)))))
  Tryz.func129 rfl (by kernel_rfl) rfl rfl rfl rfl types_ok ⟨trivial, trivial⟩ mx (fun x => by kernel_rfl)

noncomputable def gs_partitionCmpFunc_L0 {E : Type} (dE : E) (a : Int) (b : Int) (cmp : E × E × Unit → Option Int) (i : Int) (data2 : List E) : Option ((Int × List E) ⊕ (Int × List E)) :=
 Option.bind (α := Bool × List E) (
 bif decide (i ≤ wi64 (b - 1)) then (
 gd (inB i data2.length) <|
 gd (inB a data2.length) <|
 (cmp (data2.getD i.toNat dE, data2.getD a.toNat dE, ())).bind fun r =>
 some (decide (r < 0), data2))
 else (
 some (false, data2))) fun s =>
 bif s.1 then (
 some (.inl (wi64 (i + 1), s.2)))
 else (
 some (.inr (i, s.2)))

noncomputable def gs_partitionCmpFunc_L1 {E : Type} (dE : E) (a : Int) (cmp : E × E × Unit → Option Int) (s2 : Int × List E) (j : Int) (data3 : List E) : Option ((Int × List E) ⊕ (Int × List E)) :=
 Option.bind (α := Bool × List E) (
 bif decide (s2.1 ≤ j) then (
 gd (inB j data3.length) <|
 gd (inB a data3.length) <|
 (cmp (data3.getD j.toNat dE, data3.getD a.toNat dE, ())).bind fun r2 =>
 some ((!(decide (r2 < 0))), data3))
 else (
 some (false, data3))) fun s3 =>
 bif s3.1 then (
 some (.inl (wi64 (j - 1), s3.2)))
 else (
 some (.inr (j, s3.2)))

noncomputable def gs_partitionCmpFunc_L3 {E : Type} (dE : E) (a : Int) (cmp : E × E × Unit → Option Int) (j2 : Int) (i3 : Int) (data5 : List E) : Option ((Int × List E) ⊕ (Int × List E)) :=
 Option.bind (α := Bool × List E) (
 bif decide (i3 ≤ j2) then (
 gd (inB i3 data5.length) <|
 gd (inB a data5.length) <|
 (cmp (data5.getD i3.toNat dE, data5.getD a.toNat dE, ())).bind fun r3 =>
 some (decide (r3 < 0), data5))
 else (
 some (false, data5))) fun s5 =>
 bif s5.1 then (
 some (.inl (wi64 (i3 + 1), s5.2)))
 else (
 some (.inr (i3, s5.2)))

noncomputable def gs_partitionCmpFunc_L4 {E : Type} (dE : E) (a : Int) (cmp : E × E × Unit → Option Int) (s6 : Int × List E) (j3 : Int) (data6 : List E) : Option ((Int × List E) ⊕ (Int × List E)) :=
 Option.bind (α := Bool × List E) (
 bif decide (s6.1 ≤ j3) then (
 gd (inB j3 data6.length) <|
 gd (inB a data6.length) <|
 (cmp (data6.getD j3.toNat dE, data6.getD a.toNat dE, ())).bind fun r4 =>
 some ((!(decide (r4 < 0))), data6))
 else (
 some (false, data6))) fun s7 =>
 bif s7.1 then (
 some (.inl (wi64 (j3 - 1), s7.2)))
 else (
 some (.inr (j3, s7.2)))

noncomputable def gs_partitionCmpFunc_L2 {E : Type} (dE : E) (a : Int) (cmp : E × E × Unit → Option Int) (i2 : Int) (j2 : Int) (data4 : List E) : Option ((Int × Int × List E) ⊕ (Int × List E)) :=
 (iter (fun x3 => gs_partitionCmpFunc_L3 dE a cmp j2 x3.1 x3.2) (i2, data4)).bind fun s6 =>
 (iter (fun x4 => gs_partitionCmpFunc_L4 dE a cmp s6 x4.1 x4.2) (j2, s6.2)).bind fun s8 =>
 bif decide (s8.1 < s6.1) then (
 some (.inr (s8.1, s8.2)))
 else (
 gd (inB s8.1 s8.2.length) <|
 gd (inB s6.1 s8.2.length) <|
 gd (inB s6.1 s8.2.length) <|
 gd (inB s8.1 (s8.2.set s6.1.toNat (s8.2.getD s8.1.toNat dE)).length) <|
 some (.inl (wi64 (s6.1 + 1), wi64 (s8.1 - 1), (s8.2.set s6.1.toNat (s8.2.getD s8.1.toNat dE)).set s8.1.toNat (s8.2.getD s6.1.toNat dE))))

noncomputable def gs_partitionCmpFunc {E : Type} (dE : E) (a : Int) (b : Int) (pivot : Int) (cmp : E × E × Unit → Option Int) (data : List E) : Option (Int × Bool × List E) :=
 gd (inB pivot data.length) <|
 gd (inB a data.length) <|
 gd (inB a data.length) <|
 gd (inB pivot (data.set a.toNat (data.getD pivot.toNat dE)).length) <|
 (iter (fun x => gs_partitionCmpFunc_L0 dE a b cmp x.1 x.2) (wi64 (a + 1), (data.set a.toNat (data.getD pivot.toNat dE)).set pivot.toNat (data.getD a.toNat dE))).bind fun s2 =>
 (iter (fun x2 => gs_partitionCmpFunc_L1 dE a cmp s2 x2.1 x2.2) (wi64 (b - 1), s2.2)).bind fun s4 =>
 bif decide (s4.1 < s2.1) then (
 gd (inB a s4.2.length) <|
 gd (inB s4.1 s4.2.length) <|
 gd (inB s4.1 s4.2.length) <|
 gd (inB a (s4.2.set s4.1.toNat (s4.2.getD a.toNat dE)).length) <|
 some (s4.1, true, (s4.2.set s4.1.toNat (s4.2.getD a.toNat dE)).set a.toNat (s4.2.getD s4.1.toNat dE)))
 else (
 gd (inB s4.1 s4.2.length) <|
 gd (inB s2.1 s4.2.length) <|
 gd (inB s2.1 s4.2.length) <|
 gd (inB s4.1 (s4.2.set s2.1.toNat (s4.2.getD s4.1.toNat dE)).length) <|
 (iter (fun x5 => gs_partitionCmpFunc_L2 dE a cmp x5.1 x5.2.1 x5.2.2) (wi64 (s2.1 + 1), wi64 (s4.1 - 1), (s4.2.set s2.1.toNat (s4.2.getD s4.1.toNat dE)).set s4.1.toNat (s4.2.getD s2.1.toNat dE))).bind fun s9 =>
 gd (inB a s9.2.length) <|
 gd (inB s9.1 s9.2.length) <|
 gd (inB s9.1 s9.2.length) <|
 gd (inB a (s9.2.set s9.1.toNat (s9.2.getD a.toNat dE)).length) <|
 some (s9.1, false, (s9.2.set s9.1.toNat (s9.2.getD a.toNat dE)).set a.toNat (s9.2.getD s9.1.toNat dE)))

noncomputable def fn_slices_partitionCmpFunc_api_Nomination : Fun :=
 ⟨130, 5, 2,
 ⟨[(0, .one (.own 0)), (1, ii), (2, ii), (3, ii), (4, .one (.fn [.pair (.str) (.pair (.str) (.pair (.str) (.pair (.str) tT1))), .pair (.str) (.pair (.str) (.pair (.str) (.pair (.str) tT1)))] (.int .i64)))], [], [(0, .arr 51 tT0)]⟩,
 ⟨[(0, ii), (1, bb)], [], [(0, .arr 51 tT0)]⟩,
 fun x => (gs_partitionCmpFunc (E := yT0) ([], ([], ([], ([], (0, 0)))))) x.1 x.2.1 x.2.2.1 x.2.2.2.1 x.2.2.2.2⟩
noncomputable def cx_slices_partitionCmpFunc_api_Nomination : Cx := ⟨types, [], [], 178, []⟩
theorem ok_slices_partitionCmpFunc_api_Nomination : FunOk Tryz.prog fn_slices_partitionCmpFunc_api_Nomination :=
 FunOk.intro (C := cx_slices_partitionCmpFunc_api_Nomination) (p := (nn (nn (nn (mm (mm (.mk [] (some (⟨[(0, .one (.own 0)), (1, kk), (4, kk), (12, ii), (13, kk)], [], [(0, .arr 51 tT0)]⟩, [⟨.x 0, ⟨[(0, .one (.own 0)), (1, kk), (4, kk), (12, ii), (13, kk)], [], [(0, .arr 51 tT0)]⟩⟩])) (mm (mm (.mk [.join [⟨.n, ⟨[(0, .one (.own 0)), (1, kk), (4, kk), (12, kk), (13, kk), (47, bb)], [], [(0, .arr 51 tT0)]⟩⟩]] none .nil .nil) .nil) .nil) .nil) .nil) (mm (mm (.mk [] (some (⟨[(0, .one (.own 0)), (1, kk), (4, kk), (12, kk), (13, ii)], [], [(0, .arr 51 tT0)]⟩, [⟨.x 2, ⟨[(0, .one (.own 0)), (1, kk), (4, kk), (12, kk), (13, ii)], [], [(0, .arr 51 tT0)]⟩⟩])) (mm (mm (.mk [.join [⟨.n, ⟨[(0, .one (.own 0)), (1, kk), (4, kk), (12, kk), (13, kk), (66, bb)], [], [(0, .arr 51 tT0)]⟩⟩]] none .nil .nil) .nil) .nil) .nil) .nil) (nn (nn (nn (nn (mm (mm (.mk [] (some (⟨[(0, .one (.own 0)), (1, kk), (4, kk), (12, ii), (13, ii)], [], [(0, .arr 51 tT0)]⟩, [⟨.x 4, ⟨[(0, .one (.own 0)), (1, kk), (13, ii)], [], [(0, .arr 51 tT0)]⟩⟩])) (mm (mm (mm (.mk [] (some (⟨[(0, .one (.own 0)), (1, kk), (4, kk), (12, ii), (13, kk)], [], [(0, .arr 51 tT0)]⟩, [⟨.x 6, ⟨[(0, .one (.own 0)), (1, kk), (4, kk), (12, ii), (13, kk)], [], [(0, .arr 51 tT0)]⟩⟩])) (mm (mm (.mk [.join [⟨.n, ⟨[(0, .one (.own 0)), (1, kk), (4, kk), (12, kk), (13, kk), (120, bb)], [], [(0, .arr 51 tT0)]⟩⟩]] none .nil .nil) .nil) .nil) .nil) .nil) (mm (mm (.mk [] (some (⟨[(0, .one (.own 0)), (1, kk), (4, kk), (12, kk), (13, ii)], [], [(0, .arr 51 tT0)]⟩, [⟨.x 8, ⟨[(0, .one (.own 0)), (1, kk), (4, kk), (12, kk), (13, ii)], [], [(0, .arr 51 tT0)]⟩⟩])) (mm (mm (.mk [.join [⟨.n, ⟨[(0, .one (.own 0)), (1, kk), (4, kk), (12, kk), (13, kk), (139, bb)], [], [(0, .arr 51 tT0)]⟩⟩]] none .nil .nil) .nil) .nil) .nil) .nil) .nil)) .nil) .nil) .nil) .nil)))))))))))
  Tryz.func130 rfl (by kernel_rfl) rfl rfl rfl rfl types_ok ⟨trivial, trivial⟩ mx (fun x => by kernel_rfl)

noncomputable def gs_pdqsortCmpFunc_L0 {E : Type} (dE : E) (cmp : E × E × Unit → Option Int) (rec : Int → Int → Int → (E × E × Unit → Option Int) → List E → Option (List E)) (a2 : Int) (b2 : Int) (limit2 : Int) (wasBalanced : Bool) (wasPartitioned : Bool) (data2 : List E) : Option ((Int × Int × Int × Bool × Bool × List E) ⊕ (List E)) :=
 bif decide (wi64 (b2 - a2) ≤ 12) then (
 (gs_insertionSortCmpFunc dE a2 b2 cmp data2).bind fun r =>
 some (.inr r))
 else (
 bif decide (limit2 = 0) then (
 (gs_heapSortCmpFunc dE a2 b2 cmp data2).bind fun r2 =>
 some (.inr r2))
 else (
 Option.bind (α := Int × List E) (
 bif !wasBalanced then (
 (gs_breakPatternsCmpFunc dE a2 b2 cmp data2).bind fun r3 =>
 some (wi64 (limit2 - 1), r3))
 else (
 some (limit2, data2))) fun s =>
 (gs_choosePivotCmpFunc dE s.2 a2 b2 cmp).bind fun r4 =>
 Option.bind (α := Int × Int × List E) (
 bif decide (r4.2 = 2) then (
 (gs_reverseRangeCmpFunc dE a2 b2 cmp s.2).bind fun r5 =>
 some (wi64 ((wi64 (b2 - 1)) - (wi64 (r4.1 - a2))), 1, r5))
 else (
 some (r4.1, r4.2, s.2))) fun s2 =>
 Option.bind (α := Bool × List E) (
 bif wasBalanced then (
 bif wasPartitioned then (
 some (decide (s2.2.1 = 1), s2.2.2))
 else (
 some (false, s2.2.2)))
 else (
 some (false, s2.2.2))) fun s3 =>
 Option.bind (α := (List E) ⊕ (List E)) (
 bif s3.1 then (
 (gs_partialInsertionSortCmpFunc dE a2 b2 cmp s3.2).bind fun r6 =>
 bif r6.1 then (
 some (.inr r6.2))
 else (
 some (.inl r6.2)))
 else (
 some (.inl s3.2))) fun s4 =>
 s4.elim (fun s5 =>
 Option.bind (α := Bool × List E) (
 bif decide (0 < a2) then (
 gd (inB (wi64 (a2 - 1)) s5.length) <|
 gd (inB s2.1 s5.length) <|
 (cmp (s5.getD ((wi64 (a2 - 1)).toNat) dE, s5.getD s2.1.toNat dE, ())).bind fun r7 =>
 some ((!(decide (r7 < 0))), s5))
 else (
 some (false, s5))) fun s7 =>
 bif s7.1 then (
 (gs_partitionEqualCmpFunc dE a2 b2 s2.1 cmp s7.2).bind fun r8 =>
 some (.inl (r8.1, b2, s.1, wasBalanced, wasPartitioned, r8.2)))
 else (
 (gs_partitionCmpFunc dE a2 b2 s2.1 cmp s7.2).bind fun r9 =>
 bif decide (wi64 (r9.1 - a2) < wi64 (b2 - r9.1)) then (
 (rec a2 r9.1 s.1 cmp r9.2.2).bind fun r10 =>
 some (.inl (wi64 (r9.1 + 1), b2, s.1, decide (wi64 (Int.tdiv (wi64 (b2 - a2)) 8) ≤ wi64 (r9.1 - a2)), r9.2.1, r10)))
 else (
 (rec (wi64 (r9.1 + 1)) b2 s.1 cmp r9.2.2).bind fun r11 =>
 some (.inl (a2, r9.1, s.1, decide (wi64 (Int.tdiv (wi64 (b2 - a2)) 8) ≤ wi64 (b2 - r9.1)), r9.2.1, r11)))))
 (fun s6 =>
 some (.inr s6))))

noncomputable def gs_pdqsortCmpFunc_S {E : Type} (dE : E) (rec : Int → Int → Int → (E × E × Unit → Option Int) → List E → Option (List E)) (a : Int) (b : Int) (limit : Int) (cmp : E × E × Unit → Option Int) (data : List E) : Option (List E) :=
 (iter (fun x => gs_pdqsortCmpFunc_L0 dE cmp rec x.1 x.2.1 x.2.2.1 x.2.2.2.1 x.2.2.2.2.1 x.2.2.2.2.2) (a, b, limit, true, true, data)).bind fun s8 =>
 some s8

noncomputable def gs_pdqsortCmpFunc_F {E : Type} (dE : E) : Nat → Int → Int → Int → (E × E × Unit → Option Int) → List E → Option (List E)
 | 0 => fun _ _ _ _ _ => none
 | n + 1 => gs_pdqsortCmpFunc_S dE (gs_pdqsortCmpFunc_F dE n)

noncomputable def gs_pdqsortCmpFunc {E : Type} (dE : E) (a : Int) (b : Int) (limit : Int) (cmp : E × E × Unit → Option Int) (data : List E) : Option (List E) := gs_pdqsortCmpFunc_F dE 18446744073709551616 a b limit cmp data

noncomputable def fn_slices_pdqsortCmpFunc_api_Nomination_F (n : Nat) : Fun :=
 ⟨110, 5, 0,
 ⟨[(0, .one (.own 0)), (1, ii), (2, ii), (3, ii), (4, .one (.fn [.pair (.str) (.pair (.str) (.pair (.str) (.pair (.str) tT1))), .pair (.str) (.pair (.str) (.pair (.str) (.pair (.str) tT1)))] (.int .i64)))], [], [(0, .arr 51 tT0)]⟩,
 ⟨[], [], [(0, .arr 51 tT0)]⟩,
 fun x => (gs_pdqsortCmpFunc_F (E := yT0) ([], ([], ([], ([], (0, 0)))))) n x.1 x.2.1 x.2.2.1 x.2.2.2.1 x.2.2.2.2⟩
noncomputable def fn_slices_pdqsortCmpFunc_api_Nomination : Fun := fn_slices_pdqsortCmpFunc_api_Nomination_F 18446744073709551616
noncomputable def cx_slices_pdqsortCmpFunc_api_Nomination (n : Nat) : Cx := ⟨types, [], [fn_slices_insertionSortCmpFunc_api_Nomination, fn_slices_heapSortCmpFunc_api_Nomination, fn_slices_breakPatternsCmpFunc_api_Nomination, fn_slices_choosePivotCmpFunc_api_Nomination, fn_slices_reverseRangeCmpFunc_api_Nomination, fn_slices_partialInsertionSortCmpFunc_api_Nomination, fn_slices_partitionEqualCmpFunc_api_Nomination, fn_slices_partitionCmpFunc_api_Nomination, fn_slices_pdqsortCmpFunc_api_Nomination_F n], 148, []⟩
theorem ok_slices_pdqsortCmpFunc_api_Nomination_F : ∀ n : Nat, FunOk Tryz.prog (fn_slices_pdqsortCmpFunc_api_Nomination_F n)
 | 0 => FunOk.nothing Tryz.func110 rfl (by kernel_rfl) (fun x => rfl)
 | n + 1 => FunOk.intro (C := cx_slices_pdqsortCmpFunc_api_Nomination n) (p := (nn (nn (mm (.mk [] (some (⟨[(0, .one (.own 0)), (1, ii), (2, ii), (3, ii), (4, kk), (10, bb), (11, bb)], [], [(0, .arr 51 tT0)]⟩, [⟨.r, ⟨[], [], [(0, .arr 51 tT0)]⟩⟩])) (mm (nn (nn (nn (mm (nn (.mk [.join [⟨.n, ⟨[(0, .one (.own 0)), (1, kk), (2, kk), (3, ii), (4, kk), (10, kk), (11, kk), (12, kk)], [], [(0, .arr 51 tT0)]⟩⟩]] none .nil .nil)) (nn (mm (nn (.mk [.join [⟨.n, ⟨[(0, .one (.own 0)), (1, kk), (2, kk), (3, kk), (4, kk), (10, kk), (11, kk), (12, kk), (13, ii), (14, ii)], [], [(0, .arr 51 tT0)]⟩⟩]] none .nil .nil)) (mm (mm (.mk [.join [⟨.n, ⟨[(0, .one (.own 0)), (1, kk), (2, kk), (3, kk), (4, kk), (10, kk), (11, kk), (12, kk), (13, kk), (75, bb)], [], [(0, .arr 51 tT0)]⟩⟩]] none .nil .nil) (.mk [.join [⟨.n, ⟨[(0, .one (.own 0)), (1, kk), (2, kk), (3, kk), (4, kk), (10, kk), (11, kk), (12, kk), (13, kk)], [], [(0, .arr 51 tT0)]⟩⟩, ⟨.r, ⟨[], [], [(0, .arr 51 tT0)]⟩⟩]] none .nil .nil)) (mm (mm (.mk [.join [⟨.n, ⟨[(0, .one (.own 0)), (1, kk), (2, kk), (3, kk), (4, kk), (10, kk), (11, kk), (12, kk), (13, kk), (97, bb)], [], [(0, .arr 51 tT0)]⟩⟩]] none .nil .nil) .nil) .nil)))))))) .nil) .nil) .nil))))
  Tryz.func110 rfl (by kernel_rfl) rfl rfl rfl rfl types_ok ⟨⟨ok_slices_insertionSortCmpFunc_api_Nomination, ok_slices_heapSortCmpFunc_api_Nomination, ok_slices_breakPatternsCmpFunc_api_Nomination, ok_slices_choosePivotCmpFunc_api_Nomination, ok_slices_reverseRangeCmpFunc_api_Nomination, ok_slices_partialInsertionSortCmpFunc_api_Nomination, ok_slices_partitionEqualCmpFunc_api_Nomination, ok_slices_partitionCmpFunc_api_Nomination, ok_slices_pdqsortCmpFunc_api_Nomination_F n, trivial⟩, trivial⟩ mx (fun x => by kernel_rfl)
theorem ok_slices_pdqsortCmpFunc_api_Nomination : FunOk Tryz.prog fn_slices_pdqsortCmpFunc_api_Nomination := ok_slices_pdqsortCmpFunc_api_Nomination_F 18446744073709551616

noncomputable def gs_SortFunc {E : Type} (dE : E) (cmp : E × E × Unit → Option Int) (x : List E) : Option (List E) :=
 (math_bits_Len (wu64 (x.length : Int))).bind fun r =>
 (gs_pdqsortCmpFunc dE 0 (x.length : Int) r cmp x).bind fun r2 =>
 some r2

noncomputable def slices_SortFunc_api_Nomination_api_Nomination (cmp : yT0 × yT0 × Unit → Option Int) (x : List yT0) : Option (List yT0) := gs_SortFunc ([], ([], ([], ([], (0, 0))))) cmp x

noncomputable def fn_slices_SortFunc_api_Nomination_api_Nomination : Fun :=
 ⟨74, 2, 0,
 ⟨[(0, .one (.own 0)), (1, .one (.fn [.pair (.str) (.pair (.str) (.pair (.str) (.pair (.str) tT1))), .pair (.str) (.pair (.str) (.pair (.str) (.pair (.str) tT1)))] (.int .i64)))], [], [(0, .arr 51 tT0)]⟩,
 ⟨[], [], [(0, .arr 51 tT0)]⟩,
 fun x => slices_SortFunc_api_Nomination_api_Nomination x.1 x.2⟩
noncomputable def cx_slices_SortFunc_api_Nomination_api_Nomination : Cx := ⟨types, [], [fn_math_bits_Len, fn_slices_pdqsortCmpFunc_api_Nomination], 14, []⟩
theorem ok_slices_SortFunc_api_Nomination_api_Nomination : FunOk Tryz.prog fn_slices_SortFunc_api_Nomination_api_Nomination :=
 FunOk.intro (C := cx_slices_SortFunc_api_Nomination_api_Nomination) (p := .nil)
  Tryz.func74 rfl (by kernel_rfl) rfl rfl rfl rfl types_ok ⟨⟨ok_math_bits_Len, ok_slices_pdqsortCmpFunc_api_Nomination, trivial⟩, trivial⟩ mx (fun x => by kernel_rfl)

noncomputable def cmp_isNaN_int (x : Int) : Option (Bool) :=
 some (!decide (x = x))

noncomputable def fn_cmp_isNaN_int : Fun :=
 ⟨83, 1, 1,
 ⟨[(0, ii)], [], []⟩,
 ⟨[(0, bb)], [], []⟩,
 fun x => cmp_isNaN_int x⟩
noncomputable def cx_cmp_isNaN_int : Cx := ⟨types, [], [], 6, []⟩
theorem ok_cmp_isNaN_int : FunOk Tryz.prog fn_cmp_isNaN_int :=
 FunOk.intro (C := cx_cmp_isNaN_int) (p := .nil)
  Tryz.func83 rfl (by kernel_rfl) rfl rfl rfl rfl types_ok ⟨trivial, trivial⟩ mx (fun x => by kernel_rfl)

noncomputable def cmp_Compare_int (x : Int) (y : Int) : Option (Int) :=
 (cmp_isNaN_int x).bind fun r =>
 (cmp_isNaN_int y).bind fun r2 =>
 bif r then (
 bif r2 then (
 some 0)
 else (
 some (-1)))
 else (
 bif r2 then (
 some 1)
 else (
 bif decide (x < y) then (
 some (-1))
 else (
 bif decide (y < x) then (
 some 1)
 else (
 some 0))))

noncomputable def fn_cmp_Compare_int : Fun :=
 ⟨43, 2, 1,
 ⟨[(0, ii), (1, ii)], [], []⟩,
 ⟨[(0, ii)], [], []⟩,
 fun x => cmp_Compare_int x.1 x.2⟩
noncomputable def cx_cmp_Compare_int : Cx := ⟨types, [], [fn_cmp_isNaN_int], 20, []⟩
theorem ok_cmp_Compare_int : FunOk Tryz.prog fn_cmp_Compare_int :=
 FunOk.intro (C := cx_cmp_Compare_int) (p := .nil)
  Tryz.func43 rfl (by kernel_rfl) rfl rfl rfl rfl types_ok ⟨⟨ok_cmp_isNaN_int, trivial⟩, trivial⟩ mx (fun x => by kernel_rfl)

noncomputable def cmp_isNaN_string (x : List UInt8) : Option (Bool) :=
 some (!decide (x = x))

noncomputable def fn_cmp_isNaN_string : Fun :=
 ⟨84, 1, 1,
 ⟨[(0, ss)], [], []⟩,
 ⟨[(0, bb)], [], []⟩,
 fun x => cmp_isNaN_string x⟩
noncomputable def cx_cmp_isNaN_string : Cx := ⟨types, [], [], 6, []⟩
theorem ok_cmp_isNaN_string : FunOk Tryz.prog fn_cmp_isNaN_string :=
 FunOk.intro (C := cx_cmp_isNaN_string) (p := .nil)
  Tryz.func84 rfl (by kernel_rfl) rfl rfl rfl rfl types_ok ⟨trivial, trivial⟩ mx (fun x => by kernel_rfl)

noncomputable def cmp_Compare_string (x : List UInt8) (y : List UInt8) : Option (Int) :=
 (cmp_isNaN_string x).bind fun r =>
 (cmp_isNaN_string y).bind fun r2 =>
 bif r then (
 bif r2 then (
 some 0)
 else (
 some (-1)))
 else (
 bif r2 then (
 some 1)
 else (
 bif Op.bytesLess x y then (
 some (-1))
 else (
 bif !(Op.bytesLess x y || decide (x = y)) then (
 some 1)
 else (
 some 0))))

noncomputable def fn_cmp_Compare_string : Fun :=
 ⟨44, 2, 1,
 ⟨[(0, ss), (1, ss)], [], []⟩,
 ⟨[(0, ii)], [], []⟩,
 fun x => cmp_Compare_string x.1 x.2⟩
noncomputable def cx_cmp_Compare_string : Cx := ⟨types, [], [fn_cmp_isNaN_string], 20, []⟩
theorem ok_cmp_Compare_string : FunOk Tryz.prog fn_cmp_Compare_string :=
 FunOk.intro (C := cx_cmp_Compare_string) (p := .nil)
  Tryz.func44 rfl (by kernel_rfl) rfl rfl rfl rfl types_ok ⟨⟨ok_cmp_isNaN_string, trivial⟩, trivial⟩ mx (fun x => by kernel_rfl)

noncomputable def cmp_Or_int_L0 (vals : List Int) (v : Int) : Option (Int ⊕ (Unit ⊕ Int)) :=
 bif decide (v < (vals.length : Int)) then (
 gd (inB v vals.length) <|
 bif !decide (vals.getD v.toNat 0 = 0) then (
 some (.inr (.inr (vals.getD v.toNat 0))))
 else (
 some (.inl (wi64 (v + 1)))))
 else (
 some (.inr (.inl ())))

noncomputable def cmp_Or_int (vals : List Int) : Option (Int) :=
 (iter (fun x => cmp_Or_int_L0 vals x) 0).bind fun s =>
 s.elim (fun s2 =>
 some 0)
 (fun s3 =>
 some s3)

noncomputable def fn_cmp_Or_int : Fun :=
 ⟨42, 1, 1,
 ⟨[(0, .one (.data (.sl (.int .i64))))], [], []⟩,
 ⟨[(0, ii)], [], []⟩,
 fun x => cmp_Or_int x⟩
noncomputable def cx_cmp_Or_int : Cx := ⟨types, [], [], 18, []⟩
theorem ok_cmp_Or_int : FunOk Tryz.prog fn_cmp_Or_int :=
 FunOk.intro (C := cx_cmp_Or_int) (p := (nn (nn (mm (nn (mm (.mk [] (some (⟨[(3, kk), (6, kk), (7, kk), (8, ii)], [], []⟩, [⟨.x 0, ⟨[(3, kk)], [], []⟩⟩, ⟨.r, ⟨[(2, ii)], [], []⟩⟩])) .nil .nil) .nil)) .nil))))
  Tryz.func42 rfl (by kernel_rfl) rfl rfl rfl rfl types_ok ⟨trivial, trivial⟩ mx (fun x => by kernel_rfl)

noncomputable def nomination_compare (a : List UInt8 × List UInt8 × List UInt8 × List UInt8 × Int × Int) (b : List UInt8 × List UInt8 × List UInt8 × List UInt8 × Int × Int) : Option (Int) :=
 (cmp_Compare_int a.2.2.2.2.1 b.2.2.2.2.1).bind fun r =>
 (cmp_Compare_string a.1 b.1).bind fun r2 =>
 (cmp_Compare_string a.2.1 b.2.1).bind fun r3 =>
 (cmp_Compare_string a.2.2.1 b.2.2.1).bind fun r4 =>
 (cmp_Compare_string a.2.2.2.1 b.2.2.2.1).bind fun r5 =>
 (cmp_Or_int [r, r2, r3, r4, r5]).bind fun r6 =>
 some r6

noncomputable def fn_nomination_compare : Fun :=
 ⟨75, 2, 1,
 ⟨[(0, .one (.data tT0)), (1, .one (.data tT0))], [], []⟩,
 ⟨[(0, ii)], [], []⟩,
 fun x => nomination_compare x.1 x.2⟩
noncomputable def cx_nomination_compare : Cx := ⟨types, [], [fn_cmp_Compare_int, fn_cmp_Compare_string, fn_cmp_Or_int], 32, []⟩
theorem ok_nomination_compare : FunOk Tryz.prog fn_nomination_compare :=
 FunOk.intro (C := cx_nomination_compare) (p := .nil)
  Tryz.func75 rfl (by kernel_rfl) rfl rfl rfl rfl types_ok ⟨⟨ok_cmp_Compare_int, ok_cmp_Compare_string, ok_cmp_Or_int, trivial⟩, trivial⟩ mx (fun x => by kernel_rfl)

noncomputable def nomination_Totals_L0 (l : List yT0) (v : Int) (sums : List (yT0 × Int)) : Option ((Int × List (yT0 × Int)) ⊕ (List (yT0 × Int))) :=
 bif decide (v < (l.length : Int)) then (
 gd (inB v l.length) <|
 gd (decide (0 ≤ Int.ofNat (midx kO_0 sums ((l.getD v.toNat ([], ([], ([], ([], (0, 0)))))).1, (((l.getD v.toNat ([], ([], ([], ([], (0, 0)))))).2).1, ((((l.getD v.toNat ([], ([], ([], ([], (0, 0)))))).2).2).1, (((((l.getD v.toNat ([], ([], ([], ([], (0, 0)))))).2).2).2).1, ((((((l.getD v.toNat ([], ([], ([], ([], (0, 0)))))).2).2).2).2).1, 0))))))) && Nat.blt (Int.ofNat (midx kO_0 sums ((l.getD v.toNat ([], ([], ([], ([], (0, 0)))))).1, (((l.getD v.toNat ([], ([], ([], ([], (0, 0)))))).2).1, ((((l.getD v.toNat ([], ([], ([], ([], (0, 0)))))).2).2).1, (((((l.getD v.toNat ([], ([], ([], ([], (0, 0)))))).2).2).2).1, ((((((l.getD v.toNat ([], ([], ([], ([], (0, 0)))))).2).2).2).2).1, 0))))))).toNat (ment kO_0 sums ((l.getD v.toNat ([], ([], ([], ([], (0, 0)))))).1, (((l.getD v.toNat ([], ([], ([], ([], (0, 0)))))).2).1, ((((l.getD v.toNat ([], ([], ([], ([], (0, 0)))))).2).2).1, (((((l.getD v.toNat ([], ([], ([], ([], (0, 0)))))).2).2).2).1, ((((((l.getD v.toNat ([], ([], ([], ([], (0, 0)))))).2).2).2).2).1, 0))))) 0).length) <|
 some (.inl (wi64 (v + 1), mset (ment kO_0 sums ((l.getD v.toNat ([], ([], ([], ([], (0, 0)))))).1, (((l.getD v.toNat ([], ([], ([], ([], (0, 0)))))).2).1, ((((l.getD v.toNat ([], ([], ([], ([], (0, 0)))))).2).2).1, (((((l.getD v.toNat ([], ([], ([], ([], (0, 0)))))).2).2).2).1, ((((((l.getD v.toNat ([], ([], ([], ([], (0, 0)))))).2).2).2).2).1, 0))))) 0) (Int.ofNat (midx kO_0 sums ((l.getD v.toNat ([], ([], ([], ([], (0, 0)))))).1, (((l.getD v.toNat ([], ([], ([], ([], (0, 0)))))).2).1, ((((l.getD v.toNat ([], ([], ([], ([], (0, 0)))))).2).2).1, (((((l.getD v.toNat ([], ([], ([], ([], (0, 0)))))).2).2).2).1, ((((((l.getD v.toNat ([], ([], ([], ([], (0, 0)))))).2).2).2).2).1, 0))))))).toNat (wi64 (((mget kO_0 sums ((l.getD v.toNat ([], ([], ([], ([], (0, 0)))))).1, (((l.getD v.toNat ([], ([], ([], ([], (0, 0)))))).2).1, ((((l.getD v.toNat ([], ([], ([], ([], (0, 0)))))).2).2).1, (((((l.getD v.toNat ([], ([], ([], ([], (0, 0)))))).2).2).2).1, ((((((l.getD v.toNat ([], ([], ([], ([], (0, 0)))))).2).2).2).2).1, 0)))))).getD 0) + ((((((l.getD v.toNat ([], ([], ([], ([], (0, 0)))))).2).2).2).2).2))))))
 else (
 some (.inr sums))

noncomputable def nomination_Totals_L1 (out : List yT0) (v2 : List (yT0 × Int)) : List (Option (((List yT0) × List (yT0 × Int)) ⊕ ((List yT0) ⊕ ((List yT0) × Int)))) :=
 bif isNilL v2.tail then [
 some (.inr (.inl out))]
 else ((List.range v2.tail.length).map fun i =>
 bif decide (1099511627776 < ((pickAt (([], ([], ([], ([], (0, 0))))), 0) v2.tail i).headD (([], ([], ([], ([], (0, 0))))), 0)).2) then (
 some (.inr (.inr ([], 4))))
 else (
 gd (fits (out.length + 1) 80) <|
 some (.inl (out ++ [((((pickAt (([], ([], ([], ([], (0, 0))))), 0) v2.tail i).headD (([], ([], ([], ([], (0, 0))))), 0)).1).1, (((((pickAt (([], ([], ([], ([], (0, 0))))), 0) v2.tail i).headD (([], ([], ([], ([], (0, 0))))), 0)).1).2).1, ((((((pickAt (([], ([], ([], ([], (0, 0))))), 0) v2.tail i).headD (([], ([], ([], ([], (0, 0))))), 0)).1).2).2).1, (((((((pickAt (([], ([], ([], ([], (0, 0))))), 0) v2.tail i).headD (([], ([], ([], ([], (0, 0))))), 0)).1).2).2).2).1, ((((((((pickAt (([], ([], ([], ([], (0, 0))))), 0) v2.tail i).headD (([], ([], ([], ([], (0, 0))))), 0)).1).2).2).2).2).1, ((pickAt (([], ([], ([], ([], (0, 0))))), 0) v2.tail i).headD (([], ([], ([], ([], (0, 0))))), 0)).2)))))], pickAt (([], ([], ([], ([], (0, 0))))), 0) v2.tail i))))

noncomputable def nomination_Totals (l : List yT0) : Option ((List yT0) × Int) :=
 (nomination_Check l).bind fun r =>
 bif !decide (r = 0) then (
 some ([], r))
 else (
 (iter (fun x => nomination_Totals_L0 l x.1 x.2) (0, [])).bind fun s =>
 iterK (fun x2 => nomination_Totals_L1 x2.1 x2.2) ([], ((([], ([], ([], ([], (0, 0))))), 0) :: s)) fun s2 =>
 s2.elim (fun s3 =>
 (slices_SortFunc_api_Nomination_api_Nomination (fun h => (nomination_compare h.1 h.2.1).bind fun y => some y) s3).bind fun r2 =>
 some (r2, 0))
 (fun s4 =>
 some (s4.1, s4.2)))

noncomputable def fn_nomination_Totals : Fun :=
 ⟨36, 1, 2,
 ⟨[(0, .one (.data (.sl tT0)))], [], []⟩,
 ⟨[(0, .one (.data (.sl tT0))), (1, ii)], [], []⟩,
 fun x => nomination_Totals x⟩
noncomputable def cx_nomination_Totals : Cx := ⟨types, [], [fn_nomination_Check, fn_slices_SortFunc_api_Nomination_api_Nomination, fn_nomination_compare], 53, []⟩
theorem ok_nomination_Totals : FunOk Tryz.prog fn_nomination_Totals :=
 FunOk.intro (C := cx_nomination_Totals) (p := (nn (nn (nn (mm (nn (mm (.mk [] (some (⟨[(5, .one (.own 288)), (18, kk), (19, kk), (20, ii)], [], [(288, .map true 1000116 tT0 (.int .i64))]⟩, [⟨.x 0, ⟨[(5, .one (.own 288))], [], [(288, .map true 1000116 tT0 (.int .i64))]⟩⟩])) .nil .nil) .nil)) (nn (mm (mm (.mk [.fz [5]] none .nil .nil) (mm (.mk [] (some (⟨[(9, .one (.own 171)), (36, .one (.own 592))], [], [(171, .arr 51 tT0), (592, .iter false tT0 (.int .i64))]⟩, [⟨.x 2, ⟨[(9, .one (.own 171))], [], [(171, .arr 51 tT0)]⟩⟩, ⟨.r, ⟨[(2, .one (.data (.sl tT0))), (3, ii)], [], []⟩⟩])) .nil .nil) .nil)) .nil)))))))
  Tryz.func36 rfl (by kernel_rfl) rfl rfl rfl rfl types_ok ⟨⟨ok_nomination_Check, ok_slices_SortFunc_api_Nomination_api_Nomination, ok_nomination_compare, trivial⟩, trivial⟩ mx (fun x => by kernel_rfl)

noncomputable def network_Port_1 (p : List UInt8 × Int × Int) (v : List UInt8) : Option (Bool) :=
 some (decide (p.1 = v))

noncomputable def fn_network_Port_1 : Fun :=
 ⟨79, 2, 1,
 ⟨[(0, .one (.data (.pair (.str) tT1))), (1, .one (.sel (.str)))], [], []⟩,
 ⟨[(0, bb)], [], []⟩,
 fun x => network_Port_1 x.1 x.2⟩
noncomputable def cx_network_Port_1 : Cx := ⟨types, [], [], 8, []⟩
theorem ok_network_Port_1 : FunOk Tryz.prog fn_network_Port_1 :=
 FunOk.intro (C := cx_network_Port_1) (p := .nil)
  Tryz.func79 rfl (by kernel_rfl) rfl rfl rfl rfl types_ok ⟨trivial, trivial⟩ mx (fun x => by kernel_rfl)

noncomputable def network_Port (n : List (List UInt8) × List yT1 × List (List UInt8 × Int × Int) × List (List UInt8 × Int × Int × Int × Int) × Int × Int) (name : List UInt8) : Option (Int) :=
 (slices_IndexFunc_api_Port_api_Port n.2.2.1 (fun h => (network_Port_1 h.1 name).bind fun y => some y)).bind fun r =>
 some r

noncomputable def fn_network_Port : Fun :=
 ⟨38, 2, 1,
 ⟨[(0, .one (.data (.pair (.sl (.str)) (.pair (.sl (.pair (.str) (.pair (.int .i64) (.pair (.int .i64) (.pair (.int .i64) (.pair (.int .i64) (.pair (.int .i64) (.sl (.pair (.int .i64) tT1))))))))) (.pair (.sl (.pair (.str) tT1)) (.pair (.sl (.pair (.str) (.pair (.int .i64) (.pair (.int .i64) tT1)))) tT1)))))), (1, ss)], [], []⟩,
 ⟨[(0, ii)], [], []⟩,
 fun x => network_Port x.1 x.2⟩
noncomputable def cx_network_Port : Cx := ⟨types, [], [fn_slices_IndexFunc_api_Port_api_Port, fn_network_Port_1], 9, []⟩
theorem ok_network_Port : FunOk Tryz.prog fn_network_Port :=
 FunOk.intro (C := cx_network_Port) (p := (nn (mm (.mk [.fv [(3, .str)]] none .nil .nil) .nil)))
  Tryz.func38 rfl (by kernel_rfl) rfl rfl rfl rfl types_ok ⟨⟨ok_slices_IndexFunc_api_Port_api_Port, ok_network_Port_1, trivial⟩, trivial⟩ mx (fun x => by kernel_rfl)

noncomputable def lots_rank (products : List (List UInt8 × Int × Int × Int × Int)) (order : List (List UInt8)) (index : Int) : Option (Int) :=
 gd (inB index products.length) <|
 (slices_Index_string_string order ((products.getD index.toNat ([], (0, (0, (0, 0))))).1)).bind fun r =>
 bif decide (0 ≤ r) then (
 some r)
 else (
 some (wi64 ((order.length : Int) + index)))

noncomputable def fn_lots_rank : Fun :=
 ⟨39, 3, 1,
 ⟨[(0, .one (.data (.sl (.pair (.str) (.pair (.int .i64) (.pair (.int .i64) tT1)))))), (1, .one (.data (.sl (.str)))), (2, ii)], [], []⟩,
 ⟨[(0, ii)], [], []⟩,
 fun x => lots_rank x.1 x.2.1 x.2.2⟩
noncomputable def cx_lots_rank : Cx := ⟨types, [], [fn_slices_Index_string_string], 22, []⟩
theorem ok_lots_rank : FunOk Tryz.prog fn_lots_rank :=
 FunOk.intro (C := cx_lots_rank) (p := .nil)
  Tryz.func39 rfl (by kernel_rfl) rfl rfl rfl rfl types_ok ⟨⟨ok_slices_Index_string_string, trivial⟩, trivial⟩ mx (fun x => by kernel_rfl)

noncomputable def fn_slices_insertionSortCmpFunc_lots_made : Fun :=
 ⟨111, 4, 0,
 ⟨[(0, .one (.own 0)), (1, ii), (2, ii), (3, .one (.fn [.pair tT0 (.pair (.pair (.int .i64) (.pair (.str) tT1)) (.int .i64)), .pair tT0 (.pair (.pair (.int .i64) (.pair (.str) tT1)) (.int .i64))] (.int .i64)))], [], [(0, .arr 90 (.pair tT0 (.pair (.pair (.int .i64) (.pair (.str) tT1)) (.int .i64))))]⟩,
 ⟨[], [], [(0, .arr 90 (.pair tT0 (.pair (.pair (.int .i64) (.pair (.str) tT1)) (.int .i64))))]⟩,
 fun x => (gs_insertionSortCmpFunc (E := (yT0 × (Int × List UInt8 × Int × Int) × Int)) (([], ([], ([], ([], (0, 0))))), ((0, ([], (0, 0))), 0))) x.1 x.2.1 x.2.2.1 x.2.2.2⟩
noncomputable def cx_slices_insertionSortCmpFunc_lots_made : Cx := ⟨types, [], [], 53, []⟩
theorem ok_slices_insertionSortCmpFunc_lots_made : FunOk Tryz.prog fn_slices_insertionSortCmpFunc_lots_made :=
 FunOk.intro (C := cx_slices_insertionSortCmpFunc_lots_made) (p := (nn (mm (.mk [] (some (⟨[(0, .one (.own 0)), (1, kk), (2, kk), (3, kk), (8, ii)], [], [(0, .arr 90 (.pair tT0 (.pair (.pair (.int .i64) (.pair (.str) tT1)) (.int .i64))))]⟩, [⟨.x 0, ⟨[], [], [(0, .arr 90 (.pair tT0 (.pair (.pair (.int .i64) (.pair (.str) tT1)) (.int .i64))))]⟩⟩])) (nn (mm (mm (nn (mm (.mk [] (some (⟨[(0, .one (.own 0)), (1, kk), (2, kk), (3, kk), (8, kk), (9, ii)], [], [(0, .arr 90 (.pair tT0 (.pair (.pair (.int .i64) (.pair (.str) tT1)) (.int .i64))))]⟩, [⟨.x 2, ⟨[(0, .one (.own 0)), (1, kk), (2, kk), (3, kk), (8, kk)], [], [(0, .arr 90 (.pair tT0 (.pair (.pair (.int .i64) (.pair (.str) tT1)) (.int .i64))))]⟩⟩])) (mm (mm (.mk [.join [⟨.n, ⟨[(0, .one (.own 0)), (1, kk), (2, kk), (3, kk), (8, kk), (9, kk), (34, bb)], [], [(0, .arr 90 (.pair tT0 (.pair (.pair (.int .i64) (.pair (.str) tT1)) (.int .i64))))]⟩⟩]] none .nil .nil) .nil) .nil) .nil) .nil)) .nil) .nil)) .nil) .nil)))
  Tryz.func111 rfl (by kernel_rfl) rfl rfl rfl rfl types_ok ⟨trivial, trivial⟩ mx (fun x => by kernel_rfl)

noncomputable def fn_slices_siftDownCmpFunc_lots_made : Fun :=
 ⟨131, 5, 0,
 ⟨[(0, .one (.own 0)), (1, ii), (2, ii), (3, ii), (4, .one (.fn [.pair tT0 (.pair (.pair (.int .i64) (.pair (.str) tT1)) (.int .i64)), .pair tT0 (.pair (.pair (.int .i64) (.pair (.str) tT1)) (.int .i64))] (.int .i64)))], [], [(0, .arr 90 (.pair tT0 (.pair (.pair (.int .i64) (.pair (.str) tT1)) (.int .i64))))]⟩,
 ⟨[], [], [(0, .arr 90 (.pair tT0 (.pair (.pair (.int .i64) (.pair (.str) tT1)) (.int .i64))))]⟩,
 fun x => (gs_siftDownCmpFunc (E := (yT0 × (Int × List UInt8 × Int × Int) × Int)) (([], ([], ([], ([], (0, 0))))), ((0, ([], (0, 0))), 0))) x.1 x.2.1 x.2.2.1 x.2.2.2.1 x.2.2.2.2⟩
noncomputable def cx_slices_siftDownCmpFunc_lots_made : Cx := ⟨types, [], [], 82, []⟩
theorem ok_slices_siftDownCmpFunc_lots_made : FunOk Tryz.prog fn_slices_siftDownCmpFunc_lots_made :=
 FunOk.intro (C := cx_slices_siftDownCmpFunc_lots_made) (p := (nn (mm (.mk [] (some (⟨[(0, .one (.own 0)), (2, kk), (3, kk), (4, kk), (10, ii)], [], [(0, .arr 90 (.pair tT0 (.pair (.pair (.int .i64) (.pair (.str) tT1)) (.int .i64))))]⟩, [⟨.x 0, ⟨[], [], [(0, .arr 90 (.pair tT0 (.pair (.pair (.int .i64) (.pair (.str) tT1)) (.int .i64))))]⟩⟩, ⟨.r, ⟨[], [], [(0, .arr 90 (.pair tT0 (.pair (.pair (.int .i64) (.pair (.str) tT1)) (.int .i64))))]⟩⟩])) (mm (nn (nn (mm (mm (.mk [.join [⟨.n, ⟨[(0, .one (.own 0)), (2, kk), (3, kk), (4, kk), (10, kk), (11, kk), (40, bb)], [], [(0, .arr 90 (.pair tT0 (.pair (.pair (.int .i64) (.pair (.str) tT1)) (.int .i64))))]⟩⟩]] none .nil .nil) (.mk [.join [⟨.n, ⟨[(0, .one (.own 0)), (2, kk), (3, kk), (4, kk), (10, kk), (11, ii)], [], [(0, .arr 90 (.pair tT0 (.pair (.pair (.int .i64) (.pair (.str) tT1)) (.int .i64))))]⟩⟩]] none .nil .nil)) .nil))) .nil) .nil) .nil)))
  Tryz.func131 rfl (by kernel_rfl) rfl rfl rfl rfl types_ok ⟨trivial, trivial⟩ mx (fun x => by kernel_rfl)

noncomputable def fn_slices_heapSortCmpFunc_lots_made : Fun :=
 ⟨112, 4, 0,
 ⟨[(0, .one (.own 0)), (1, ii), (2, ii), (3, .one (.fn [.pair tT0 (.pair (.pair (.int .i64) (.pair (.str) tT1)) (.int .i64)), .pair tT0 (.pair (.pair (.int .i64) (.pair (.str) tT1)) (.int .i64))] (.int .i64)))], [], [(0, .arr 90 (.pair tT0 (.pair (.pair (.int .i64) (.pair (.str) tT1)) (.int .i64))))]⟩,
 ⟨[], [], [(0, .arr 90 (.pair tT0 (.pair (.pair (.int .i64) (.pair (.str) tT1)) (.int .i64))))]⟩,
 fun x => (gs_heapSortCmpFunc (E := (yT0 × (Int × List UInt8 × Int × Int) × Int)) (([], ([], ([], ([], (0, 0))))), ((0, ([], (0, 0))), 0))) x.1 x.2.1 x.2.2.1 x.2.2.2⟩
noncomputable def cx_slices_heapSortCmpFunc_lots_made : Cx := ⟨types, [], [fn_slices_siftDownCmpFunc_lots_made], 60, []⟩
theorem ok_slices_heapSortCmpFunc_lots_made : FunOk Tryz.prog fn_slices_heapSortCmpFunc_lots_made :=
 FunOk.intro (C := cx_slices_heapSortCmpFunc_lots_made) (p := (nn (nn (nn (mm (nn (mm (.mk [] (some (⟨[(0, .one (.own 0)), (3, kk), (8, kk), (9, kk), (10, kk), (11, ii)], [], [(0, .arr 90 (.pair tT0 (.pair (.pair (.int .i64) (.pair (.str) tT1)) (.int .i64))))]⟩, [⟨.x 0, ⟨[(0, .one (.own 0)), (3, kk), (8, kk), (9, kk), (10, kk)], [], [(0, .arr 90 (.pair tT0 (.pair (.pair (.int .i64) (.pair (.str) tT1)) (.int .i64))))]⟩⟩])) .nil .nil) .nil)) (nn (mm (.mk [] (some (⟨[(0, .one (.own 0)), (3, kk), (8, kk), (9, kk), (12, ii)], [], [(0, .arr 90 (.pair tT0 (.pair (.pair (.int .i64) (.pair (.str) tT1)) (.int .i64))))]⟩, [⟨.x 2, ⟨[], [], [(0, .arr 90 (.pair tT0 (.pair (.pair (.int .i64) (.pair (.str) tT1)) (.int .i64))))]⟩⟩])) .nil .nil) .nil)))))))
  Tryz.func112 rfl (by kernel_rfl) rfl rfl rfl rfl types_ok ⟨⟨ok_slices_siftDownCmpFunc_lots_made, trivial⟩, trivial⟩ mx (fun x => by kernel_rfl)

noncomputable def fn_slices_breakPatternsCmpFunc_lots_made : Fun :=
 ⟨113, 4, 0,
 ⟨[(0, .one (.own 0)), (1, ii), (2, ii), (3, .one (.fn [.pair tT0 (.pair (.pair (.int .i64) (.pair (.str) tT1)) (.int .i64)), .pair tT0 (.pair (.pair (.int .i64) (.pair (.str) tT1)) (.int .i64))] (.int .i64)))], [], [(0, .arr 90 (.pair tT0 (.pair (.pair (.int .i64) (.pair (.str) tT1)) (.int .i64))))]⟩,
 ⟨[], [], [(0, .arr 90 (.pair tT0 (.pair (.pair (.int .i64) (.pair (.str) tT1)) (.int .i64))))]⟩,
 fun x => (gs_breakPatternsCmpFunc (E := (yT0 × (Int × List UInt8 × Int × Int) × Int)) (([], ([], ([], ([], (0, 0))))), ((0, ([], (0, 0))), 0))) x.1 x.2.1 x.2.2.1 x.2.2.2⟩
noncomputable def cx_slices_breakPatternsCmpFunc_lots_made : Cx := ⟨types, [], [fn_slices_nextPowerOfTwo, fn_slices_xorshift_Next], 67, []⟩
theorem ok_slices_breakPatternsCmpFunc_lots_made : FunOk Tryz.prog fn_slices_breakPatternsCmpFunc_lots_made :=
 FunOk.intro (C := cx_slices_breakPatternsCmpFunc_lots_made) (p := (nn (nn (mm (nn (nn (nn (mm (.mk [] (some (⟨[(0, .one (.own 0)), (1, kk), (8, kk), (9, .one (.ptr 160 0)), (10, kk), (11, ii)], [(160, 161, [.data (.int .u64)])], [(0, .arr 90 (.pair tT0 (.pair (.pair (.int .i64) (.pair (.str) tT1)) (.int .i64))))]⟩, [⟨.x 0, ⟨[], [], [(0, .arr 90 (.pair tT0 (.pair (.pair (.int .i64) (.pair (.str) tT1)) (.int .i64))))]⟩⟩])) (nn (mm (mm (nn (mm (nn (.mk [.join [⟨.n, ⟨[(0, .one (.own 0)), (1, kk), (8, kk), (9, .one (.ptr 160 0)), (10, kk), (11, kk), (12, ii)], [(160, 161, [.keep])], [(0, .arr 90 (.pair tT0 (.pair (.pair (.int .i64) (.pair (.str) tT1)) (.int .i64))))]⟩⟩]] none .nil .nil)) .nil)) .nil) .nil)) .nil) .nil)))) .nil))))
  Tryz.func113 rfl (by kernel_rfl) rfl rfl rfl rfl types_ok ⟨⟨ok_slices_nextPowerOfTwo, ok_slices_xorshift_Next, trivial⟩, trivial⟩ mx (fun x => by kernel_rfl)

noncomputable def fn_slices_order2CmpFunc_lots_made : Fun :=
 ⟨139, 5, 2,
 ⟨[(0, .one (.data (.sl (.pair tT0 (.pair (.pair (.int .i64) (.pair (.str) tT1)) (.int .i64)))))), (1, ii), (2, ii), (3, .one (.ptr 0 0)), (4, .one (.fn [.pair tT0 (.pair (.pair (.int .i64) (.pair (.str) tT1)) (.int .i64)), .pair tT0 (.pair (.pair (.int .i64) (.pair (.str) tT1)) (.int .i64))] (.int .i64)))], [(0, 3, [.data (.int .i64)])], []⟩,
 ⟨[(0, ii), (1, ii)], [(0, 3, [.data (.int .i64)])], []⟩,
 fun x => (gs_order2CmpFunc (E := (yT0 × (Int × List UInt8 × Int × Int) × Int)) (([], ([], ([], ([], (0, 0))))), ((0, ([], (0, 0))), 0))) x.1 x.2.1 x.2.2.1 x.2.2.2.1 x.2.2.2.2⟩
noncomputable def cx_slices_order2CmpFunc_lots_made : Cx := ⟨types, [], [], 32, []⟩
theorem ok_slices_order2CmpFunc_lots_made : FunOk Tryz.prog fn_slices_order2CmpFunc_lots_made :=
 FunOk.intro (C := cx_slices_order2CmpFunc_lots_made) (p := .nil)
  Tryz.func139 rfl (by kernel_rfl) rfl rfl rfl rfl types_ok ⟨trivial, trivial⟩ mx (fun x => by kernel_rfl)

noncomputable def fn_slices_medianCmpFunc_lots_made : Fun :=
 ⟨135, 6, 1,
 ⟨[(0, .one (.data (.sl (.pair tT0 (.pair (.pair (.int .i64) (.pair (.str) tT1)) (.int .i64)))))), (1, ii), (2, ii), (3, ii), (4, .one (.ptr 0 0)), (5, .one (.fn [.pair tT0 (.pair (.pair (.int .i64) (.pair (.str) tT1)) (.int .i64)), .pair tT0 (.pair (.pair (.int .i64) (.pair (.str) tT1)) (.int .i64))] (.int .i64)))], [(0, 3, [.data (.int .i64)])], []⟩,
 ⟨[(0, ii)], [(0, 3, [.data (.int .i64)])], []⟩,
 fun x => (gs_medianCmpFunc (E := (yT0 × (Int × List UInt8 × Int × Int) × Int)) (([], ([], ([], ([], (0, 0))))), ((0, ([], (0, 0))), 0))) x.1 x.2.1 x.2.2.1 x.2.2.2.1 x.2.2.2.2.1 x.2.2.2.2.2⟩
noncomputable def cx_slices_medianCmpFunc_lots_made : Cx := ⟨types, [], [fn_slices_order2CmpFunc_lots_made], 41, []⟩
theorem ok_slices_medianCmpFunc_lots_made : FunOk Tryz.prog fn_slices_medianCmpFunc_lots_made :=
 FunOk.intro (C := cx_slices_medianCmpFunc_lots_made) (p := .nil)
  Tryz.func135 rfl (by kernel_rfl) rfl rfl rfl rfl types_ok ⟨⟨ok_slices_order2CmpFunc_lots_made, trivial⟩, trivial⟩ mx (fun x => by kernel_rfl)

noncomputable def fn_slices_medianAdjacentCmpFunc_lots_made : Fun :=
 ⟨134, 4, 1,
 ⟨[(0, .one (.data (.sl (.pair tT0 (.pair (.pair (.int .i64) (.pair (.str) tT1)) (.int .i64)))))), (1, ii), (2, .one (.ptr 0 0)), (3, .one (.fn [.pair tT0 (.pair (.pair (.int .i64) (.pair (.str) tT1)) (.int .i64)), .pair tT0 (.pair (.pair (.int .i64) (.pair (.str) tT1)) (.int .i64))] (.int .i64)))], [(0, 3, [.data (.int .i64)])], []⟩,
 ⟨[(0, ii)], [(0, 3, [.data (.int .i64)])], []⟩,
 fun x => (gs_medianAdjacentCmpFunc (E := (yT0 × (Int × List UInt8 × Int × Int) × Int)) (([], ([], ([], ([], (0, 0))))), ((0, ([], (0, 0))), 0))) x.1 x.2.1 x.2.2.1 x.2.2.2⟩
noncomputable def cx_slices_medianAdjacentCmpFunc_lots_made : Cx := ⟨types, [], [fn_slices_medianCmpFunc_lots_made], 18, []⟩
theorem ok_slices_medianAdjacentCmpFunc_lots_made : FunOk Tryz.prog fn_slices_medianAdjacentCmpFunc_lots_made :=
 FunOk.intro (C := cx_slices_medianAdjacentCmpFunc_lots_made) (p := .nil)
  Tryz.func134 rfl (by kernel_rfl) rfl rfl rfl rfl types_ok ⟨⟨ok_slices_medianCmpFunc_lots_made, trivial⟩, trivial⟩ mx (fun x => by kernel_rfl)

noncomputable def fn_slices_choosePivotCmpFunc_lots_made : Fun :=
 ⟨114, 4, 2,
 ⟨[(0, .one (.data (.sl (.pair tT0 (.pair (.pair (.int .i64) (.pair (.str) tT1)) (.int .i64)))))), (1, ii), (2, ii), (3, .one (.fn [.pair tT0 (.pair (.pair (.int .i64) (.pair (.str) tT1)) (.int .i64)), .pair tT0 (.pair (.pair (.int .i64) (.pair (.str) tT1)) (.int .i64))] (.int .i64)))], [], []⟩,
 ⟨[(0, ii), (1, ii)], [], []⟩,
 fun x => (gs_choosePivotCmpFunc (E := (yT0 × (Int × List UInt8 × Int × Int) × Int)) (([], ([], ([], ([], (0, 0))))), ((0, ([], (0, 0))), 0))) x.1 x.2.1 x.2.2.1 x.2.2.2⟩
noncomputable def cx_slices_choosePivotCmpFunc_lots_made : Cx := ⟨types, [], [fn_slices_medianAdjacentCmpFunc_lots_made, fn_slices_medianCmpFunc_lots_made], 63, []⟩
theorem ok_slices_choosePivotCmpFunc_lots_made : FunOk Tryz.prog fn_slices_choosePivotCmpFunc_lots_made :=
 FunOk.intro (C := cx_slices_choosePivotCmpFunc_lots_made) (p := (nn (nn (nn (nn (nn (nn (mm (nn (.mk [.join [⟨.n, ⟨[(11, .one (.ptr 192 0)), (13, ii)], [(192, 3, [.data (.int .i64)])], []⟩⟩]] none (mm (nn (.mk [.join [⟨.n, ⟨[(0, kk), (3, kk), (11, .one (.ptr 192 0)), (12, ii), (13, ii), (14, ii)], [(192, 3, [.data (.int .i64)])], []⟩⟩]] none .nil .nil)) .nil) .nil)) .nil))))))))
  Tryz.func114 rfl (by kernel_rfl) rfl rfl rfl rfl types_ok ⟨⟨ok_slices_medianAdjacentCmpFunc_lots_made, ok_slices_medianCmpFunc_lots_made, trivial⟩, trivial⟩ mx (fun x => by kernel_rfl)

noncomputable def fn_slices_reverseRangeCmpFunc_lots_made : Fun :=
 ⟨115, 4, 0,
 ⟨[(0, .one (.own 0)), (1, ii), (2, ii), (3, .one (.fn [.pair tT0 (.pair (.pair (.int .i64) (.pair (.str) tT1)) (.int .i64)), .pair tT0 (.pair (.pair (.int .i64) (.pair (.str) tT1)) (.int .i64))] (.int .i64)))], [], [(0, .arr 90 (.pair tT0 (.pair (.pair (.int .i64) (.pair (.str) tT1)) (.int .i64))))]⟩,
 ⟨[], [], [(0, .arr 90 (.pair tT0 (.pair (.pair (.int .i64) (.pair (.str) tT1)) (.int .i64))))]⟩,
 fun x => (gs_reverseRangeCmpFunc (E := (yT0 × (Int × List UInt8 × Int × Int) × Int)) (([], ([], ([], ([], (0, 0))))), ((0, ([], (0, 0))), 0))) x.1 x.2.1 x.2.2.1 x.2.2.2⟩
noncomputable def cx_slices_reverseRangeCmpFunc_lots_made : Cx := ⟨types, [], [], 34, []⟩
theorem ok_slices_reverseRangeCmpFunc_lots_made : FunOk Tryz.prog fn_slices_reverseRangeCmpFunc_lots_made :=
 FunOk.intro (C := cx_slices_reverseRangeCmpFunc_lots_made) (p := (nn (nn (mm (.mk [] (some (⟨[(0, .one (.own 0)), (8, ii), (9, ii)], [], [(0, .arr 90 (.pair tT0 (.pair (.pair (.int .i64) (.pair (.str) tT1)) (.int .i64))))]⟩, [⟨.x 0, ⟨[], [], [(0, .arr 90 (.pair tT0 (.pair (.pair (.int .i64) (.pair (.str) tT1)) (.int .i64))))]⟩⟩])) .nil .nil) .nil))))
  Tryz.func115 rfl (by kernel_rfl) rfl rfl rfl rfl types_ok ⟨trivial, trivial⟩ mx (fun x => by kernel_rfl)

noncomputable def fn_slices_partialInsertionSortCmpFunc_lots_made : Fun :=
 ⟨116, 4, 1,
 ⟨[(0, .one (.own 0)), (1, ii), (2, ii), (3, .one (.fn [.pair tT0 (.pair (.pair (.int .i64) (.pair (.str) tT1)) (.int .i64)), .pair tT0 (.pair (.pair (.int .i64) (.pair (.str) tT1)) (.int .i64))] (.int .i64)))], [], [(0, .arr 90 (.pair tT0 (.pair (.pair (.int .i64) (.pair (.str) tT1)) (.int .i64))))]⟩,
 ⟨[(0, bb)], [], [(0, .arr 90 (.pair tT0 (.pair (.pair (.int .i64) (.pair (.str) tT1)) (.int .i64))))]⟩,
 fun x => (gs_partialInsertionSortCmpFunc (E := (yT0 × (Int × List UInt8 × Int × Int) × Int)) (([], ([], ([], ([], (0, 0))))), ((0, ([], (0, 0))), 0))) x.1 x.2.1 x.2.2.1 x.2.2.2⟩
noncomputable def cx_slices_partialInsertionSortCmpFunc_lots_made : Cx := ⟨types, [], [], 141, []⟩
theorem ok_slices_partialInsertionSortCmpFunc_lots_made : FunOk Tryz.prog fn_slices_partialInsertionSortCmpFunc_lots_made :=
 FunOk.intro (C := cx_slices_partialInsertionSortCmpFunc_lots_made) (p := (nn (nn (mm (nn (mm (.mk [] (some (⟨[(0, .one (.own 0)), (1, kk), (2, kk), (3, kk), (9, ii), (10, ii)], [], [(0, .arr 90 (.pair tT0 (.pair (.pair (.int .i64) (.pair (.str) tT1)) (.int .i64))))]⟩, [⟨.x 0, ⟨[], [], [(0, .arr 90 (.pair tT0 (.pair (.pair (.int .i64) (.pair (.str) tT1)) (.int .i64))))]⟩⟩, ⟨.r, ⟨[(8, bb)], [], [(0, .arr 90 (.pair tT0 (.pair (.pair (.int .i64) (.pair (.str) tT1)) (.int .i64))))]⟩⟩])) (nn (mm (mm (mm (mm (.mk [] (some (⟨[(0, .one (.own 0)), (1, kk), (2, kk), (3, kk), (9, ii), (10, kk)], [], [(0, .arr 90 (.pair tT0 (.pair (.pair (.int .i64) (.pair (.str) tT1)) (.int .i64))))]⟩, [⟨.x 2, ⟨[(0, .one (.own 0)), (1, kk), (2, kk), (3, kk), (9, ii), (10, kk)], [], [(0, .arr 90 (.pair tT0 (.pair (.pair (.int .i64) (.pair (.str) tT1)) (.int .i64))))]⟩⟩])) (mm (mm (.mk [.join [⟨.n, ⟨[(0, .one (.own 0)), (1, kk), (2, kk), (3, kk), (9, kk), (10, kk), (36, bb)], [], [(0, .arr 90 (.pair tT0 (.pair (.pair (.int .i64) (.pair (.str) tT1)) (.int .i64))))]⟩⟩]] none .nil .nil) .nil) .nil) .nil) .nil) (nn (nn (nn (mm (nn (.mk [.join [⟨.n, ⟨[(0, .one (.own 0)), (1, kk), (2, kk), (3, kk), (9, kk), (10, kk)], [], [(0, .arr 90 (.pair tT0 (.pair (.pair (.int .i64) (.pair (.str) tT1)) (.int .i64))))]⟩⟩]] none (nn (mm (.mk [] (some (⟨[(0, .one (.own 0)), (1, kk), (2, kk), (3, kk), (9, kk), (10, kk), (11, ii)], [], [(0, .arr 90 (.pair tT0 (.pair (.pair (.int .i64) (.pair (.str) tT1)) (.int .i64))))]⟩, [⟨.x 4, ⟨[(0, .one (.own 0)), (1, kk), (2, kk), (3, kk), (9, kk), (10, kk)], [], [(0, .arr 90 (.pair tT0 (.pair (.pair (.int .i64) (.pair (.str) tT1)) (.int .i64))))]⟩⟩])) .nil .nil) .nil)) .nil)) (nn (.mk [.join [⟨.n, ⟨[(0, .one (.own 0)), (1, kk), (2, kk), (3, kk), (9, kk), (10, kk)], [], [(0, .arr 90 (.pair tT0 (.pair (.pair (.int .i64) (.pair (.str) tT1)) (.int .i64))))]⟩⟩]] none (nn (mm (.mk [] (some (⟨[(0, .one (.own 0)), (1, kk), (2, kk), (3, kk), (9, kk), (10, kk), (12, ii)], [], [(0, .arr 90 (.pair tT0 (.pair (.pair (.int .i64) (.pair (.str) tT1)) (.int .i64))))]⟩, [⟨.x 6, ⟨[(0, .one (.own 0)), (1, kk), (2, kk), (3, kk), (9, kk), (10, kk)], [], [(0, .arr 90 (.pair tT0 (.pair (.pair (.int .i64) (.pair (.str) tT1)) (.int .i64))))]⟩⟩])) .nil .nil) .nil)) .nil))))))) .nil) .nil)) .nil) .nil)) .nil))))
  Tryz.func116 rfl (by kernel_rfl) rfl rfl rfl rfl types_ok ⟨trivial, trivial⟩ mx (fun x => by kernel_rfl)

noncomputable def fn_slices_partitionEqualCmpFunc_lots_made : Fun :=
 ⟨117, 5, 1,
 ⟨[(0, .one (.own 0)), (1, ii), (2, ii), (3, ii), (4, .one (.fn [.pair tT0 (.pair (.pair (.int .i64) (.pair (.str) tT1)) (.int .i64)), .pair tT0 (.pair (.pair (.int .i64) (.pair (.str) tT1)) (.int .i64))] (.int .i64)))], [], [(0, .arr 90 (.pair tT0 (.pair (.pair (.int .i64) (.pair (.str) tT1)) (.int .i64))))]⟩,
 ⟨[(0, ii)], [], [(0, .arr 90 (.pair tT0 (.pair (.pair (.int .i64) (.pair (.str) tT1)) (.int .i64))))]⟩,
 fun x => (gs_partitionEqualCmpFunc (E := (yT0 × (Int × List UInt8 × Int × Int) × Int)) (([], ([], ([], ([], (0, 0))))), ((0, ([], (0, 0))), 0))) x.1 x.2.1 x.2.2.1 x.2.2.2.1 x.2.2.2.2⟩
noncomputable def cx_slices_partitionEqualCmpFunc_lots_made : Cx := ⟨types, [], [], 90, []⟩
theorem ok_slices_partitionEqualCmpFunc_lots_made : FunOk Tryz.prog fn_slices_partitionEqualCmpFunc_lots_made :=
 FunOk.intro (C := cx_slices_partitionEqualCmpFunc_lots_made) (p := (nn (nn (nn (mm (mm (.mk [] (some (⟨[(0, .one (.own 0)), (1, kk), (4, kk), (11, ii), (12, ii)], [], [(0, .arr 90 (.pair tT0 (.pair (.pair (.int .i64) (.pair (.str) tT1)) (.int .i64))))]⟩, [⟨.x 0, ⟨[(11, ii)], [], [(0, .arr 90 (.pair tT0 (.pair (.pair (.int .i64) (.pair (.str) tT1)) (.int .i64))))]⟩⟩])) (mm (mm (mm (.mk [] (some (⟨[(0, .one (.own 0)), (1, kk), (4, kk), (11, ii), (12, kk)], [], [(0, .arr 90 (.pair tT0 (.pair (.pair (.int .i64) (.pair (.str) tT1)) (.int .i64))))]⟩, [⟨.x 2, ⟨[(0, .one (.own 0)), (1, kk), (4, kk), (11, ii), (12, kk)], [], [(0, .arr 90 (.pair tT0 (.pair (.pair (.int .i64) (.pair (.str) tT1)) (.int .i64))))]⟩⟩])) (mm (mm (.mk [.join [⟨.n, ⟨[(0, .one (.own 0)), (1, kk), (4, kk), (11, kk), (12, kk), (47, bb)], [], [(0, .arr 90 (.pair tT0 (.pair (.pair (.int .i64) (.pair (.str) tT1)) (.int .i64))))]⟩⟩]] none .nil .nil) .nil) .nil) .nil) .nil) (mm (mm (.mk [] (some (⟨[(0, .one (.own 0)), (1, kk), (4, kk), (11, kk), (12, ii)], [], [(0, .arr 90 (.pair tT0 (.pair (.pair (.int .i64) (.pair (.str) tT1)) (.int .i64))))]⟩, [⟨.x 4, ⟨[(0, .one (.own 0)), (1, kk), (4, kk), (11, kk), (12, ii)], [], [(0, .arr 90 (.pair tT0 (.pair (.pair (.int .i64) (.pair (.str) tT1)) (.int .i64))))]⟩⟩])) (mm (mm (.mk [.join [⟨.n, ⟨[(0, .one (.own 0)), (1, kk), (4, kk), (11, kk), (12, kk), (65, bb)], [], [(0, .arr 90 (.pair tT0 (.pair (.pair (.int .i64) (.pair (.str) tT1)) (.int .i64))))]⟩⟩]] none .nil .nil) .nil) .nil) .nil) .nil) .nil)) .nil) .nil) .nil) .nil)))))
  Tryz.func117 rfl (by kernel_rfl) rfl rfl rfl rfl types_ok ⟨trivial, trivial⟩ mx (fun x => by kernel_rfl)

noncomputable def fn_slices_partitionCmpFunc_lots_made : Fun :=
 ⟨118, 5, 2,
 ⟨[(0, .one (.own 0)), (1, ii), (2, ii), (3, ii), (4, .one (.fn [.pair tT0 (.pair (.pair (.int .i64) (.pair (.str) tT1)) (.int .i64)), .pair tT0 (.pair (.pair (.int .i64) (.pair (.str) tT1)) (.int .i64))] (.int .i64)))], [], [(0, .arr 90 (.pair tT0 (.pair (.pair (.int .i64) (.pair (.str) tT1)) (.int .i64))))]⟩,
 ⟨[(0, ii), (1, bb)], [], [(0, .arr 90 (.pair tT0 (.pair (.pair (.int .i64) (.pair (.str) tT1)) (.int .i64))))]⟩,
 fun x => (gs_partitionCmpFunc (E := (yT0 × (Int × List UInt8 × Int × Int) × Int)) (([], ([], ([], ([], (0, 0))))), ((0, ([], (0, 0))), 0))) x.1 x.2.1 x.2.2.1 x.2.2.2.1 x.2.2.2.2⟩
noncomputable def cx_slices_partitionCmpFunc_lots_made : Cx := ⟨types, [], [], 178, []⟩
theorem ok_slices_partitionCmpFunc_lots_made : FunOk Tryz.prog fn_slices_partitionCmpFunc_lots_made :=
 FunOk.intro (C := cx_slices_partitionCmpFunc_lots_made) (p := (nn (nn (nn (mm (mm (.mk [] (some (⟨[(0, .one (.own 0)), (1, kk), (4, kk), (12, ii), (13, kk)], [], [(0, .arr 90 (.pair tT0 (.pair (.pair (.int .i64) (.pair (.str) tT1)) (.int .i64))))]⟩, [⟨.x 0, ⟨[(0, .one (.own 0)), (1, kk), (4, kk), (12, ii), (13, kk)], [], [(0, .arr 90 (.pair tT0 (.pair (.pair (.int .i64) (.pair (.str) tT1)) (.int .i64))))]⟩⟩])) (mm (mm (.mk [.join [⟨.n, ⟨[(0, .one (.own 0)), (1, kk), (4, kk), (12, kk), (13, kk), (47, bb)], [], [(0, .arr 90 (.pair tT0 (.pair (.pair (.int .i64) (.pair (.str) tT1)) (.int .i64))))]⟩⟩]] none .nil .nil) .nil) .nil) .nil) .nil) (mm (mm (.mk [] (some (⟨[(0, .one (.own 0)), (1, kk), (4, kk), (12, kk), (13, ii)], [], [(0, .arr 90 (.pair tT0 (.pair (.pair (.int .i64) (.pair (.str) tT1)) (.int .i64))))]⟩, [⟨.x 2, ⟨[(0, .one (.own 0)), (1, kk), (4, kk), (12, kk), (13, ii)], [], [(0, .arr 90 (.pair tT0 (.pair (.pair (.int .i64) (.pair (.str) tT1)) (.int .i64))))]⟩⟩])) (mm (mm (.mk [.join [⟨.n, ⟨[(0, .one (.own 0)), (1, kk), (4, kk), (12, kk), (13, kk), (66, bb)], [], [(0, .arr 90 (.pair tT0 (.pair (.pair (.int .i64) (.pair (.str) tT1)) (.int .i64))))]⟩⟩]] none .nil .nil) .nil) .nil) .nil) .nil) (nn (nn (nn (nn (mm (mm (.mk [] (some (⟨[(0, .one (.own 0)), (1, kk), (4, kk), (12, ii), (13, ii)], [], [(0, .arr 90 (.pair tT0 (.pair (.pair (.int .i64) (.pair (.str) tT1)) (.int .i64))))]⟩, [⟨.x 4, ⟨[(0, .one (.own 0)), (1, kk), (13, ii)], [], [(0, .arr 90 (.pair tT0 (.pair (.pair (.int .i64) (.pair (.str) tT1)) (.int .i64))))]⟩⟩])) (mm (mm (mm (.mk [] (some (⟨[(0, .one (.own 0)), (1, kk), (4, kk), (12, ii), (13, kk)], [], [(0, .arr 90 (.pair tT0 (.pair (.pair (.int .i64) (.pair (.str) tT1)) (.int .i64))))]⟩, [⟨.x 6, ⟨[(0, .one (.own 0)), (1, kk), (4, kk), (12, ii), (13, kk)], [], [(0, .arr 90 (.pair tT0 (.pair (.pair (.int .i64) (.pair (.str) tT1)) (.int .i64))))]⟩⟩])) (mm (mm (.mk [.join [⟨.n, ⟨[(0, .one (.own 0)), (1, kk), (4, kk), (12, kk), (13, kk), (120, bb)], [], [(0, .arr 90 (.pair tT0 (.pair (.pair (.int .i64) (.pair (.str) tT1)) (.int .i64))))]⟩⟩]] none .nil .nil) .nil) .nil) .nil) .nil) (mm (mm (.mk [] (some (⟨[(0, .one (.own 0)), (1, kk), (4, kk), (12, kk), (13, ii)], [], [(0, .arr 90 (.pair tT0 (.pair (.pair (.int .i64) (.pair (.str) tT1)) (.int .i64))))]⟩, [⟨.x 8, ⟨[(0, .one (.own 0)), (1, kk), (4, kk), (12, kk), (13, ii)], [], [(0, .arr 90 (.pair tT0 (.pair (.pair (.int .i64) (.pair (.str) tT1)) (.int .i64))))]⟩⟩])) (mm (mm (.mk [.join [⟨.n, ⟨[(0, .one (.own 0)), (1, kk), (4, kk), (12, kk), (13, kk), (139, bb)], [], [(0, .arr 90 (.pair tT0 (.pair (.pair (.int .i64) (.pair (.str) tT1)) (.int .i64))))]⟩⟩]] none .nil .nil) .nil) .nil) .nil) .nil) .nil)) .nil) .nil) .nil) .nil)))))))))))
  Tryz.func118 rfl (by kernel_rfl) rfl rfl rfl rfl types_ok ⟨trivial, trivial⟩ mx (fun x => by kernel_rfl)

noncomputable def fn_slices_pdqsortCmpFunc_lots_made_F (n : Nat) : Fun :=
 ⟨81, 5, 0,
 ⟨[(0, .one (.own 0)), (1, ii), (2, ii), (3, ii), (4, .one (.fn [.pair tT0 (.pair (.pair (.int .i64) (.pair (.str) tT1)) (.int .i64)), .pair tT0 (.pair (.pair (.int .i64) (.pair (.str) tT1)) (.int .i64))] (.int .i64)))], [], [(0, .arr 90 (.pair tT0 (.pair (.pair (.int .i64) (.pair (.str) tT1)) (.int .i64))))]⟩,
 ⟨[], [], [(0, .arr 90 (.pair tT0 (.pair (.pair (.int .i64) (.pair (.str) tT1)) (.int .i64))))]⟩,
 fun x => (gs_pdqsortCmpFunc_F (E := (yT0 × (Int × List UInt8 × Int × Int) × Int)) (([], ([], ([], ([], (0, 0))))), ((0, ([], (0, 0))), 0))) n x.1 x.2.1 x.2.2.1 x.2.2.2.1 x.2.2.2.2⟩
noncomputable def fn_slices_pdqsortCmpFunc_lots_made : Fun := fn_slices_pdqsortCmpFunc_lots_made_F 18446744073709551616
noncomputable def cx_slices_pdqsortCmpFunc_lots_made (n : Nat) : Cx := ⟨types, [], [fn_slices_insertionSortCmpFunc_lots_made, fn_slices_heapSortCmpFunc_lots_made, fn_slices_breakPatternsCmpFunc_lots_made, fn_slices_choosePivotCmpFunc_lots_made, fn_slices_reverseRangeCmpFunc_lots_made, fn_slices_partialInsertionSortCmpFunc_lots_made, fn_slices_partitionEqualCmpFunc_lots_made, fn_slices_partitionCmpFunc_lots_made, fn_slices_pdqsortCmpFunc_lots_made_F n], 148, []⟩
theorem ok_slices_pdqsortCmpFunc_lots_made_F : ∀ n : Nat, FunOk Tryz.prog (fn_slices_pdqsortCmpFunc_lots_made_F n)
 | 0 => FunOk.nothing Tryz.func81 rfl (by kernel_rfl) (fun x => rfl)
 | n + 1 => FunOk.intro (C := cx_slices_pdqsortCmpFunc_lots_made n) (p := (nn (nn (mm (.mk [] (some (⟨[(0, .one (.own 0)), (1, ii), (2, ii), (3, ii), (4, kk), (10, bb), (11, bb)], [], [(0, .arr 90 (.pair tT0 (.pair (.pair (.int .i64) (.pair (.str) tT1)) (.int .i64))))]⟩, [⟨.r, ⟨[], [], [(0, .arr 90 (.pair tT0 (.pair (.pair (.int .i64) (.pair (.str) tT1)) (.int .i64))))]⟩⟩])) (mm (nn (nn (nn (mm (nn (.mk [.join [⟨.n, ⟨[(0, .one (.own 0)), (1, kk), (2, kk), (3, ii), (4, kk), (10, kk), (11, kk), (12, kk)], [], [(0, .arr 90 (.pair tT0 (.pair (.pair (.int .i64) (.pair (.str) tT1)) (.int .i64))))]⟩⟩]] none .nil .nil)) (nn (mm (nn (.mk [.join [⟨.n, ⟨[(0, .one (.own 0)), (1, kk), (2, kk), (3, kk), (4, kk), (10, kk), (11, kk), (12, kk), (13, ii), (14, ii)], [], [(0, .arr 90 (.pair tT0 (.pair (.pair (.int .i64) (.pair (.str) tT1)) (.int .i64))))]⟩⟩]] none .nil .nil)) (mm (mm (.mk [.join [⟨.n, ⟨[(0, .one (.own 0)), (1, kk), (2, kk), (3, kk), (4, kk), (10, kk), (11, kk), (12, kk), (13, kk), (75, bb)], [], [(0, .arr 90 (.pair tT0 (.pair (.pair (.int .i64) (.pair (.str) tT1)) (.int .i64))))]⟩⟩]] none .nil .nil) (.mk [.join [⟨.n, ⟨[(0, .one (.own 0)), (1, kk), (2, kk), (3, kk), (4, kk), (10, kk), (11, kk), (12, kk), (13, kk)], [], [(0, .arr 90 (.pair tT0 (.pair (.pair (.int .i64) (.pair (.str) tT1)) (.int .i64))))]⟩⟩, ⟨.r, ⟨[], [], [(0, .arr 90 (.pair tT0 (.pair (.pair (.int .i64) (.pair (.str) tT1)) (.int .i64))))]⟩⟩]] none .nil .nil)) (mm (mm (.mk [.join [⟨.n, ⟨[(0, .one (.own 0)), (1, kk), (2, kk), (3, kk), (4, kk), (10, kk), (11, kk), (12, kk), (13, kk), (97, bb)], [], [(0, .arr 90 (.pair tT0 (.pair (.pair (.int .i64) (.pair (.str) tT1)) (.int .i64))))]⟩⟩]] none .nil .nil) .nil) .nil)))))))) .nil) .nil) .nil))))
  Tryz.func81 rfl (by kernel_rfl) rfl rfl rfl rfl types_ok ⟨⟨ok_slices_insertionSortCmpFunc_lots_made, ok_slices_heapSortCmpFunc_lots_made, ok_slices_breakPatternsCmpFunc_lots_made, ok_slices_choosePivotCmpFunc_lots_made, ok_slices_reverseRangeCmpFunc_lots_made, ok_slices_partialInsertionSortCmpFunc_lots_made, ok_slices_partitionEqualCmpFunc_lots_made, ok_slices_partitionCmpFunc_lots_made, ok_slices_pdqsortCmpFunc_lots_made_F n, trivial⟩, trivial⟩ mx (fun x => by kernel_rfl)
theorem ok_slices_pdqsortCmpFunc_lots_made : FunOk Tryz.prog fn_slices_pdqsortCmpFunc_lots_made := ok_slices_pdqsortCmpFunc_lots_made_F 18446744073709551616

noncomputable def slices_SortFunc_lots_made_lots_made (cmp : (yT0 × (Int × List UInt8 × Int × Int) × Int) × (yT0 × (Int × List UInt8 × Int × Int) × Int) × Unit → Option Int) (x : List (yT0 × (Int × List UInt8 × Int × Int) × Int)) : Option (List (yT0 × (Int × List UInt8 × Int × Int) × Int)) := gs_SortFunc (([], ([], ([], ([], (0, 0))))), ((0, ([], (0, 0))), 0)) cmp x

noncomputable def fn_slices_SortFunc_lots_made_lots_made : Fun :=
 ⟨40, 2, 0,
 ⟨[(0, .one (.own 0)), (1, .one (.fn [.pair tT0 (.pair (.pair (.int .i64) (.pair (.str) tT1)) (.int .i64)), .pair tT0 (.pair (.pair (.int .i64) (.pair (.str) tT1)) (.int .i64))] (.int .i64)))], [], [(0, .arr 90 (.pair tT0 (.pair (.pair (.int .i64) (.pair (.str) tT1)) (.int .i64))))]⟩,
 ⟨[], [], [(0, .arr 90 (.pair tT0 (.pair (.pair (.int .i64) (.pair (.str) tT1)) (.int .i64))))]⟩,
 fun x => slices_SortFunc_lots_made_lots_made x.1 x.2⟩
noncomputable def cx_slices_SortFunc_lots_made_lots_made : Cx := ⟨types, [], [fn_math_bits_Len, fn_slices_pdqsortCmpFunc_lots_made], 14, []⟩
theorem ok_slices_SortFunc_lots_made_lots_made : FunOk Tryz.prog fn_slices_SortFunc_lots_made_lots_made :=
 FunOk.intro (C := cx_slices_SortFunc_lots_made_lots_made) (p := .nil)
  Tryz.func40 rfl (by kernel_rfl) rfl rfl rfl rfl types_ok ⟨⟨ok_math_bits_Len, ok_slices_pdqsortCmpFunc_lots_made, trivial⟩, trivial⟩ mx (fun x => by kernel_rfl)

noncomputable def lots_Batches_1 (a : yT0 × (Int × List UInt8 × Int × Int) × Int) (b : yT0 × (Int × List UInt8 × Int × Int) × Int) : Option (Int) :=
 (cmp_Compare_int a.1.2.2.2.2.1 b.1.2.2.2.2.1).bind fun r =>
 (cmp_Compare_int a.2.2 b.2.2).bind fun r2 =>
 (cmp_Compare_string a.1.1 b.1.1).bind fun r3 =>
 (cmp_Compare_string a.1.2.2.1 b.1.2.2.1).bind fun r4 =>
 (cmp_Compare_string a.1.2.2.2.1 b.1.2.2.2.1).bind fun r5 =>
 (cmp_Or_int [r, r2, r3, r4, r5]).bind fun r6 =>
 some r6

noncomputable def fn_lots_Batches_1 : Fun :=
 ⟨41, 2, 1,
 ⟨[(0, .one (.data (.pair tT0 (.pair (.pair (.int .i64) (.pair (.str) tT1)) (.int .i64))))), (1, .one (.data (.pair tT0 (.pair (.pair (.int .i64) (.pair (.str) tT1)) (.int .i64)))))], [], []⟩,
 ⟨[(0, ii)], [], []⟩,
 fun x => lots_Batches_1 x.1 x.2⟩
noncomputable def cx_lots_Batches_1 : Cx := ⟨types, [], [fn_cmp_Compare_int, fn_cmp_Compare_string, fn_cmp_Or_int], 38, []⟩
theorem ok_lots_Batches_1 : FunOk Tryz.prog fn_lots_Batches_1 :=
 FunOk.intro (C := cx_lots_Batches_1) (p := .nil)
  Tryz.func41 rfl (by kernel_rfl) rfl rfl rfl rfl types_ok ⟨⟨ok_cmp_Compare_int, ok_cmp_Compare_string, ok_cmp_Or_int, trivial⟩, trivial⟩ mx (fun x => by kernel_rfl)

noncomputable def lots_Batches_L0 (n : List (List UInt8) × List yT1 × List (List UInt8 × Int × Int) × List (List UInt8 × Int × Int × Int × Int) × Int × Int) (products : List (List UInt8 × Int × Int × Int × Int)) (order : List (List UInt8)) (r4 : (List yT0) × Int) (v : Int) (all : List (yT0 × (Int × List UInt8 × Int × Int) × Int)) : Option ((Int × List (yT0 × (Int × List UInt8 × Int × Int) × Int)) ⊕ ((List (yT0 × (Int × List UInt8 × Int × Int) × Int)) ⊕ Int)) :=
 bif decide (v < (r4.1.length : Int)) then (
 gd (inB v r4.1.length) <|
 (product_Find products (((r4.1.getD v.toNat ([], ([], ([], ([], (0, 0)))))).2).1)).bind fun r5 =>
 (network_Port (n.1, (n.2.1, (n.2.2.1, (n.2.2.2.1, (n.2.2.2.2.1, n.2.2.2.2.2))))) ((((r4.1.getD v.toNat ([], ([], ([], ([], (0, 0)))))).2).2).1)).bind fun r6 =>
 (network_Port (n.1, (n.2.1, (n.2.2.1, (n.2.2.2.1, (n.2.2.2.2.1, n.2.2.2.2.2))))) (((((r4.1.getD v.toNat ([], ([], ([], ([], (0, 0)))))).2).2).2).1)).bind fun r7 =>
 Option.bind (α := Bool × List (yT0 × (Int × List UInt8 × Int × Int) × Int)) (
 bif decide (r5 < 0) then (
 some (true, all))
 else (
 bif decide (r6 < 0) then (
 some (true, all))
 else (
 some (decide (r7 < 0), all)))) fun s =>
 bif s.1 then (
 some (.inr (.inr 8)))
 else (
 (lots_rank products order r5).bind fun r8 =>
 gd (fits (s.2.length + 1) 128) <|
 some (.inl (wi64 (v + 1), s.2 ++ [(((r4.1.getD v.toNat ([], ([], ([], ([], (0, 0)))))).1, (((r4.1.getD v.toNat ([], ([], ([], ([], (0, 0)))))).2).1, ((((r4.1.getD v.toNat ([], ([], ([], ([], (0, 0)))))).2).2).1, (((((r4.1.getD v.toNat ([], ([], ([], ([], (0, 0)))))).2).2).2).1, ((((((r4.1.getD v.toNat ([], ([], ([], ([], (0, 0)))))).2).2).2).2).1, (((((r4.1.getD v.toNat ([], ([], ([], ([], (0, 0)))))).2).2).2).2).2))))), ((r5, ((r4.1.getD v.toNat ([], ([], ([], ([], (0, 0)))))).1, (r6, r7))), r8))]))))
 else (
 some (.inr (.inl all)))

noncomputable def lots_Batches_L1 (r9 : List (yT0 × (Int × List UInt8 × Int × Int) × Int)) (v2 : Int) (batches : List (Int × List UInt8 × Int × Int)) (lots : List (Int × Int × Int)) (v3 : List (yT0 × (Int × List UInt8 × Int × Int) × Int)) : Option ((Int × (List (Int × List UInt8 × Int × Int)) × (List (Int × Int × Int)) × List (yT0 × (Int × List UInt8 × Int × Int) × Int)) ⊕ ((List (Int × List UInt8 × Int × Int)) × List (Int × Int × Int))) :=
 bif decide (v2 < (r9.length : Int)) then (
 gd (inB v2 v3.length) <|
 gd (fits (batches.length + 1) 40) <|
 gd (fits (lots.length + 1) 24) <|
 some (.inl (wi64 (v2 + 1), batches ++ [((((v3.getD v2.toNat (([], ([], ([], ([], (0, 0))))), ((0, ([], (0, 0))), 0))).2).1).1, (((((v3.getD v2.toNat (([], ([], ([], ([], (0, 0))))), ((0, ([], (0, 0))), 0))).2).1).2).1, ((((((v3.getD v2.toNat (([], ([], ([], ([], (0, 0))))), ((0, ([], (0, 0))), 0))).2).1).2).2).1, (((((v3.getD v2.toNat (([], ([], ([], ([], (0, 0))))), ((0, ([], (0, 0))), 0))).2).1).2).2).2)))], lots ++ [(v2, (((((((v3.getD v2.toNat (([], ([], ([], ([], (0, 0))))), ((0, ([], (0, 0))), 0))).1).2).2).2).2).2, 0))], v3)))
 else (
 some (.inr (batches, lots)))

noncomputable def lots_Batches (n : List (List UInt8) × List yT1 × List (List UInt8 × Int × Int) × List (List UInt8 × Int × Int × Int × Int) × Int × Int) (products : List (List UInt8 × Int × Int × Int × Int)) (l : List yT0) (order : List (List UInt8)) : Option (Int × (List (Int × List UInt8 × Int × Int)) × List (Int × Int × Int)) :=
 (network_Check (n.1, (n.2.1, (n.2.2.1, (n.2.2.2.1, (n.2.2.2.2.1, n.2.2.2.2.2)))))).bind fun r =>
 bif !decide (r = 0) then (
 some (r, [], []))
 else (
 (product_Check products).bind fun r2 =>
 bif !decide (r2 = 0) then (
 some (r2, [], []))
 else (
 (nomination_Check l).bind fun r3 =>
 bif !decide (r3 = 0) then (
 some (r3, [], []))
 else (
 (nomination_Totals l).bind fun r4 =>
 bif !decide (r4.2 = 0) then (
 some (r4.2, [], []))
 else (
 bif decide (200 < (r4.1.length : Int)) then (
 some (4, [], []))
 else (
 (iter (fun x => lots_Batches_L0 n products order r4 x.1 x.2) (0, [])).bind fun s2 =>
 s2.elim (fun s3 =>
 (slices_SortFunc_lots_made_lots_made (fun h => (lots_Batches_1 h.1 h.2.1).bind fun y => some y) s3).bind fun r9 =>
 (iter (fun x2 => lots_Batches_L1 r9 x2.1 x2.2.1 x2.2.2.1 x2.2.2.2) (0, [], [], r9)).bind fun s5 =>
 some (0, s5.1, s5.2))
 (fun s4 =>
 some (s4, [], [])))))))

noncomputable def fn_lots_Batches : Fun :=
 ⟨11, 4, 3,
 ⟨[(0, .one (.data (.pair (.sl (.str)) (.pair (.sl (.pair (.str) (.pair (.int .i64) (.pair (.int .i64) (.pair (.int .i64) (.pair (.int .i64) (.pair (.int .i64) (.sl (.pair (.int .i64) tT1))))))))) (.pair (.sl (.pair (.str) tT1)) (.pair (.sl (.pair (.str) (.pair (.int .i64) (.pair (.int .i64) tT1)))) tT1)))))), (1, .one (.data (.sl (.pair (.str) (.pair (.int .i64) (.pair (.int .i64) tT1)))))), (2, .one (.data (.sl tT0))), (3, .one (.data (.sl (.str))))], [], []⟩,
 ⟨[(0, .one (.own 0)), (1, .one (.own 1)), (2, ii)], [], [(0, .arr 49 (.pair (.int .i64) (.pair (.str) tT1))), (1, .arr 47 (.pair (.int .i64) tT1))]⟩,
 fun x => lots_Batches x.1 x.2.1 x.2.2.1 x.2.2.2⟩
noncomputable def cx_lots_Batches : Cx := ⟨types, [], [fn_network_Check, fn_product_Check, fn_nomination_Check, fn_nomination_Totals, fn_product_Find, fn_network_Port, fn_lots_rank, fn_slices_SortFunc_lots_made_lots_made, fn_lots_Batches_1], 121, []⟩
theorem ok_lots_Batches : FunOk Tryz.prog fn_lots_Batches :=
 FunOk.intro (C := cx_lots_Batches) (p := (nn (nn (nn (nn (nn (nn (nn (nn (mm (nn (mm (.mk [] (some (⟨[(1, kk), (3, kk), (4, .one (.ptr 80 0)), (16, .one (.own 283)), (50, kk), (51, kk), (52, ii)], [(80, 32, [.keep, .keep, .keep, .keep, .keep, .keep])], [(283, .arr 90 (.pair tT0 (.pair (.pair (.int .i64) (.pair (.str) tT1)) (.int .i64))))]⟩, [⟨.x 0, ⟨[(16, .one (.own 283))], [], [(283, .arr 90 (.pair tT0 (.pair (.pair (.int .i64) (.pair (.str) tT1)) (.int .i64))))]⟩⟩, ⟨.r, ⟨[(8, .one .nil), (9, .one .nil), (10, ii)], [], []⟩⟩])) (nn (nn (mm (mm (nn (nn (mm (mm (.mk [.join [⟨.n, ⟨[(1, kk), (3, kk), (4, .one (.ptr 80 0)), (16, .one (.own 283)), (18, .one (.ptr 304 0)), (19, .one (.ptr 320 0)), (50, kk), (51, kk), (52, kk), (83, bb)], [(80, 32, [.keep, .keep, .keep, .keep, .keep, .keep]), (304, 51, [.keep, .keep, .keep, .keep, .keep, .keep]), (320, 49, [.keep, .keep, .keep, .keep])], [(283, .arr 90 (.pair tT0 (.pair (.pair (.int .i64) (.pair (.str) tT1)) (.int .i64))))]⟩⟩]] none .nil .nil) .nil) .nil))) .nil) .nil))) .nil) .nil)) (nn (nn (nn (mm (nn (mm (.mk [] (some (⟨[(20, .one (.own 347)), (21, .one (.own 363)), (98, .one (.own 283)), (99, kk), (100, ii)], [], [(347, .arr 49 (.pair (.int .i64) (.pair (.str) tT1))), (363, .arr 47 (.pair (.int .i64) tT1)), (283, .arr 90 (.pair tT0 (.pair (.pair (.int .i64) (.pair (.str) tT1)) (.int .i64))))]⟩, [⟨.x 2, ⟨[(20, .one (.own 347)), (21, .one (.own 363))], [], [(347, .arr 49 (.pair (.int .i64) (.pair (.str) tT1))), (363, .arr 47 (.pair (.int .i64) tT1))]⟩⟩])) .nil .nil) .nil)) .nil))))))))))))))
  Tryz.func11 rfl (by kernel_rfl) rfl rfl rfl rfl types_ok ⟨⟨ok_network_Check, ok_product_Check, ok_nomination_Check, ok_nomination_Totals, ok_product_Find, ok_network_Port, ok_lots_rank, ok_slices_SortFunc_lots_made_lots_made, ok_lots_Batches_1, trivial⟩, trivial⟩ mx (fun x => by kernel_rfl)

noncomputable def law29_awake : Option (Bool) :=
 (lots_Batches (([[97], [98]] : List (List UInt8)), ([([103], (0, (1, (10, (0, (0, [(0, (0, 1000)), (10, (0, 1000))]))))))], ([([112], (0, 0)), ([113], (1, 0))], ([], (0, 0))))) [([111], (800, (0, (0, 1000))))] [([115], ([111], ([112], ([113], (1, 50))))), ([115], ([111], ([112], ([113], (1, 70)))))] []).bind fun r =>
 bif decide (r.1 = 0) then (
 bif decide ((r.2.1.length : Int) = 1) then (
 bif decide ((r.2.2.length : Int) = 1) then (
 gd (inB 0 r.2.2.length) <|
 bif decide ((r.2.2.getD 0 (0, (0, 0))).1 = 0) && (decide (((r.2.2.getD 0 (0, (0, 0))).2).1 = 120) && decide (((r.2.2.getD 0 (0, (0, 0))).2).2 = 0)) then (
 gd (inB 0 r.2.1.length) <|
 some (decide ((r.2.1.getD 0 (0, ([], (0, 0)))).1 = 0) && (decide (((r.2.1.getD 0 (0, ([], (0, 0)))).2).1 = [115]) && (decide ((((r.2.1.getD 0 (0, ([], (0, 0)))).2).2).1 = 0) && decide ((((r.2.1.getD 0 (0, ([], (0, 0)))).2).2).2 = 1)))))
 else (
 some false))
 else (
 some false))
 else (
 some false))
 else (
 some false)

noncomputable def fn_law29_awake : Fun :=
 ⟨7, 0, 1,
 ⟨[], [], []⟩,
 ⟨[(0, bb)], [], []⟩,
 fun x => law29_awake⟩
noncomputable def cx_law29_awake : Cx := ⟨types, [], [fn_lots_Batches], 57, []⟩
theorem ok_law29_awake : FunOk Tryz.prog fn_law29_awake :=
 FunOk.intro (C := cx_law29_awake) (p := .nil)
  Tryz.func7 rfl (by kernel_rfl) rfl rfl rfl rfl types_ok ⟨⟨ok_lots_Batches, trivial⟩, trivial⟩ mx (fun x => by kernel_rfl)

noncomputable def keep_New (l : List Int) : Option (List Int × Int) :=
 gd (cutG none (some (.i64, min (l.length : Int) 2000)) l.length) <|
 some (l.take (min (l.length : Int) 2000).toNat, 0)

noncomputable def fn_keep_New : Fun :=
 ⟨8, 1, 1,
 ⟨[(0, .one (.data (.sl (.int .i64))))], [], []⟩,
 ⟨[(0, .one (.ptr 0 0))], [(0, 76, [.data (.sl (.int .i64)), .data (.int .i64)])], []⟩,
 fun x => keep_New x⟩
noncomputable def cx_keep_New : Cx := ⟨types, [], [], 10, []⟩
theorem ok_keep_New : FunOk Tryz.prog fn_keep_New :=
 FunOk.intro (C := cx_keep_New) (p := .nil)
  Tryz.func8 rfl (by kernel_rfl) rfl rfl rfl rfl types_ok ⟨trivial, trivial⟩ mx (fun x => by kernel_rfl)

noncomputable def keep_Src_Raw (s : List Int) (s2 : Int) : Option (Int × List Int × Int) :=
 bif decide ((s.length : Int) ≤ s2) then (
 some (0, s, s2))
 else (
 gd (inB (wi64 ((wi64 (s2 + 1)) - 1)) s.length) <|
 some (s.getD (wi64 ((wi64 (s2 + 1)) - 1)).toNat 0, s, wi64 (s2 + 1)))

noncomputable def fn_keep_Src_Raw : Fun :=
 ⟨49, 1, 1,
 ⟨[(0, .one (.ptr 0 0))], [(0, 76, [.data (.sl (.int .i64)), .data (.int .i64)])], []⟩,
 ⟨[(0, ii)], [(0, 76, [.data (.sl (.int .i64)), .data (.int .i64)])], []⟩,
 fun x => keep_Src_Raw x.1 x.2⟩
noncomputable def cx_keep_Src_Raw : Cx := ⟨types, [], [], 31, []⟩
theorem ok_keep_Src_Raw : FunOk Tryz.prog fn_keep_Src_Raw :=
 FunOk.intro (C := cx_keep_Src_Raw) (p := .nil)
  Tryz.func49 rfl (by kernel_rfl) rfl rfl rfl rfl types_ok ⟨trivial, trivial⟩ mx (fun x => by kernel_rfl)

noncomputable def keep_Mod (x : Int) (n : Int) : Option (Int) :=
 bif decide (n < 1) then (
 some 0)
 else (
 gd (!decide (n = 0)) <|
 bif decide (Int.tmod x n < 0) then (
 some (wi64 ((Int.tmod x n) + n)))
 else (
 some (Int.tmod x n)))

noncomputable def fn_keep_Mod : Fun :=
 ⟨48, 2, 1,
 ⟨[(0, ii), (1, ii)], [], []⟩,
 ⟨[(0, ii)], [], []⟩,
 fun x => keep_Mod x.1 x.2⟩
noncomputable def cx_keep_Mod : Cx := ⟨types, [], [], 16, []⟩
theorem ok_keep_Mod : FunOk Tryz.prog fn_keep_Mod :=
 FunOk.intro (C := cx_keep_Mod) (p := .nil)
  Tryz.func48 rfl (by kernel_rfl) rfl rfl rfl rfl types_ok ⟨trivial, trivial⟩ mx (fun x => by kernel_rfl)

noncomputable def keep_Src_N (n : Int) (s : List Int) (s2 : Int) : Option (Int × List Int × Int) :=
 (keep_Src_Raw s s2).bind fun r =>
 (keep_Mod r.1 n).bind fun r2 =>
 some (r2, r.2.1, r.2.2)

noncomputable def fn_keep_Src_N : Fun :=
 ⟨18, 2, 1,
 ⟨[(0, .one (.ptr 0 0)), (1, ii)], [(0, 76, [.data (.sl (.int .i64)), .data (.int .i64)])], []⟩,
 ⟨[(0, ii)], [(0, 76, [.data (.sl (.int .i64)), .data (.int .i64)])], []⟩,
 fun x => keep_Src_N x.1 x.2.1 x.2.2⟩
noncomputable def cx_keep_Src_N : Cx := ⟨types, [], [fn_keep_Src_Raw, fn_keep_Mod], 9, []⟩
theorem ok_keep_Src_N : FunOk Tryz.prog fn_keep_Src_N :=
 FunOk.intro (C := cx_keep_Src_N) (p := .nil)
  Tryz.func18 rfl (by kernel_rfl) rfl rfl rfl rfl types_ok ⟨⟨ok_keep_Src_Raw, ok_keep_Mod, trivial⟩, trivial⟩ mx (fun x => by kernel_rfl)

noncomputable def keep_Src_Pick (l : List Int) (s : List Int) (s2 : Int) : Option (Int × List Int × Int) :=
 (keep_Src_N (l.length : Int) s s2).bind fun r =>
 gd (inB r.1 l.length) <|
 some (l.getD r.1.toNat 0, r.2.1, r.2.2)

noncomputable def fn_keep_Src_Pick : Fun :=
 ⟨22, 2, 1,
 ⟨[(0, .one (.ptr 0 0)), (1, .one (.data (.sl (.int .i64))))], [(0, 76, [.data (.sl (.int .i64)), .data (.int .i64)])], []⟩,
 ⟨[(0, ii)], [(0, 76, [.data (.sl (.int .i64)), .data (.int .i64)])], []⟩,
 fun x => keep_Src_Pick x.1 x.2.1 x.2.2⟩
noncomputable def cx_keep_Src_Pick : Cx := ⟨types, [], [fn_keep_Src_N], 12, []⟩
theorem ok_keep_Src_Pick : FunOk Tryz.prog fn_keep_Src_Pick :=
 FunOk.intro (C := cx_keep_Src_Pick) (p := .nil)
  Tryz.func22 rfl (by kernel_rfl) rfl rfl rfl rfl types_ok ⟨⟨ok_keep_Src_N, trivial⟩, trivial⟩ mx (fun x => by kernel_rfl)

noncomputable def keep_Src_Range (lo : Int) (hi : Int) (s : List Int) (s2 : Int) : Option (Int × List Int × Int) :=
 (keep_Src_N (wi64 ((wi64 (hi - lo)) + 1)) s s2).bind fun r =>
 some (wi64 (lo + r.1), r.2.1, r.2.2)

noncomputable def fn_keep_Src_Range : Fun :=
 ⟨29, 3, 1,
 ⟨[(0, .one (.ptr 0 0)), (1, ii), (2, ii)], [(0, 76, [.data (.sl (.int .i64)), .data (.int .i64)])], []⟩,
 ⟨[(0, ii)], [(0, 76, [.data (.sl (.int .i64)), .data (.int .i64)])], []⟩,
 fun x => keep_Src_Range x.1 x.2.1 x.2.2.1 x.2.2.2⟩
noncomputable def cx_keep_Src_Range : Cx := ⟨types, [], [fn_keep_Src_N], 15, []⟩
theorem ok_keep_Src_Range : FunOk Tryz.prog fn_keep_Src_Range :=
 FunOk.intro (C := cx_keep_Src_Range) (p := .nil)
  Tryz.func29 rfl (by kernel_rfl) rfl rfl rfl rfl types_ok ⟨⟨ok_keep_Src_N, trivial⟩, trivial⟩ mx (fun x => by kernel_rfl)

noncomputable def keep_name (first : List UInt8) (n : Int) : Option (List UInt8) :=
 gd (Nat.ble (first.length + (toBytes [wu8 (wi64 (97 + (Int.tmod n 26)))]).length) 9223372036854775807) <|
 some (first ++ (toBytes [wu8 (wi64 (97 + (Int.tmod n 26)))]))

noncomputable def fn_keep_name : Fun :=
 ⟨30, 2, 1,
 ⟨[(0, ss), (1, ii)], [], []⟩,
 ⟨[(0, ss)], [], []⟩,
 fun x => keep_name x.1 x.2⟩
noncomputable def cx_keep_name : Cx := ⟨types, [], [], 13, []⟩
theorem ok_keep_name : FunOk Tryz.prog fn_keep_name :=
 FunOk.intro (C := cx_keep_name) (p := .nil)
  Tryz.func30 rfl (by kernel_rfl) rfl rfl rfl rfl types_ok ⟨trivial, trivial⟩ mx (fun x => by kernel_rfl)

noncomputable def keep_Src_Segment_L0 (r3 : Int × List Int × Int) (r6 : Int × List Int × Int) (vat : Int) (s4 : List Int) (s5 : Int) (x : List (Int × Int × Int)) : Option ((Int × List Int × Int × List (Int × Int × Int)) ⊕ (List Int × Int × List (Int × Int × Int))) :=
 Option.bind (α := Bool × List Int × Int × List (Int × Int × Int)) (
 bif decide ((x.length : Int) < 7) then (
 (keep_Src_N 3 s4 s5).bind fun r8 =>
 some (decide (0 < r8.1), r8.2.1, r8.2.2, x))
 else (
 some (false, s4, s5, x))) fun s6 =>
 bif s6.1 then (
 (keep_Src_Range 1 40 s6.2.1 s6.2.2.1).bind fun r9 =>
 bif decide (r3.1 ≤ wi64 (vat + r9.1)) then (
 some (.inr (r9.2.1, r9.2.2, s6.2.2.2)))
 else (
 (keep_Src_Range (-5) 60 r9.2.1 r9.2.2).bind fun r10 =>
 (keep_Src_Pick [1, 1, 10] r10.2.1 r10.2.2).bind fun r11 =>
 (keep_Src_N 3 r11.2.1 r11.2.2).bind fun r12 =>
 gd (fits (s6.2.2.2.length + 1) 24) <|
 some (.inl (wi64 (vat + r9.1), r12.2.1, r12.2.2, s6.2.2.2 ++ [(wi64 (vat + r9.1), (wi64 (r10.1 * r11.1), wi64 (r6.1 - (wi64 (r12.1 * 1000)))))]))))
 else (
 some (.inr (s6.2.1, s6.2.2.1, s6.2.2.2)))

noncomputable def keep_Src_Segment (k : Int) (vfrom : Int) (to : Int) (s : List Int) (s2 : Int) : Option (yT1 × List Int × Int) :=
 (keep_Src_N 4 s s2).bind fun r =>
 Option.bind (α := Int × Int) (
 bif decide (r.1 = 0) then (
 some (to, vfrom))
 else (
 some (vfrom, to))) fun s3 =>
 (keep_name [103] k).bind fun r2 =>
 (keep_Src_Pick [1, 2, 7, 20, 60, 200, 1000] r.2.1 r.2.2).bind fun r3 =>
 (keep_Src_Pick [0, 1, 5, 1000] r3.2.1 r3.2.2).bind fun r4 =>
 (keep_Src_Pick [0, 50, 1000, 100000] r4.2.1 r4.2.2).bind fun r5 =>
 (keep_Src_Pick [1000000, 6000000, 100000000] r5.2.1 r5.2.2).bind fun r6 =>
 (keep_Src_Range (-5) 30 r6.2.1 r6.2.2).bind fun r7 =>
 (iter (fun x2 => keep_Src_Segment_L0 r3 r6 x2.1 x2.2.1 x2.2.2.1 x2.2.2.2) (0, r7.2.1, r7.2.2, [(0, (r7.1, r6.1))])).bind fun s7 =>
 (keep_Src_Range (-5) 30 s7.1 s7.2.1).bind fun r13 =>
 gd (fits (s7.2.2.length + 1) 24) <|
 some ((r2, (s3.1, (s3.2, (r3.1, (r4.1, (r5.1, s7.2.2 ++ [(r3.1, (r13.1, r6.1))])))))), r13.2.1, r13.2.2)

noncomputable def fn_keep_Src_Segment : Fun :=
 ⟨31, 4, 1,
 ⟨[(0, .one (.ptr 0 0)), (1, ii), (2, ii), (3, ii)], [(0, 76, [.data (.sl (.int .i64)), .data (.int .i64)])], []⟩,
 ⟨[(0, .one (.data (.pair (.str) (.pair (.int .i64) (.pair (.int .i64) (.pair (.int .i64) (.pair (.int .i64) (.pair (.int .i64) (.sl (.pair (.int .i64) tT1))))))))))], [(0, 76, [.data (.sl (.int .i64)), .data (.int .i64)])], []⟩,
 fun x => keep_Src_Segment x.1 x.2.1 x.2.2.1 x.2.2.2.1 x.2.2.2.2⟩
noncomputable def cx_keep_Src_Segment : Cx := ⟨types, [], [fn_keep_Src_N, fn_keep_name, fn_keep_Src_Pick, fn_keep_Src_Range], 90, []⟩
theorem ok_keep_Src_Segment : FunOk Tryz.prog fn_keep_Src_Segment :=
 FunOk.intro (C := cx_keep_Src_Segment) (p := (nn (mm (nn (.mk [.join [⟨.n, ⟨[(0, .one (.ptr 0 0)), (1, kk), (2, ii), (3, ii), (8, .one (.ptr 144 0))], [(0, 76, [.keep, .keep]), (144, 72, [.keep, .keep, .keep, .keep, .keep, .keep, .keep])], []⟩⟩]] none .nil .nil)) (nn (nn (nn (mm (nn (mm (.mk [] (some (⟨[(0, .one (.ptr 0 0)), (8, .one (.ptr 144 0)), (9, .one (.ptr 160 0)), (10, kk), (11, ii)], [(0, 76, [.data (.sl (.int .i64)), .data (.int .i64)]), (144, 72, [.keep, .keep, .keep, .keep, .keep, .keep, .keep]), (160, 72, [.keep, .keep, .keep, .keep, .keep, .keep, .own 2681])], [(2681, .arr 69 (.pair (.int .i64) tT1))]⟩, [⟨.x 0, ⟨[(0, .one (.ptr 0 0)), (8, .one (.ptr 144 0)), (9, .one (.ptr 160 0)), (10, kk)], [(0, 76, [.data (.sl (.int .i64)), .data (.int .i64)]), (144, 72, [.keep, .keep, .keep, .keep, .keep, .keep, .keep]), (160, 72, [.keep, .keep, .keep, .keep, .keep, .keep, .own 2681])], [(2681, .arr 69 (.pair (.int .i64) tT1))]⟩⟩])) (mm (mm (.mk [.join [⟨.n, ⟨[(0, .one (.ptr 0 0)), (8, .one (.ptr 144 0)), (9, .one (.ptr 160 0)), (10, kk), (11, kk), (51, bb)], [(0, 76, [.data (.sl (.int .i64)), .data (.int .i64)]), (144, 72, [.keep, .keep, .keep, .keep, .keep, .keep, .keep]), (160, 72, [.keep, .keep, .keep, .keep, .keep, .keep, .own 2681])], [(2681, .arr 69 (.pair (.int .i64) tT1))]⟩⟩]] none .nil .nil) .nil) .nil) .nil) .nil)) .nil)))))))
  Tryz.func31 rfl (by kernel_rfl) rfl rfl rfl rfl types_ok ⟨⟨ok_keep_Src_N, ok_keep_name, ok_keep_Src_Pick, ok_keep_Src_Range, trivial⟩, trivial⟩ mx (fun x => by kernel_rfl)

noncomputable def keep_Src_Network_L0 (i : Int) (n : List (List UInt8)) : Option ((Int × List (List UInt8)) ⊕ (List (List UInt8))) :=
 bif decide (0 < i) then (
 (keep_name [110] (n.length : Int)).bind fun r4 =>
 gd (fits (n.length + 1) 16) <|
 some (.inl (wi64 (i - 1), n ++ [r4])))
 else (
 some (.inr n))

noncomputable def keep_Src_Network_L1 (s3 : List (List UInt8)) (i2 : Int) (s4 : List Int) (s5 : Int) (n2 : List (List UInt8)) (n3 : List yT1) : Option ((Int × List Int × Int × List (List UInt8) × List yT1) ⊕ (List Int × Int × List (List UInt8) × List yT1)) :=
 bif decide (i2 < wi64 ((s3.length : Int) - 1)) then (
 (keep_Src_Segment (n3.length : Int) i2 (wi64 (i2 + 1)) s4 s5).bind fun r5 =>
 gd (fits (n3.length + 1) 80) <|
 some (.inl (wi64 (i2 + 1), r5.2.1, r5.2.2, n2, n3 ++ [(r5.1.1, (r5.1.2.1, (r5.1.2.2.1, (r5.1.2.2.2.1, (r5.1.2.2.2.2.1, (r5.1.2.2.2.2.2.1, r5.1.2.2.2.2.2.2))))))])))
 else (
 some (.inr (s4, s5, n2, n3)))

noncomputable def keep_Src_Network_L2 (s3 : List (List UInt8)) (i3 : Int) (s7 : List Int) (s8 : Int) (n4 : List (List UInt8)) (n5 : List yT1) : Option ((Int × List Int × Int × List (List UInt8) × List yT1) ⊕ (List Int × Int × List (List UInt8) × List yT1)) :=
 bif decide (0 < i3) then (
 (keep_Src_N (wi64 ((s3.length : Int) - 1)) s7 s8).bind fun r7 =>
 (keep_Src_Range (wi64 (r7.1 + 1)) (wi64 ((s3.length : Int) - 1)) r7.2.1 r7.2.2).bind fun r8 =>
 (keep_Src_Segment (n5.length : Int) r7.1 r8.1 r8.2.1 r8.2.2).bind fun r9 =>
 gd (fits (n5.length + 1) 80) <|
 some (.inl (wi64 (i3 - 1), r9.2.1, r9.2.2, n4, n5 ++ [(r9.1.1, (r9.1.2.1, (r9.1.2.2.1, (r9.1.2.2.2.1, (r9.1.2.2.2.2.1, (r9.1.2.2.2.2.2.1, r9.1.2.2.2.2.2.2))))))])))
 else (
 some (.inr (s7, s8, n4, n5)))

noncomputable def keep_Src_Network_L3 (s3 : List (List UInt8)) (i4 : Int) (s10 : List Int) (s11 : Int) (n6 : List (List UInt8)) (n7 : List yT1) (n8 : List (List UInt8 × Int × Int)) (n9 : List (List UInt8 × Int × Int × Int × Int)) : Option ((Int × List Int × Int × List (List UInt8) × (List yT1) × (List (List UInt8 × Int × Int)) × List (List UInt8 × Int × Int × Int × Int)) ⊕ (List Int × Int × List (List UInt8) × (List yT1) × (List (List UInt8 × Int × Int)) × List (List UInt8 × Int × Int × Int × Int))) :=
 bif decide (i4 ≤ wi64 ((s3.length : Int) - 1)) then (
 Option.bind (α := Bool × List Int × Int × List (List UInt8) × (List yT1) × (List (List UInt8 × Int × Int)) × List (List UInt8 × Int × Int × Int × Int)) (
 bif decide (i4 = 0) then (
 some (true, s10, s11, n6, n7, n8, n9))
 else (
 bif decide (i4 = wi64 ((s3.length : Int) - 1)) then (
 some (true, s10, s11, n6, n7, n8, n9))
 else (
 (keep_Src_N 2 s10 s11).bind fun r10 =>
 some (decide (r10.1 = 0), r10.2.1, r10.2.2, n6, n7, n8, n9)))) fun s12 =>
 Option.bind (α := List Int × Int × List (List UInt8) × (List yT1) × (List (List UInt8 × Int × Int)) × List (List UInt8 × Int × Int × Int × Int)) (
 bif s12.1 then (
 (keep_name [113] (s12.2.2.2.2.2.1.length : Int)).bind fun r11 =>
 (keep_Src_Pick [300000, 1000000, 0, 5000000] s12.2.1 s12.2.2.1).bind fun r12 =>
 gd (fits (s12.2.2.2.2.2.1.length + 1) 32) <|
 some (r12.2.1, r12.2.2, s12.2.2.2.1, s12.2.2.2.2.1, s12.2.2.2.2.2.1 ++ [(r11, (i4, r12.1))], s12.2.2.2.2.2.2))
 else (
 some (s12.2.1, s12.2.2.1, s12.2.2.2.1, s12.2.2.2.2.1, s12.2.2.2.2.2.1, s12.2.2.2.2.2.2))) fun s13 =>
 Option.bind (α := Bool × List Int × Int × List (List UInt8) × (List yT1) × (List (List UInt8 × Int × Int)) × List (List UInt8 × Int × Int × Int × Int)) (
 bif decide (i4 < wi64 ((s3.length : Int) - 1)) then (
 (keep_Src_N 3 s13.1 s13.2.1).bind fun r13 =>
 some (decide (r13.1 = 0), r13.2.1, r13.2.2, s13.2.2.1, s13.2.2.2.1, s13.2.2.2.2.1, s13.2.2.2.2.2))
 else (
 some (false, s13.1, s13.2.1, s13.2.2.1, s13.2.2.2.1, s13.2.2.2.2.1, s13.2.2.2.2.2))) fun s14 =>
 Option.bind (α := List Int × Int × List (List UInt8) × (List yT1) × (List (List UInt8 × Int × Int)) × List (List UInt8 × Int × Int × Int × Int)) (
 bif s14.1 then (
 (keep_name [115] (s14.2.2.2.2.2.2.length : Int)).bind fun r14 =>
 (keep_Src_Pick [500000, 2000000, 0] s14.2.1 s14.2.2.1).bind fun r15 =>
 (keep_Src_Pick [0, 200, 100000] r15.2.1 r15.2.2).bind fun r16 =>
 (keep_Src_Pick [0, 100000, 400000] r16.2.1 r16.2.2).bind fun r17 =>
 gd (fits (s14.2.2.2.2.2.2.length + 1) 48) <|
 some (r17.2.1, r17.2.2, s14.2.2.2.1, s14.2.2.2.2.1, s14.2.2.2.2.2.1, s14.2.2.2.2.2.2 ++ [(r14, (i4, (r15.1, (r16.1, r17.1))))]))
 else (
 some (s14.2.1, s14.2.2.1, s14.2.2.2.1, s14.2.2.2.2.1, s14.2.2.2.2.2.1, s14.2.2.2.2.2.2))) fun s15 =>
 some (.inl (wi64 (i4 + 1), s15.1, s15.2.1, s15.2.2.1, s15.2.2.2.1, s15.2.2.2.2.1, s15.2.2.2.2.2)))
 else (
 some (.inr (s10, s11, n6, n7, n8, n9)))

noncomputable def keep_Src_Network (s : List Int) (s2 : Int) : Option ((List (List UInt8) × List yT1 × List (List UInt8 × Int × Int) × List (List UInt8 × Int × Int × Int × Int) × Int × Int) × List Int × Int) :=
 (keep_Src_Pick [(-100000), 0, 50000] s s2).bind fun r =>
 (keep_Src_Pick [0, 1, 5, 100] r.2.1 r.2.2).bind fun r2 =>
 (keep_Src_Range 2 6 r2.2.1 r2.2.2).bind fun r3 =>
 (iter (fun x => keep_Src_Network_L0 x.1 x.2) (r3.1, [])).bind fun s3 =>
 (iter (fun x2 => keep_Src_Network_L1 s3 x2.1 x2.2.1 x2.2.2.1 x2.2.2.2.1 x2.2.2.2.2) (0, r3.2.1, r3.2.2, s3, [])).bind fun s6 =>
 (keep_Src_N 4 s6.1 s6.2.1).bind fun r6 =>
 (iter (fun x3 => keep_Src_Network_L2 s3 x3.1 x3.2.1 x3.2.2.1 x3.2.2.2.1 x3.2.2.2.2) (r6.1, r6.2.1, r6.2.2, s6.2.2.1, s6.2.2.2)).bind fun s9 =>
 (iter (fun x4 => keep_Src_Network_L3 s3 x4.1 x4.2.1 x4.2.2.1 x4.2.2.2.1 x4.2.2.2.2.1 x4.2.2.2.2.2.1 x4.2.2.2.2.2.2) (0, s9.1, s9.2.1, s9.2.2.1, s9.2.2.2, [], [])).bind fun s16 =>
 some ((s16.2.2.1, (s16.2.2.2.1, (s16.2.2.2.2.1, (s16.2.2.2.2.2, (r.1, r2.1))))), s16.1, s16.2.1)

noncomputable def fn_keep_Src_Network : Fun :=
 ⟨9, 1, 1,
 ⟨[(0, .one (.ptr 0 0))], [(0, 76, [.data (.sl (.int .i64)), .data (.int .i64)])], []⟩,
 ⟨[(0, .one (.data (.pair (.sl (.str)) (.pair (.sl (.pair (.str) (.pair (.int .i64) (.pair (.int .i64) (.pair (.int .i64) (.pair (.int .i64) (.pair (.int .i64) (.sl (.pair (.int .i64) tT1))))))))) (.pair (.sl (.pair (.str) tT1)) (.pair (.sl (.pair (.str) (.pair (.int .i64) (.pair (.int .i64) tT1)))) tT1))))))], [(0, 76, [.data (.sl (.int .i64)), .data (.int .i64)])], []⟩,
 fun x => keep_Src_Network x.1 x.2⟩
noncomputable def cx_keep_Src_Network : Cx := ⟨types, [], [fn_keep_Src_Pick, fn_keep_Src_Range, fn_keep_name, fn_keep_Src_Segment, fn_keep_Src_N], 139, []⟩
theorem ok_keep_Src_Network : FunOk Tryz.prog fn_keep_Src_Network :=
 FunOk.intro (C := cx_keep_Src_Network) (p := (nn (nn (mm (nn (mm (.mk [] (some (⟨[(0, .one (.ptr 0 0)), (2, .one (.ptr 48 0)), (3, .one (.ptr 64 0)), (4, ii)], [(0, 76, [.keep, .keep]), (48, 32, [.keep, .keep, .keep, .keep, .keep, .keep]), (64, 32, [.own 1049, .keep, .keep, .keep, .keep, .keep])], [(1049, .arr 9 (.str))]⟩, [⟨.x 0, ⟨[(0, .one (.ptr 0 0)), (2, .one (.ptr 48 0)), (3, .one (.ptr 64 0))], [(0, 76, [.keep, .keep]), (48, 32, [.keep, .keep, .keep, .keep, .keep, .keep]), (64, 32, [.own 1049, .keep, .keep, .keep, .keep, .keep])], [(1049, .arr 9 (.str))]⟩⟩])) .nil .nil) .nil)) (nn (mm (nn (mm (.mk [] (some (⟨[(0, .one (.ptr 0 0)), (2, .one (.ptr 48 0)), (3, .one (.ptr 64 0)), (5, kk), (6, ii)], [(0, 76, [.data (.sl (.int .i64)), .data (.int .i64)]), (48, 32, [.keep, .keep, .keep, .keep, .keep, .keep]), (64, 32, [.own 1049, .own 1065, .keep, .keep, .keep, .keep])], [(1049, .arr 9 (.str)), (1065, .arr 72 (.pair (.str) (.pair (.int .i64) (.pair (.int .i64) (.pair (.int .i64) (.pair (.int .i64) (.pair (.int .i64) (.sl (.pair (.int .i64) tT1)))))))))]⟩, [⟨.x 2, ⟨[(0, .one (.ptr 0 0)), (2, .one (.ptr 48 0)), (3, .one (.ptr 64 0)), (5, kk)], [(0, 76, [.data (.sl (.int .i64)), .data (.int .i64)]), (48, 32, [.keep, .keep, .keep, .keep, .keep, .keep]), (64, 32, [.own 1049, .own 1065, .keep, .keep, .keep, .keep])], [(1049, .arr 9 (.str)), (1065, .arr 72 (.pair (.str) (.pair (.int .i64) (.pair (.int .i64) (.pair (.int .i64) (.pair (.int .i64) (.pair (.int .i64) (.sl (.pair (.int .i64) tT1)))))))))]⟩⟩])) .nil .nil) .nil)) (mm (nn (mm (.mk [] (some (⟨[(0, .one (.ptr 0 0)), (2, .one (.ptr 48 0)), (3, .one (.ptr 64 0)), (5, kk), (7, ii)], [(0, 76, [.data (.sl (.int .i64)), .data (.int .i64)]), (48, 32, [.keep, .keep, .keep, .keep, .keep, .keep]), (64, 32, [.own 1049, .own 1065, .keep, .keep, .keep, .keep])], [(1049, .arr 9 (.str)), (1065, .arr 72 (.pair (.str) (.pair (.int .i64) (.pair (.int .i64) (.pair (.int .i64) (.pair (.int .i64) (.pair (.int .i64) (.sl (.pair (.int .i64) tT1)))))))))]⟩, [⟨.x 4, ⟨[(0, .one (.ptr 0 0)), (2, .one (.ptr 48 0)), (3, .one (.ptr 64 0)), (5, kk)], [(0, 76, [.data (.sl (.int .i64)), .data (.int .i64)]), (48, 32, [.keep, .keep, .keep, .keep, .keep, .keep]), (64, 32, [.own 1049, .own 1065, .keep, .keep, .keep, .keep])], [(1049, .arr 9 (.str)), (1065, .arr 72 (.pair (.str) (.pair (.int .i64) (.pair (.int .i64) (.pair (.int .i64) (.pair (.int .i64) (.pair (.int .i64) (.sl (.pair (.int .i64) tT1)))))))))]⟩⟩])) .nil .nil) .nil)) (mm (nn (mm (.mk [] (some (⟨[(0, .one (.ptr 0 0)), (2, .one (.ptr 48 0)), (3, .one (.ptr 64 0)), (5, kk), (9, ii)], [(0, 76, [.data (.sl (.int .i64)), .data (.int .i64)]), (48, 32, [.keep, .keep, .keep, .keep, .keep, .keep]), (64, 32, [.own 1049, .own 1065, .own 1081, .own 1097, .keep, .keep])], [(1049, .arr 9 (.str)), (1065, .arr 72 (.pair (.str) (.pair (.int .i64) (.pair (.int .i64) (.pair (.int .i64) (.pair (.int .i64) (.pair (.int .i64) (.sl (.pair (.int .i64) tT1))))))))), (1081, .arr 74 (.pair (.str) tT1)), (1097, .arr 80 (.pair (.str) (.pair (.int .i64) (.pair (.int .i64) tT1))))]⟩, [⟨.x 6, ⟨[(2, .one (.ptr 48 0)), (3, .one (.ptr 64 0))], [(48, 32, [.keep, .keep, .keep, .keep, .keep, .keep]), (64, 32, [.own 1049, .own 1065, .own 1081, .own 1097, .keep, .keep]), (0, 76, [.data (.sl (.int .i64)), .data (.int .i64)])], [(1049, .arr 9 (.str)), (1065, .arr 72 (.pair (.str) (.pair (.int .i64) (.pair (.int .i64) (.pair (.int .i64) (.pair (.int .i64) (.pair (.int .i64) (.sl (.pair (.int .i64) tT1))))))))), (1081, .arr 74 (.pair (.str) tT1)), (1097, .arr 80 (.pair (.str) (.pair (.int .i64) (.pair (.int .i64) tT1))))]⟩⟩])) (nn (mm (mm (mm (mm (.mk [.join [⟨.n, ⟨[(0, .one (.ptr 0 0)), (2, .one (.ptr 48 0)), (3, .one (.ptr 64 0)), (5, kk), (9, kk), (95, bb)], [(0, 76, [.data (.sl (.int .i64)), .data (.int .i64)]), (48, 32, [.keep, .keep, .keep, .keep, .keep, .keep]), (64, 32, [.own 1049, .own 1065, .own 1081, .own 1097, .keep, .keep])], [(1049, .arr 9 (.str)), (1065, .arr 72 (.pair (.str) (.pair (.int .i64) (.pair (.int .i64) (.pair (.int .i64) (.pair (.int .i64) (.pair (.int .i64) (.sl (.pair (.int .i64) tT1))))))))), (1081, .arr 74 (.pair (.str) tT1)), (1097, .arr 80 (.pair (.str) (.pair (.int .i64) (.pair (.int .i64) tT1))))]⟩⟩]] none .nil .nil) (.mk [.join [⟨.n, ⟨[(0, .one (.ptr 0 0)), (2, .one (.ptr 48 0)), (3, .one (.ptr 64 0)), (5, kk), (9, kk)], [(0, 76, [.data (.sl (.int .i64)), .data (.int .i64)]), (48, 32, [.keep, .keep, .keep, .keep, .keep, .keep]), (64, 32, [.own 1049, .own 1065, .own 1081, .own 1097, .keep, .keep])], [(1049, .arr 9 (.str)), (1065, .arr 72 (.pair (.str) (.pair (.int .i64) (.pair (.int .i64) (.pair (.int .i64) (.pair (.int .i64) (.pair (.int .i64) (.sl (.pair (.int .i64) tT1))))))))), (1081, .arr 74 (.pair (.str) tT1)), (1097, .arr 80 (.pair (.str) (.pair (.int .i64) (.pair (.int .i64) tT1))))]⟩⟩]] none .nil .nil)) (mm (.mk [.join [⟨.n, ⟨[(0, .one (.ptr 0 0)), (2, .one (.ptr 48 0)), (3, .one (.ptr 64 0)), (5, kk), (9, kk), (117, bb)], [(0, 76, [.data (.sl (.int .i64)), .data (.int .i64)]), (48, 32, [.keep, .keep, .keep, .keep, .keep, .keep]), (64, 32, [.own 1049, .own 1065, .own 1081, .own 1097, .keep, .keep])], [(1049, .arr 9 (.str)), (1065, .arr 72 (.pair (.str) (.pair (.int .i64) (.pair (.int .i64) (.pair (.int .i64) (.pair (.int .i64) (.pair (.int .i64) (.sl (.pair (.int .i64) tT1))))))))), (1081, .arr 74 (.pair (.str) tT1)), (1097, .arr 80 (.pair (.str) (.pair (.int .i64) (.pair (.int .i64) tT1))))]⟩⟩]] none .nil .nil) (.mk [.join [⟨.n, ⟨[(0, .one (.ptr 0 0)), (2, .one (.ptr 48 0)), (3, .one (.ptr 64 0)), (5, kk), (9, kk)], [(0, 76, [.data (.sl (.int .i64)), .data (.int .i64)]), (48, 32, [.keep, .keep, .keep, .keep, .keep, .keep]), (64, 32, [.own 1049, .own 1065, .own 1081, .own 1097, .keep, .keep])], [(1049, .arr 9 (.str)), (1065, .arr 72 (.pair (.str) (.pair (.int .i64) (.pair (.int .i64) (.pair (.int .i64) (.pair (.int .i64) (.pair (.int .i64) (.sl (.pair (.int .i64) tT1))))))))), (1081, .arr 74 (.pair (.str) tT1)), (1097, .arr 80 (.pair (.str) (.pair (.int .i64) (.pair (.int .i64) tT1))))]⟩⟩]] none .nil .nil))) .nil) .nil)) .nil) .nil)) .nil))))))))
  Tryz.func9 rfl (by kernel_rfl) rfl rfl rfl rfl types_ok ⟨⟨ok_keep_Src_Pick, ok_keep_Src_Range, ok_keep_name, ok_keep_Src_Segment, ok_keep_Src_N, trivial⟩, trivial⟩ mx (fun x => by kernel_rfl)

noncomputable def keep_Src_Product (n : Int) (s : List Int) (s2 : Int) : Option ((List UInt8 × Int × Int × Int × Int) × List Int × Int) :=
 (keep_name [112] n).bind fun r =>
 (keep_Src_Range 400 1200 s s2).bind fun r2 =>
 (keep_Src_Pick [0, 830, 2000, 1] r2.2.1 r2.2.2).bind fun r3 =>
 (keep_Src_Pick [0, 800, 5000, 3] r3.2.1 r3.2.2).bind fun r4 =>
 (keep_Src_Pick [1, 700, 1000, 1300, 2000] r4.2.1 r4.2.2).bind fun r5 =>
 some ((r, (r2.1, (r3.1, (r4.1, r5.1)))), r5.2.1, r5.2.2)

noncomputable def fn_keep_Src_Product : Fun :=
 ⟨32, 2, 1,
 ⟨[(0, .one (.ptr 0 0)), (1, ii)], [(0, 76, [.data (.sl (.int .i64)), .data (.int .i64)])], []⟩,
 ⟨[(0, .one (.data (.pair (.str) (.pair (.int .i64) (.pair (.int .i64) tT1)))))], [(0, 76, [.data (.sl (.int .i64)), .data (.int .i64)])], []⟩,
 fun x => keep_Src_Product x.1 x.2.1 x.2.2⟩
noncomputable def cx_keep_Src_Product : Cx := ⟨types, [], [fn_keep_name, fn_keep_Src_Range, fn_keep_Src_Pick], 19, []⟩
theorem ok_keep_Src_Product : FunOk Tryz.prog fn_keep_Src_Product :=
 FunOk.intro (C := cx_keep_Src_Product) (p := .nil)
  Tryz.func32 rfl (by kernel_rfl) rfl rfl rfl rfl types_ok ⟨⟨ok_keep_name, ok_keep_Src_Range, ok_keep_Src_Pick, trivial⟩, trivial⟩ mx (fun x => by kernel_rfl)

noncomputable def keep_Src_Products_L0 (i : Int) (s3 : List Int) (s4 : Int) (out : List (List UInt8 × Int × Int × Int × Int)) : Option ((Int × List Int × Int × List (List UInt8 × Int × Int × Int × Int)) ⊕ (List Int × Int × List (List UInt8 × Int × Int × Int × Int))) :=
 bif decide (0 < i) then (
 (keep_Src_Product (out.length : Int) s3 s4).bind fun r2 =>
 gd (fits (out.length + 1) 48) <|
 some (.inl (wi64 (i - 1), r2.2.1, r2.2.2, out ++ [(r2.1.1, (r2.1.2.1, (r2.1.2.2.1, (r2.1.2.2.2.1, r2.1.2.2.2.2))))])))
 else (
 some (.inr (s3, s4, out)))

noncomputable def keep_Src_Products (s : List Int) (s2 : Int) : Option (List Int × Int × List (List UInt8 × Int × Int × Int × Int)) :=
 (keep_Src_Range 1 4 s s2).bind fun r =>
 (iter (fun x => keep_Src_Products_L0 x.1 x.2.1 x.2.2.1 x.2.2.2) (r.1, r.2.1, r.2.2, [])).bind fun s5 =>
 some (s5.1, s5.2.1, s5.2.2)

noncomputable def fn_keep_Src_Products : Fun :=
 ⟨10, 1, 1,
 ⟨[(0, .one (.ptr 0 0))], [(0, 76, [.data (.sl (.int .i64)), .data (.int .i64)])], []⟩,
 ⟨[(0, .one (.own 1))], [(0, 76, [.data (.sl (.int .i64)), .data (.int .i64)])], [(1, .arr 44 (.pair (.str) (.pair (.int .i64) (.pair (.int .i64) tT1))))]⟩,
 fun x => keep_Src_Products x.1 x.2⟩
noncomputable def cx_keep_Src_Products : Cx := ⟨types, [], [fn_keep_Src_Range, fn_keep_Src_Product], 19, []⟩
theorem ok_keep_Src_Products : FunOk Tryz.prog fn_keep_Src_Products :=
 FunOk.intro (C := cx_keep_Src_Products) (p := (nn (nn (mm (nn (mm (.mk [] (some (⟨[(0, .one (.ptr 0 0)), (3, .one (.own 75)), (4, ii)], [(0, 76, [.data (.sl (.int .i64)), .data (.int .i64)])], [(75, .arr 44 (.pair (.str) (.pair (.int .i64) (.pair (.int .i64) tT1))))]⟩, [⟨.x 0, ⟨[(3, .one (.own 75))], [(0, 76, [.data (.sl (.int .i64)), .data (.int .i64)])], [(75, .arr 44 (.pair (.str) (.pair (.int .i64) (.pair (.int .i64) tT1))))]⟩⟩])) .nil .nil) .nil)) .nil))))
  Tryz.func10 rfl (by kernel_rfl) rfl rfl rfl rfl types_ok ⟨⟨ok_keep_Src_Range, ok_keep_Src_Product, trivial⟩, trivial⟩ mx (fun x => by kernel_rfl)

noncomputable def keep_Src_Text (l : List (List UInt8)) (s : List Int) (s2 : Int) : Option (List UInt8 × List Int × Int) :=
 (keep_Src_N (l.length : Int) s s2).bind fun r =>
 gd (inB r.1 l.length) <|
 some (l.getD r.1.toNat [], r.2.1, r.2.2)

noncomputable def fn_keep_Src_Text : Fun :=
 ⟨45, 2, 1,
 ⟨[(0, .one (.ptr 0 0)), (1, .one (.data (.sl (.str))))], [(0, 76, [.data (.sl (.int .i64)), .data (.int .i64)])], []⟩,
 ⟨[(0, ss)], [(0, 76, [.data (.sl (.int .i64)), .data (.int .i64)])], []⟩,
 fun x => keep_Src_Text x.1 x.2.1 x.2.2⟩
noncomputable def cx_keep_Src_Text : Cx := ⟨types, [], [fn_keep_Src_N], 12, []⟩
theorem ok_keep_Src_Text : FunOk Tryz.prog fn_keep_Src_Text :=
 FunOk.intro (C := cx_keep_Src_Text) (p := .nil)
  Tryz.func45 rfl (by kernel_rfl) rfl rfl rfl rfl types_ok ⟨⟨ok_keep_Src_N, trivial⟩, trivial⟩ mx (fun x => by kernel_rfl)

noncomputable def law29_nominations_L0 (n : List (List UInt8) × List yT1 × List (List UInt8 × Int × Int) × List (List UInt8 × Int × Int × Int × Int) × Int × Int) (i : Int) (s3 : List Int) (s4 : Int) (products2 : List (List UInt8 × Int × Int × Int × Int)) (l : List yT0) : Option ((Int × List Int × Int × (List (List UInt8 × Int × Int × Int × Int)) × List yT0) ⊕ (List Int × Int × (List yT0) × List (List UInt8 × Int × Int × Int × Int))) :=
 bif decide (0 < i) then (
 (keep_Src_Text ([[97], [98], [99]] : List (List UInt8)) s3 s4).bind fun r2 =>
 (keep_Src_N (products2.length : Int) r2.2.1 r2.2.2).bind fun r3 =>
 gd (inB r3.1 products2.length) <|
 (keep_Src_N (n.2.2.1.length : Int) r3.2.1 r3.2.2).bind fun r4 =>
 gd (inB r4.1 n.2.2.1.length) <|
 (keep_Src_N 3 r4.2.1 r4.2.2).bind fun r5 =>
 (keep_Src_Range 1 500 r5.2.1 r5.2.2).bind fun r6 =>
 (keep_Src_N (n.2.2.1.length : Int) r6.2.1 r6.2.2).bind fun r7 =>
 gd (inB r7.1 n.2.2.1.length) <|
 Option.bind (α := List UInt8 × List UInt8 × (List (List UInt8 × Int × Int × Int × Int)) × List yT0) (
 bif decide ((n.2.2.1.getD r7.1.toNat ([], (0, 0))).1 = (n.2.2.1.getD r4.1.toNat ([], (0, 0))).1) then (
 gd (inB 0 n.2.2.1.length) <|
 gd (inB (wi64 ((n.2.2.1.length : Int) - 1)) n.2.2.1.length) <|
 some ((n.2.2.1.getD (wi64 ((n.2.2.1.length : Int) - 1)).toNat ([], (0, 0))).1, (n.2.2.1.getD 0 ([], (0, 0))).1, products2, l))
 else (
 some ((n.2.2.1.getD r4.1.toNat ([], (0, 0))).1, (n.2.2.1.getD r7.1.toNat ([], (0, 0))).1, products2, l))) fun s5 =>
 gd (fits (s5.2.2.2.length + 1) 80) <|
 some (.inl (wi64 (i - 1), r7.2.1, r7.2.2, s5.2.2.1, s5.2.2.2 ++ [(r2.1, ((products2.getD r3.1.toNat ([], (0, (0, (0, 0))))).1, (s5.1, (s5.2.1, (r5.1, r6.1)))))])))
 else (
 some (.inr (s3, s4, l, products2)))

noncomputable def law29_nominations (n : List (List UInt8) × List yT1 × List (List UInt8 × Int × Int) × List (List UInt8 × Int × Int × Int × Int) × Int × Int) (s : List Int) (s2 : Int) (products : List (List UInt8 × Int × Int × Int × Int)) : Option (List Int × Int × (List (List UInt8 × Int × Int × Int × Int)) × List yT0) :=
 (keep_Src_N 14 s s2).bind fun r =>
 (iter (fun x => law29_nominations_L0 n x.1 x.2.1 x.2.2.1 x.2.2.2.1 x.2.2.2.2) (r.1, r.2.1, r.2.2, products, [])).bind fun s6 =>
 some (s6.1, s6.2.1, s6.2.2.2, s6.2.2.1)

noncomputable def fn_law29_nominations : Fun :=
 ⟨12, 3, 1,
 ⟨[(0, .one (.ptr 0 0)), (1, .one (.data (.pair (.sl (.str)) (.pair (.sl (.pair (.str) (.pair (.int .i64) (.pair (.int .i64) (.pair (.int .i64) (.pair (.int .i64) (.pair (.int .i64) (.sl (.pair (.int .i64) tT1))))))))) (.pair (.sl (.pair (.str) tT1)) (.pair (.sl (.pair (.str) (.pair (.int .i64) (.pair (.int .i64) tT1)))) tT1)))))), (2, .one (.own 1))], [(0, 76, [.data (.sl (.int .i64)), .data (.int .i64)])], [(1, .arr 44 (.pair (.str) (.pair (.int .i64) (.pair (.int .i64) tT1))))]⟩,
 ⟨[(0, .one (.own 2))], [(0, 76, [.data (.sl (.int .i64)), .data (.int .i64)])], [(1, .arr 44 (.pair (.str) (.pair (.int .i64) (.pair (.int .i64) tT1)))), (2, .arr 51 tT0)]⟩,
 fun x => law29_nominations x.1 x.2.1 x.2.2.1 x.2.2.2⟩
noncomputable def cx_law29_nominations : Cx := ⟨types, [], [fn_keep_Src_N, fn_keep_Src_Text, fn_keep_Src_Range], 79, []⟩
theorem ok_law29_nominations : FunOk Tryz.prog fn_law29_nominations :=
 FunOk.intro (C := cx_law29_nominations) (p := (nn (nn (mm (nn (mm (.mk [] (some (⟨[(0, .one (.ptr 0 0)), (2, .one (.own 1)), (4, .one (.ptr 80 0)), (7, .one (.own 139)), (8, ii)], [(0, 76, [.data (.sl (.int .i64)), .data (.int .i64)]), (80, 32, [.keep, .keep, .keep, .keep, .keep, .keep])], [(1, .arr 44 (.pair (.str) (.pair (.int .i64) (.pair (.int .i64) tT1)))), (139, .arr 51 tT0)]⟩, [⟨.x 0, ⟨[(7, .one (.own 139))], [(0, 76, [.data (.sl (.int .i64)), .data (.int .i64)])], [(139, .arr 51 tT0), (1, .arr 44 (.pair (.str) (.pair (.int .i64) (.pair (.int .i64) tT1))))]⟩⟩])) (nn (mm (mm (nn (nn (mm (nn (.mk [.join [⟨.n, ⟨[(0, .one (.ptr 0 0)), (2, .one (.own 1)), (4, .one (.ptr 80 0)), (7, .one (.own 139)), (8, kk), (9, .one (.ptr 160 0))], [(0, 76, [.keep, .keep]), (80, 32, [.keep, .keep, .keep, .keep, .keep, .keep]), (160, 51, [.keep, .keep, .data (.str), .data (.str), .keep, .keep])], [(1, .arr 44 (.pair (.str) (.pair (.int .i64) (.pair (.int .i64) tT1)))), (139, .arr 51 tT0)]⟩⟩]] none .nil .nil)) .nil))) .nil) .nil)) .nil) .nil)) .nil))))
  Tryz.func12 rfl (by kernel_rfl) rfl rfl rfl rfl types_ok ⟨⟨ok_keep_Src_N, ok_keep_Src_Text, ok_keep_Src_Range, trivial⟩, trivial⟩ mx (fun x => by kernel_rfl)

noncomputable def second_Mod (n : Int) (k : Int) : Option (Int) :=
 (keep_Mod n k).bind fun r =>
 some r

noncomputable def fn_second_Mod : Fun :=
 ⟨19, 2, 1,
 ⟨[(0, ii), (1, ii)], [], []⟩,
 ⟨[(0, ii)], [], []⟩,
 fun x => second_Mod x.1 x.2⟩
noncomputable def cx_second_Mod : Cx := ⟨types, [], [fn_keep_Mod], 8, []⟩
theorem ok_second_Mod : FunOk Tryz.prog fn_second_Mod :=
 FunOk.intro (C := cx_second_Mod) (p := .nil)
  Tryz.func19 rfl (by kernel_rfl) rfl rfl rfl rfl types_ok ⟨⟨ok_keep_Mod, trivial⟩, trivial⟩ mx (fun x => by kernel_rfl)

noncomputable def keep_Src_Wrong_L0 (s3 : List Int) (s4 : Int) (n2 : List (List UInt8)) (n3 : List yT1) (n4 : List (List UInt8 × Int × Int)) (n5 : List (List UInt8 × Int × Int × Int × Int)) (x : List (Int × Int × Int)) : Option ((List Int × Int × List (List UInt8) × (List yT1) × (List (List UInt8 × Int × Int)) × (List (List UInt8 × Int × Int × Int × Int)) × List (Int × Int × Int)) ⊕ (List Int × Int × List (List UInt8) × (List yT1) × (List (List UInt8 × Int × Int)) × (List (List UInt8 × Int × Int × Int × Int)) × List (Int × Int × Int))) :=
 (keep_Src_N 2 s3 s4).bind fun r25 =>
 bif decide ((n2.length : Int) ≤ wi64 (23 + r25.1)) then (
 (keep_name [121] (n2.length : Int)).bind fun r26 =>
 (keep_name [] (wi64 (Int.tdiv (n2.length : Int) 26))).bind fun r27 =>
 gd (Nat.ble (r26.length + r27.length) 9223372036854775807) <|
 gd (fits (n2.length + 1) 16) <|
 some (.inl (r25.2.1, r25.2.2, n2 ++ [r26 ++ r27], n3, n4, n5, x)))
 else (
 some (.inr (r25.2.1, r25.2.2, n2, n3, n4, n5, x)))

noncomputable def keep_Src_Wrong (n : List (List UInt8) × List yT1 × List (List UInt8 × Int × Int) × List (List UInt8 × Int × Int × Int × Int) × Int × Int) (s : List Int) (s2 : Int) : Option ((List (List UInt8) × List yT1 × List (List UInt8 × Int × Int) × List (List UInt8 × Int × Int × Int × Int) × Int × Int) × List Int × Int) :=
 gd (fits (0 + n.1.length) 16) <|
 gd (fits (0 + n.2.1.length) 80) <|
 gd (fits (0 + n.2.2.1.length) 32) <|
 gd (fits (0 + n.2.2.2.1.length) 48) <|
 (keep_Src_N (([] ++ n.2.1).length : Int) s s2).bind fun r =>
 gd (inB r.1 ([] ++ n.2.1).length) <|
 gd (fits (0 + (((((((([] ++ n.2.1).getD r.1.toNat ([], (0, (0, (0, (0, (0, []))))))).2).2).2).2).2).2).length) 24) <|
 (keep_Src_N 12 r.2.1 r.2.2).bind fun r2 =>
 Option.bind (α := Int × Int × Int × Int × Int × Int × (List (Int × Int × Int)) × List Int × Int × List (List UInt8) × (List yT1) × (List (List UInt8 × Int × Int)) × List (List UInt8 × Int × Int × Int × Int)) (
 bif decide (r2.1 = 0) then (
 (keep_Src_N (([] ++ n.1).length : Int) r2.2.1 r2.2.2).bind fun r3 =>
 (keep_Src_Text ([[], [110, 97], [65], [120, 45, 57]] : List (List UInt8)) r3.2.1 r3.2.2).bind fun r4 =>
 gd (inB r3.1 ([] ++ n.1).length) <|
 some (n.2.2.2.2.1, n.2.2.2.2.2, ((([] ++ n.2.1).getD r.1.toNat ([], (0, (0, (0, (0, (0, []))))))).2).1, ((((([] ++ n.2.1).getD r.1.toNat ([], (0, (0, (0, (0, (0, []))))))).2).2).2).1, (((((([] ++ n.2.1).getD r.1.toNat ([], (0, (0, (0, (0, (0, []))))))).2).2).2).2).1, ((((((([] ++ n.2.1).getD r.1.toNat ([], (0, (0, (0, (0, (0, []))))))).2).2).2).2).2).1, ([] ++ (((((((([] ++ n.2.1).getD r.1.toNat ([], (0, (0, (0, (0, (0, []))))))).2).2).2).2).2).2)), r4.2.1, r4.2.2, ([] ++ n.1).set r3.1.toNat r4.1, ([] ++ n.2.1), ([] ++ n.2.2.1), ([] ++ n.2.2.2.1)))
 else (
 bif decide (r2.1 = 1) then (
 (keep_Src_Pick [(-1), (((([] ++ n.2.1).getD r.1.toNat ([], (0, (0, (0, (0, (0, []))))))).2).2).1, (([] ++ n.1).length : Int), 0] r2.2.1 r2.2.2).bind fun r5 =>
 some (n.2.2.2.2.1, n.2.2.2.2.2, r5.1, ((((([] ++ n.2.1).getD r.1.toNat ([], (0, (0, (0, (0, (0, []))))))).2).2).2).1, (((((([] ++ n.2.1).getD r.1.toNat ([], (0, (0, (0, (0, (0, []))))))).2).2).2).2).1, ((((((([] ++ n.2.1).getD r.1.toNat ([], (0, (0, (0, (0, (0, []))))))).2).2).2).2).2).1, ([] ++ (((((((([] ++ n.2.1).getD r.1.toNat ([], (0, (0, (0, (0, (0, []))))))).2).2).2).2).2).2)), r5.2.1, r5.2.2, ([] ++ n.1), ([] ++ n.2.1), ([] ++ n.2.2.1), ([] ++ n.2.2.2.1)))
 else (
 bif decide (r2.1 = 2) then (
 (keep_Src_Pick [0, (-1), wi64 ((((((([] ++ n.2.1).getD r.1.toNat ([], (0, (0, (0, (0, (0, []))))))).2).2).2).1) + 1), 1000001] r2.2.1 r2.2.2).bind fun r6 =>
 some (n.2.2.2.2.1, n.2.2.2.2.2, ((([] ++ n.2.1).getD r.1.toNat ([], (0, (0, (0, (0, (0, []))))))).2).1, r6.1, (((((([] ++ n.2.1).getD r.1.toNat ([], (0, (0, (0, (0, (0, []))))))).2).2).2).2).1, ((((((([] ++ n.2.1).getD r.1.toNat ([], (0, (0, (0, (0, (0, []))))))).2).2).2).2).2).1, ([] ++ (((((((([] ++ n.2.1).getD r.1.toNat ([], (0, (0, (0, (0, (0, []))))))).2).2).2).2).2).2)), r6.2.1, r6.2.2, ([] ++ n.1), ([] ++ n.2.1), ([] ++ n.2.2.1), ([] ++ n.2.2.2.1)))
 else (
 bif decide (r2.1 = 3) then (
 (keep_Src_Pick [(-1), 1000, 1001] r2.2.1 r2.2.2).bind fun r7 =>
 some (n.2.2.2.2.1, n.2.2.2.2.2, ((([] ++ n.2.1).getD r.1.toNat ([], (0, (0, (0, (0, (0, []))))))).2).1, ((((([] ++ n.2.1).getD r.1.toNat ([], (0, (0, (0, (0, (0, []))))))).2).2).2).1, r7.1, ((((((([] ++ n.2.1).getD r.1.toNat ([], (0, (0, (0, (0, (0, []))))))).2).2).2).2).2).1, ([] ++ (((((((([] ++ n.2.1).getD r.1.toNat ([], (0, (0, (0, (0, (0, []))))))).2).2).2).2).2).2)), r7.2.1, r7.2.2, ([] ++ n.1), ([] ++ n.2.1), ([] ++ n.2.2.1), ([] ++ n.2.2.2.1)))
 else (
 bif decide (r2.1 = 4) then (
 (keep_Src_Pick [(-1), 100000, 100001] r2.2.1 r2.2.2).bind fun r8 =>
 some (n.2.2.2.2.1, n.2.2.2.2.2, ((([] ++ n.2.1).getD r.1.toNat ([], (0, (0, (0, (0, (0, []))))))).2).1, ((((([] ++ n.2.1).getD r.1.toNat ([], (0, (0, (0, (0, (0, []))))))).2).2).2).1, (((((([] ++ n.2.1).getD r.1.toNat ([], (0, (0, (0, (0, (0, []))))))).2).2).2).2).1, r8.1, ([] ++ (((((((([] ++ n.2.1).getD r.1.toNat ([], (0, (0, (0, (0, (0, []))))))).2).2).2).2).2).2)), r8.2.1, r8.2.2, ([] ++ n.1), ([] ++ n.2.1), ([] ++ n.2.2.1), ([] ++ n.2.2.2.1)))
 else (
 bif decide (r2.1 = 5) then (
 bif decide (0 < (([] ++ (((((((([] ++ n.2.1).getD r.1.toNat ([], (0, (0, (0, (0, (0, []))))))).2).2).2).2).2).2)).length : Int)) then (
 (keep_Src_N (([] ++ (((((((([] ++ n.2.1).getD r.1.toNat ([], (0, (0, (0, (0, (0, []))))))).2).2).2).2).2).2)).length : Int) r2.2.1 r2.2.2).bind fun r9 =>
 (keep_Src_Pick [(-1), 0, 1, ((((([] ++ n.2.1).getD r.1.toNat ([], (0, (0, (0, (0, (0, []))))))).2).2).2).1] r9.2.1 r9.2.2).bind fun r10 =>
 gd (inB r9.1 ([] ++ (((((((([] ++ n.2.1).getD r.1.toNat ([], (0, (0, (0, (0, (0, []))))))).2).2).2).2).2).2)).length) <|
 some (n.2.2.2.2.1, n.2.2.2.2.2, ((([] ++ n.2.1).getD r.1.toNat ([], (0, (0, (0, (0, (0, []))))))).2).1, ((((([] ++ n.2.1).getD r.1.toNat ([], (0, (0, (0, (0, (0, []))))))).2).2).2).1, (((((([] ++ n.2.1).getD r.1.toNat ([], (0, (0, (0, (0, (0, []))))))).2).2).2).2).1, ((((((([] ++ n.2.1).getD r.1.toNat ([], (0, (0, (0, (0, (0, []))))))).2).2).2).2).2).1, ([] ++ (((((((([] ++ n.2.1).getD r.1.toNat ([], (0, (0, (0, (0, (0, []))))))).2).2).2).2).2).2)).set r9.1.toNat (r10.1, (([] ++ (((((((([] ++ n.2.1).getD r.1.toNat ([], (0, (0, (0, (0, (0, []))))))).2).2).2).2).2).2)).getD r9.1.toNat (0, (0, 0))).2), r10.2.1, r10.2.2, ([] ++ n.1), ([] ++ n.2.1), ([] ++ n.2.2.1), ([] ++ n.2.2.2.1)))
 else (
 some (n.2.2.2.2.1, n.2.2.2.2.2, ((([] ++ n.2.1).getD r.1.toNat ([], (0, (0, (0, (0, (0, []))))))).2).1, ((((([] ++ n.2.1).getD r.1.toNat ([], (0, (0, (0, (0, (0, []))))))).2).2).2).1, (((((([] ++ n.2.1).getD r.1.toNat ([], (0, (0, (0, (0, (0, []))))))).2).2).2).2).1, ((((((([] ++ n.2.1).getD r.1.toNat ([], (0, (0, (0, (0, (0, []))))))).2).2).2).2).2).1, ([] ++ (((((((([] ++ n.2.1).getD r.1.toNat ([], (0, (0, (0, (0, (0, []))))))).2).2).2).2).2).2)), r2.2.1, r2.2.2, ([] ++ n.1), ([] ++ n.2.1), ([] ++ n.2.2.1), ([] ++ n.2.2.2.1))))
 else (
 bif decide (r2.1 = 6) then (
 (keep_Src_N (min 3 (wi64 ((([] ++ (((((((([] ++ n.2.1).getD r.1.toNat ([], (0, (0, (0, (0, (0, []))))))).2).2).2).2).2).2)).length : Int) + 1))) r2.2.1 r2.2.2).bind fun r11 =>
 gd (cutG none (some (.i64, r11.1)) ([] ++ (((((((([] ++ n.2.1).getD r.1.toNat ([], (0, (0, (0, (0, (0, []))))))).2).2).2).2).2).2)).length) <|
 some (n.2.2.2.2.1, n.2.2.2.2.2, ((([] ++ n.2.1).getD r.1.toNat ([], (0, (0, (0, (0, (0, []))))))).2).1, ((((([] ++ n.2.1).getD r.1.toNat ([], (0, (0, (0, (0, (0, []))))))).2).2).2).1, (((((([] ++ n.2.1).getD r.1.toNat ([], (0, (0, (0, (0, (0, []))))))).2).2).2).2).1, ((((((([] ++ n.2.1).getD r.1.toNat ([], (0, (0, (0, (0, (0, []))))))).2).2).2).2).2).1, ([] ++ (((((((([] ++ n.2.1).getD r.1.toNat ([], (0, (0, (0, (0, (0, []))))))).2).2).2).2).2).2)).take r11.1.toNat, r11.2.1, r11.2.2, ([] ++ n.1), ([] ++ n.2.1), ([] ++ n.2.2.1), ([] ++ n.2.2.2.1)))
 else (
 bif decide (r2.1 = 7) then (
 bif decide (0 < (([] ++ (((((((([] ++ n.2.1).getD r.1.toNat ([], (0, (0, (0, (0, (0, []))))))).2).2).2).2).2).2)).length : Int)) then (
 (keep_Src_N (([] ++ (((((((([] ++ n.2.1).getD r.1.toNat ([], (0, (0, (0, (0, (0, []))))))).2).2).2).2).2).2)).length : Int) r2.2.1 r2.2.2).bind fun r12 =>
 (keep_Src_Pick [(-501), (-500), 5000, 5001] r12.2.1 r12.2.2).bind fun r13 =>
 gd (inB r12.1 ([] ++ (((((((([] ++ n.2.1).getD r.1.toNat ([], (0, (0, (0, (0, (0, []))))))).2).2).2).2).2).2)).length) <|
 some (n.2.2.2.2.1, n.2.2.2.2.2, ((([] ++ n.2.1).getD r.1.toNat ([], (0, (0, (0, (0, (0, []))))))).2).1, ((((([] ++ n.2.1).getD r.1.toNat ([], (0, (0, (0, (0, (0, []))))))).2).2).2).1, (((((([] ++ n.2.1).getD r.1.toNat ([], (0, (0, (0, (0, (0, []))))))).2).2).2).2).1, ((((((([] ++ n.2.1).getD r.1.toNat ([], (0, (0, (0, (0, (0, []))))))).2).2).2).2).2).1, ([] ++ (((((((([] ++ n.2.1).getD r.1.toNat ([], (0, (0, (0, (0, (0, []))))))).2).2).2).2).2).2)).set r12.1.toNat ((([] ++ (((((((([] ++ n.2.1).getD r.1.toNat ([], (0, (0, (0, (0, (0, []))))))).2).2).2).2).2).2)).getD r12.1.toNat (0, (0, 0))).1, (r13.1, ((([] ++ (((((((([] ++ n.2.1).getD r.1.toNat ([], (0, (0, (0, (0, (0, []))))))).2).2).2).2).2).2)).getD r12.1.toNat (0, (0, 0))).2).2)), r13.2.1, r13.2.2, ([] ++ n.1), ([] ++ n.2.1), ([] ++ n.2.2.1), ([] ++ n.2.2.2.1)))
 else (
 some (n.2.2.2.2.1, n.2.2.2.2.2, ((([] ++ n.2.1).getD r.1.toNat ([], (0, (0, (0, (0, (0, []))))))).2).1, ((((([] ++ n.2.1).getD r.1.toNat ([], (0, (0, (0, (0, (0, []))))))).2).2).2).1, (((((([] ++ n.2.1).getD r.1.toNat ([], (0, (0, (0, (0, (0, []))))))).2).2).2).2).1, ((((((([] ++ n.2.1).getD r.1.toNat ([], (0, (0, (0, (0, (0, []))))))).2).2).2).2).2).1, ([] ++ (((((((([] ++ n.2.1).getD r.1.toNat ([], (0, (0, (0, (0, (0, []))))))).2).2).2).2).2).2)), r2.2.1, r2.2.2, ([] ++ n.1), ([] ++ n.2.1), ([] ++ n.2.2.1), ([] ++ n.2.2.2.1))))
 else (
 bif decide (r2.1 = 8) then (
 bif decide (0 < (([] ++ n.2.2.1).length : Int)) then (
 (keep_Src_N (([] ++ n.2.2.1).length : Int) r2.2.1 r2.2.2).bind fun r14 =>
 (keep_Src_Text ([[113, 97], [113, 98], [], [122]] : List (List UInt8)) r14.2.1 r14.2.2).bind fun r15 =>
 (keep_Src_Pick [(-1), 0, 1, (([] ++ n.1).length : Int)] r15.2.1 r15.2.2).bind fun r16 =>
 (keep_Src_Pick [0, (-1), 100000000, 100000001] r16.2.1 r16.2.2).bind fun r17 =>
 gd (inB r14.1 ([] ++ n.2.2.1).length) <|
 some (n.2.2.2.2.1, n.2.2.2.2.2, ((([] ++ n.2.1).getD r.1.toNat ([], (0, (0, (0, (0, (0, []))))))).2).1, ((((([] ++ n.2.1).getD r.1.toNat ([], (0, (0, (0, (0, (0, []))))))).2).2).2).1, (((((([] ++ n.2.1).getD r.1.toNat ([], (0, (0, (0, (0, (0, []))))))).2).2).2).2).1, ((((((([] ++ n.2.1).getD r.1.toNat ([], (0, (0, (0, (0, (0, []))))))).2).2).2).2).2).1, ([] ++ (((((((([] ++ n.2.1).getD r.1.toNat ([], (0, (0, (0, (0, (0, []))))))).2).2).2).2).2).2)), r17.2.1, r17.2.2, ([] ++ n.1), ([] ++ n.2.1), ([] ++ n.2.2.1).set r14.1.toNat (r15.1, (r16.1, r17.1)), ([] ++ n.2.2.2.1)))
 else (
 some (n.2.2.2.2.1, n.2.2.2.2.2, ((([] ++ n.2.1).getD r.1.toNat ([], (0, (0, (0, (0, (0, []))))))).2).1, ((((([] ++ n.2.1).getD r.1.toNat ([], (0, (0, (0, (0, (0, []))))))).2).2).2).1, (((((([] ++ n.2.1).getD r.1.toNat ([], (0, (0, (0, (0, (0, []))))))).2).2).2).2).1, ((((((([] ++ n.2.1).getD r.1.toNat ([], (0, (0, (0, (0, (0, []))))))).2).2).2).2).2).1, ([] ++ (((((((([] ++ n.2.1).getD r.1.toNat ([], (0, (0, (0, (0, (0, []))))))).2).2).2).2).2).2)), r2.2.1, r2.2.2, ([] ++ n.1), ([] ++ n.2.1), ([] ++ n.2.2.1), ([] ++ n.2.2.2.1))))
 else (
 bif decide (r2.1 = 9) then (
 (keep_Src_Text ([[115, 97], [115, 122], []] : List (List UInt8)) r2.2.1 r2.2.2).bind fun r18 =>
 (keep_Src_Pick [(-1), 0, 0, 1, 99] r18.2.1 r18.2.2).bind fun r19 =>
 (keep_Src_Pick [0, (-1)] r19.2.1 r19.2.2).bind fun r20 =>
 (keep_Src_Pick [0, 100001] r20.2.1 r20.2.2).bind fun r21 =>
 (keep_Src_Pick [0, (-1)] r21.2.1 r21.2.2).bind fun r22 =>
 gd (fits (([] ++ n.2.2.2.1).length + 1) 48) <|
 some (n.2.2.2.2.1, n.2.2.2.2.2, ((([] ++ n.2.1).getD r.1.toNat ([], (0, (0, (0, (0, (0, []))))))).2).1, ((((([] ++ n.2.1).getD r.1.toNat ([], (0, (0, (0, (0, (0, []))))))).2).2).2).1, (((((([] ++ n.2.1).getD r.1.toNat ([], (0, (0, (0, (0, (0, []))))))).2).2).2).2).1, ((((((([] ++ n.2.1).getD r.1.toNat ([], (0, (0, (0, (0, (0, []))))))).2).2).2).2).2).1, ([] ++ (((((((([] ++ n.2.1).getD r.1.toNat ([], (0, (0, (0, (0, (0, []))))))).2).2).2).2).2).2)), r22.2.1, r22.2.2, ([] ++ n.1), ([] ++ n.2.1), ([] ++ n.2.2.1), ([] ++ n.2.2.2.1) ++ [(r18.1, (r19.1, (r20.1, (r21.1, r22.1))))]))
 else (
 bif decide (r2.1 = 10) then (
 (keep_Src_Pick [0, (-100001), 100000001] r2.2.1 r2.2.2).bind fun r23 =>
 (keep_Src_Pick [0, (-1), 101] r23.2.1 r23.2.2).bind fun r24 =>
 some (r23.1, r24.1, ((([] ++ n.2.1).getD r.1.toNat ([], (0, (0, (0, (0, (0, []))))))).2).1, ((((([] ++ n.2.1).getD r.1.toNat ([], (0, (0, (0, (0, (0, []))))))).2).2).2).1, (((((([] ++ n.2.1).getD r.1.toNat ([], (0, (0, (0, (0, (0, []))))))).2).2).2).2).1, ((((((([] ++ n.2.1).getD r.1.toNat ([], (0, (0, (0, (0, (0, []))))))).2).2).2).2).2).1, ([] ++ (((((((([] ++ n.2.1).getD r.1.toNat ([], (0, (0, (0, (0, (0, []))))))).2).2).2).2).2).2)), r24.2.1, r24.2.2, ([] ++ n.1), ([] ++ n.2.1), ([] ++ n.2.2.1), ([] ++ n.2.2.2.1)))
 else (
 (iter (fun x2 => keep_Src_Wrong_L0 x2.1 x2.2.1 x2.2.2.1 x2.2.2.2.1 x2.2.2.2.2.1 x2.2.2.2.2.2.1 x2.2.2.2.2.2.2) (r2.2.1, r2.2.2, ([] ++ n.1), ([] ++ n.2.1), ([] ++ n.2.2.1), ([] ++ n.2.2.2.1), ([] ++ (((((((([] ++ n.2.1).getD r.1.toNat ([], (0, (0, (0, (0, (0, []))))))).2).2).2).2).2).2)))).bind fun s5 =>
 some (n.2.2.2.2.1, n.2.2.2.2.2, ((([] ++ n.2.1).getD r.1.toNat ([], (0, (0, (0, (0, (0, []))))))).2).1, ((((([] ++ n.2.1).getD r.1.toNat ([], (0, (0, (0, (0, (0, []))))))).2).2).2).1, (((((([] ++ n.2.1).getD r.1.toNat ([], (0, (0, (0, (0, (0, []))))))).2).2).2).2).1, ((((((([] ++ n.2.1).getD r.1.toNat ([], (0, (0, (0, (0, (0, []))))))).2).2).2).2).2).1, s5.2.2.2.2.2.2, s5.1, s5.2.1, s5.2.2.1, s5.2.2.2.1, s5.2.2.2.2.1, s5.2.2.2.2.2.1))))))))))))) fun s6 =>
 gd (inB r.1 s6.2.2.2.2.2.2.2.2.2.2.1.length) <|
 some ((s6.2.2.2.2.2.2.2.2.2.1, (s6.2.2.2.2.2.2.2.2.2.2.1.set r.1.toNat ((([] ++ n.2.1).getD r.1.toNat ([], (0, (0, (0, (0, (0, []))))))).1, (s6.2.2.1, ((((([] ++ n.2.1).getD r.1.toNat ([], (0, (0, (0, (0, (0, []))))))).2).2).1, (s6.2.2.2.1, (s6.2.2.2.2.1, (s6.2.2.2.2.2.1, s6.2.2.2.2.2.2.1)))))), (s6.2.2.2.2.2.2.2.2.2.2.2.1, (s6.2.2.2.2.2.2.2.2.2.2.2.2, (s6.1, s6.2.1))))), s6.2.2.2.2.2.2.2.1, s6.2.2.2.2.2.2.2.2.1)

noncomputable def fn_keep_Src_Wrong : Fun :=
 ⟨20, 2, 1,
 ⟨[(0, .one (.ptr 0 0)), (1, .one (.data (.pair (.sl (.str)) (.pair (.sl (.pair (.str) (.pair (.int .i64) (.pair (.int .i64) (.pair (.int .i64) (.pair (.int .i64) (.pair (.int .i64) (.sl (.pair (.int .i64) tT1))))))))) (.pair (.sl (.pair (.str) tT1)) (.pair (.sl (.pair (.str) (.pair (.int .i64) (.pair (.int .i64) tT1)))) tT1))))))], [(0, 76, [.data (.sl (.int .i64)), .data (.int .i64)])], []⟩,
 ⟨[(0, .one (.data (.pair (.sl (.str)) (.pair (.sl (.pair (.str) (.pair (.int .i64) (.pair (.int .i64) (.pair (.int .i64) (.pair (.int .i64) (.pair (.int .i64) (.sl (.pair (.int .i64) tT1))))))))) (.pair (.sl (.pair (.str) tT1)) (.pair (.sl (.pair (.str) (.pair (.int .i64) (.pair (.int .i64) tT1)))) tT1))))))], [(0, 76, [.data (.sl (.int .i64)), .data (.int .i64)])], []⟩,
 fun x => keep_Src_Wrong x.1 x.2.1 x.2.2⟩
noncomputable def cx_keep_Src_Wrong : Cx := ⟨types, [7, 12, 17, 22, 37], [fn_keep_Src_N, fn_keep_Src_Text, fn_keep_Src_Pick, fn_keep_name], 228, []⟩
theorem ok_keep_Src_Wrong : FunOk Tryz.prog fn_keep_Src_Wrong :=
 FunOk.intro (C := cx_keep_Src_Wrong) (p := (nn (nn (nn (nn (nn (nn (nn (nn (mm (nn (.mk [.join [⟨.n, ⟨[(3, .one (.ptr 64 0)), (4, .one (.ptr 80 0)), (5, kk), (6, .one (.ptr 112 0))], [(64, 32, [.own 1049, .own 256, .own 336, .own 1097, .data (.int .i64), .data (.int .i64)]), (80, 32, [.keep, .keep, .keep, .keep, .keep, .keep]), (112, 72, [.keep, .data (.int .i64), .keep, .data (.int .i64), .data (.int .i64), .data (.int .i64), .data (.sl (.pair (.int .i64) tT1))]), (0, 76, [.data (.sl (.int .i64)), .data (.int .i64)])], [(1049, .arr 9 (.str)), (256, .arr 72 (.pair (.str) (.pair (.int .i64) (.pair (.int .i64) (.pair (.int .i64) (.pair (.int .i64) (.pair (.int .i64) (.sl (.pair (.int .i64) tT1))))))))), (336, .arr 74 (.pair (.str) tT1)), (1097, .arr 80 (.pair (.str) (.pair (.int .i64) (.pair (.int .i64) tT1))))]⟩⟩]] none (nn (nn (nn (nn (nn (nn (nn (nn (nn (nn (nn (nn (nn (mm (.mk [.fz [6]] none .nil .nil) (nn (nn (nn (nn (nn (nn (nn (nn (mm (.mk [] (some (⟨[(0, .one (.ptr 0 0)), (3, .one (.ptr 64 0)), (4, .one (.ptr 80 0)), (5, kk), (6, .one (.ptr 112 0))], [(0, 76, [.data (.sl (.int .i64)), .data (.int .i64)]), (64, 32, [.own 1049, .own 256, .own 336, .own 416, .keep, .keep]), (80, 32, [.keep, .keep, .keep, .keep, .keep, .keep]), (112, 72, [.keep, .keep, .keep, .keep, .keep, .keep, .own 656])], [(1049, .arr 9 (.str)), (256, .arr 72 (.pair (.str) (.pair (.int .i64) (.pair (.int .i64) (.pair (.int .i64) (.pair (.int .i64) (.pair (.int .i64) (.sl (.pair (.int .i64) tT1))))))))), (336, .arr 74 (.pair (.str) tT1)), (416, .arr 80 (.pair (.str) (.pair (.int .i64) (.pair (.int .i64) tT1)))), (656, .arr 69 (.pair (.int .i64) tT1))]⟩, [⟨.x 1, ⟨[(3, .one (.ptr 64 0)), (4, .one (.ptr 80 0)), (5, kk), (6, .one (.ptr 112 0))], [(64, 32, [.own 1049, .own 256, .own 336, .own 416, .keep, .keep]), (80, 32, [.keep, .keep, .keep, .keep, .keep, .keep]), (112, 72, [.keep, .keep, .keep, .keep, .keep, .keep, .own 656]), (0, 76, [.data (.sl (.int .i64)), .data (.int .i64)])], [(1049, .arr 9 (.str)), (256, .arr 72 (.pair (.str) (.pair (.int .i64) (.pair (.int .i64) (.pair (.int .i64) (.pair (.int .i64) (.pair (.int .i64) (.sl (.pair (.int .i64) tT1))))))))), (336, .arr 74 (.pair (.str) tT1)), (416, .arr 80 (.pair (.str) (.pair (.int .i64) (.pair (.int .i64) tT1)))), (656, .arr 69 (.pair (.int .i64) tT1))]⟩⟩])) .nil .nil) .nil))))))))))))))))))))))) .nil)) .nil))))))))))
  Tryz.func20 rfl (by kernel_rfl) rfl rfl rfl rfl types_ok ⟨⟨ok_keep_Src_N, ok_keep_Src_Text, ok_keep_Src_Pick, ok_keep_name, trivial⟩, trivial⟩ mx (fun x => by kernel_rfl)

noncomputable def ref12_in (n : Int) (low : Int) (high : Int) : Option (Bool) :=
 bif decide (low ≤ n) then (
 some (decide (n ≤ high)))
 else (
 some false)

noncomputable def fn_ref12_in : Fun :=
 ⟨86, 3, 1,
 ⟨[(0, ii), (1, ii), (2, ii)], [], []⟩,
 ⟨[(0, bb)], [], []⟩,
 fun x => ref12_in x.1 x.2.1 x.2.2⟩
noncomputable def cx_ref12_in : Cx := ⟨types, [], [], 15, []⟩
theorem ok_ref12_in : FunOk Tryz.prog fn_ref12_in :=
 FunOk.intro (C := cx_ref12_in) (p := .nil)
  Tryz.func86 rfl (by kernel_rfl) rfl rfl rfl rfl types_ok ⟨trivial, trivial⟩ mx (fun x => by kernel_rfl)

noncomputable def ref12_names_L0 (n : List (List UInt8) × List yT1 × List (List UInt8 × Int × Int) × List (List UInt8 × Int × Int × Int × Int) × Int × Int) (v : Int) (out : List (List UInt8)) : Option ((Int × List (List UInt8)) ⊕ (List (List UInt8))) :=
 bif decide (v < (n.2.1.length : Int)) then (
 gd (inB v n.2.1.length) <|
 gd (fits (out.length + 1) 16) <|
 some (.inl (wi64 (v + 1), out ++ [(n.2.1.getD v.toNat ([], (0, (0, (0, (0, (0, []))))))).1])))
 else (
 some (.inr out))

noncomputable def ref12_names_L1 (n : List (List UInt8) × List yT1 × List (List UInt8 × Int × Int) × List (List UInt8 × Int × Int × Int × Int) × Int × Int) (v2 : Int) (out2 : List (List UInt8)) (out3 : List (List UInt8)) : Option ((Int × List (List UInt8) × List (List UInt8)) ⊕ (List (List UInt8) × List (List UInt8))) :=
 bif decide (v2 < (n.2.2.1.length : Int)) then (
 gd (inB v2 n.2.2.1.length) <|
 gd (fits (out3.length + 1) 16) <|
 some (.inl (wi64 (v2 + 1), out2, out3 ++ [(n.2.2.1.getD v2.toNat ([], (0, 0))).1])))
 else (
 some (.inr (out2, out3)))

noncomputable def ref12_names_L2 (n : List (List UInt8) × List yT1 × List (List UInt8 × Int × Int) × List (List UInt8 × Int × Int × Int × Int) × Int × Int) (v3 : Int) (out4 : List (List UInt8)) (out5 : List (List UInt8)) (out6 : List (List UInt8)) : Option ((Int × List (List UInt8) × List (List UInt8) × List (List UInt8)) ⊕ (List (List UInt8) × List (List UInt8) × List (List UInt8))) :=
 bif decide (v3 < (n.2.2.2.1.length : Int)) then (
 gd (inB v3 n.2.2.2.1.length) <|
 gd (fits (out6.length + 1) 16) <|
 some (.inl (wi64 (v3 + 1), out4, out5, out6 ++ [(n.2.2.2.1.getD v3.toNat ([], (0, (0, (0, 0))))).1])))
 else (
 some (.inr (out4, out5, out6)))

noncomputable def ref12_names (n : List (List UInt8) × List yT1 × List (List UInt8 × Int × Int) × List (List UInt8 × Int × Int × Int × Int) × Int × Int) : Option (List (List UInt8) × List (List UInt8) × List (List UInt8) × List (List UInt8)) :=
 (iter (fun x => ref12_names_L0 n x.1 x.2) (0, [])).bind fun s =>
 (iter (fun x2 => ref12_names_L1 n x2.1 x2.2.1 x2.2.2) (0, s, [])).bind fun s2 =>
 (iter (fun x3 => ref12_names_L2 n x3.1 x3.2.1 x3.2.2.1 x3.2.2.2) (0, s2.1, s2.2, [])).bind fun s3 =>
 some (n.1, (s3.1, (s3.2.1, s3.2.2)))

noncomputable def fn_ref12_names : Fun :=
 ⟨87, 1, 1,
 ⟨[(0, .one (.data (.pair (.sl (.str)) (.pair (.sl (.pair (.str) (.pair (.int .i64) (.pair (.int .i64) (.pair (.int .i64) (.pair (.int .i64) (.pair (.int .i64) (.sl (.pair (.int .i64) tT1))))))))) (.pair (.sl (.pair (.str) tT1)) (.pair (.sl (.pair (.str) (.pair (.int .i64) (.pair (.int .i64) tT1)))) tT1))))))], [], []⟩,
 ⟨[(0, .one (.data (.pair (.sl (.str)) (.pair (.sl (.str)) (.pair (.sl (.str)) (.sl (.str)))))))], [], []⟩,
 fun x => ref12_names x⟩
noncomputable def cx_ref12_names : Cx := ⟨types, [], [], 59, []⟩
theorem ok_ref12_names : FunOk Tryz.prog fn_ref12_names :=
 FunOk.intro (C := cx_ref12_names) (p := (nn (nn (nn (mm (nn (mm (.mk [] (some (⟨[(1, .one (.ptr 32 0)), (2, .one (.ptr 48 0)), (3, .one (.ptr 64 0)), (14, kk), (15, kk), (16, ii)], [(32, 32, [.keep, .keep, .keep, .keep, .keep, .keep]), (48, 109, [.keep, .keep, .keep, .keep]), (64, 109, [.keep, .own 1065, .keep, .keep])], [(1065, .arr 9 (.str))]⟩, [⟨.x 0, ⟨[(1, .one (.ptr 32 0)), (2, .one (.ptr 48 0)), (3, .one (.ptr 64 0))], [(32, 32, [.keep, .keep, .keep, .keep, .keep, .keep]), (48, 109, [.keep, .keep, .keep, .keep]), (64, 109, [.keep, .own 1065, .keep, .keep])], [(1065, .arr 9 (.str))]⟩⟩])) .nil .nil) .nil)) (mm (nn (mm (.mk [] (some (⟨[(1, .one (.ptr 32 0)), (2, .one (.ptr 48 0)), (3, .one (.ptr 64 0)), (29, kk), (30, kk), (31, ii)], [(32, 32, [.keep, .keep, .keep, .keep, .keep, .keep]), (48, 109, [.keep, .keep, .keep, .keep]), (64, 109, [.keep, .own 1065, .own 1081, .keep])], [(1065, .arr 9 (.str)), (1081, .arr 9 (.str))]⟩, [⟨.x 2, ⟨[(1, .one (.ptr 32 0)), (2, .one (.ptr 48 0)), (3, .one (.ptr 64 0))], [(32, 32, [.keep, .keep, .keep, .keep, .keep, .keep]), (48, 109, [.keep, .keep, .keep, .keep]), (64, 109, [.keep, .own 1065, .own 1081, .keep])], [(1065, .arr 9 (.str)), (1081, .arr 9 (.str))]⟩⟩])) .nil .nil) .nil)) (mm (nn (mm (.mk [] (some (⟨[(2, .one (.ptr 48 0)), (3, .one (.ptr 64 0)), (44, kk), (45, kk), (46, ii)], [(48, 109, [.keep, .keep, .keep, .keep]), (64, 109, [.keep, .own 1065, .own 1081, .own 1097])], [(1065, .arr 9 (.str)), (1081, .arr 9 (.str)), (1097, .arr 9 (.str))]⟩, [⟨.x 4, ⟨[(2, .one (.ptr 48 0)), (3, .one (.ptr 64 0))], [(48, 109, [.keep, .keep, .keep, .keep]), (64, 109, [.keep, .own 1065, .own 1081, .own 1097])], [(1065, .arr 9 (.str)), (1081, .arr 9 (.str)), (1097, .arr 9 (.str))]⟩⟩])) .nil .nil) .nil)) .nil)))))))
  Tryz.func87 rfl (by kernel_rfl) rfl rfl rfl rfl types_ok ⟨trivial, trivial⟩ mx (fun x => by kernel_rfl)

noncomputable def ref03_Name_L0 (s : List UInt8) (i : Int) : Option (Int ⊕ (Unit ⊕ Bool)) :=
 bif decide (i < (s.length : Int)) then (
 Option.bind (α := Bool) (
 gd (inB i s.length) <|
 bif decide ((Int.ofNat (s.getD i.toNat 0).toNat) < 97) then (
 gd (inB i s.length) <|
 bif decide ((Int.ofNat (s.getD i.toNat 0).toNat) < 48) then (
 gd (inB i s.length) <|
 some (!decide ((Int.ofNat (s.getD i.toNat 0).toNat) = 45)))
 else (
 gd (inB i s.length) <|
 bif decide (57 < (Int.ofNat (s.getD i.toNat 0).toNat)) then (
 gd (inB i s.length) <|
 some (!decide ((Int.ofNat (s.getD i.toNat 0).toNat) = 45)))
 else (
 some false)))
 else (
 gd (inB i s.length) <|
 bif decide (122 < (Int.ofNat (s.getD i.toNat 0).toNat)) then (
 gd (inB i s.length) <|
 bif decide ((Int.ofNat (s.getD i.toNat 0).toNat) < 48) then (
 gd (inB i s.length) <|
 some (!decide ((Int.ofNat (s.getD i.toNat 0).toNat) = 45)))
 else (
 gd (inB i s.length) <|
 bif decide (57 < (Int.ofNat (s.getD i.toNat 0).toNat)) then (
 gd (inB i s.length) <|
 some (!decide ((Int.ofNat (s.getD i.toNat 0).toNat) = 45)))
 else (
 some false)))
 else (
 some false))) fun s3 =>
 bif s3 then (
 some (.inr (.inr false)))
 else (
 some (.inl (wi64 (i + 1)))))
 else (
 some (.inr (.inl ())))

noncomputable def ref03_Name (s : List UInt8) : Option (Bool) :=
 Option.bind (α := Bool) (
 bif decide ((s.length : Int) < 1) then (
 some true)
 else (
 bif decide (12 < (s.length : Int)) then (
 some true)
 else (
 gd (inB 0 s.length) <|
 bif decide ((Int.ofNat (s.getD 0 0).toNat) < 97) then (
 some true)
 else (
 gd (inB 0 s.length) <|
 some (decide (122 < (Int.ofNat (s.getD 0 0).toNat))))))) fun s2 =>
 bif s2 then (
 some false)
 else (
 (iter (fun x => ref03_Name_L0 s x) 0).bind fun s4 =>
 s4.elim (fun s5 =>
 some true)
 (fun s6 =>
 some s6))

noncomputable def fn_ref03_Name : Fun :=
 ⟨88, 1, 1,
 ⟨[(0, ss)], [], []⟩,
 ⟨[(0, bb)], [], []⟩,
 fun x => ref03_Name x⟩
noncomputable def cx_ref03_Name : Cx := ⟨types, [], [], 56, []⟩
theorem ok_ref03_Name : FunOk Tryz.prog fn_ref03_Name :=
 FunOk.intro (C := cx_ref03_Name) (p := (nn (mm (mm (.mk [.join [⟨.n, ⟨[(0, kk), (21, bb)], [], []⟩⟩]] none .nil .nil) .nil) (mm (nn (mm (.mk [] (some (⟨[(0, kk), (3, ii)], [], []⟩, [⟨.x 0, ⟨[], [], []⟩⟩, ⟨.r, ⟨[(2, bb)], [], []⟩⟩])) (nn (mm (mm (mm (.mk [.join [⟨.n, ⟨[(0, kk), (3, kk), (55, bb)], [], []⟩⟩]] none .nil .nil) .nil) .nil) .nil)) .nil) .nil)) .nil))))
  Tryz.func88 rfl (by kernel_rfl) rfl rfl rfl rfl types_ok ⟨trivial, trivial⟩ mx (fun x => by kernel_rfl)

noncomputable def ref12_twice_L1 (l : List (List UInt8)) (v : Int) (k : Int) : Option (Int ⊕ (Unit ⊕ Bool)) :=
 bif decide (k < v) then (
 gd (inB v l.length) <|
 gd (inB k l.length) <|
 bif decide (l.getD v.toNat [] = l.getD k.toNat []) then (
 some (.inr (.inr true)))
 else (
 some (.inl (wi64 (k + 1)))))
 else (
 some (.inr (.inl ())))

noncomputable def ref12_twice_L0 (l : List (List UInt8)) (v : Int) : Option (Int ⊕ (Unit ⊕ Bool)) :=
 bif decide (v < (l.length : Int)) then (
 (iter (fun x => ref12_twice_L1 l v x) 0).bind fun s =>
 s.elim (fun s2 =>
 some (.inl (wi64 (v + 1))))
 (fun s3 =>
 some (.inr (.inr s3))))
 else (
 some (.inr (.inl ())))

noncomputable def ref12_twice (l : List (List UInt8)) : Option (Bool) :=
 (iter (fun x2 => ref12_twice_L0 l x2) 0).bind fun s4 =>
 s4.elim (fun s5 =>
 some false)
 (fun s6 =>
 some s6)

noncomputable def fn_ref12_twice : Fun :=
 ⟨89, 1, 1,
 ⟨[(0, .one (.data (.sl (.str))))], [], []⟩,
 ⟨[(0, bb)], [], []⟩,
 fun x => ref12_twice x⟩
noncomputable def cx_ref12_twice : Cx := ⟨types, [], [], 25, []⟩
theorem ok_ref12_twice : FunOk Tryz.prog fn_ref12_twice :=
 FunOk.intro (C := cx_ref12_twice) (p := (nn (mm (nn (mm (.mk [] (some (⟨[(0, kk), (6, kk), (7, ii)], [], []⟩, [⟨.x 0, ⟨[], [], []⟩⟩, ⟨.r, ⟨[(2, bb)], [], []⟩⟩])) (nn (nn (mm (mm (nn (nn (mm (.mk [] (some (⟨[(0, kk), (3, kk), (4, ii), (6, kk), (7, kk)], [], []⟩, [⟨.x 2, ⟨[(0, kk), (6, kk), (7, kk)], [], []⟩⟩, ⟨.r, ⟨[(2, bb)], [], []⟩⟩])) .nil .nil) .nil))) .nil) .nil))) .nil) .nil)) .nil)))
  Tryz.func89 rfl (by kernel_rfl) rfl rfl rfl rfl types_ok ⟨trivial, trivial⟩ mx (fun x => by kernel_rfl)


end Go.Proofs.YtiojagjejddocaaGreatDoor
