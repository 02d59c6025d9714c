/- Functions, evaluated. No condition. -/
import Derived.Test.YtiojagjejddocaaDoorProg
import Derived.Test.YtiojagjejddocaaDoorSqY
namespace Go.Proofs.YtiojagjejddocaaDoor
open Go Go.Sq
def ti3 : TI := { t := 3, desc := .int .i64, size := 1, bytes := 8, zero := .int .i64 0, τ := .int .i64, eq := false }
theorem tk3 : ti3.ok Tryd.prog := ⟨Tryd.underlying3, by kernel_rfl, fun h => by cases h⟩
def ti5 : TI := { t := 5, desc := .int .u8, size := 1, bytes := 1, zero := .int .u8 0, τ := .int .u8, eq := false }
theorem tk5 : ti5.ok Tryd.prog := ⟨Tryd.underlying5, by kernel_rfl, fun h => by cases h⟩
def ti9 : TI := { t := 9, desc := .string, size := 1, bytes := 16, zero := .string ⟨#[]⟩, τ := .str, eq := false }
theorem tk9 : ti9.ok Tryd.prog := ⟨Tryd.underlying9, by kernel_rfl, fun h => by cases h⟩
def ti22 : TI := { t := 22, desc := .slice 23, size := 1, bytes := 24, zero := .slice none 0 0, τ := .sl (.int .u16), eq := false }
theorem tk22 : ti22.ok Tryd.prog := ⟨Tryd.underlying22, by kernel_rfl, fun h => by cases h⟩
def ti23 : TI := { t := 23, desc := .int .u16, size := 1, bytes := 2, zero := .int .u16 0, τ := .int .u16, eq := false }
theorem tk23 : ti23.ok Tryd.prog := ⟨Tryd.underlying23, by kernel_rfl, fun h => by cases h⟩
def ti25 : TI := { t := 25, desc := .slice 27, size := 1, bytes := 24, zero := .slice none 0 0, τ := .sl (.pair (.int .i64) (.pair (.int .i64) (.int .i64))), eq := false }
theorem tk25 : ti25.ok Tryd.prog := ⟨Tryd.underlying25, by kernel_rfl, fun h => by cases h⟩
def ti27 : TI := { t := 27, desc := .struct #[{ name := "Batch", type := 3, offset := 0, embedded := false, tag := "", pkgPath := "", byteOffset := 0 }, { name := "Volume", type := 3, offset := 1, embedded := false, tag := "", pkgPath := "", byteOffset := 8 }, { name := "Done", type := 3, offset := 2, embedded := false, tag := "", pkgPath := "", byteOffset := 16 }], size := 3, bytes := 24, zero := .agg #[.int .i64 0, .int .i64 0, .int .i64 0], τ := .pair (.int .i64) (.pair (.int .i64) (.int .i64)), eq := true }
theorem tk27 : ti27.ok Tryd.prog := ⟨Tryd.underlying27, by kernel_rfl, fun _ => ⟨Tryd.eqGuardType27, Tryd.stoodInHeld27⟩⟩
def ti34 : TI := { t := 34, desc := .slice 9, size := 1, bytes := 24, zero := .slice none 0 0, τ := .sl (.str), eq := false }
theorem tk34 : ti34.ok Tryd.prog := ⟨Tryd.underlying34, by kernel_rfl, fun h => by cases h⟩
def ti36 : TI := { t := 36, desc := .struct #[{ name := "At", type := 3, offset := 0, embedded := false, tag := "", pkgPath := "", byteOffset := 0 }, { name := "Height", type := 3, offset := 1, embedded := false, tag := "", pkgPath := "", byteOffset := 8 }, { name := "Limit", type := 3, offset := 2, embedded := false, tag := "", pkgPath := "", byteOffset := 16 }], size := 3, bytes := 24, zero := .agg #[.int .i64 0, .int .i64 0, .int .i64 0], τ := .pair (.int .i64) (.pair (.int .i64) (.int .i64)), eq := true }
theorem tk36 : ti36.ok Tryd.prog := ⟨Tryd.underlying36, by kernel_rfl, fun _ => ⟨Tryd.eqGuardType36, Tryd.stoodInHeld36⟩⟩
def ti37 : TI := { t := 37, desc := .slice 36, size := 1, bytes := 24, zero := .slice none 0 0, τ := .sl (.pair (.int .i64) (.pair (.int .i64) (.int .i64))), eq := false }
theorem tk37 : ti37.ok Tryd.prog := ⟨Tryd.underlying37, by kernel_rfl, fun h => by cases h⟩
def ti39 : TI := { t := 39, desc := .struct #[{ name := "Name", type := 9, offset := 0, embedded := false, tag := "", pkgPath := "", byteOffset := 0 }, { name := "From", type := 3, offset := 1, embedded := false, tag := "", pkgPath := "", byteOffset := 16 }, { name := "To", type := 3, offset := 2, embedded := false, tag := "", pkgPath := "", byteOffset := 24 }, { name := "Capacity", type := 3, offset := 3, embedded := false, tag := "", pkgPath := "", byteOffset := 32 }, { name := "Resist", type := 3, offset := 4, embedded := false, tag := "", pkgPath := "", byteOffset := 40 }, { name := "Wave", type := 3, offset := 5, embedded := false, tag := "", pkgPath := "", byteOffset := 48 }, { name := "Points", type := 37, offset := 6, embedded := false, tag := "", pkgPath := "", byteOffset := 56 }], size := 7, bytes := 80, zero := .agg #[.string ⟨#[]⟩, .int .i64 0, .int .i64 0, .int .i64 0, .int .i64 0, .int .i64 0, .slice none 0 0], τ := .pair (.str) (.pair (.int .i64) (.pair (.int .i64) (.pair (.int .i64) (.pair (.int .i64) (.pair (.int .i64) (.sl (.pair (.int .i64) (.pair (.int .i64) (.int .i64))))))))), eq := true }
theorem tk39 : ti39.ok Tryd.prog := ⟨Tryd.underlying39, by kernel_rfl, fun _ => ⟨Tryd.eqGuardType39, Tryd.stoodInHeld39⟩⟩
def ti40 : TI := { t := 40, desc := .slice 39, size := 1, bytes := 24, zero := .slice none 0 0, τ := .sl (.pair (.str) (.pair (.int .i64) (.pair (.int .i64) (.pair (.int .i64) (.pair (.int .i64) (.pair (.int .i64) (.sl (.pair (.int .i64) (.pair (.int .i64) (.int .i64)))))))))), eq := false }
theorem tk40 : ti40.ok Tryd.prog := ⟨Tryd.underlying40, by kernel_rfl, fun h => by cases h⟩
def ti42 : TI := { t := 42, desc := .struct #[{ name := "Name", type := 9, offset := 0, embedded := false, tag := "", pkgPath := "", byteOffset := 0 }, { name := "Node", type := 3, offset := 1, embedded := false, tag := "", pkgPath := "", byteOffset := 16 }, { name := "Pressure", type := 3, offset := 2, embedded := false, tag := "", pkgPath := "", byteOffset := 24 }], size := 3, bytes := 32, zero := .agg #[.string ⟨#[]⟩, .int .i64 0, .int .i64 0], τ := .pair (.str) (.pair (.int .i64) (.int .i64)), eq := true }
theorem tk42 : ti42.ok Tryd.prog := ⟨Tryd.underlying42, by kernel_rfl, fun _ => ⟨Tryd.eqGuardType42, Tryd.stoodInHeld42⟩⟩
def ti43 : TI := { t := 43, desc := .slice 42, size := 1, bytes := 24, zero := .slice none 0 0, τ := .sl (.pair (.str) (.pair (.int .i64) (.int .i64))), eq := false }
theorem tk43 : ti43.ok Tryd.prog := ⟨Tryd.underlying43, by kernel_rfl, fun h => by cases h⟩
def ti44 : TI := { t := 44, desc := .slice 101, size := 1, bytes := 24, zero := .slice none 0 0, τ := .sl (.pair (.str) (.pair (.int .i64) (.pair (.int .i64) (.pair (.int .i64) (.int .i64))))), eq := false }
theorem tk44 : ti44.ok Tryd.prog := ⟨Tryd.underlying44, by kernel_rfl, fun h => by cases h⟩
def ti46 : TI := { t := 46, desc := .struct #[{ name := "Nodes", type := 34, offset := 0, embedded := false, tag := "", pkgPath := "", byteOffset := 0 }, { name := "Segments", type := 40, offset := 1, embedded := false, tag := "", pkgPath := "", byteOffset := 24 }, { name := "Ports", type := 43, offset := 2, embedded := false, tag := "", pkgPath := "", byteOffset := 48 }, { name := "Stations", type := 44, offset := 3, embedded := false, tag := "", pkgPath := "", byteOffset := 72 }, { name := "Vapour", type := 3, offset := 4, embedded := false, tag := "", pkgPath := "", byteOffset := 96 }, { name := "Settle", type := 3, offset := 5, embedded := false, tag := "", pkgPath := "", byteOffset := 104 }], size := 6, bytes := 112, zero := .agg #[.slice none 0 0, .slice none 0 0, .slice none 0 0, .slice none 0 0, .int .i64 0, .int .i64 0], τ := .pair (.sl (.str)) (.pair (.sl (.pair (.str) (.pair (.int .i64) (.pair (.int .i64) (.pair (.int .i64) (.pair (.int .i64) (.pair (.int .i64) (.sl (.pair (.int .i64) (.pair (.int .i64) (.int .i64))))))))))) (.pair (.sl (.pair (.str) (.pair (.int .i64) (.int .i64)))) (.pair (.sl (.pair (.str) (.pair (.int .i64) (.pair (.int .i64) (.pair (.int .i64) (.int .i64)))))) (.pair (.int .i64) (.int .i64))))), eq := true }
theorem tk46 : ti46.ok Tryd.prog := ⟨Tryd.underlying46, by kernel_rfl, fun _ => ⟨Tryd.eqGuardType46, Tryd.stoodInHeld46⟩⟩
def ti48 : TI := { t := 48, desc := .struct #[{ name := "Shipper", type := 9, offset := 0, embedded := false, tag := "", pkgPath := "", byteOffset := 0 }, { name := "Product", type := 9, offset := 1, embedded := false, tag := "", pkgPath := "", byteOffset := 16 }, { name := "From", type := 9, offset := 2, embedded := false, tag := "", pkgPath := "", byteOffset := 32 }, { name := "To", type := 9, offset := 3, embedded := false, tag := "", pkgPath := "", byteOffset := 48 }, { name := "Cycle", type := 3, offset := 4, embedded := false, tag := "", pkgPath := "", byteOffset := 64 }, { name := "Volume", type := 3, offset := 5, embedded := false, tag := "", pkgPath := "", byteOffset := 72 }], size := 6, bytes := 80, zero := .agg #[.string ⟨#[]⟩, .string ⟨#[]⟩, .string ⟨#[]⟩, .string ⟨#[]⟩, .int .i64 0, .int .i64 0], τ := .pair (.str) (.pair (.str) (.pair (.str) (.pair (.str) (.pair (.int .i64) (.int .i64))))), eq := true }
theorem tk48 : ti48.ok Tryd.prog := ⟨Tryd.underlying48, by kernel_rfl, fun _ => ⟨Tryd.eqGuardType48, Tryd.stoodInHeld48⟩⟩
def ti49 : TI := { t := 49, desc := .slice 57, size := 1, bytes := 24, zero := .slice none 0 0, τ := .sl (.pair (.int .i64) (.pair (.str) (.pair (.int .i64) (.int .i64)))), eq := false }
theorem tk49 : ti49.ok Tryd.prog := ⟨Tryd.underlying49, by kernel_rfl, fun h => by cases h⟩
def ti53 : TI := { t := 53, desc := .struct #[{ name := "Name", type := 9, offset := 0, embedded := false, tag := "", pkgPath := "", byteOffset := 0 }, { name := "Density", type := 3, offset := 1, embedded := false, tag := "", pkgPath := "", byteOffset := 16 }, { name := "Expansion", type := 3, offset := 2, embedded := false, tag := "", pkgPath := "", byteOffset := 24 }, { name := "Compress", type := 3, offset := 3, embedded := false, tag := "", pkgPath := "", byteOffset := 32 }, { name := "Friction", type := 3, offset := 4, embedded := false, tag := "", pkgPath := "", byteOffset := 40 }], size := 5, bytes := 48, zero := .agg #[.string ⟨#[]⟩, .int .i64 0, .int .i64 0, .int .i64 0, .int .i64 0], τ := .pair (.str) (.pair (.int .i64) (.pair (.int .i64) (.pair (.int .i64) (.int .i64)))), eq := true }
theorem tk53 : ti53.ok Tryd.prog := ⟨Tryd.underlying53, by kernel_rfl, fun _ => ⟨Tryd.eqGuardType53, Tryd.stoodInHeld53⟩⟩
def ti54 : TI := { t := 54, desc := .slice 53, size := 1, bytes := 24, zero := .slice none 0 0, τ := .sl (.pair (.str) (.pair (.int .i64) (.pair (.int .i64) (.pair (.int .i64) (.int .i64))))), eq := false }
theorem tk54 : ti54.ok Tryd.prog := ⟨Tryd.underlying54, by kernel_rfl, fun h => by cases h⟩
def ti55 : TI := { t := 55, desc := .slice 48, size := 1, bytes := 24, zero := .slice none 0 0, τ := .sl (.pair (.str) (.pair (.str) (.pair (.str) (.pair (.str) (.pair (.int .i64) (.int .i64)))))), eq := false }
theorem tk55 : ti55.ok Tryd.prog := ⟨Tryd.underlying55, by kernel_rfl, fun h => by cases h⟩
def ti57 : TI := { t := 57, desc := .struct #[{ name := "Product", type := 3, offset := 0, embedded := false, tag := "", pkgPath := "", byteOffset := 0 }, { name := "Shipper", type := 9, offset := 1, embedded := false, tag := "", pkgPath := "", byteOffset := 8 }, { name := "From", type := 3, offset := 2, embedded := false, tag := "", pkgPath := "", byteOffset := 24 }, { name := "To", type := 3, offset := 3, embedded := false, tag := "", pkgPath := "", byteOffset := 32 }], size := 4, bytes := 40, zero := .agg #[.int .i64 0, .string ⟨#[]⟩, .int .i64 0, .int .i64 0], τ := .pair (.int .i64) (.pair (.str) (.pair (.int .i64) (.int .i64))), eq := true }
theorem tk57 : ti57.ok Tryd.prog := ⟨Tryd.underlying57, by kernel_rfl, fun _ => ⟨Tryd.eqGuardType57, Tryd.stoodInHeld57⟩⟩
def ti61 : TI := { t := 61, desc := .func #[3] #[4] false, size := 1, bytes := 8, zero := .nilFunc, τ := .fnc 11, eq := false }
theorem tk61 : ti61.ok Tryd.prog := ⟨Tryd.underlying61, by kernel_rfl, fun h => by cases h⟩
def ti68 : TI := { t := 68, desc := .slice 73, size := 1, bytes := 24, zero := .slice none 0 0, τ := .sl (.pair (.pair (.str) (.pair (.str) (.pair (.str) (.pair (.str) (.pair (.int .i64) (.int .i64)))))) (.pair (.pair (.int .i64) (.pair (.str) (.pair (.int .i64) (.int .i64)))) (.int .i64))), eq := false }
theorem tk68 : ti68.ok Tryd.prog := ⟨Tryd.underlying68, by kernel_rfl, fun h => by cases h⟩
def ti73 : TI := { t := 73, desc := .struct #[{ name := "nomination", type := 48, offset := 0, embedded := false, tag := "", pkgPath := "batchline/lots", byteOffset := 0 }, { name := "batch", type := 57, offset := 6, embedded := false, tag := "", pkgPath := "batchline/lots", byteOffset := 80 }, { name := "rank", type := 3, offset := 10, embedded := false, tag := "", pkgPath := "batchline/lots", byteOffset := 120 }], size := 11, bytes := 128, zero := .agg #[.string ⟨#[]⟩, .string ⟨#[]⟩, .string ⟨#[]⟩, .string ⟨#[]⟩, .int .i64 0, .int .i64 0, .int .i64 0, .string ⟨#[]⟩, .int .i64 0, .int .i64 0, .int .i64 0], τ := .pair (.pair (.str) (.pair (.str) (.pair (.str) (.pair (.str) (.pair (.int .i64) (.int .i64)))))) (.pair (.pair (.int .i64) (.pair (.str) (.pair (.int .i64) (.int .i64)))) (.int .i64)), eq := true }
theorem tk73 : ti73.ok Tryd.prog := ⟨Tryd.underlying73, by kernel_rfl, fun _ => ⟨Tryd.eqGuardType73, Tryd.stoodInHeld73⟩⟩
def ti80 : TI := { t := 80, desc := .array 4 34, size := 4, bytes := 96, zero := .agg #[.slice none 0 0, .slice none 0 0, .slice none 0 0, .slice none 0 0], τ := .pair (.sl (.str)) (.pair (.sl (.str)) (.pair (.sl (.str)) (.sl (.str)))), eq := false }
theorem tk80 : ti80.ok Tryd.prog := ⟨Tryd.underlying80, by kernel_rfl, fun h => by cases h⟩
def ti87 : TI := { t := 87, desc := .map 48 3, size := 1, bytes := 8, zero := .map none, τ := .map (.pair (.str) (.pair (.str) (.pair (.str) (.pair (.str) (.pair (.int .i64) (.int .i64)))))) (.int .i64), eq := false }
theorem tk87 : ti87.ok Tryd.prog := ⟨Tryd.underlying87, by kernel_rfl, fun h => by cases h⟩
def ti96 : TI := { t := 96, desc := .int .u64, size := 1, bytes := 8, zero := .int .u64 0, τ := .int .u64, eq := false }
theorem tk96 : ti96.ok Tryd.prog := ⟨Tryd.underlying96, by kernel_rfl, fun h => by cases h⟩
def ti97 : TI := { t := 97, desc := .slice 3, size := 1, bytes := 24, zero := .slice none 0 0, τ := .sl (.int .i64), eq := false }
theorem tk97 : ti97.ok Tryd.prog := ⟨Tryd.underlying97, by kernel_rfl, fun h => by cases h⟩
def ti101 : TI := { t := 101, desc := .struct #[{ name := "Name", type := 9, offset := 0, embedded := false, tag := "", pkgPath := "", byteOffset := 0 }, { name := "Node", type := 3, offset := 1, embedded := false, tag := "", pkgPath := "", byteOffset := 16 }, { name := "Head", type := 3, offset := 2, embedded := false, tag := "", pkgPath := "", byteOffset := 24 }, { name := "Fall", type := 3, offset := 3, embedded := false, tag := "", pkgPath := "", byteOffset := 32 }, { name := "Suction", type := 3, offset := 4, embedded := false, tag := "", pkgPath := "", byteOffset := 40 }], size := 5, bytes := 48, zero := .agg #[.string ⟨#[]⟩, .int .i64 0, .int .i64 0, .int .i64 0, .int .i64 0], τ := .pair (.str) (.pair (.int .i64) (.pair (.int .i64) (.pair (.int .i64) (.int .i64)))), eq := true }
theorem tk101 : ti101.ok Tryd.prog := ⟨Tryd.underlying101, by kernel_rfl, fun _ => ⟨Tryd.eqGuardType101, Tryd.stoodInHeld101⟩⟩
def ti110 : TI := { t := 110, desc := .array 4 3, size := 4, bytes := 32, zero := .agg #[.int .i64 0, .int .i64 0, .int .i64 0, .int .i64 0], τ := .pair (.int .i64) (.pair (.int .i64) (.pair (.int .i64) (.int .i64))), eq := false }
theorem tk110 : ti110.ok Tryd.prog := ⟨Tryd.underlying110, by kernel_rfl, fun h => by cases h⟩
def ti113 : TI := { t := 113, desc := .struct #[{ name := "least", type := 3, offset := 0, embedded := false, tag := "", pkgPath := "batchline/product", byteOffset := 0 }, { name := "most", type := 3, offset := 1, embedded := false, tag := "", pkgPath := "batchline/product", byteOffset := 8 }], size := 2, bytes := 16, zero := .agg #[.int .i64 0, .int .i64 0], τ := .pair (.int .i64) (.int .i64), eq := true }
theorem tk113 : ti113.ok Tryd.prog := ⟨Tryd.underlying113, by kernel_rfl, fun _ => ⟨Tryd.eqGuardType113, Tryd.stoodInHeld113⟩⟩
def ti114 : TI := { t := 114, desc := .array 4 113, size := 8, bytes := 64, zero := .agg #[.int .i64 0, .int .i64 0, .int .i64 0, .int .i64 0, .int .i64 0, .int .i64 0, .int .i64 0, .int .i64 0], τ := .pair (.pair (.int .i64) (.int .i64)) (.pair (.pair (.int .i64) (.int .i64)) (.pair (.pair (.int .i64) (.int .i64)) (.pair (.int .i64) (.int .i64)))), eq := false }
theorem tk114 : ti114.ok Tryd.prog := ⟨Tryd.underlying114, by kernel_rfl, fun h => by cases h⟩
def ti125 : TI := { t := 125, desc := .int .u32, size := 1, bytes := 4, zero := .int .u32 0, τ := .int .u32, eq := false }
theorem tk125 : ti125.ok Tryd.prog := ⟨Tryd.underlying125, by kernel_rfl, fun h => by cases h⟩
def ti127 : TI := { t := 127, desc := .int .u64, size := 1, bytes := 8, zero := .int .u64 0, τ := .int .u64, eq := false }
theorem tk127 : ti127.ok Tryd.prog := ⟨Tryd.underlying127, by kernel_rfl, fun h => by cases h⟩
def ti135 : TI := { t := 135, desc := .int .u64, size := 1, bytes := 8, zero := .int .u64 0, τ := .int .u64, eq := false }
theorem tk135 : ti135.ok Tryd.prog := ⟨Tryd.underlying135, by kernel_rfl, fun h => by cases h⟩
def types : List TI := [ti3, ti5, ti9, ti22, ti23, ti25, ti27, ti34, ti36, ti37, ti39, ti40, ti42, ti43, ti44, ti46, ti48, ti49, ti53, ti54, ti55, ti57, ti61, ti68, ti73, ti80, ti87, ti96, ti97, ti101, ti110, ti113, ti114, ti125, ti127, ti135]
theorem types_ok : Tys Tryd.prog types := ⟨tk3, tk5, tk9, tk22, tk23, tk25, tk27, tk34, tk36, tk37, tk39, tk40, tk42, tk43, tk44, tk46, tk48, tk49, tk53, tk54, tk55, tk57, tk61, tk68, tk73, tk80, tk87, tk96, tk97, tk101, tk110, tk113, tk114, tk125, tk127, tk135, trivial⟩
abbrev str_0 : List UInt8 := [0, 1, 2, 2, 3, 3, 3, 3, 4, 4, 4, 4, 4, 4, 4, 4, 5, 5, 5, 5, 5, 5, 5, 5, 5, 5, 5, 5, 5, 5, 5, 5, 6, 6, 6, 6, 6, 6, 6, 6, 6, 6, 6, 6, 6, 6, 6, 6, 6, 6, 6, 6, 6, 6, 6, 6, 6, 6, 6, 6, 6, 6, 6, 6, 7, 7, 7, 7, 7, 7, 7, 7, 7, 7, 7, 7, 7, 7, 7, 7, 7, 7, 7, 7, 7, 7, 7, 7, 7, 7, 7, 7, 7, 7, 7, 7, 7, 7, 7, 7, 7, 7, 7, 7, 7, 7, 7, 7, 7, 7, 7, 7, 7, 7, 7, 7, 7, 7, 7, 7, 7, 7, 7, 7, 7, 7, 7, 7, 8, 8, 8, 8, 8, 8, 8, 8, 8, 8, 8, 8, 8, 8, 8, 8, 8, 8, 8, 8, 8, 8, 8, 8, 8, 8, 8, 8, 8, 8, 8, 8, 8, 8, 8, 8, 8, 8, 8, 8, 8, 8, 8, 8, 8, 8, 8, 8, 8, 8, 8, 8, 8, 8, 8, 8, 8, 8, 8, 8, 8, 8, 8, 8, 8, 8, 8, 8, 8, 8, 8, 8, 8, 8, 8, 8, 8, 8, 8, 8, 8, 8, 8, 8, 8, 8, 8, 8, 8, 8, 8, 8, 8, 8, 8, 8, 8, 8, 8, 8, 8, 8, 8, 8, 8, 8, 8, 8, 8, 8, 8, 8, 8, 8, 8, 8, 8, 8, 8, 8, 8, 8, 8, 8, 8, 8, 8, 8]
abbrev kO_0 : KO (List UInt8 × List UInt8 × List UInt8 × List UInt8 × Int × Int) := keyO (.pair (.str) (.pair (.str) (.pair (.str) (.pair (.str) (.pair (.int .i64) (.int .i64))))))
theorem mx : Tryd.prog.follows .mixedOrders = true := by kernel_rfl
theorem nmr77 : (Tryd.f77.name == "runtime.NumGoroutine") = false := by kernel_rfl
theorem nmr49 : (Tryd.f49.name == "runtime.NumGoroutine") = false := by kernel_rfl
theorem nmr50 : (Tryd.f50.name == "runtime.NumGoroutine") = false := by kernel_rfl
theorem nmr26 : (Tryd.f26.name == "runtime.NumGoroutine") = false := by kernel_rfl
theorem nmr27 : (Tryd.f27.name == "runtime.NumGoroutine") = false := by kernel_rfl
theorem nmr51 : (Tryd.f51.name == "runtime.NumGoroutine") = false := by kernel_rfl
theorem nmr28 : (Tryd.f28.name == "runtime.NumGoroutine") = false := by kernel_rfl
theorem nmr52 : (Tryd.f52.name == "runtime.NumGoroutine") = false := by kernel_rfl
theorem nmr30 : (Tryd.f30.name == "runtime.NumGoroutine") = false := by kernel_rfl
theorem nmr29 : (Tryd.f29.name == "runtime.NumGoroutine") = false := by kernel_rfl
theorem nmr44 : (Tryd.f44.name == "runtime.NumGoroutine") = false := by kernel_rfl
theorem nmr54 : (Tryd.f54.name == "runtime.NumGoroutine") = false := by kernel_rfl
theorem nmr53 : (Tryd.f53.name == "runtime.NumGoroutine") = false := by kernel_rfl
theorem nmr31 : (Tryd.f31.name == "runtime.NumGoroutine") = false := by kernel_rfl
theorem nmr56 : (Tryd.f56.name == "runtime.NumGoroutine") = false := by kernel_rfl
theorem nmr78 : (Tryd.f78.name == "runtime.NumGoroutine") = false := by kernel_rfl
theorem nmr55 : (Tryd.f55.name == "runtime.NumGoroutine") = false := by kernel_rfl
theorem nmr32 : (Tryd.f32.name == "runtime.NumGoroutine") = false := by kernel_rfl
theorem nmr61 : (Tryd.f61.name == "runtime.NumGoroutine") = false := by kernel_rfl
theorem nmr58 : (Tryd.f58.name == "runtime.NumGoroutine") = false := by kernel_rfl
theorem nmr57 : (Tryd.f57.name == "runtime.NumGoroutine") = false := by kernel_rfl
theorem nmr42 : (Tryd.f42.name == "runtime.NumGoroutine") = false := by kernel_rfl
theorem nmr59 : (Tryd.f59.name == "runtime.NumGoroutine") = false := by kernel_rfl
theorem nmr60 : (Tryd.f60.name == "runtime.NumGoroutine") = false := by kernel_rfl
theorem nmr62 : (Tryd.f62.name == "runtime.NumGoroutine") = false := by kernel_rfl
theorem nmr63 : (Tryd.f63.name == "runtime.NumGoroutine") = false := by kernel_rfl
theorem nmr33 : (Tryd.f33.name == "runtime.NumGoroutine") = false := by kernel_rfl
theorem nmr14 : (Tryd.f14.name == "runtime.NumGoroutine") = false := by kernel_rfl
theorem nmr64 : (Tryd.f64.name == "runtime.NumGoroutine") = false := by kernel_rfl
theorem nmr34 : (Tryd.f34.name == "runtime.NumGoroutine") = false := by kernel_rfl
theorem nmr41 : (Tryd.f41.name == "runtime.NumGoroutine") = false := by kernel_rfl
theorem nmr40 : (Tryd.f40.name == "runtime.NumGoroutine") = false := by kernel_rfl
theorem nmr18 : (Tryd.f18.name == "runtime.NumGoroutine") = false := by kernel_rfl
theorem nmr15 : (Tryd.f15.name == "runtime.NumGoroutine") = false := by kernel_rfl
theorem nmr65 : (Tryd.f65.name == "runtime.NumGoroutine") = false := by kernel_rfl
theorem nmr35 : (Tryd.f35.name == "runtime.NumGoroutine") = false := by kernel_rfl
theorem nmr37 : (Tryd.f37.name == "runtime.NumGoroutine") = false := by kernel_rfl
theorem nmr36 : (Tryd.f36.name == "runtime.NumGoroutine") = false := by kernel_rfl
theorem nmr16 : (Tryd.f16.name == "runtime.NumGoroutine") = false := by kernel_rfl
theorem nmr75 : (Tryd.f75.name == "runtime.NumGoroutine") = false := by kernel_rfl
theorem nmr76 : (Tryd.f76.name == "runtime.NumGoroutine") = false := by kernel_rfl
theorem nmr46 : (Tryd.f46.name == "runtime.NumGoroutine") = false := by kernel_rfl
theorem nmr79 : (Tryd.f79.name == "runtime.NumGoroutine") = false := by kernel_rfl
theorem nmr92 : (Tryd.f92.name == "runtime.NumGoroutine") = false := by kernel_rfl
theorem nmr80 : (Tryd.f80.name == "runtime.NumGoroutine") = false := by kernel_rfl
theorem nmr88 : (Tryd.f88.name == "runtime.NumGoroutine") = false := by kernel_rfl
theorem nmr89 : (Tryd.f89.name == "runtime.NumGoroutine") = false := by kernel_rfl
theorem nmr81 : (Tryd.f81.name == "runtime.NumGoroutine") = false := by kernel_rfl
theorem nmr96 : (Tryd.f96.name == "runtime.NumGoroutine") = false := by kernel_rfl
theorem nmr94 : (Tryd.f94.name == "runtime.NumGoroutine") = false := by kernel_rfl
theorem nmr93 : (Tryd.f93.name == "runtime.NumGoroutine") = false := by kernel_rfl
theorem nmr82 : (Tryd.f82.name == "runtime.NumGoroutine") = false := by kernel_rfl
theorem nmr83 : (Tryd.f83.name == "runtime.NumGoroutine") = false := by kernel_rfl
theorem nmr84 : (Tryd.f84.name == "runtime.NumGoroutine") = false := by kernel_rfl
theorem nmr85 : (Tryd.f85.name == "runtime.NumGoroutine") = false := by kernel_rfl
theorem nmr86 : (Tryd.f86.name == "runtime.NumGoroutine") = false := by kernel_rfl
theorem nmr66 : (Tryd.f66.name == "runtime.NumGoroutine") = false := by kernel_rfl
theorem nmr38 : (Tryd.f38.name == "runtime.NumGoroutine") = false := by kernel_rfl
theorem nmr47 : (Tryd.f47.name == "runtime.NumGoroutine") = false := by kernel_rfl
theorem nmr24 : (Tryd.f24.name == "runtime.NumGoroutine") = false := by kernel_rfl
theorem nmr48 : (Tryd.f48.name == "runtime.NumGoroutine") = false := by kernel_rfl
theorem nmr25 : (Tryd.f25.name == "runtime.NumGoroutine") = false := by kernel_rfl
theorem nmr23 : (Tryd.f23.name == "runtime.NumGoroutine") = false := by kernel_rfl
theorem nmr39 : (Tryd.f39.name == "runtime.NumGoroutine") = false := by kernel_rfl
theorem nmr17 : (Tryd.f17.name == "runtime.NumGoroutine") = false := by kernel_rfl
theorem nmr43 : (Tryd.f43.name == "runtime.NumGoroutine") = false := by kernel_rfl
theorem nmr19 : (Tryd.f19.name == "runtime.NumGoroutine") = false := by kernel_rfl
theorem nmr20 : (Tryd.f20.name == "runtime.NumGoroutine") = false := by kernel_rfl
theorem nmr67 : (Tryd.f67.name == "runtime.NumGoroutine") = false := by kernel_rfl
theorem nmr87 : (Tryd.f87.name == "runtime.NumGoroutine") = false := by kernel_rfl
theorem nmr68 : (Tryd.f68.name == "runtime.NumGoroutine") = false := by kernel_rfl
theorem nmr69 : (Tryd.f69.name == "runtime.NumGoroutine") = false := by kernel_rfl
theorem nmr95 : (Tryd.f95.name == "runtime.NumGoroutine") = false := by kernel_rfl
theorem nmr91 : (Tryd.f91.name == "runtime.NumGoroutine") = false := by kernel_rfl
theorem nmr90 : (Tryd.f90.name == "runtime.NumGoroutine") = false := by kernel_rfl
theorem nmr70 : (Tryd.f70.name == "runtime.NumGoroutine") = false := by kernel_rfl
theorem nmr71 : (Tryd.f71.name == "runtime.NumGoroutine") = false := by kernel_rfl
theorem nmr72 : (Tryd.f72.name == "runtime.NumGoroutine") = false := by kernel_rfl
theorem nmr73 : (Tryd.f73.name == "runtime.NumGoroutine") = false := by kernel_rfl
theorem nmr74 : (Tryd.f74.name == "runtime.NumGoroutine") = false := by kernel_rfl
theorem nmr45 : (Tryd.f45.name == "runtime.NumGoroutine") = false := by kernel_rfl
theorem nmr21 : (Tryd.f21.name == "runtime.NumGoroutine") = false := by kernel_rfl
theorem nmr22 : (Tryd.f22.name == "runtime.NumGoroutine") = false := by kernel_rfl
theorem nmr7 : (Tryd.f7.name == "runtime.NumGoroutine") = false := by kernel_rfl
theorem nmr4 : (Tryd.f4.name == "runtime.NumGoroutine") = false := by kernel_rfl
theorem nmr8 : (Tryd.f8.name == "runtime.NumGoroutine") = false := by kernel_rfl
theorem nmr9 : (Tryd.f9.name == "runtime.NumGoroutine") = false := by kernel_rfl
theorem nmr5 : (Tryd.f5.name == "runtime.NumGoroutine") = false := by kernel_rfl
theorem nmr10 : (Tryd.f10.name == "runtime.NumGoroutine") = false := by kernel_rfl
theorem nmr11 : (Tryd.f11.name == "runtime.NumGoroutine") = false := by kernel_rfl
theorem nmr13 : (Tryd.f13.name == "runtime.NumGoroutine") = false := by kernel_rfl
theorem nmr12 : (Tryd.f12.name == "runtime.NumGoroutine") = false := by kernel_rfl
theorem nmr6 : (Tryd.f6.name == "runtime.NumGoroutine") = false := by kernel_rfl
theorem nmr3 : (Tryd.f3.name == "runtime.NumGoroutine") = false := by kernel_rfl

noncomputable def slices_IndexFunc_api_Segment_api_Segment_L0 (s : List (List UInt8 × Int × Int × Int × Int × Int × List (Int × Int × Int))) (f : (List UInt8 × Int × Int × Int × Int × Int × List (Int × Int × Int)) × Unit → Option Bool) (v : Int) : Option (Int ⊕ (Unit ⊕ Int)) :=
  bif decide (v < (s.length : Int)) then (
   gd (inB v s.length) <|
   (f (s.getD v.toNat ([], (0, (0, (0, (0, (0, [])))))), ())).bind fun r =>
   bif r then (
    some (.inr (.inr v)))
   else (
    some (.inl (wi64 (v + 1)))))
  else (
   some (.inr (.inl ())))

noncomputable def slices_IndexFunc_api_Segment_api_Segment (s : List (List UInt8 × Int × Int × Int × Int × Int × List (Int × Int × Int))) (f : (List UInt8 × Int × Int × Int × Int × Int × List (Int × Int × Int)) × Unit → Option Bool) : Option (Int) :=
  (iter (fun x => slices_IndexFunc_api_Segment_api_Segment_L0 s f x) 0).bind fun s2 =>
  s2.elim (fun s3 =>
   some (-1))
  (fun s4 =>
   some s4)

noncomputable def fn_slices_IndexFunc_api_Segment_api_Segment : Fun :=
  { f := 77, np := 2, nr := 1,
    ji := { regs := [(0, .one (.data (.sl (.pair (.str) (.pair (.int .i64) (.pair (.int .i64) (.pair (.int .i64) (.pair (.int .i64) (.pair (.int .i64) (.sl (.pair (.int .i64) (.pair (.int .i64) (.int .i64))))))))))))), (1, .one (.fn [.pair (.str) (.pair (.int .i64) (.pair (.int .i64) (.pair (.int .i64) (.pair (.int .i64) (.pair (.int .i64) (.sl (.pair (.int .i64) (.pair (.int .i64) (.int .i64)))))))))] (.bool)))], vars := [], arrs := [] },
    jo := { regs := [(0, .one (.data (.int .i64)))], vars := [], arrs := [] },
    tw := fun x => slices_IndexFunc_api_Segment_api_Segment x.1 x.2 }
noncomputable def cx_slices_IndexFunc_api_Segment_api_Segment : Cx := { Γ := types, ow := [], fs := [], N := 19 }
theorem ok_slices_IndexFunc_api_Segment_api_Segment : FunOk Tryd.prog fn_slices_IndexFunc_api_Segment_api_Segment :=
  FunOk.intro (C := cx_slices_IndexFunc_api_Segment_api_Segment) (p := (.mk [] none .nil (.mk [] none (.mk [] none .nil (.mk [] none (.mk [] (some ({ regs := [(0, .one .keep), (1, .one .keep), (7, .one .keep), (8, .one (.data (.int .i64)))], vars := [], arrs := [] }, [{ e := .x 0, j := { regs := [], vars := [], arrs := [] } }, { e := .r, j := { regs := [(4, .one (.data (.int .i64)))], vars := [], arrs := [] } }])) .nil .nil) .nil)) .nil)))
    Tryd.func77 rfl nmr77 rfl rfl rfl rfl types_ok ⟨trivial, trivial⟩ mx (fun x => by kernel_rfl)

noncomputable def slices_ContainsFunc_api_Segment_api_Segment (s : List (List UInt8 × Int × Int × Int × Int × Int × List (Int × Int × Int))) (f : (List UInt8 × Int × Int × Int × Int × Int × List (Int × Int × Int)) × Unit → Option Bool) : Option (Bool) :=
  (slices_IndexFunc_api_Segment_api_Segment s f).bind fun r =>
  some (decide (0 ≤ r))

noncomputable def fn_slices_ContainsFunc_api_Segment_api_Segment : Fun :=
  { f := 49, np := 2, nr := 1,
    ji := { regs := [(0, .one (.data (.sl (.pair (.str) (.pair (.int .i64) (.pair (.int .i64) (.pair (.int .i64) (.pair (.int .i64) (.pair (.int .i64) (.sl (.pair (.int .i64) (.pair (.int .i64) (.int .i64))))))))))))), (1, .one (.fn [.pair (.str) (.pair (.int .i64) (.pair (.int .i64) (.pair (.int .i64) (.pair (.int .i64) (.pair (.int .i64) (.sl (.pair (.int .i64) (.pair (.int .i64) (.int .i64)))))))))] (.bool)))], vars := [], arrs := [] },
    jo := { regs := [(0, .one (.data (.bool)))], vars := [], arrs := [] },
    tw := fun x => slices_ContainsFunc_api_Segment_api_Segment x.1 x.2 }
noncomputable def cx_slices_ContainsFunc_api_Segment_api_Segment : Cx := { Γ := types, ow := [], fs := [fn_slices_IndexFunc_api_Segment_api_Segment], N := 9 }
theorem ok_slices_ContainsFunc_api_Segment_api_Segment : FunOk Tryd.prog fn_slices_ContainsFunc_api_Segment_api_Segment :=
  FunOk.intro (C := cx_slices_ContainsFunc_api_Segment_api_Segment) (p := .nil)
    Tryd.func49 rfl nmr49 rfl rfl rfl rfl types_ok ⟨⟨ok_slices_IndexFunc_api_Segment_api_Segment, trivial⟩, trivial⟩ mx (fun x => by kernel_rfl)

noncomputable def network_limits_1 (s : List UInt8 × Int × Int × Int × Int × Int × List (Int × Int × Int)) : Option (Bool) :=
  bif decide ((s.2.2.2.2.2.2.length : Int) < 2) then (
   some true)
  else (
   some (decide (8 < (s.2.2.2.2.2.2.length : Int))))

noncomputable def fn_network_limits_1 : Fun :=
  { f := 50, np := 1, nr := 1,
    ji := { regs := [(0, .one (.data (.pair (.str) (.pair (.int .i64) (.pair (.int .i64) (.pair (.int .i64) (.pair (.int .i64) (.pair (.int .i64) (.sl (.pair (.int .i64) (.pair (.int .i64) (.int .i64))))))))))))], vars := [], arrs := [] },
    jo := { regs := [(0, .one (.data (.bool)))], vars := [], arrs := [] },
    tw := fun x => network_limits_1 x }
noncomputable def cx_network_limits_1 : Cx := { Γ := types, ow := [], fs := [], N := 13 }
theorem ok_network_limits_1 : FunOk Tryd.prog fn_network_limits_1 :=
  FunOk.intro (C := cx_network_limits_1) (p := .nil)
    Tryd.func50 rfl nmr50 rfl rfl rfl rfl types_ok ⟨trivial, trivial⟩ mx (fun x => by kernel_rfl)

noncomputable def network_limits (n : List (List UInt8) × List (List UInt8 × Int × Int × Int × Int × Int × List (Int × Int × Int)) × List (List UInt8 × Int × Int) × List (List UInt8 × Int × Int × Int × Int) × Int × Int) : Option (Bool) :=
  Option.bind (α := Bool) (
    bif decide ((n.1.length : Int) < 1) then (
     some true)
    else (
     bif decide (24 < (n.1.length : Int)) then (
      some true)
     else (
      bif decide (32 < (n.2.1.length : Int)) then (
       some true)
      else (
       bif decide (24 < (n.2.2.1.length : Int)) then (
        some true)
       else (
        some (decide (12 < (n.2.2.2.1.length : Int)))))))) fun s =>
  bif s then (
   some false)
  else (
   (slices_ContainsFunc_api_Segment_api_Segment n.2.1 (fun h => (network_limits_1 h.1).bind fun y => some y)).bind fun r =>
   some (!r))

noncomputable def fn_network_limits : Fun :=
  { f := 26, np := 1, nr := 1,
    ji := { regs := [(0, .one (.data (.pair (.sl (.str)) (.pair (.sl (.pair (.str) (.pair (.int .i64) (.pair (.int .i64) (.pair (.int .i64) (.pair (.int .i64) (.pair (.int .i64) (.sl (.pair (.int .i64) (.pair (.int .i64) (.int .i64))))))))))) (.pair (.sl (.pair (.str) (.pair (.int .i64) (.int .i64)))) (.pair (.sl (.pair (.str) (.pair (.int .i64) (.pair (.int .i64) (.pair (.int .i64) (.int .i64)))))) (.pair (.int .i64) (.int .i64))))))))], vars := [], arrs := [] },
    jo := { regs := [(0, .one (.data (.bool)))], vars := [], arrs := [] },
    tw := fun x => network_limits x }
noncomputable def cx_network_limits : Cx := { Γ := types, ow := [], fs := [fn_slices_ContainsFunc_api_Segment_api_Segment, fn_network_limits_1], N := 35 }
theorem ok_network_limits : FunOk Tryd.prog fn_network_limits :=
  FunOk.intro (C := cx_network_limits) (p := (.mk [] none .nil (.mk [] none (.mk [] none (.mk [.join [{ e := .n, j := { regs := [(1, .one (.ptr 32 0)), (30, .one (.data (.bool)))], vars := [(32, 46, [.keep, .keep, .keep, .keep, .keep, .keep])], arrs := [] } }]] none .nil .nil) .nil) .nil)))
    Tryd.func26 rfl nmr26 rfl rfl rfl rfl types_ok ⟨⟨ok_slices_ContainsFunc_api_Segment_api_Segment, ok_network_limits_1, trivial⟩, trivial⟩ mx (fun x => by kernel_rfl)

noncomputable def network_names_L0 (n : List (List UInt8) × List (List UInt8 × Int × Int × Int × Int × Int × List (Int × Int × Int)) × List (List UInt8 × Int × Int) × List (List UInt8 × Int × Int × Int × Int) × Int × Int) (v : Int) (out : List (List UInt8)) : Option ((Int × List (List UInt8)) ⊕ (List (List UInt8))) :=
  bif decide (v < (n.2.1.length : Int)) then (
   gd (inB v n.2.1.length) <|
   gd (fits (out.length + 1) 16) <|
   some (.inl (wi64 (v + 1), out ++ [(n.2.1.getD v.toNat ([], (0, (0, (0, (0, (0, []))))))).1])))
  else (
   some (.inr out))

noncomputable def network_names_L1 (n : List (List UInt8) × List (List UInt8 × Int × Int × Int × Int × Int × List (Int × Int × Int)) × List (List UInt8 × Int × Int) × List (List UInt8 × Int × Int × Int × Int) × Int × Int) (v2 : Int) (out2 : List (List UInt8)) (out3 : List (List UInt8)) : Option ((Int × List (List UInt8) × List (List UInt8)) ⊕ (List (List UInt8) × List (List UInt8))) :=
  bif decide (v2 < (n.2.2.1.length : Int)) then (
   gd (inB v2 n.2.2.1.length) <|
   gd (fits (out3.length + 1) 16) <|
   some (.inl (wi64 (v2 + 1), out2, out3 ++ [(n.2.2.1.getD v2.toNat ([], (0, 0))).1])))
  else (
   some (.inr (out2, out3)))

noncomputable def network_names_L2 (n : List (List UInt8) × List (List UInt8 × Int × Int × Int × Int × Int × List (Int × Int × Int)) × List (List UInt8 × Int × Int) × List (List UInt8 × Int × Int × Int × Int) × Int × Int) (v3 : Int) (out4 : List (List UInt8)) (out5 : List (List UInt8)) (out6 : List (List UInt8)) : Option ((Int × List (List UInt8) × List (List UInt8) × List (List UInt8)) ⊕ (List (List UInt8) × List (List UInt8) × List (List UInt8))) :=
  bif decide (v3 < (n.2.2.2.1.length : Int)) then (
   gd (inB v3 n.2.2.2.1.length) <|
   gd (fits (out6.length + 1) 16) <|
   some (.inl (wi64 (v3 + 1), out4, out5, out6 ++ [(n.2.2.2.1.getD v3.toNat ([], (0, (0, (0, 0))))).1])))
  else (
   some (.inr (out4, out5, out6)))

noncomputable def network_names (n : List (List UInt8) × List (List UInt8 × Int × Int × Int × Int × Int × List (Int × Int × Int)) × List (List UInt8 × Int × Int) × List (List UInt8 × Int × Int × Int × Int) × Int × Int) : Option (List (List UInt8) × List (List UInt8) × List (List UInt8) × List (List UInt8)) :=
  (iter (fun x => network_names_L0 n x.1 x.2) (0, [])).bind fun s =>
  (iter (fun x2 => network_names_L1 n x2.1 x2.2.1 x2.2.2) (0, s, [])).bind fun s2 =>
  (iter (fun x3 => network_names_L2 n x3.1 x3.2.1 x3.2.2.1 x3.2.2.2) (0, s2.1, s2.2, [])).bind fun s3 =>
  some (n.1, (s3.1, (s3.2.1, s3.2.2)))

noncomputable def fn_network_names : Fun :=
  { f := 27, np := 1, nr := 1,
    ji := { regs := [(0, .one (.data (.pair (.sl (.str)) (.pair (.sl (.pair (.str) (.pair (.int .i64) (.pair (.int .i64) (.pair (.int .i64) (.pair (.int .i64) (.pair (.int .i64) (.sl (.pair (.int .i64) (.pair (.int .i64) (.int .i64))))))))))) (.pair (.sl (.pair (.str) (.pair (.int .i64) (.int .i64)))) (.pair (.sl (.pair (.str) (.pair (.int .i64) (.pair (.int .i64) (.pair (.int .i64) (.int .i64)))))) (.pair (.int .i64) (.int .i64))))))))], vars := [], arrs := [] },
    jo := { regs := [(0, .one (.data (.pair (.sl (.str)) (.pair (.sl (.str)) (.pair (.sl (.str)) (.sl (.str)))))))], vars := [], arrs := [] },
    tw := fun x => network_names x }
noncomputable def cx_network_names : Cx := { Γ := types, ow := [], fs := [], N := 59 }
theorem ok_network_names : FunOk Tryd.prog fn_network_names :=
  FunOk.intro (C := cx_network_names) (p := (.mk [] none .nil (.mk [] none .nil (.mk [] none .nil (.mk [] none (.mk [] none .nil (.mk [] none (.mk [] (some ({ regs := [(1, .one (.ptr 32 0)), (2, .one (.ptr 48 0)), (3, .one (.ptr 64 0)), (14, .one .keep), (15, .one .keep), (16, .one (.data (.int .i64)))], vars := [(32, 46, [.keep, .keep, .keep, .keep, .keep, .keep]), (48, 80, [.keep, .keep, .keep, .keep]), (64, 80, [.keep, .own 1065, .keep, .keep])], arrs := [(1065, .arr 9 (.str))] }, [{ e := .x 0, j := { regs := [(1, .one (.ptr 32 0)), (2, .one (.ptr 48 0)), (3, .one (.ptr 64 0))], vars := [(32, 46, [.keep, .keep, .keep, .keep, .keep, .keep]), (48, 80, [.keep, .keep, .keep, .keep]), (64, 80, [.keep, .own 1065, .keep, .keep])], arrs := [(1065, .arr 9 (.str))] } }])) .nil .nil) .nil)) (.mk [] none (.mk [] none .nil (.mk [] none (.mk [] (some ({ regs := [(1, .one (.ptr 32 0)), (2, .one (.ptr 48 0)), (3, .one (.ptr 64 0)), (29, .one .keep), (30, .one .keep), (31, .one (.data (.int .i64)))], vars := [(32, 46, [.keep, .keep, .keep, .keep, .keep, .keep]), (48, 80, [.keep, .keep, .keep, .keep]), (64, 80, [.keep, .own 1065, .own 1081, .keep])], arrs := [(1065, .arr 9 (.str)), (1081, .arr 9 (.str))] }, [{ e := .x 2, j := { regs := [(1, .one (.ptr 32 0)), (2, .one (.ptr 48 0)), (3, .one (.ptr 64 0))], vars := [(32, 46, [.keep, .keep, .keep, .keep, .keep, .keep]), (48, 80, [.keep, .keep, .keep, .keep]), (64, 80, [.keep, .own 1065, .own 1081, .keep])], arrs := [(1065, .arr 9 (.str)), (1081, .arr 9 (.str))] } }])) .nil .nil) .nil)) (.mk [] none (.mk [] none .nil (.mk [] none (.mk [] (some ({ regs := [(2, .one (.ptr 48 0)), (3, .one (.ptr 64 0)), (44, .one .keep), (45, .one .keep), (46, .one (.data (.int .i64)))], vars := [(48, 80, [.keep, .keep, .keep, .keep]), (64, 80, [.keep, .own 1065, .own 1081, .own 1097])], arrs := [(1065, .arr 9 (.str)), (1081, .arr 9 (.str)), (1097, .arr 9 (.str))] }, [{ e := .x 4, j := { regs := [(2, .one (.ptr 48 0)), (3, .one (.ptr 64 0))], vars := [(48, 80, [.keep, .keep, .keep, .keep]), (64, 80, [.keep, .own 1065, .own 1081, .own 1097])], arrs := [(1065, .arr 9 (.str)), (1081, .arr 9 (.str)), (1097, .arr 9 (.str))] } }])) .nil .nil) .nil)) .nil)))))))
    Tryd.func27 rfl nmr27 rfl rfl rfl rfl types_ok ⟨trivial, trivial⟩ mx (fun x => by kernel_rfl)

noncomputable def slices_IndexFunc_string_string_L0 (s : List (List UInt8)) (f : List UInt8 × Unit → Option Bool) (v : Int) : Option (Int ⊕ (Unit ⊕ Int)) :=
  bif decide (v < (s.length : Int)) then (
   gd (inB v s.length) <|
   (f (s.getD v.toNat [], ())).bind fun r =>
   bif r then (
    some (.inr (.inr v)))
   else (
    some (.inl (wi64 (v + 1)))))
  else (
   some (.inr (.inl ())))

noncomputable def slices_IndexFunc_string_string (s : List (List UInt8)) (f : List UInt8 × Unit → Option Bool) : Option (Int) :=
  (iter (fun x => slices_IndexFunc_string_string_L0 s f x) 0).bind fun s2 =>
  s2.elim (fun s3 =>
   some (-1))
  (fun s4 =>
   some s4)

noncomputable def fn_slices_IndexFunc_string_string : Fun :=
  { f := 51, np := 2, nr := 1,
    ji := { regs := [(0, .one (.data (.sl (.str)))), (1, .one (.fn [.str] (.bool)))], vars := [], arrs := [] },
    jo := { regs := [(0, .one (.data (.int .i64)))], vars := [], arrs := [] },
    tw := fun x => slices_IndexFunc_string_string x.1 x.2 }
noncomputable def cx_slices_IndexFunc_string_string : Cx := { Γ := types, ow := [], fs := [], N := 19 }
theorem ok_slices_IndexFunc_string_string : FunOk Tryd.prog fn_slices_IndexFunc_string_string :=
  FunOk.intro (C := cx_slices_IndexFunc_string_string) (p := (.mk [] none .nil (.mk [] none (.mk [] none .nil (.mk [] none (.mk [] (some ({ regs := [(0, .one .keep), (1, .one .keep), (7, .one .keep), (8, .one (.data (.int .i64)))], vars := [], arrs := [] }, [{ e := .x 0, j := { regs := [], vars := [], arrs := [] } }, { e := .r, j := { regs := [(4, .one (.data (.int .i64)))], vars := [], arrs := [] } }])) .nil .nil) .nil)) .nil)))
    Tryd.func51 rfl nmr51 rfl rfl rfl rfl types_ok ⟨trivial, trivial⟩ mx (fun x => by kernel_rfl)

noncomputable def slices_ContainsFunc_string_string (s : List (List UInt8)) (f : List UInt8 × Unit → Option Bool) : Option (Bool) :=
  (slices_IndexFunc_string_string s f).bind fun r =>
  some (decide (0 ≤ r))

noncomputable def fn_slices_ContainsFunc_string_string : Fun :=
  { f := 28, np := 2, nr := 1,
    ji := { regs := [(0, .one (.data (.sl (.str)))), (1, .one (.fn [.str] (.bool)))], vars := [], arrs := [] },
    jo := { regs := [(0, .one (.data (.bool)))], vars := [], arrs := [] },
    tw := fun x => slices_ContainsFunc_string_string x.1 x.2 }
noncomputable def cx_slices_ContainsFunc_string_string : Cx := { Γ := types, ow := [], fs := [fn_slices_IndexFunc_string_string], N := 9 }
theorem ok_slices_ContainsFunc_string_string : FunOk Tryd.prog fn_slices_ContainsFunc_string_string :=
  FunOk.intro (C := cx_slices_ContainsFunc_string_string) (p := .nil)
    Tryd.func28 rfl nmr28 rfl rfl rfl rfl types_ok ⟨⟨ok_slices_IndexFunc_string_string, trivial⟩, trivial⟩ mx (fun x => by kernel_rfl)

noncomputable def lines_place (c : Int) : Option (Int) :=
  Option.bind (α := Unit ⊕ Unit ⊕ Int) (
    Option.bind (α := Bool) (
      bif decide (97 ≤ c) then (
       some (decide (c ≤ 122)))
      else (
       some false)) fun s =>
    bif s then (
     some (.inr (.inr 1)))
    else (
     Option.bind (α := Bool) (
       bif decide (48 ≤ c) then (
        some (decide (c ≤ 57)))
       else (
        some false)) fun s2 =>
     bif s2 then (
      some (.inl ()))
     else (
      bif decide (c = 45) then (
       some (.inl ()))
      else (
       some (.inr (.inl ())))))) fun s3 =>
  s3.elim (fun s4 =>
   some 2)
  (fun s5 =>
   s5.elim (fun s6 =>
    some 0)
   (fun s7 =>
    some s7))

noncomputable def fn_lines_place : Fun :=
  { f := 52, np := 1, nr := 1,
    ji := { regs := [(0, .one (.data (.int .u8)))], vars := [], arrs := [] },
    jo := { regs := [(0, .one (.data (.int .i64)))], vars := [], arrs := [] },
    tw := fun x => lines_place x }
noncomputable def cx_lines_place : Cx := { Γ := types, ow := [], fs := [], N := 20 }
theorem ok_lines_place : FunOk Tryd.prog fn_lines_place :=
  FunOk.intro (C := cx_lines_place) (p := (.mk [] none .nil (.mk [] none (.mk [] none (.mk [] none (.mk [.join [{ e := .n, j := { regs := [], vars := [], arrs := [] } }, { e := .x 0, j := { regs := [], vars := [], arrs := [] } }, { e := .r, j := { regs := [(2, .one (.data (.int .i64)))], vars := [], arrs := [] } }]] none (.mk [] none (.mk [] none (.mk [] none (.mk [] none (.mk [] none (.mk [] none (.mk [.join [{ e := .n, j := { regs := [(0, .one .keep), (3, .one (.data (.bool)))], vars := [], arrs := [] } }]] none .nil .nil) .nil) (.mk [] none (.mk [] none (.mk [.join [{ e := .n, j := { regs := [(0, .one .keep), (10, .one (.data (.bool)))], vars := [], arrs := [] } }]] none .nil .nil) .nil) .nil)) .nil) .nil) .nil) .nil) .nil) .nil) .nil) .nil)))
    Tryd.func52 rfl nmr52 rfl rfl rfl rfl types_ok ⟨trivial, trivial⟩ mx (fun x => by kernel_rfl)

noncomputable def lines_Name_L0 (s : List UInt8) (v : Int) : Option (Int ⊕ (Unit ⊕ Bool)) :=
  bif decide (v < (s.length : Int)) then (
   gd (inB v s.length) <|
   (lines_place (Int.ofNat (s.getD v.toNat 0).toNat)).bind fun r2 =>
   bif decide (r2 = 0) then (
    some (.inr (.inr false)))
   else (
    some (.inl (wi64 (v + 1)))))
  else (
   some (.inr (.inl ())))

noncomputable def lines_Name (s : List UInt8) : Option (Bool) :=
  Option.bind (α := Bool) (
    bif decide ((s.length : Int) < 1) then (
     some true)
    else (
     bif decide (12 < (s.length : Int)) then (
      some true)
     else (
      gd (inB 0 s.length) <|
      (lines_place (Int.ofNat (s.getD 0 0).toNat)).bind fun r =>
      some (!decide (r = 1))))) fun s2 =>
  bif s2 then (
   some false)
  else (
   (iter (fun x => lines_Name_L0 s x) 0).bind fun s3 =>
   s3.elim (fun s4 =>
    some true)
   (fun s5 =>
    some s5))

noncomputable def fn_lines_Name : Fun :=
  { f := 30, np := 1, nr := 1,
    ji := { regs := [(0, .one (.data (.str)))], vars := [], arrs := [] },
    jo := { regs := [(0, .one (.data (.bool)))], vars := [], arrs := [] },
    tw := fun x => lines_Name x }
noncomputable def cx_lines_Name : Cx := { Γ := types, ow := [], fs := [fn_lines_place], N := 29 }
theorem ok_lines_Name : FunOk Tryd.prog fn_lines_Name :=
  FunOk.intro (C := cx_lines_Name) (p := (.mk [] none .nil (.mk [] none (.mk [] none (.mk [.join [{ e := .n, j := { regs := [(0, .one .keep), (17, .one (.data (.bool)))], vars := [], arrs := [] } }]] none .nil .nil) .nil) (.mk [] none (.mk [] none .nil (.mk [] none (.mk [] (some ({ regs := [(0, .one .keep), (19, .one .keep), (20, .one (.data (.int .i64)))], vars := [], arrs := [] }, [{ e := .x 0, j := { regs := [], vars := [], arrs := [] } }, { e := .r, j := { regs := [(2, .one (.data (.bool)))], vars := [], arrs := [] } }])) .nil .nil) .nil)) .nil))))
    Tryd.func30 rfl nmr30 rfl rfl rfl rfl types_ok ⟨⟨ok_lines_place, trivial⟩, trivial⟩ mx (fun x => by kernel_rfl)

noncomputable def network_Check_1 (s : List UInt8) : Option (Bool) :=
  (lines_Name s).bind fun r =>
  some (!r)

noncomputable def fn_network_Check_1 : Fun :=
  { f := 29, np := 1, nr := 1,
    ji := { regs := [(0, .one (.data (.str)))], vars := [], arrs := [] },
    jo := { regs := [(0, .one (.data (.bool)))], vars := [], arrs := [] },
    tw := fun x => network_Check_1 x }
noncomputable def cx_network_Check_1 : Cx := { Γ := types, ow := [], fs := [fn_lines_Name], N := 6 }
theorem ok_network_Check_1 : FunOk Tryd.prog fn_network_Check_1 :=
  FunOk.intro (C := cx_network_Check_1) (p := .nil)
    Tryd.func29 rfl nmr29 rfl rfl rfl rfl types_ok ⟨⟨ok_lines_Name, trivial⟩, trivial⟩ mx (fun x => by kernel_rfl)

noncomputable def slices_Index_string_string_L0 (s : List (List UInt8)) (v : List UInt8) (v2 : Int) : Option (Int ⊕ (Unit ⊕ Int)) :=
  bif decide (v2 < (s.length : Int)) then (
   gd (inB v2 s.length) <|
   bif decide (v = s.getD v2.toNat []) then (
    some (.inr (.inr v2)))
   else (
    some (.inl (wi64 (v2 + 1)))))
  else (
   some (.inr (.inl ())))

noncomputable def slices_Index_string_string (s : List (List UInt8)) (v : List UInt8) : Option (Int) :=
  (iter (fun x => slices_Index_string_string_L0 s v x) 0).bind fun s2 =>
  s2.elim (fun s3 =>
   some (-1))
  (fun s4 =>
   some s4)

noncomputable def fn_slices_Index_string_string : Fun :=
  { f := 44, np := 2, nr := 1,
    ji := { regs := [(0, .one (.data (.sl (.str)))), (1, .one (.data (.str)))], vars := [], arrs := [] },
    jo := { regs := [(0, .one (.data (.int .i64)))], vars := [], arrs := [] },
    tw := fun x => slices_Index_string_string x.1 x.2 }
noncomputable def cx_slices_Index_string_string : Cx := { Γ := types, ow := [], fs := [], N := 19 }
theorem ok_slices_Index_string_string : FunOk Tryd.prog fn_slices_Index_string_string :=
  FunOk.intro (C := cx_slices_Index_string_string) (p := (.mk [] none .nil (.mk [] none (.mk [] none .nil (.mk [] none (.mk [] (some ({ regs := [(0, .one .keep), (1, .one .keep), (7, .one .keep), (8, .one (.data (.int .i64)))], vars := [], arrs := [] }, [{ e := .x 0, j := { regs := [], vars := [], arrs := [] } }, { e := .r, j := { regs := [(4, .one (.data (.int .i64)))], vars := [], arrs := [] } }])) .nil .nil) .nil)) .nil)))
    Tryd.func44 rfl nmr44 rfl rfl rfl rfl types_ok ⟨trivial, trivial⟩ mx (fun x => by kernel_rfl)

noncomputable def network_twice_1 (x : List UInt8 × Int × Int × Int × Int) (v : List UInt8 × Int × Int × Int × Int) : Option (Bool) :=
  some (decide (x.2.1 = v.2.1))

noncomputable def fn_network_twice_1 : Fun :=
  { f := 54, np := 2, nr := 1,
    ji := { regs := [(0, .one (.data (.pair (.str) (.pair (.int .i64) (.pair (.int .i64) (.pair (.int .i64) (.int .i64))))))), (1, .one (.sel (.pair (.str) (.pair (.int .i64) (.pair (.int .i64) (.pair (.int .i64) (.int .i64)))))))], vars := [], arrs := [] },
    jo := { regs := [(0, .one (.data (.bool)))], vars := [], arrs := [] },
    tw := fun x => network_twice_1 x.1 x.2 }
noncomputable def cx_network_twice_1 : Cx := { Γ := types, ow := [], fs := [], N := 9 }
theorem ok_network_twice_1 : FunOk Tryd.prog fn_network_twice_1 :=
  FunOk.intro (C := cx_network_twice_1) (p := .nil)
    Tryd.func54 rfl nmr54 rfl rfl rfl rfl types_ok ⟨trivial, trivial⟩ mx (fun x => by kernel_rfl)

noncomputable def slices_IndexFunc_api_Station_api_Station_L0 (s : List (List UInt8 × Int × Int × Int × Int)) (f : (List UInt8 × Int × Int × Int × Int) × Unit → Option Bool) (v : Int) : Option (Int ⊕ (Unit ⊕ Int)) :=
  bif decide (v < (s.length : Int)) then (
   gd (inB v s.length) <|
   (f (s.getD v.toNat ([], (0, (0, (0, 0)))), ())).bind fun r =>
   bif r then (
    some (.inr (.inr v)))
   else (
    some (.inl (wi64 (v + 1)))))
  else (
   some (.inr (.inl ())))

noncomputable def slices_IndexFunc_api_Station_api_Station (s : List (List UInt8 × Int × Int × Int × Int)) (f : (List UInt8 × Int × Int × Int × Int) × Unit → Option Bool) : Option (Int) :=
  (iter (fun x => slices_IndexFunc_api_Station_api_Station_L0 s f x) 0).bind fun s2 =>
  s2.elim (fun s3 =>
   some (-1))
  (fun s4 =>
   some s4)

noncomputable def fn_slices_IndexFunc_api_Station_api_Station : Fun :=
  { f := 53, np := 2, nr := 1,
    ji := { regs := [(0, .one (.data (.sl (.pair (.str) (.pair (.int .i64) (.pair (.int .i64) (.pair (.int .i64) (.int .i64)))))))), (1, .one (.fn [.pair (.str) (.pair (.int .i64) (.pair (.int .i64) (.pair (.int .i64) (.int .i64))))] (.bool)))], vars := [], arrs := [] },
    jo := { regs := [(0, .one (.data (.int .i64)))], vars := [], arrs := [] },
    tw := fun x => slices_IndexFunc_api_Station_api_Station x.1 x.2 }
noncomputable def cx_slices_IndexFunc_api_Station_api_Station : Cx := { Γ := types, ow := [], fs := [], N := 19 }
theorem ok_slices_IndexFunc_api_Station_api_Station : FunOk Tryd.prog fn_slices_IndexFunc_api_Station_api_Station :=
  FunOk.intro (C := cx_slices_IndexFunc_api_Station_api_Station) (p := (.mk [] none .nil (.mk [] none (.mk [] none .nil (.mk [] none (.mk [] (some ({ regs := [(0, .one .keep), (1, .one .keep), (7, .one .keep), (8, .one (.data (.int .i64)))], vars := [], arrs := [] }, [{ e := .x 0, j := { regs := [], vars := [], arrs := [] } }, { e := .r, j := { regs := [(4, .one (.data (.int .i64)))], vars := [], arrs := [] } }])) .nil .nil) .nil)) .nil)))
    Tryd.func53 rfl nmr53 rfl rfl rfl rfl types_ok ⟨trivial, trivial⟩ mx (fun x => by kernel_rfl)

noncomputable def network_twice_L1 (r : List (List UInt8) × List (List UInt8) × List (List UInt8) × List (List UInt8)) (v : Int) (v2 : Int) : Option (Int ⊕ (Unit ⊕ Bool)) :=
  bif decide (v2 < (([r.1, r.2.1, r.2.2.1, r.2.2.2].getD v.toNat []).length : Int)) then (
   gd (inB v2 ([r.1, r.2.1, r.2.2.1, r.2.2.2].getD v.toNat []).length) <|
   (slices_Index_string_string ([r.1, r.2.1, r.2.2.1, r.2.2.2].getD v.toNat []) (([r.1, r.2.1, r.2.2.1, r.2.2.2].getD v.toNat []).getD v2.toNat [])).bind fun r2 =>
   bif decide (r2 < v2) then (
    some (.inr (.inr true)))
   else (
    some (.inl (wi64 (v2 + 1)))))
  else (
   some (.inr (.inl ())))

noncomputable def network_twice_L0 (r : List (List UInt8) × List (List UInt8) × List (List UInt8) × List (List UInt8)) (v : Int) : Option (Int ⊕ (Unit ⊕ Bool)) :=
  bif decide (v < 4) then (
   gd (inB v 4) <|
   (iter (fun x => network_twice_L1 r v x) 0).bind fun s =>
   s.elim (fun s2 =>
    some (.inl (wi64 (v + 1))))
   (fun s3 =>
    some (.inr (.inr s3))))
  else (
   some (.inr (.inl ())))

noncomputable def network_twice_L2 (n : List (List UInt8) × List (List UInt8 × Int × Int × Int × Int × Int × List (Int × Int × Int)) × List (List UInt8 × Int × Int) × List (List UInt8 × Int × Int × Int × Int) × Int × Int) (v3 : Int) : Option (Int ⊕ (Unit ⊕ Bool)) :=
  bif decide (v3 < (n.2.2.2.1.length : Int)) then (
   gd (inB v3 n.2.2.2.1.length) <|
   (slices_IndexFunc_api_Station_api_Station n.2.2.2.1 (fun h => (network_twice_1 h.1 ((n.2.2.2.1.getD v3.toNat ([], (0, (0, (0, 0))))).1, (((n.2.2.2.1.getD v3.toNat ([], (0, (0, (0, 0))))).2).1, ((((n.2.2.2.1.getD v3.toNat ([], (0, (0, (0, 0))))).2).2).1, (((((n.2.2.2.1.getD v3.toNat ([], (0, (0, (0, 0))))).2).2).2).1, ((((n.2.2.2.1.getD v3.toNat ([], (0, (0, (0, 0))))).2).2).2).2))))).bind fun y => some y)).bind fun r3 =>
   bif decide (r3 < v3) then (
    some (.inr (.inr true)))
   else (
    some (.inl (wi64 (v3 + 1)))))
  else (
   some (.inr (.inl ())))

noncomputable def network_twice (n : List (List UInt8) × List (List UInt8 × Int × Int × Int × Int × Int × List (Int × Int × Int)) × List (List UInt8 × Int × Int) × List (List UInt8 × Int × Int × Int × Int) × Int × Int) : Option (Bool) :=
  (network_names (n.1, (n.2.1, (n.2.2.1, (n.2.2.2.1, (n.2.2.2.2.1, n.2.2.2.2.2)))))).bind fun r =>
  (iter (fun x2 => network_twice_L0 r x2) 0).bind fun s4 =>
  s4.elim (fun s5 =>
   (iter (fun x3 => network_twice_L2 n x3) 0).bind fun s7 =>
   s7.elim (fun s8 =>
    some false)
   (fun s9 =>
    some s9))
  (fun s6 =>
   some s6)

noncomputable def fn_network_twice : Fun :=
  { f := 31, np := 1, nr := 1,
    ji := { regs := [(0, .one (.data (.pair (.sl (.str)) (.pair (.sl (.pair (.str) (.pair (.int .i64) (.pair (.int .i64) (.pair (.int .i64) (.pair (.int .i64) (.pair (.int .i64) (.sl (.pair (.int .i64) (.pair (.int .i64) (.int .i64))))))))))) (.pair (.sl (.pair (.str) (.pair (.int .i64) (.int .i64)))) (.pair (.sl (.pair (.str) (.pair (.int .i64) (.pair (.int .i64) (.pair (.int .i64) (.int .i64)))))) (.pair (.int .i64) (.int .i64))))))))], vars := [], arrs := [] },
    jo := { regs := [(0, .one (.data (.bool)))], vars := [], arrs := [] },
    tw := fun x => network_twice x }
noncomputable def cx_network_twice : Cx := { Γ := types, ow := [], fs := [fn_network_names, fn_slices_Index_string_string, fn_slices_IndexFunc_api_Station_api_Station, fn_network_twice_1], N := 43 }
theorem ok_network_twice : FunOk Tryd.prog fn_network_twice :=
  FunOk.intro (C := cx_network_twice) (p := (.mk [] none .nil (.mk [] none (.mk [] none .nil (.mk [] none (.mk [] (some ({ regs := [(1, .one (.ptr 32 0)), (10, .one .keep), (11, .one (.data (.int .i64)))], vars := [(32, 46, [.keep, .keep, .keep, .keep, .keep, .keep])], arrs := [] }, [{ e := .x 0, j := { regs := [(1, .one (.ptr 32 0))], vars := [(32, 46, [.keep, .keep, .keep, .keep, .keep, .keep])], arrs := [] } }, { e := .r, j := { regs := [(2, .one (.data (.bool)))], vars := [], arrs := [] } }])) (.mk [] none .nil (.mk [] none .nil (.mk [] none (.mk [] none (.mk [] none .nil (.mk [] none .nil (.mk [] none (.mk [] (some ({ regs := [(1, .one (.ptr 32 0)), (4, .one .keep), (10, .one .keep), (11, .one .keep), (14, .one .keep), (15, .one .keep), (16, .one (.data (.int .i64)))], vars := [(32, 46, [.keep, .keep, .keep, .keep, .keep, .keep])], arrs := [] }, [{ e := .x 2, j := { regs := [(1, .one (.ptr 32 0)), (10, .one .keep), (11, .one .keep)], vars := [(32, 46, [.keep, .keep, .keep, .keep, .keep, .keep])], arrs := [] } }, { e := .r, j := { regs := [(2, .one (.data (.bool)))], vars := [], arrs := [] } }])) .nil .nil) .nil))) .nil) .nil))) .nil) .nil)) (.mk [] none (.mk [] none .nil (.mk [] none (.mk [] (some ({ regs := [(1, .one (.ptr 32 0)), (29, .one .keep), (30, .one .keep), (31, .one (.data (.int .i64)))], vars := [(32, 46, [.keep, .keep, .keep, .keep, .keep, .keep])], arrs := [] }, [{ e := .x 4, j := { regs := [], vars := [], arrs := [] } }, { e := .r, j := { regs := [(2, .one (.data (.bool)))], vars := [], arrs := [] } }])) (.mk [] none .nil (.mk [] none .nil (.mk [] none (.mk [] none (.mk [] none .nil (.mk [] none (.mk [.fv [(8, .pair (.str) (.pair (.int .i64) (.pair (.int .i64) (.pair (.int .i64) (.int .i64)))))]] none .nil .nil) .nil)) .nil) .nil))) .nil) .nil)) .nil))))
    Tryd.func31 rfl nmr31 rfl rfl rfl rfl types_ok ⟨⟨ok_network_names, ok_slices_Index_string_string, ok_slices_IndexFunc_api_Station_api_Station, ok_network_twice_1, trivial⟩, trivial⟩ mx (fun x => by kernel_rfl)

noncomputable def network_known_1 (k : Int) (v : List (List UInt8) × List (List UInt8 × Int × Int × Int × Int × Int × List (Int × Int × Int)) × List (List UInt8 × Int × Int) × List (List UInt8 × Int × Int × Int × Int) × Int × Int) : Option (Bool) :=
  bif decide (k < 0) then (
   some true)
  else (
   some (decide ((v.1.length : Int) ≤ k)))

noncomputable def fn_network_known_1 : Fun :=
  { f := 56, np := 2, nr := 1,
    ji := { regs := [(0, .one (.data (.int .i64))), (1, .one (.sel (.pair (.sl (.str)) (.pair (.sl (.pair (.str) (.pair (.int .i64) (.pair (.int .i64) (.pair (.int .i64) (.pair (.int .i64) (.pair (.int .i64) (.sl (.pair (.int .i64) (.pair (.int .i64) (.int .i64))))))))))) (.pair (.sl (.pair (.str) (.pair (.int .i64) (.int .i64)))) (.pair (.sl (.pair (.str) (.pair (.int .i64) (.pair (.int .i64) (.pair (.int .i64) (.int .i64)))))) (.pair (.int .i64) (.int .i64))))))))], vars := [], arrs := [] },
    jo := { regs := [(0, .one (.data (.bool)))], vars := [], arrs := [] },
    tw := fun x => network_known_1 x.1 x.2 }
noncomputable def cx_network_known_1 : Cx := { Γ := types, ow := [], fs := [], N := 13 }
theorem ok_network_known_1 : FunOk Tryd.prog fn_network_known_1 :=
  FunOk.intro (C := cx_network_known_1) (p := .nil)
    Tryd.func56 rfl nmr56 rfl rfl rfl rfl types_ok ⟨trivial, trivial⟩ mx (fun x => by kernel_rfl)

noncomputable def slices_IndexFunc_int_int_L0 (s : List Int) (f : Int × Unit → Option Bool) (v : Int) : Option (Int ⊕ (Unit ⊕ Int)) :=
  bif decide (v < (s.length : Int)) then (
   gd (inB v s.length) <|
   (f (s.getD v.toNat 0, ())).bind fun r =>
   bif r then (
    some (.inr (.inr v)))
   else (
    some (.inl (wi64 (v + 1)))))
  else (
   some (.inr (.inl ())))

noncomputable def slices_IndexFunc_int_int (s : List Int) (f : Int × Unit → Option Bool) : Option (Int) :=
  (iter (fun x => slices_IndexFunc_int_int_L0 s f x) 0).bind fun s2 =>
  s2.elim (fun s3 =>
   some (-1))
  (fun s4 =>
   some s4)

noncomputable def fn_slices_IndexFunc_int_int : Fun :=
  { f := 78, np := 2, nr := 1,
    ji := { regs := [(0, .one (.data (.sl (.int .i64)))), (1, .one (.fn [.int .i64] (.bool)))], vars := [], arrs := [] },
    jo := { regs := [(0, .one (.data (.int .i64)))], vars := [], arrs := [] },
    tw := fun x => slices_IndexFunc_int_int x.1 x.2 }
noncomputable def cx_slices_IndexFunc_int_int : Cx := { Γ := types, ow := [], fs := [], N := 19 }
theorem ok_slices_IndexFunc_int_int : FunOk Tryd.prog fn_slices_IndexFunc_int_int :=
  FunOk.intro (C := cx_slices_IndexFunc_int_int) (p := (.mk [] none .nil (.mk [] none (.mk [] none .nil (.mk [] none (.mk [] (some ({ regs := [(0, .one .keep), (1, .one .keep), (7, .one .keep), (8, .one (.data (.int .i64)))], vars := [], arrs := [] }, [{ e := .x 0, j := { regs := [], vars := [], arrs := [] } }, { e := .r, j := { regs := [(4, .one (.data (.int .i64)))], vars := [], arrs := [] } }])) .nil .nil) .nil)) .nil)))
    Tryd.func78 rfl nmr78 rfl rfl rfl rfl types_ok ⟨trivial, trivial⟩ mx (fun x => by kernel_rfl)

noncomputable def slices_ContainsFunc_int_int (s : List Int) (f : Int × Unit → Option Bool) : Option (Bool) :=
  (slices_IndexFunc_int_int s f).bind fun r =>
  some (decide (0 ≤ r))

noncomputable def fn_slices_ContainsFunc_int_int : Fun :=
  { f := 55, np := 2, nr := 1,
    ji := { regs := [(0, .one (.data (.sl (.int .i64)))), (1, .one (.fn [.int .i64] (.bool)))], vars := [], arrs := [] },
    jo := { regs := [(0, .one (.data (.bool)))], vars := [], arrs := [] },
    tw := fun x => slices_ContainsFunc_int_int x.1 x.2 }
noncomputable def cx_slices_ContainsFunc_int_int : Cx := { Γ := types, ow := [], fs := [fn_slices_IndexFunc_int_int], N := 9 }
theorem ok_slices_ContainsFunc_int_int : FunOk Tryd.prog fn_slices_ContainsFunc_int_int :=
  FunOk.intro (C := cx_slices_ContainsFunc_int_int) (p := .nil)
    Tryd.func55 rfl nmr55 rfl rfl rfl rfl types_ok ⟨⟨ok_slices_IndexFunc_int_int, trivial⟩, trivial⟩ mx (fun x => by kernel_rfl)

noncomputable def network_known_L0 (n : List (List UInt8) × List (List UInt8 × Int × Int × Int × Int × Int × List (Int × Int × Int)) × List (List UInt8 × Int × Int) × List (List UInt8 × Int × Int × Int × Int) × Int × Int) (v : Int) (all : List Int) : Option ((Int × List Int) ⊕ (List Int)) :=
  bif decide (v < (n.2.1.length : Int)) then (
   gd (inB v n.2.1.length) <|
   gd (fits (all.length + 2) 8) <|
   some (.inl (wi64 (v + 1), all ++ [((n.2.1.getD v.toNat ([], (0, (0, (0, (0, (0, []))))))).2).1, (((n.2.1.getD v.toNat ([], (0, (0, (0, (0, (0, []))))))).2).2).1])))
  else (
   some (.inr all))

noncomputable def network_known_L1 (n : List (List UInt8) × List (List UInt8 × Int × Int × Int × Int × Int × List (Int × Int × Int)) × List (List UInt8 × Int × Int) × List (List UInt8 × Int × Int × Int × Int) × Int × Int) (v2 : Int) (all2 : List Int) : Option ((Int × List Int) ⊕ (List Int)) :=
  bif decide (v2 < (n.2.2.1.length : Int)) then (
   gd (inB v2 n.2.2.1.length) <|
   gd (fits (all2.length + 1) 8) <|
   some (.inl (wi64 (v2 + 1), all2 ++ [((n.2.2.1.getD v2.toNat ([], (0, 0))).2).1])))
  else (
   some (.inr all2))

noncomputable def network_known_L2 (n : List (List UInt8) × List (List UInt8 × Int × Int × Int × Int × Int × List (Int × Int × Int)) × List (List UInt8 × Int × Int) × List (List UInt8 × Int × Int × Int × Int) × Int × Int) (v3 : Int) (all3 : List Int) : Option ((Int × List Int) ⊕ (List Int)) :=
  bif decide (v3 < (n.2.2.2.1.length : Int)) then (
   gd (inB v3 n.2.2.2.1.length) <|
   gd (fits (all3.length + 1) 8) <|
   some (.inl (wi64 (v3 + 1), all3 ++ [((n.2.2.2.1.getD v3.toNat ([], (0, (0, (0, 0))))).2).1])))
  else (
   some (.inr all3))

noncomputable def network_known (n : List (List UInt8) × List (List UInt8 × Int × Int × Int × Int × Int × List (Int × Int × Int)) × List (List UInt8 × Int × Int) × List (List UInt8 × Int × Int × Int × Int) × Int × Int) : Option (Bool) :=
  (iter (fun x => network_known_L0 n x.1 x.2) (0, [])).bind fun s =>
  (iter (fun x2 => network_known_L1 n x2.1 x2.2) (0, s)).bind fun s2 =>
  (iter (fun x3 => network_known_L2 n x3.1 x3.2) (0, s2)).bind fun s3 =>
  (slices_ContainsFunc_int_int s3 (fun h => (network_known_1 h.1 (n.1, (n.2.1, (n.2.2.1, (n.2.2.2.1, (n.2.2.2.2.1, n.2.2.2.2.2)))))).bind fun y => some y)).bind fun r =>
  some (!r)

noncomputable def fn_network_known : Fun :=
  { f := 32, np := 1, nr := 1,
    ji := { regs := [(0, .one (.data (.pair (.sl (.str)) (.pair (.sl (.pair (.str) (.pair (.int .i64) (.pair (.int .i64) (.pair (.int .i64) (.pair (.int .i64) (.pair (.int .i64) (.sl (.pair (.int .i64) (.pair (.int .i64) (.int .i64))))))))))) (.pair (.sl (.pair (.str) (.pair (.int .i64) (.int .i64)))) (.pair (.sl (.pair (.str) (.pair (.int .i64) (.pair (.int .i64) (.pair (.int .i64) (.int .i64)))))) (.pair (.int .i64) (.int .i64))))))))], vars := [], arrs := [] },
    jo := { regs := [(0, .one (.data (.bool)))], vars := [], arrs := [] },
    tw := fun x => network_known x }
noncomputable def cx_network_known : Cx := { Γ := types, ow := [], fs := [fn_slices_ContainsFunc_int_int, fn_network_known_1], N := 55 }
theorem ok_network_known : FunOk Tryd.prog fn_network_known :=
  FunOk.intro (C := cx_network_known) (p := (.mk [] none .nil (.mk [] none .nil (.mk [] none (.mk [] none .nil (.mk [] none (.mk [] (some ({ regs := [(1, .one (.ptr 32 0)), (3, .one (.own 75)), (11, .one .keep), (12, .one .keep), (13, .one (.data (.int .i64)))], vars := [(32, 46, [.keep, .keep, .keep, .keep, .keep, .keep])], arrs := [(75, .arr 3 (.int .i64))] }, [{ e := .x 0, j := { regs := [(1, .one (.ptr 32 0)), (3, .one (.own 75))], vars := [(32, 46, [.keep, .keep, .keep, .keep, .keep, .keep])], arrs := [(75, .arr 3 (.int .i64))] } }])) .nil .nil) .nil)) (.mk [] none (.mk [] none .nil (.mk [] none (.mk [] (some ({ regs := [(1, .one (.ptr 32 0)), (3, .one (.own 75)), (26, .one .keep), (27, .one .keep), (28, .one (.data (.int .i64)))], vars := [(32, 46, [.keep, .keep, .keep, .keep, .keep, .keep])], arrs := [(75, .arr 3 (.int .i64))] }, [{ e := .x 2, j := { regs := [(1, .one (.ptr 32 0)), (3, .one (.own 75))], vars := [(32, 46, [.keep, .keep, .keep, .keep, .keep, .keep])], arrs := [(75, .arr 3 (.int .i64))] } }])) .nil .nil) .nil)) (.mk [] none (.mk [] none .nil (.mk [] none (.mk [] (some ({ regs := [(1, .one (.ptr 32 0)), (3, .one (.own 75)), (39, .one .keep), (40, .one .keep), (41, .one (.data (.int .i64)))], vars := [(32, 46, [.keep, .keep, .keep, .keep, .keep, .keep])], arrs := [(75, .arr 3 (.int .i64))] }, [{ e := .x 4, j := { regs := [(1, .one (.ptr 32 0)), (3, .one (.own 75))], vars := [(32, 46, [.keep, .keep, .keep, .keep, .keep, .keep])], arrs := [(75, .arr 3 (.int .i64))] } }])) .nil .nil) .nil)) (.mk [] none (.mk [.fv [(1, .pair (.sl (.str)) (.pair (.sl (.pair (.str) (.pair (.int .i64) (.pair (.int .i64) (.pair (.int .i64) (.pair (.int .i64) (.pair (.int .i64) (.sl (.pair (.int .i64) (.pair (.int .i64) (.int .i64))))))))))) (.pair (.sl (.pair (.str) (.pair (.int .i64) (.int .i64)))) (.pair (.sl (.pair (.str) (.pair (.int .i64) (.pair (.int .i64) (.pair (.int .i64) (.int .i64)))))) (.pair (.int .i64) (.int .i64))))))]] none .nil .nil) .nil)))))))
    Tryd.func32 rfl nmr32 rfl rfl rfl rfl types_ok ⟨⟨ok_slices_ContainsFunc_int_int, ok_network_known_1, trivial⟩, trivial⟩ mx (fun x => by kernel_rfl)

noncomputable def network_in (n : Int) (least : Int) (most : Int) : Option (Bool) :=
  bif decide (least ≤ n) then (
   some (decide (n ≤ most)))
  else (
   some false)

noncomputable def fn_network_in : Fun :=
  { f := 61, np := 3, nr := 1,
    ji := { regs := [(0, .one (.data (.int .i64))), (1, .one (.data (.int .i64))), (2, .one (.data (.int .i64)))], vars := [], arrs := [] },
    jo := { regs := [(0, .one (.data (.bool)))], vars := [], arrs := [] },
    tw := fun x => network_in x.1 x.2.1 x.2.2 }
noncomputable def cx_network_in : Cx := { Γ := types, ow := [], fs := [], N := 15 }
theorem ok_network_in : FunOk Tryd.prog fn_network_in :=
  FunOk.intro (C := cx_network_in) (p := .nil)
    Tryd.func61 rfl nmr61 rfl rfl rfl rfl types_ok ⟨trivial, trivial⟩ mx (fun x => by kernel_rfl)

noncomputable def network_pipe_L0 (s : List UInt8 × Int × Int × Int × Int × Int × List (Int × Int × Int)) (v : Int) : Option (Int ⊕ (Unit ⊕ Bool)) :=
  bif decide (v < (s.2.2.2.2.2.2.length : Int)) then (
   gd (inB v s.2.2.2.2.2.2.length) <|
   Option.bind (α := Bool) (
     (network_in (((s.2.2.2.2.2.2.getD v.toNat (0, (0, 0))).2).1) (-500) 5000).bind fun r4 =>
     bif !r4 then (
      some true)
     else (
      (network_in (((s.2.2.2.2.2.2.getD v.toNat (0, (0, 0))).2).2) 0 100000000).bind fun r5 =>
      bif !r5 then (
       some true)
      else (
       bif decide (0 < v) then (
        gd (inB (wi64 (v - 1)) s.2.2.2.2.2.2.length) <|
        some (decide ((s.2.2.2.2.2.2.getD v.toNat (0, (0, 0))).1 ≤ (s.2.2.2.2.2.2.getD (wi64 (v - 1)).toNat (0, (0, 0))).1)))
       else (
        some false)))) fun s3 =>
   bif s3 then (
    some (.inr (.inr false)))
   else (
    some (.inl (wi64 (v + 1)))))
  else (
   some (.inr (.inl ())))

noncomputable def network_pipe (s : List UInt8 × Int × Int × Int × Int × Int × List (Int × Int × Int)) : Option (Bool) :=
  Option.bind (α := Bool) (
    bif decide (s.2.1 = s.2.2.1) then (
     some true)
    else (
     (network_in s.2.2.2.1 1 1000000).bind fun r =>
     bif !r then (
      some true)
     else (
      (network_in s.2.2.2.2.1 0 1000).bind fun r2 =>
      bif !r2 then (
       some true)
      else (
       (network_in s.2.2.2.2.2.1 0 100000).bind fun r3 =>
       some (!r3))))) fun s2 =>
  bif s2 then (
   some false)
  else (
   (iter (fun x => network_pipe_L0 s x) 0).bind fun s4 =>
   s4.elim (fun s5 =>
    gd (inB 0 s.2.2.2.2.2.2.length) <|
    bif decide ((s.2.2.2.2.2.2.getD 0 (0, (0, 0))).1 = 0) then (
     gd (inB (wi64 ((s.2.2.2.2.2.2.length : Int) - 1)) s.2.2.2.2.2.2.length) <|
     some (decide ((s.2.2.2.2.2.2.getD (wi64 ((s.2.2.2.2.2.2.length : Int) - 1)).toNat (0, (0, 0))).1 = s.2.2.2.1)))
    else (
     some false))
   (fun s6 =>
    some s6))

noncomputable def fn_network_pipe : Fun :=
  { f := 58, np := 1, nr := 1,
    ji := { regs := [(0, .one (.data (.pair (.str) (.pair (.int .i64) (.pair (.int .i64) (.pair (.int .i64) (.pair (.int .i64) (.pair (.int .i64) (.sl (.pair (.int .i64) (.pair (.int .i64) (.int .i64))))))))))))], vars := [], arrs := [] },
    jo := { regs := [(0, .one (.data (.bool)))], vars := [], arrs := [] },
    tw := fun x => network_pipe x }
noncomputable def cx_network_pipe : Cx := { Γ := types, ow := [], fs := [fn_network_in], N := 83 }
theorem ok_network_pipe : FunOk Tryd.prog fn_network_pipe :=
  FunOk.intro (C := cx_network_pipe) (p := (.mk [] none .nil (.mk [] none (.mk [] none (.mk [.join [{ e := .n, j := { regs := [(1, .one (.ptr 32 0)), (27, .one (.data (.bool)))], vars := [(32, 39, [.keep, .keep, .keep, .keep, .keep, .keep, .keep])], arrs := [] } }]] none .nil .nil) .nil) (.mk [] none (.mk [] none .nil (.mk [] none (.mk [] (some ({ regs := [(1, .one (.ptr 32 0)), (29, .one .keep), (30, .one .keep), (31, .one (.data (.int .i64)))], vars := [(32, 39, [.keep, .keep, .keep, .keep, .keep, .keep, .keep])], arrs := [] }, [{ e := .x 0, j := { regs := [(1, .one (.ptr 32 0))], vars := [(32, 39, [.keep, .keep, .keep, .keep, .keep, .keep, .keep])], arrs := [] } }, { e := .r, j := { regs := [(2, .one (.data (.bool)))], vars := [], arrs := [] } }])) (.mk [] none .nil (.mk [] none .nil (.mk [] none (.mk [] none (.mk [] none .nil (.mk [] none (.mk [.join [{ e := .n, j := { regs := [(1, .one (.ptr 32 0)), (29, .one .keep), (30, .one .keep), (31, .one .keep), (61, .one (.data (.bool)))], vars := [(32, 39, [.keep, .keep, .keep, .keep, .keep, .keep, .keep])], arrs := [] } }]] none .nil .nil) .nil)) .nil) .nil))) .nil) .nil)) .nil))))
    Tryd.func58 rfl nmr58 rfl rfl rfl rfl types_ok ⟨⟨ok_network_in, trivial⟩, trivial⟩ mx (fun x => by kernel_rfl)

noncomputable def network_proper_1 (s : List UInt8 × Int × Int × Int × Int × Int × List (Int × Int × Int)) : Option (Bool) :=
  (network_pipe (s.1, (s.2.1, (s.2.2.1, (s.2.2.2.1, (s.2.2.2.2.1, (s.2.2.2.2.2.1, s.2.2.2.2.2.2))))))).bind fun r =>
  some (!r)

noncomputable def fn_network_proper_1 : Fun :=
  { f := 57, np := 1, nr := 1,
    ji := { regs := [(0, .one (.data (.pair (.str) (.pair (.int .i64) (.pair (.int .i64) (.pair (.int .i64) (.pair (.int .i64) (.pair (.int .i64) (.sl (.pair (.int .i64) (.pair (.int .i64) (.int .i64))))))))))))], vars := [], arrs := [] },
    jo := { regs := [(0, .one (.data (.bool)))], vars := [], arrs := [] },
    tw := fun x => network_proper_1 x }
noncomputable def cx_network_proper_1 : Cx := { Γ := types, ow := [], fs := [fn_network_pipe], N := 6 }
theorem ok_network_proper_1 : FunOk Tryd.prog fn_network_proper_1 :=
  FunOk.intro (C := cx_network_proper_1) (p := .nil)
    Tryd.func57 rfl nmr57 rfl rfl rfl rfl types_ok ⟨⟨ok_network_pipe, trivial⟩, trivial⟩ mx (fun x => by kernel_rfl)

noncomputable def slices_IndexFunc_api_Port_api_Port_L0 (s : List (List UInt8 × Int × Int)) (f : (List UInt8 × Int × Int) × Unit → Option Bool) (v : Int) : Option (Int ⊕ (Unit ⊕ Int)) :=
  bif decide (v < (s.length : Int)) then (
   gd (inB v s.length) <|
   (f (s.getD v.toNat ([], (0, 0)), ())).bind fun r =>
   bif r then (
    some (.inr (.inr v)))
   else (
    some (.inl (wi64 (v + 1)))))
  else (
   some (.inr (.inl ())))

noncomputable def slices_IndexFunc_api_Port_api_Port (s : List (List UInt8 × Int × Int)) (f : (List UInt8 × Int × Int) × Unit → Option Bool) : Option (Int) :=
  (iter (fun x => slices_IndexFunc_api_Port_api_Port_L0 s f x) 0).bind fun s2 =>
  s2.elim (fun s3 =>
   some (-1))
  (fun s4 =>
   some s4)

noncomputable def fn_slices_IndexFunc_api_Port_api_Port : Fun :=
  { f := 42, np := 2, nr := 1,
    ji := { regs := [(0, .one (.data (.sl (.pair (.str) (.pair (.int .i64) (.int .i64)))))), (1, .one (.fn [.pair (.str) (.pair (.int .i64) (.int .i64))] (.bool)))], vars := [], arrs := [] },
    jo := { regs := [(0, .one (.data (.int .i64)))], vars := [], arrs := [] },
    tw := fun x => slices_IndexFunc_api_Port_api_Port x.1 x.2 }
noncomputable def cx_slices_IndexFunc_api_Port_api_Port : Cx := { Γ := types, ow := [], fs := [], N := 19 }
theorem ok_slices_IndexFunc_api_Port_api_Port : FunOk Tryd.prog fn_slices_IndexFunc_api_Port_api_Port :=
  FunOk.intro (C := cx_slices_IndexFunc_api_Port_api_Port) (p := (.mk [] none .nil (.mk [] none (.mk [] none .nil (.mk [] none (.mk [] (some ({ regs := [(0, .one .keep), (1, .one .keep), (7, .one .keep), (8, .one (.data (.int .i64)))], vars := [], arrs := [] }, [{ e := .x 0, j := { regs := [], vars := [], arrs := [] } }, { e := .r, j := { regs := [(4, .one (.data (.int .i64)))], vars := [], arrs := [] } }])) .nil .nil) .nil)) .nil)))
    Tryd.func42 rfl nmr42 rfl rfl rfl rfl types_ok ⟨trivial, trivial⟩ mx (fun x => by kernel_rfl)

noncomputable def slices_ContainsFunc_api_Port_api_Port (s : List (List UInt8 × Int × Int)) (f : (List UInt8 × Int × Int) × Unit → Option Bool) : Option (Bool) :=
  (slices_IndexFunc_api_Port_api_Port s f).bind fun r =>
  some (decide (0 ≤ r))

noncomputable def fn_slices_ContainsFunc_api_Port_api_Port : Fun :=
  { f := 59, np := 2, nr := 1,
    ji := { regs := [(0, .one (.data (.sl (.pair (.str) (.pair (.int .i64) (.int .i64)))))), (1, .one (.fn [.pair (.str) (.pair (.int .i64) (.int .i64))] (.bool)))], vars := [], arrs := [] },
    jo := { regs := [(0, .one (.data (.bool)))], vars := [], arrs := [] },
    tw := fun x => slices_ContainsFunc_api_Port_api_Port x.1 x.2 }
noncomputable def cx_slices_ContainsFunc_api_Port_api_Port : Cx := { Γ := types, ow := [], fs := [fn_slices_IndexFunc_api_Port_api_Port], N := 9 }
theorem ok_slices_ContainsFunc_api_Port_api_Port : FunOk Tryd.prog fn_slices_ContainsFunc_api_Port_api_Port :=
  FunOk.intro (C := cx_slices_ContainsFunc_api_Port_api_Port) (p := .nil)
    Tryd.func59 rfl nmr59 rfl rfl rfl rfl types_ok ⟨⟨ok_slices_IndexFunc_api_Port_api_Port, trivial⟩, trivial⟩ mx (fun x => by kernel_rfl)

noncomputable def network_proper_2 (p : List UInt8 × Int × Int) : Option (Bool) :=
  (network_in p.2.2 0 100000000).bind fun r =>
  some (!r)

noncomputable def fn_network_proper_2 : Fun :=
  { f := 60, np := 1, nr := 1,
    ji := { regs := [(0, .one (.data (.pair (.str) (.pair (.int .i64) (.int .i64)))))], vars := [], arrs := [] },
    jo := { regs := [(0, .one (.data (.bool)))], vars := [], arrs := [] },
    tw := fun x => network_proper_2 x }
noncomputable def cx_network_proper_2 : Cx := { Γ := types, ow := [], fs := [fn_network_in], N := 7 }
theorem ok_network_proper_2 : FunOk Tryd.prog fn_network_proper_2 :=
  FunOk.intro (C := cx_network_proper_2) (p := .nil)
    Tryd.func60 rfl nmr60 rfl rfl rfl rfl types_ok ⟨⟨ok_network_in, trivial⟩, trivial⟩ mx (fun x => by kernel_rfl)

noncomputable def slices_ContainsFunc_api_Station_api_Station (s : List (List UInt8 × Int × Int × Int × Int)) (f : (List UInt8 × Int × Int × Int × Int) × Unit → Option Bool) : Option (Bool) :=
  (slices_IndexFunc_api_Station_api_Station s f).bind fun r =>
  some (decide (0 ≤ r))

noncomputable def fn_slices_ContainsFunc_api_Station_api_Station : Fun :=
  { f := 62, np := 2, nr := 1,
    ji := { regs := [(0, .one (.data (.sl (.pair (.str) (.pair (.int .i64) (.pair (.int .i64) (.pair (.int .i64) (.int .i64)))))))), (1, .one (.fn [.pair (.str) (.pair (.int .i64) (.pair (.int .i64) (.pair (.int .i64) (.int .i64))))] (.bool)))], vars := [], arrs := [] },
    jo := { regs := [(0, .one (.data (.bool)))], vars := [], arrs := [] },
    tw := fun x => slices_ContainsFunc_api_Station_api_Station x.1 x.2 }
noncomputable def cx_slices_ContainsFunc_api_Station_api_Station : Cx := { Γ := types, ow := [], fs := [fn_slices_IndexFunc_api_Station_api_Station], N := 9 }
theorem ok_slices_ContainsFunc_api_Station_api_Station : FunOk Tryd.prog fn_slices_ContainsFunc_api_Station_api_Station :=
  FunOk.intro (C := cx_slices_ContainsFunc_api_Station_api_Station) (p := .nil)
    Tryd.func62 rfl nmr62 rfl rfl rfl rfl types_ok ⟨⟨ok_slices_IndexFunc_api_Station_api_Station, trivial⟩, trivial⟩ mx (fun x => by kernel_rfl)

noncomputable def network_proper_3 (s : List UInt8 × Int × Int × Int × Int) : Option (Bool) :=
  (network_in s.2.2.1 0 100000000).bind fun r =>
  bif !r then (
   some true)
  else (
   (network_in s.2.2.2.1 0 100000).bind fun r2 =>
   bif !r2 then (
    some true)
   else (
    (network_in s.2.2.2.2 0 100000000).bind fun r3 =>
    some (!r3)))

noncomputable def fn_network_proper_3 : Fun :=
  { f := 63, np := 1, nr := 1,
    ji := { regs := [(0, .one (.data (.pair (.str) (.pair (.int .i64) (.pair (.int .i64) (.pair (.int .i64) (.int .i64)))))))], vars := [], arrs := [] },
    jo := { regs := [(0, .one (.data (.bool)))], vars := [], arrs := [] },
    tw := fun x => network_proper_3 x }
noncomputable def cx_network_proper_3 : Cx := { Γ := types, ow := [], fs := [fn_network_in], N := 19 }
theorem ok_network_proper_3 : FunOk Tryd.prog fn_network_proper_3 :=
  FunOk.intro (C := cx_network_proper_3) (p := .nil)
    Tryd.func63 rfl nmr63 rfl rfl rfl rfl types_ok ⟨⟨ok_network_in, trivial⟩, trivial⟩ mx (fun x => by kernel_rfl)

noncomputable def network_proper (n : List (List UInt8) × List (List UInt8 × Int × Int × Int × Int × Int × List (Int × Int × Int)) × List (List UInt8 × Int × Int) × List (List UInt8 × Int × Int × Int × Int) × Int × Int) : Option (Bool) :=
  (slices_ContainsFunc_api_Segment_api_Segment n.2.1 (fun h => (network_proper_1 h.1).bind fun y => some y)).bind fun r =>
  bif r then (
   some false)
  else (
   (slices_ContainsFunc_api_Port_api_Port n.2.2.1 (fun h2 => (network_proper_2 h2.1).bind fun y => some y)).bind fun r2 =>
   bif r2 then (
    some false)
   else (
    (slices_ContainsFunc_api_Station_api_Station n.2.2.2.1 (fun h3 => (network_proper_3 h3.1).bind fun y => some y)).bind fun r3 =>
    bif r3 then (
     some false)
    else (
     (network_in n.2.2.2.2.1 (-100000) 100000000).bind fun r4 =>
     bif r4 then (
      (network_in n.2.2.2.2.2 0 100).bind fun r5 =>
      some r5)
     else (
      some false))))

noncomputable def fn_network_proper : Fun :=
  { f := 33, np := 1, nr := 1,
    ji := { regs := [(0, .one (.data (.pair (.sl (.str)) (.pair (.sl (.pair (.str) (.pair (.int .i64) (.pair (.int .i64) (.pair (.int .i64) (.pair (.int .i64) (.pair (.int .i64) (.sl (.pair (.int .i64) (.pair (.int .i64) (.int .i64))))))))))) (.pair (.sl (.pair (.str) (.pair (.int .i64) (.int .i64)))) (.pair (.sl (.pair (.str) (.pair (.int .i64) (.pair (.int .i64) (.pair (.int .i64) (.int .i64)))))) (.pair (.int .i64) (.int .i64))))))))], vars := [], arrs := [] },
    jo := { regs := [(0, .one (.data (.bool)))], vars := [], arrs := [] },
    tw := fun x => network_proper x }
noncomputable def cx_network_proper : Cx := { Γ := types, ow := [], fs := [fn_slices_ContainsFunc_api_Segment_api_Segment, fn_network_proper_1, fn_slices_ContainsFunc_api_Port_api_Port, fn_network_proper_2, fn_slices_ContainsFunc_api_Station_api_Station, fn_network_proper_3, fn_network_in], N := 20 }
theorem ok_network_proper : FunOk Tryd.prog fn_network_proper :=
  FunOk.intro (C := cx_network_proper) (p := .nil)
    Tryd.func33 rfl nmr33 rfl rfl rfl rfl types_ok ⟨⟨ok_slices_ContainsFunc_api_Segment_api_Segment, ok_network_proper_1, ok_slices_ContainsFunc_api_Port_api_Port, ok_network_proper_2, ok_slices_ContainsFunc_api_Station_api_Station, ok_network_proper_3, ok_network_in, trivial⟩, trivial⟩ mx (fun x => by kernel_rfl)

noncomputable def network_Check_L0 (r2 : List (List UInt8) × List (List UInt8) × List (List UInt8) × List (List UInt8)) (v : Int) : Option (Int ⊕ (Unit ⊕ Int)) :=
  bif decide (v < 4) then (
   gd (inB v 4) <|
   (slices_ContainsFunc_string_string ([r2.1, r2.2.1, r2.2.2.1, r2.2.2.2].getD v.toNat []) (fun h => (network_Check_1 h.1).bind fun y => some y)).bind fun r3 =>
   bif r3 then (
    some (.inr (.inr 3)))
   else (
    some (.inl (wi64 (v + 1)))))
  else (
   some (.inr (.inl ())))

noncomputable def network_Check (n : List (List UInt8) × List (List UInt8 × Int × Int × Int × Int × Int × List (Int × Int × Int)) × List (List UInt8 × Int × Int) × List (List UInt8 × Int × Int × Int × Int) × Int × Int) : Option (Int) :=
  (network_limits (n.1, (n.2.1, (n.2.2.1, (n.2.2.2.1, (n.2.2.2.2.1, n.2.2.2.2.2)))))).bind fun r =>
  bif !r then (
   some 4)
  else (
   (network_names (n.1, (n.2.1, (n.2.2.1, (n.2.2.2.1, (n.2.2.2.2.1, n.2.2.2.2.2)))))).bind fun r2 =>
   (iter (fun x => network_Check_L0 r2 x) 0).bind fun s =>
   s.elim (fun s2 =>
    (network_twice (n.1, (n.2.1, (n.2.2.1, (n.2.2.2.1, (n.2.2.2.2.1, n.2.2.2.2.2)))))).bind fun r4 =>
    bif r4 then (
     some 7)
    else (
     (network_known (n.1, (n.2.1, (n.2.2.1, (n.2.2.2.1, (n.2.2.2.2.1, n.2.2.2.2.2)))))).bind fun r5 =>
     bif !r5 then (
      some 8)
     else (
      (network_proper (n.1, (n.2.1, (n.2.2.1, (n.2.2.2.1, (n.2.2.2.2.1, n.2.2.2.2.2)))))).bind fun r6 =>
      bif !r6 then (
       some 9)
      else (
       some 0))))
   (fun s3 =>
    some s3))

noncomputable def fn_network_Check : Fun :=
  { f := 14, np := 1, nr := 1,
    ji := { regs := [(0, .one (.data (.pair (.sl (.str)) (.pair (.sl (.pair (.str) (.pair (.int .i64) (.pair (.int .i64) (.pair (.int .i64) (.pair (.int .i64) (.pair (.int .i64) (.sl (.pair (.int .i64) (.pair (.int .i64) (.int .i64))))))))))) (.pair (.sl (.pair (.str) (.pair (.int .i64) (.int .i64)))) (.pair (.sl (.pair (.str) (.pair (.int .i64) (.pair (.int .i64) (.pair (.int .i64) (.int .i64)))))) (.pair (.int .i64) (.int .i64))))))))], vars := [], arrs := [] },
    jo := { regs := [(0, .one (.data (.int .i64)))], vars := [], arrs := [] },
    tw := fun x => network_Check x }
noncomputable def cx_network_Check : Cx := { Γ := types, ow := [], fs := [fn_network_limits, fn_network_names, fn_slices_ContainsFunc_string_string, fn_network_Check_1, fn_network_twice, fn_network_known, fn_network_proper], N := 27 }
theorem ok_network_Check : FunOk Tryd.prog fn_network_Check :=
  FunOk.intro (C := cx_network_Check) (p := (.mk [] none .nil (.mk [] none .nil (.mk [] none (.mk [] none .nil (.mk [] none (.mk [] (some ({ regs := [(1, .one (.ptr 32 0)), (9, .one .keep), (10, .one (.data (.int .i64)))], vars := [(32, 46, [.keep, .keep, .keep, .keep, .keep, .keep])], arrs := [] }, [{ e := .x 0, j := { regs := [(1, .one (.ptr 32 0))], vars := [(32, 46, [.keep, .keep, .keep, .keep, .keep, .keep])], arrs := [] } }, { e := .r, j := { regs := [(2, .one (.data (.int .i64)))], vars := [], arrs := [] } }])) .nil .nil) .nil)) .nil))))
    Tryd.func14 rfl nmr14 rfl rfl rfl rfl types_ok ⟨⟨ok_network_limits, ok_network_names, ok_slices_ContainsFunc_string_string, ok_network_Check_1, ok_network_twice, ok_network_known, ok_network_proper, trivial⟩, trivial⟩ mx (fun x => by kernel_rfl)

noncomputable def product_numbers (p : List UInt8 × Int × Int × Int × Int) : Option (Int × Int × Int × Int) :=
  some (p.2.1, (p.2.2.1, (p.2.2.2.1, p.2.2.2.2)))

noncomputable def fn_product_numbers : Fun :=
  { f := 64, np := 1, nr := 1,
    ji := { regs := [(0, .one (.data (.pair (.str) (.pair (.int .i64) (.pair (.int .i64) (.pair (.int .i64) (.int .i64)))))))], vars := [], arrs := [] },
    jo := { regs := [(0, .one (.data (.pair (.int .i64) (.pair (.int .i64) (.pair (.int .i64) (.int .i64))))))], vars := [], arrs := [] },
    tw := fun x => product_numbers x }
noncomputable def cx_product_numbers : Cx := { Γ := types, ow := [], fs := [], N := 12 }
theorem ok_product_numbers : FunOk Tryd.prog fn_product_numbers :=
  FunOk.intro (C := cx_product_numbers) (p := .nil)
    Tryd.func64 rfl nmr64 rfl rfl rfl rfl types_ok ⟨trivial, trivial⟩ mx (fun x => by kernel_rfl)

noncomputable def product_Valid_L0 (r : Int × Int × Int × Int) (v : Int) : Option (Int ⊕ (Unit ⊕ Bool)) :=
  bif decide (v < 4) then (
   gd (inB v 4) <|
   Option.bind (α := Bool) (
     gd (inB v 4) <|
     bif decide ([r.1, r.2.1, r.2.2.1, r.2.2.2].getD v.toNat 0 < ([((400 : Int), (1200 : Int)), ((0 : Int), (2000 : Int)), ((0 : Int), (5000 : Int)), ((1 : Int), (2000 : Int))].getD v.toNat (0, 0)).1) then (
      some true)
     else (
      gd (inB v 4) <|
      some (decide (([((400 : Int), (1200 : Int)), ((0 : Int), (2000 : Int)), ((0 : Int), (5000 : Int)), ((1 : Int), (2000 : Int))].getD v.toNat (0, 0)).2 < [r.1, r.2.1, r.2.2.1, r.2.2.2].getD v.toNat 0)))) fun s =>
   bif s then (
    some (.inr (.inr false)))
   else (
    some (.inl (wi64 (v + 1)))))
  else (
   some (.inr (.inl ())))

noncomputable def product_Valid (p : List UInt8 × Int × Int × Int × Int) : Option (Bool) :=
  (product_numbers (p.1, (p.2.1, (p.2.2.1, (p.2.2.2.1, p.2.2.2.2))))).bind fun r =>
  (iter (fun x => product_Valid_L0 r x) 0).bind fun s2 =>
  s2.elim (fun s3 =>
   (lines_Name p.1).bind fun r2 =>
   some r2)
  (fun s4 =>
   some s4)

noncomputable def fn_product_Valid : Fun :=
  { f := 34, np := 1, nr := 1,
    ji := { regs := [(0, .one (.data (.pair (.str) (.pair (.int .i64) (.pair (.int .i64) (.pair (.int .i64) (.int .i64)))))))], vars := [], arrs := [] },
    jo := { regs := [(0, .one (.data (.bool)))], vars := [], arrs := [] },
    tw := fun x => product_Valid x }
noncomputable def cx_product_Valid : Cx := { Γ := types, ow := [], fs := [fn_product_numbers, fn_lines_Name], N := 31 }
theorem ok_product_Valid : FunOk Tryd.prog fn_product_Valid :=
  FunOk.intro (C := cx_product_Valid) (p := (.mk [] none .nil (.mk [] none .nil (.mk [] none (.mk [] none .nil (.mk [] none (.mk [] (some ({ regs := [(1, .one (.ptr 32 0)), (3, .one (.ptr 64 0)), (8, .one .keep), (9, .one (.data (.int .i64)))], vars := [(32, 53, [.keep, .keep, .keep, .keep, .keep]), (64, 110, [.keep, .keep, .keep, .keep])], arrs := [] }, [{ e := .x 0, j := { regs := [(1, .one (.ptr 32 0))], vars := [(32, 53, [.keep, .keep, .keep, .keep, .keep])], arrs := [] } }, { e := .r, j := { regs := [(2, .one (.data (.bool)))], vars := [], arrs := [] } }])) (.mk [] none .nil (.mk [] none .nil (.mk [] none (.mk [] none (.mk [] none .nil (.mk [] none (.mk [.join [{ e := .n, j := { regs := [(1, .one (.ptr 32 0)), (3, .one (.ptr 64 0)), (8, .one .keep), (9, .one .keep), (26, .one (.data (.bool)))], vars := [(32, 53, [.keep, .keep, .keep, .keep, .keep]), (64, 110, [.keep, .keep, .keep, .keep])], arrs := [] } }]] none .nil .nil) .nil)) .nil) .nil))) .nil) .nil)) .nil))))
    Tryd.func34 rfl nmr34 rfl rfl rfl rfl types_ok ⟨⟨ok_product_numbers, ok_lines_Name, trivial⟩, trivial⟩ mx (fun x => by kernel_rfl)

noncomputable def product_Find_1 (p : List UInt8 × Int × Int × Int × Int) (v : List UInt8) : Option (Bool) :=
  some (decide (p.1 = v))

noncomputable def fn_product_Find_1 : Fun :=
  { f := 41, np := 2, nr := 1,
    ji := { regs := [(0, .one (.data (.pair (.str) (.pair (.int .i64) (.pair (.int .i64) (.pair (.int .i64) (.int .i64))))))), (1, .one (.sel (.str)))], vars := [], arrs := [] },
    jo := { regs := [(0, .one (.data (.bool)))], vars := [], arrs := [] },
    tw := fun x => product_Find_1 x.1 x.2 }
noncomputable def cx_product_Find_1 : Cx := { Γ := types, ow := [], fs := [], N := 8 }
theorem ok_product_Find_1 : FunOk Tryd.prog fn_product_Find_1 :=
  FunOk.intro (C := cx_product_Find_1) (p := .nil)
    Tryd.func41 rfl nmr41 rfl rfl rfl rfl types_ok ⟨trivial, trivial⟩ mx (fun x => by kernel_rfl)

noncomputable def slices_IndexFunc_api_Product_api_Product_L0 (s : List (List UInt8 × Int × Int × Int × Int)) (f : (List UInt8 × Int × Int × Int × Int) × Unit → Option Bool) (v : Int) : Option (Int ⊕ (Unit ⊕ Int)) :=
  bif decide (v < (s.length : Int)) then (
   gd (inB v s.length) <|
   (f (s.getD v.toNat ([], (0, (0, (0, 0)))), ())).bind fun r =>
   bif r then (
    some (.inr (.inr v)))
   else (
    some (.inl (wi64 (v + 1)))))
  else (
   some (.inr (.inl ())))

noncomputable def slices_IndexFunc_api_Product_api_Product (s : List (List UInt8 × Int × Int × Int × Int)) (f : (List UInt8 × Int × Int × Int × Int) × Unit → Option Bool) : Option (Int) :=
  (iter (fun x => slices_IndexFunc_api_Product_api_Product_L0 s f x) 0).bind fun s2 =>
  s2.elim (fun s3 =>
   some (-1))
  (fun s4 =>
   some s4)

noncomputable def fn_slices_IndexFunc_api_Product_api_Product : Fun :=
  { f := 40, np := 2, nr := 1,
    ji := { regs := [(0, .one (.data (.sl (.pair (.str) (.pair (.int .i64) (.pair (.int .i64) (.pair (.int .i64) (.int .i64)))))))), (1, .one (.fn [.pair (.str) (.pair (.int .i64) (.pair (.int .i64) (.pair (.int .i64) (.int .i64))))] (.bool)))], vars := [], arrs := [] },
    jo := { regs := [(0, .one (.data (.int .i64)))], vars := [], arrs := [] },
    tw := fun x => slices_IndexFunc_api_Product_api_Product x.1 x.2 }
noncomputable def cx_slices_IndexFunc_api_Product_api_Product : Cx := { Γ := types, ow := [], fs := [], N := 19 }
theorem ok_slices_IndexFunc_api_Product_api_Product : FunOk Tryd.prog fn_slices_IndexFunc_api_Product_api_Product :=
  FunOk.intro (C := cx_slices_IndexFunc_api_Product_api_Product) (p := (.mk [] none .nil (.mk [] none (.mk [] none .nil (.mk [] none (.mk [] (some ({ regs := [(0, .one .keep), (1, .one .keep), (7, .one .keep), (8, .one (.data (.int .i64)))], vars := [], arrs := [] }, [{ e := .x 0, j := { regs := [], vars := [], arrs := [] } }, { e := .r, j := { regs := [(4, .one (.data (.int .i64)))], vars := [], arrs := [] } }])) .nil .nil) .nil)) .nil)))
    Tryd.func40 rfl nmr40 rfl rfl rfl rfl types_ok ⟨trivial, trivial⟩ mx (fun x => by kernel_rfl)

noncomputable def product_Find (l : List (List UInt8 × Int × Int × Int × Int)) (name : List UInt8) : Option (Int) :=
  (slices_IndexFunc_api_Product_api_Product l (fun h => (product_Find_1 h.1 name).bind fun y => some y)).bind fun r =>
  some r

noncomputable def fn_product_Find : Fun :=
  { f := 18, np := 2, nr := 1,
    ji := { regs := [(0, .one (.data (.sl (.pair (.str) (.pair (.int .i64) (.pair (.int .i64) (.pair (.int .i64) (.int .i64)))))))), (1, .one (.data (.str)))], vars := [], arrs := [] },
    jo := { regs := [(0, .one (.data (.int .i64)))], vars := [], arrs := [] },
    tw := fun x => product_Find x.1 x.2 }
noncomputable def cx_product_Find : Cx := { Γ := types, ow := [], fs := [fn_slices_IndexFunc_api_Product_api_Product, fn_product_Find_1], N := 8 }
theorem ok_product_Find : FunOk Tryd.prog fn_product_Find :=
  FunOk.intro (C := cx_product_Find) (p := (.mk [] none .nil (.mk [] none (.mk [.fv [(3, .str)]] none .nil .nil) .nil)))
    Tryd.func18 rfl nmr18 rfl rfl rfl rfl types_ok ⟨⟨ok_slices_IndexFunc_api_Product_api_Product, ok_product_Find_1, trivial⟩, trivial⟩ mx (fun x => by kernel_rfl)

noncomputable def product_Check_L0 (l : List (List UInt8 × Int × Int × Int × Int)) (v : Int) : Option (Int ⊕ (Unit ⊕ Int)) :=
  bif decide (v < (l.length : Int)) then (
   gd (inB v l.length) <|
   (product_Valid ((l.getD v.toNat ([], (0, (0, (0, 0))))).1, (((l.getD v.toNat ([], (0, (0, (0, 0))))).2).1, ((((l.getD v.toNat ([], (0, (0, (0, 0))))).2).2).1, (((((l.getD v.toNat ([], (0, (0, (0, 0))))).2).2).2).1, ((((l.getD v.toNat ([], (0, (0, (0, 0))))).2).2).2).2))))).bind fun r =>
   bif !r then (
    some (.inr (.inr 9)))
   else (
    some (.inl (wi64 (v + 1)))))
  else (
   some (.inr (.inl ())))

noncomputable def product_Check_L1 (l : List (List UInt8 × Int × Int × Int × Int)) (v2 : Int) : Option (Int ⊕ (Unit ⊕ Int)) :=
  bif decide (v2 < (l.length : Int)) then (
   gd (inB v2 l.length) <|
   (product_Find l ((l.getD v2.toNat ([], (0, (0, (0, 0))))).1)).bind fun r2 =>
   bif decide (r2 < v2) then (
    some (.inr (.inr 7)))
   else (
    some (.inl (wi64 (v2 + 1)))))
  else (
   some (.inr (.inl ())))

noncomputable def product_Check (l : List (List UInt8 × Int × Int × Int × Int)) : Option (Int) :=
  bif decide (16 < (l.length : Int)) then (
   some 4)
  else (
   (iter (fun x => product_Check_L0 l x) 0).bind fun s =>
   s.elim (fun s2 =>
    (iter (fun x2 => product_Check_L1 l x2) 0).bind fun s4 =>
    s4.elim (fun s5 =>
     some 0)
    (fun s6 =>
     some s6))
   (fun s3 =>
    some s3))

noncomputable def fn_product_Check : Fun :=
  { f := 15, np := 1, nr := 1,
    ji := { regs := [(0, .one (.data (.sl (.pair (.str) (.pair (.int .i64) (.pair (.int .i64) (.pair (.int .i64) (.int .i64))))))))], vars := [], arrs := [] },
    jo := { regs := [(0, .one (.data (.int .i64)))], vars := [], arrs := [] },
    tw := fun x => product_Check x }
noncomputable def cx_product_Check : Cx := { Γ := types, ow := [], fs := [fn_product_Valid, fn_product_Find], N := 34 }
theorem ok_product_Check : FunOk Tryd.prog fn_product_Check :=
  FunOk.intro (C := cx_product_Check) (p := (.mk [] none .nil (.mk [] none .nil (.mk [] none (.mk [] none .nil (.mk [] none (.mk [] (some ({ regs := [(0, .one .keep), (10, .one .keep), (11, .one .keep), (12, .one (.data (.int .i64)))], vars := [], arrs := [] }, [{ e := .x 0, j := { regs := [(0, .one .keep)], vars := [], arrs := [] } }, { e := .r, j := { regs := [(2, .one (.data (.int .i64)))], vars := [], arrs := [] } }])) .nil .nil) .nil)) (.mk [] none (.mk [] none .nil (.mk [] none (.mk [] (some ({ regs := [(0, .one .keep), (20, .one .keep), (21, .one .keep), (22, .one (.data (.int .i64)))], vars := [], arrs := [] }, [{ e := .x 2, j := { regs := [], vars := [], arrs := [] } }, { e := .r, j := { regs := [(2, .one (.data (.int .i64)))], vars := [], arrs := [] } }])) .nil .nil) .nil)) .nil)))))
    Tryd.func15 rfl nmr15 rfl rfl rfl rfl types_ok ⟨⟨ok_product_Valid, ok_product_Find, trivial⟩, trivial⟩ mx (fun x => by kernel_rfl)

noncomputable def slices_IndexFunc_api_Nomination_api_Nomination_L0 (s : List (List UInt8 × List UInt8 × List UInt8 × List UInt8 × Int × Int)) (f : (List UInt8 × List UInt8 × List UInt8 × List UInt8 × Int × Int) × Unit → Option Bool) (v : Int) : Option (Int ⊕ (Unit ⊕ Int)) :=
  bif decide (v < (s.length : Int)) then (
   gd (inB v s.length) <|
   (f (s.getD v.toNat ([], ([], ([], ([], (0, 0))))), ())).bind fun r =>
   bif r then (
    some (.inr (.inr v)))
   else (
    some (.inl (wi64 (v + 1)))))
  else (
   some (.inr (.inl ())))

noncomputable def slices_IndexFunc_api_Nomination_api_Nomination (s : List (List UInt8 × List UInt8 × List UInt8 × List UInt8 × Int × Int)) (f : (List UInt8 × List UInt8 × List UInt8 × List UInt8 × Int × Int) × Unit → Option Bool) : Option (Int) :=
  (iter (fun x => slices_IndexFunc_api_Nomination_api_Nomination_L0 s f x) 0).bind fun s2 =>
  s2.elim (fun s3 =>
   some (-1))
  (fun s4 =>
   some s4)

noncomputable def fn_slices_IndexFunc_api_Nomination_api_Nomination : Fun :=
  { f := 65, np := 2, nr := 1,
    ji := { regs := [(0, .one (.data (.sl (.pair (.str) (.pair (.str) (.pair (.str) (.pair (.str) (.pair (.int .i64) (.int .i64))))))))), (1, .one (.fn [.pair (.str) (.pair (.str) (.pair (.str) (.pair (.str) (.pair (.int .i64) (.int .i64)))))] (.bool)))], vars := [], arrs := [] },
    jo := { regs := [(0, .one (.data (.int .i64)))], vars := [], arrs := [] },
    tw := fun x => slices_IndexFunc_api_Nomination_api_Nomination x.1 x.2 }
noncomputable def cx_slices_IndexFunc_api_Nomination_api_Nomination : Cx := { Γ := types, ow := [], fs := [], N := 19 }
theorem ok_slices_IndexFunc_api_Nomination_api_Nomination : FunOk Tryd.prog fn_slices_IndexFunc_api_Nomination_api_Nomination :=
  FunOk.intro (C := cx_slices_IndexFunc_api_Nomination_api_Nomination) (p := (.mk [] none .nil (.mk [] none (.mk [] none .nil (.mk [] none (.mk [] (some ({ regs := [(0, .one .keep), (1, .one .keep), (7, .one .keep), (8, .one (.data (.int .i64)))], vars := [], arrs := [] }, [{ e := .x 0, j := { regs := [], vars := [], arrs := [] } }, { e := .r, j := { regs := [(4, .one (.data (.int .i64)))], vars := [], arrs := [] } }])) .nil .nil) .nil)) .nil)))
    Tryd.func65 rfl nmr65 rfl rfl rfl rfl types_ok ⟨trivial, trivial⟩ mx (fun x => by kernel_rfl)

noncomputable def slices_ContainsFunc_api_Nomination_api_Nomination (s : List (List UInt8 × List UInt8 × List UInt8 × List UInt8 × Int × Int)) (f : (List UInt8 × List UInt8 × List UInt8 × List UInt8 × Int × Int) × Unit → Option Bool) : Option (Bool) :=
  (slices_IndexFunc_api_Nomination_api_Nomination s f).bind fun r =>
  some (decide (0 ≤ r))

noncomputable def fn_slices_ContainsFunc_api_Nomination_api_Nomination : Fun :=
  { f := 35, np := 2, nr := 1,
    ji := { regs := [(0, .one (.data (.sl (.pair (.str) (.pair (.str) (.pair (.str) (.pair (.str) (.pair (.int .i64) (.int .i64))))))))), (1, .one (.fn [.pair (.str) (.pair (.str) (.pair (.str) (.pair (.str) (.pair (.int .i64) (.int .i64)))))] (.bool)))], vars := [], arrs := [] },
    jo := { regs := [(0, .one (.data (.bool)))], vars := [], arrs := [] },
    tw := fun x => slices_ContainsFunc_api_Nomination_api_Nomination x.1 x.2 }
noncomputable def cx_slices_ContainsFunc_api_Nomination_api_Nomination : Cx := { Γ := types, ow := [], fs := [fn_slices_IndexFunc_api_Nomination_api_Nomination], N := 9 }
theorem ok_slices_ContainsFunc_api_Nomination_api_Nomination : FunOk Tryd.prog fn_slices_ContainsFunc_api_Nomination_api_Nomination :=
  FunOk.intro (C := cx_slices_ContainsFunc_api_Nomination_api_Nomination) (p := .nil)
    Tryd.func35 rfl nmr35 rfl rfl rfl rfl types_ok ⟨⟨ok_slices_IndexFunc_api_Nomination_api_Nomination, trivial⟩, trivial⟩ mx (fun x => by kernel_rfl)

noncomputable def nomination_valid_L0 (n : List UInt8 × List UInt8 × List UInt8 × List UInt8 × Int × Int) (v : Int) : Option (Int ⊕ (Unit ⊕ Bool)) :=
  bif decide (v < ([n.1, n.2.1, n.2.2.1, n.2.2.2.1].length : Int)) then (
   gd (inB v [n.1, n.2.1, n.2.2.1, n.2.2.2.1].length) <|
   (lines_Name ([n.1, n.2.1, n.2.2.1, n.2.2.2.1].getD v.toNat [])).bind fun r =>
   bif !r then (
    some (.inr (.inr false)))
   else (
    some (.inl (wi64 (v + 1)))))
  else (
   some (.inr (.inl ())))

noncomputable def nomination_valid (n : List UInt8 × List UInt8 × List UInt8 × List UInt8 × Int × Int) : Option (Bool) :=
  (iter (fun x => nomination_valid_L0 n x) 0).bind fun s =>
  s.elim (fun s2 =>
   bif !decide (n.2.2.1 = n.2.2.2.1) then (
    bif decide (0 ≤ n.2.2.2.2.1) then (
     bif decide (n.2.2.2.2.1 ≤ 1000000) then (
      bif decide (1 ≤ n.2.2.2.2.2) then (
       some (decide (n.2.2.2.2.2 ≤ 1099511627776)))
      else (
       some false))
     else (
      some false))
    else (
     some false))
   else (
    some false))
  (fun s3 =>
   some s3)

noncomputable def fn_nomination_valid : Fun :=
  { f := 37, np := 1, nr := 1,
    ji := { regs := [(0, .one (.data (.pair (.str) (.pair (.str) (.pair (.str) (.pair (.str) (.pair (.int .i64) (.int .i64))))))))], vars := [], arrs := [] },
    jo := { regs := [(0, .one (.data (.bool)))], vars := [], arrs := [] },
    tw := fun x => nomination_valid x }
noncomputable def cx_nomination_valid : Cx := { Γ := types, ow := [], fs := [fn_lines_Name], N := 48 }
theorem ok_nomination_valid : FunOk Tryd.prog fn_nomination_valid :=
  FunOk.intro (C := cx_nomination_valid) (p := (.mk [] none .nil (.mk [] none (.mk [] none .nil (.mk [] none (.mk [] (some ({ regs := [(1, .one (.ptr 32 0)), (13, .one .keep), (14, .one .keep), (15, .one (.data (.int .i64)))], vars := [(32, 48, [.keep, .keep, .keep, .keep, .keep, .keep])], arrs := [] }, [{ e := .x 0, j := { regs := [(1, .one (.ptr 32 0))], vars := [(32, 48, [.keep, .keep, .keep, .keep, .keep, .keep])], arrs := [] } }, { e := .r, j := { regs := [(2, .one (.data (.bool)))], vars := [], arrs := [] } }])) .nil .nil) .nil)) .nil)))
    Tryd.func37 rfl nmr37 rfl rfl rfl rfl types_ok ⟨⟨ok_lines_Name, trivial⟩, trivial⟩ mx (fun x => by kernel_rfl)

noncomputable def nomination_Check_1 (n : List UInt8 × List UInt8 × List UInt8 × List UInt8 × Int × Int) : Option (Bool) :=
  (nomination_valid (n.1, (n.2.1, (n.2.2.1, (n.2.2.2.1, (n.2.2.2.2.1, n.2.2.2.2.2)))))).bind fun r =>
  some (!r)

noncomputable def fn_nomination_Check_1 : Fun :=
  { f := 36, np := 1, nr := 1,
    ji := { regs := [(0, .one (.data (.pair (.str) (.pair (.str) (.pair (.str) (.pair (.str) (.pair (.int .i64) (.int .i64))))))))], vars := [], arrs := [] },
    jo := { regs := [(0, .one (.data (.bool)))], vars := [], arrs := [] },
    tw := fun x => nomination_Check_1 x }
noncomputable def cx_nomination_Check_1 : Cx := { Γ := types, ow := [], fs := [fn_nomination_valid], N := 6 }
theorem ok_nomination_Check_1 : FunOk Tryd.prog fn_nomination_Check_1 :=
  FunOk.intro (C := cx_nomination_Check_1) (p := .nil)
    Tryd.func36 rfl nmr36 rfl rfl rfl rfl types_ok ⟨⟨ok_nomination_valid, trivial⟩, trivial⟩ mx (fun x => by kernel_rfl)

noncomputable def nomination_Check (l : List (List UInt8 × List UInt8 × List UInt8 × List UInt8 × Int × Int)) : Option (Int) :=
  bif decide (400 < (l.length : Int)) then (
   some 4)
  else (
   (slices_ContainsFunc_api_Nomination_api_Nomination l (fun h => (nomination_Check_1 h.1).bind fun y => some y)).bind fun r =>
   bif r then (
    some 9)
   else (
    some 0))

noncomputable def fn_nomination_Check : Fun :=
  { f := 16, np := 1, nr := 1,
    ji := { regs := [(0, .one (.data (.sl (.pair (.str) (.pair (.str) (.pair (.str) (.pair (.str) (.pair (.int .i64) (.int .i64)))))))))], vars := [], arrs := [] },
    jo := { regs := [(0, .one (.data (.int .i64)))], vars := [], arrs := [] },
    tw := fun x => nomination_Check x }
noncomputable def cx_nomination_Check : Cx := { Γ := types, ow := [], fs := [fn_slices_ContainsFunc_api_Nomination_api_Nomination, fn_nomination_Check_1], N := 8 }
theorem ok_nomination_Check : FunOk Tryd.prog fn_nomination_Check :=
  FunOk.intro (C := cx_nomination_Check) (p := .nil)
    Tryd.func16 rfl nmr16 rfl rfl rfl rfl types_ok ⟨⟨ok_slices_ContainsFunc_api_Nomination_api_Nomination, ok_nomination_Check_1, trivial⟩, trivial⟩ mx (fun x => by kernel_rfl)

noncomputable def math_bits_Len32 (x : Int) : Option (Int) :=
  Option.bind (α := Int × Int) (
    bif decide (65536 ≤ x) then (
     some (Int.fdiv x (2 ^ shAmt .u32 16), 16))
    else (
     some (x, 0))) fun s =>
  Option.bind (α := Int × Int) (
    bif decide (256 ≤ s.1) then (
     some (Int.fdiv s.1 (2 ^ shAmt .u32 8), wi64 (s.2 + 8)))
    else (
     some (s.1, s.2))) fun s2 =>
  gd (inB (wu8 s2.1) str_0.length) <|
  some (wi64 (s2.2 + (wi64 (Int.ofNat (str_0.getD (wu8 s2.1).toNat 0).toNat))))

noncomputable def fn_math_bits_Len32 : Fun :=
  { f := 75, np := 1, nr := 1,
    ji := { regs := [(0, .one (.data (.int .u32)))], vars := [], arrs := [] },
    jo := { regs := [(0, .one (.data (.int .i64)))], vars := [], arrs := [] },
    tw := fun x => math_bits_Len32 x }
noncomputable def cx_math_bits_Len32 : Cx := { Γ := types, ow := [], fs := [], N := 19 }
set_option maxRecDepth 100000 in
theorem ok_math_bits_Len32 : FunOk Tryd.prog fn_math_bits_Len32 :=
  FunOk.intro (C := cx_math_bits_Len32) (p := (.mk [] none .nil (.mk [] none (.mk [] none .nil (.mk [.join [{ e := .n, j := { regs := [(0, .one (.data (.int .u32))), (2, .one (.data (.int .i64)))], vars := [], arrs := [] } }]] none .nil .nil)) (.mk [] none (.mk [] none .nil (.mk [.join [{ e := .n, j := { regs := [(0, .one (.data (.int .u32))), (2, .one (.data (.int .i64)))], vars := [], arrs := [] } }]] none .nil .nil)) .nil))))
    Tryd.func75 rfl nmr75 rfl rfl rfl rfl types_ok ⟨trivial, trivial⟩ mx (fun x => by kernel_rfl)

noncomputable def math_bits_Len64 (x : Int) : Option (Int) :=
  Option.bind (α := Int × Int) (
    bif decide (4294967296 ≤ x) then (
     some (Int.fdiv x (2 ^ shAmt .u64 32), 32))
    else (
     some (x, 0))) fun s =>
  Option.bind (α := Int × Int) (
    bif decide (65536 ≤ s.1) then (
     some (Int.fdiv s.1 (2 ^ shAmt .u64 16), wi64 (s.2 + 16)))
    else (
     some (s.1, s.2))) fun s2 =>
  Option.bind (α := Int × Int) (
    bif decide (256 ≤ s2.1) then (
     some (Int.fdiv s2.1 (2 ^ shAmt .u64 8), wi64 (s2.2 + 8)))
    else (
     some (s2.1, s2.2))) fun s3 =>
  gd (inB (wu8 s3.1) str_0.length) <|
  some (wi64 (s3.2 + (wi64 (Int.ofNat (str_0.getD (wu8 s3.1).toNat 0).toNat))))

noncomputable def fn_math_bits_Len64 : Fun :=
  { f := 76, np := 1, nr := 1,
    ji := { regs := [(0, .one (.data (.int .u64)))], vars := [], arrs := [] },
    jo := { regs := [(0, .one (.data (.int .i64)))], vars := [], arrs := [] },
    tw := fun x => math_bits_Len64 x }
noncomputable def cx_math_bits_Len64 : Cx := { Γ := types, ow := [], fs := [], N := 25 }
set_option maxRecDepth 100000 in
theorem ok_math_bits_Len64 : FunOk Tryd.prog fn_math_bits_Len64 :=
  FunOk.intro (C := cx_math_bits_Len64) (p := (.mk [] none .nil (.mk [] none (.mk [] none .nil (.mk [.join [{ e := .n, j := { regs := [(0, .one (.data (.int .u64))), (2, .one (.data (.int .i64)))], vars := [], arrs := [] } }]] none .nil .nil)) (.mk [] none (.mk [] none .nil (.mk [.join [{ e := .n, j := { regs := [(0, .one (.data (.int .u64))), (2, .one (.data (.int .i64)))], vars := [], arrs := [] } }]] none .nil .nil)) (.mk [] none (.mk [] none .nil (.mk [.join [{ e := .n, j := { regs := [(0, .one (.data (.int .u64))), (2, .one (.data (.int .i64)))], vars := [], arrs := [] } }]] none .nil .nil)) .nil)))))
    Tryd.func76 rfl nmr76 rfl rfl rfl rfl types_ok ⟨trivial, trivial⟩ mx (fun x => by kernel_rfl)

noncomputable def math_bits_Len (x : Int) : Option (Int) :=
  (math_bits_Len64 x).bind fun r =>
  some r

noncomputable def fn_math_bits_Len : Fun :=
  { f := 46, np := 1, nr := 1,
    ji := { regs := [(0, .one (.data (.int .u64)))], vars := [], arrs := [] },
    jo := { regs := [(0, .one (.data (.int .i64)))], vars := [], arrs := [] },
    tw := fun x => math_bits_Len x }
noncomputable def cx_math_bits_Len : Cx := { Γ := types, ow := [], fs := [fn_math_bits_Len64], N := 8 }
theorem ok_math_bits_Len : FunOk Tryd.prog fn_math_bits_Len :=
  FunOk.intro (C := cx_math_bits_Len) (p := .nil)
    Tryd.func46 rfl nmr46 rfl rfl rfl rfl types_ok ⟨⟨ok_math_bits_Len64, trivial⟩, trivial⟩ mx (fun x => by kernel_rfl)

noncomputable def slices_insertionSortCmpFunc_api_Nomination_L1 (a : Int) (cmp : (List UInt8 × List UInt8 × List UInt8 × List UInt8 × Int × Int) × (List UInt8 × List UInt8 × List UInt8 × List UInt8 × Int × Int) × Unit → Option Int) (j : Int) (data3 : List (List UInt8 × List UInt8 × List UInt8 × List UInt8 × Int × Int)) : Option ((Int × List (List UInt8 × List UInt8 × List UInt8 × List UInt8 × Int × Int)) ⊕ (List (List UInt8 × List UInt8 × List UInt8 × List UInt8 × Int × Int))) :=
  Option.bind (α := Bool × List (List UInt8 × List UInt8 × List UInt8 × List UInt8 × Int × Int)) (
    bif decide (a < j) then (
     gd (inB j data3.length) <|
     gd (inB (wi64 (j - 1)) data3.length) <|
     (cmp (data3.getD j.toNat ([], ([], ([], ([], (0, 0))))), data3.getD ((wi64 (j - 1)).toNat) ([], ([], ([], ([], (0, 0))))), ())).bind fun r =>
     some (decide (r < 0), data3))
    else (
     some (false, data3))) fun s =>
  bif s.1 then (
   gd (inB (wi64 (j - 1)) s.2.length) <|
   gd (inB j s.2.length) <|
   gd (inB j s.2.length) <|
   gd (inB (wi64 (j - 1)) (s.2.set j.toNat (s.2.getD ((wi64 (j - 1)).toNat) ([], ([], ([], ([], (0, 0))))))).length) <|
   some (.inl (wi64 (j - 1), (s.2.set j.toNat (s.2.getD ((wi64 (j - 1)).toNat) ([], ([], ([], ([], (0, 0))))))).set ((wi64 (j - 1)).toNat) (s.2.getD j.toNat ([], ([], ([], ([], (0, 0)))))))))
  else (
   some (.inr s.2))

noncomputable def slices_insertionSortCmpFunc_api_Nomination_L0 (a : Int) (b : Int) (cmp : (List UInt8 × List UInt8 × List UInt8 × List UInt8 × Int × Int) × (List UInt8 × List UInt8 × List UInt8 × List UInt8 × Int × Int) × Unit → Option Int) (i : Int) (data2 : List (List UInt8 × List UInt8 × List UInt8 × List UInt8 × Int × Int)) : Option ((Int × List (List UInt8 × List UInt8 × List UInt8 × List UInt8 × Int × Int)) ⊕ (List (List UInt8 × List UInt8 × List UInt8 × List UInt8 × Int × Int))) :=
  bif decide (i < b) then (
   (iter (fun x => slices_insertionSortCmpFunc_api_Nomination_L1 a cmp x.1 x.2) (i, data2)).bind fun s2 =>
   some (.inl (wi64 (i + 1), s2)))
  else (
   some (.inr data2))

noncomputable def slices_insertionSortCmpFunc_api_Nomination (a : Int) (b : Int) (cmp : (List UInt8 × List UInt8 × List UInt8 × List UInt8 × Int × Int) × (List UInt8 × List UInt8 × List UInt8 × List UInt8 × Int × Int) × Unit → Option Int) (data : List (List UInt8 × List UInt8 × List UInt8 × List UInt8 × Int × Int)) : Option (List (List UInt8 × List UInt8 × List UInt8 × List UInt8 × Int × Int)) :=
  (iter (fun x2 => slices_insertionSortCmpFunc_api_Nomination_L0 a b cmp x2.1 x2.2) (wi64 (a + 1), data)).bind fun s3 =>
  some s3

noncomputable def fn_slices_insertionSortCmpFunc_api_Nomination : Fun :=
  { f := 79, np := 4, nr := 0,
    ji := { regs := [(0, .one (.own 0)), (1, .one (.data (.int .i64))), (2, .one (.data (.int .i64))), (3, .one (.fn [.pair (.str) (.pair (.str) (.pair (.str) (.pair (.str) (.pair (.int .i64) (.int .i64))))), .pair (.str) (.pair (.str) (.pair (.str) (.pair (.str) (.pair (.int .i64) (.int .i64)))))] (.int .i64)))], vars := [], arrs := [(0, .arr 48 (.pair (.str) (.pair (.str) (.pair (.str) (.pair (.str) (.pair (.int .i64) (.int .i64)))))))] },
    jo := { regs := [], vars := [], arrs := [(0, .arr 48 (.pair (.str) (.pair (.str) (.pair (.str) (.pair (.str) (.pair (.int .i64) (.int .i64)))))))] },
    tw := fun x => slices_insertionSortCmpFunc_api_Nomination x.1 x.2.1 x.2.2.1 x.2.2.2 }
noncomputable def cx_slices_insertionSortCmpFunc_api_Nomination : Cx := { Γ := types, ow := [], fs := [], N := 53 }
theorem ok_slices_insertionSortCmpFunc_api_Nomination : FunOk Tryd.prog fn_slices_insertionSortCmpFunc_api_Nomination :=
  FunOk.intro (C := cx_slices_insertionSortCmpFunc_api_Nomination) (p := (.mk [] none .nil (.mk [] none (.mk [] (some ({ regs := [(0, .one (.own 0)), (1, .one .keep), (2, .one .keep), (3, .one .keep), (8, .one (.data (.int .i64)))], vars := [], arrs := [(0, .arr 48 (.pair (.str) (.pair (.str) (.pair (.str) (.pair (.str) (.pair (.int .i64) (.int .i64)))))))] }, [{ e := .x 0, j := { regs := [], vars := [], arrs := [(0, .arr 48 (.pair (.str) (.pair (.str) (.pair (.str) (.pair (.str) (.pair (.int .i64) (.int .i64)))))))] } }])) (.mk [] none .nil (.mk [] none (.mk [] none (.mk [] none .nil (.mk [] none (.mk [] (some ({ regs := [(0, .one (.own 0)), (1, .one .keep), (2, .one .keep), (3, .one .keep), (8, .one .keep), (9, .one (.data (.int .i64)))], vars := [], arrs := [(0, .arr 48 (.pair (.str) (.pair (.str) (.pair (.str) (.pair (.str) (.pair (.int .i64) (.int .i64)))))))] }, [{ e := .x 2, j := { regs := [(0, .one (.own 0)), (1, .one .keep), (2, .one .keep), (3, .one .keep), (8, .one .keep)], vars := [], arrs := [(0, .arr 48 (.pair (.str) (.pair (.str) (.pair (.str) (.pair (.str) (.pair (.int .i64) (.int .i64)))))))] } }])) (.mk [] none (.mk [] none (.mk [.join [{ e := .n, j := { regs := [(0, .one (.own 0)), (1, .one .keep), (2, .one .keep), (3, .one .keep), (8, .one .keep), (9, .one .keep), (34, .one (.data (.bool)))], vars := [], arrs := [(0, .arr 48 (.pair (.str) (.pair (.str) (.pair (.str) (.pair (.str) (.pair (.int .i64) (.int .i64)))))))] } }]] none .nil .nil) .nil) .nil) .nil) .nil)) .nil) .nil)) .nil) .nil)))
    Tryd.func79 rfl nmr79 rfl rfl rfl rfl types_ok ⟨trivial, trivial⟩ mx (fun x => by kernel_rfl)

noncomputable def slices_siftDownCmpFunc_api_Nomination_L0 (hi : Int) (first : Int) (cmp : (List UInt8 × List UInt8 × List UInt8 × List UInt8 × Int × Int) × (List UInt8 × List UInt8 × List UInt8 × List UInt8 × Int × Int) × Unit → Option Int) (root : Int) (data2 : List (List UInt8 × List UInt8 × List UInt8 × List UInt8 × Int × Int)) : Option ((Int × List (List UInt8 × List UInt8 × List UInt8 × List UInt8 × Int × Int)) ⊕ ((List (List UInt8 × List UInt8 × List UInt8 × List UInt8 × Int × Int)) ⊕ (List (List UInt8 × List UInt8 × List UInt8 × List UInt8 × Int × Int)))) :=
  bif decide (hi ≤ wi64 ((wi64 (2 * root)) + 1)) then (
   some (.inr (.inl data2)))
  else (
   Option.bind (α := Bool × List (List UInt8 × List UInt8 × List UInt8 × List UInt8 × Int × Int)) (
     bif decide (wi64 ((wi64 ((wi64 (2 * root)) + 1)) + 1) < hi) then (
      gd (inB (wi64 (first + (wi64 ((wi64 (2 * root)) + 1)))) data2.length) <|
      gd (inB (wi64 ((wi64 (first + (wi64 ((wi64 (2 * root)) + 1)))) + 1)) data2.length) <|
      (cmp (data2.getD ((wi64 (first + (wi64 ((wi64 (2 * root)) + 1)))).toNat) ([], ([], ([], ([], (0, 0))))), data2.getD ((wi64 ((wi64 (first + (wi64 ((wi64 (2 * root)) + 1)))) + 1)).toNat) ([], ([], ([], ([], (0, 0))))), ())).bind fun r =>
      some (decide (r < 0), data2))
     else (
      some (false, data2))) fun s =>
   Option.bind (α := Int × List (List UInt8 × List UInt8 × List UInt8 × List UInt8 × Int × Int)) (
     bif s.1 then (
      some (wi64 ((wi64 ((wi64 (2 * root)) + 1)) + 1), s.2))
     else (
      some (wi64 ((wi64 (2 * root)) + 1), s.2))) fun s2 =>
   gd (inB (wi64 (first + root)) s2.2.length) <|
   gd (inB (wi64 (first + s2.1)) s2.2.length) <|
   (cmp (s2.2.getD ((wi64 (first + root)).toNat) ([], ([], ([], ([], (0, 0))))), s2.2.getD ((wi64 (first + s2.1)).toNat) ([], ([], ([], ([], (0, 0))))), ())).bind fun r2 =>
   bif !(decide (r2 < 0)) then (
    some (.inr (.inr s2.2)))
   else (
    gd (inB (wi64 (first + s2.1)) s2.2.length) <|
    gd (inB (wi64 (first + root)) s2.2.length) <|
    gd (inB (wi64 (first + root)) s2.2.length) <|
    gd (inB (wi64 (first + s2.1)) (s2.2.set ((wi64 (first + root)).toNat) (s2.2.getD ((wi64 (first + s2.1)).toNat) ([], ([], ([], ([], (0, 0))))))).length) <|
    some (.inl (s2.1, (s2.2.set ((wi64 (first + root)).toNat) (s2.2.getD ((wi64 (first + s2.1)).toNat) ([], ([], ([], ([], (0, 0))))))).set ((wi64 (first + s2.1)).toNat) (s2.2.getD ((wi64 (first + root)).toNat) ([], ([], ([], ([], (0, 0))))))))))

noncomputable def slices_siftDownCmpFunc_api_Nomination (lo : Int) (hi : Int) (first : Int) (cmp : (List UInt8 × List UInt8 × List UInt8 × List UInt8 × Int × Int) × (List UInt8 × List UInt8 × List UInt8 × List UInt8 × Int × Int) × Unit → Option Int) (data : List (List UInt8 × List UInt8 × List UInt8 × List UInt8 × Int × Int)) : Option (List (List UInt8 × List UInt8 × List UInt8 × List UInt8 × Int × Int)) :=
  (iter (fun x => slices_siftDownCmpFunc_api_Nomination_L0 hi first cmp x.1 x.2) (lo, data)).bind fun s3 =>
  s3.elim (fun s4 =>
   some s4)
  (fun s5 =>
   some s5)

noncomputable def fn_slices_siftDownCmpFunc_api_Nomination : Fun :=
  { f := 92, np := 5, nr := 0,
    ji := { regs := [(0, .one (.own 0)), (1, .one (.data (.int .i64))), (2, .one (.data (.int .i64))), (3, .one (.data (.int .i64))), (4, .one (.fn [.pair (.str) (.pair (.str) (.pair (.str) (.pair (.str) (.pair (.int .i64) (.int .i64))))), .pair (.str) (.pair (.str) (.pair (.str) (.pair (.str) (.pair (.int .i64) (.int .i64)))))] (.int .i64)))], vars := [], arrs := [(0, .arr 48 (.pair (.str) (.pair (.str) (.pair (.str) (.pair (.str) (.pair (.int .i64) (.int .i64)))))))] },
    jo := { regs := [], vars := [], arrs := [(0, .arr 48 (.pair (.str) (.pair (.str) (.pair (.str) (.pair (.str) (.pair (.int .i64) (.int .i64)))))))] },
    tw := fun x => slices_siftDownCmpFunc_api_Nomination x.1 x.2.1 x.2.2.1 x.2.2.2.1 x.2.2.2.2 }
noncomputable def cx_slices_siftDownCmpFunc_api_Nomination : Cx := { Γ := types, ow := [], fs := [], N := 82 }
theorem ok_slices_siftDownCmpFunc_api_Nomination : FunOk Tryd.prog fn_slices_siftDownCmpFunc_api_Nomination :=
  FunOk.intro (C := cx_slices_siftDownCmpFunc_api_Nomination) (p := (.mk [] none .nil (.mk [] none (.mk [] (some ({ regs := [(0, .one (.own 0)), (2, .one .keep), (3, .one .keep), (4, .one .keep), (10, .one (.data (.int .i64)))], vars := [], arrs := [(0, .arr 48 (.pair (.str) (.pair (.str) (.pair (.str) (.pair (.str) (.pair (.int .i64) (.int .i64)))))))] }, [{ e := .x 0, j := { regs := [], vars := [], arrs := [(0, .arr 48 (.pair (.str) (.pair (.str) (.pair (.str) (.pair (.str) (.pair (.int .i64) (.int .i64)))))))] } }, { e := .r, j := { regs := [], vars := [], arrs := [(0, .arr 48 (.pair (.str) (.pair (.str) (.pair (.str) (.pair (.str) (.pair (.int .i64) (.int .i64)))))))] } }])) (.mk [] none (.mk [] none .nil (.mk [] none .nil (.mk [] none (.mk [] none (.mk [.join [{ e := .n, j := { regs := [(0, .one (.own 0)), (2, .one .keep), (3, .one .keep), (4, .one .keep), (10, .one .keep), (11, .one .keep), (40, .one (.data (.bool)))], vars := [], arrs := [(0, .arr 48 (.pair (.str) (.pair (.str) (.pair (.str) (.pair (.str) (.pair (.int .i64) (.int .i64)))))))] } }]] none .nil .nil) (.mk [.join [{ e := .n, j := { regs := [(0, .one (.own 0)), (2, .one .keep), (3, .one .keep), (4, .one .keep), (10, .one .keep), (11, .one (.data (.int .i64)))], vars := [], arrs := [(0, .arr 48 (.pair (.str) (.pair (.str) (.pair (.str) (.pair (.str) (.pair (.int .i64) (.int .i64)))))))] } }]] none .nil .nil)) .nil))) .nil) .nil) .nil)))
    Tryd.func92 rfl nmr92 rfl rfl rfl rfl types_ok ⟨trivial, trivial⟩ mx (fun x => by kernel_rfl)

noncomputable def slices_heapSortCmpFunc_api_Nomination_L0 (a : Int) (b : Int) (cmp : (List UInt8 × List UInt8 × List UInt8 × List UInt8 × Int × Int) × (List UInt8 × List UInt8 × List UInt8 × List UInt8 × Int × Int) × Unit → Option Int) (i : Int) (data2 : List (List UInt8 × List UInt8 × List UInt8 × List UInt8 × Int × Int)) : Option ((Int × List (List UInt8 × List UInt8 × List UInt8 × List UInt8 × Int × Int)) ⊕ (List (List UInt8 × List UInt8 × List UInt8 × List UInt8 × Int × Int))) :=
  bif decide (0 ≤ i) then (
   (slices_siftDownCmpFunc_api_Nomination i (wi64 (b - a)) a cmp data2).bind fun r =>
   some (.inl (wi64 (i - 1), r)))
  else (
   some (.inr data2))

noncomputable def slices_heapSortCmpFunc_api_Nomination_L1 (a : Int) (cmp : (List UInt8 × List UInt8 × List UInt8 × List UInt8 × Int × Int) × (List UInt8 × List UInt8 × List UInt8 × List UInt8 × Int × Int) × Unit → Option Int) (i2 : Int) (data3 : List (List UInt8 × List UInt8 × List UInt8 × List UInt8 × Int × Int)) : Option ((Int × List (List UInt8 × List UInt8 × List UInt8 × List UInt8 × Int × Int)) ⊕ (List (List UInt8 × List UInt8 × List UInt8 × List UInt8 × Int × Int))) :=
  bif decide (0 ≤ i2) then (
   gd (inB (wi64 (a + i2)) data3.length) <|
   gd (inB a data3.length) <|
   gd (inB a data3.length) <|
   gd (inB (wi64 (a + i2)) (data3.set a.toNat (data3.getD ((wi64 (a + i2)).toNat) ([], ([], ([], ([], (0, 0))))))).length) <|
   (slices_siftDownCmpFunc_api_Nomination 0 i2 a cmp ((data3.set a.toNat (data3.getD ((wi64 (a + i2)).toNat) ([], ([], ([], ([], (0, 0))))))).set ((wi64 (a + i2)).toNat) (data3.getD a.toNat ([], ([], ([], ([], (0, 0)))))))).bind fun r2 =>
   some (.inl (wi64 (i2 - 1), r2)))
  else (
   some (.inr data3))

noncomputable def slices_heapSortCmpFunc_api_Nomination (a : Int) (b : Int) (cmp : (List UInt8 × List UInt8 × List UInt8 × List UInt8 × Int × Int) × (List UInt8 × List UInt8 × List UInt8 × List UInt8 × Int × Int) × Unit → Option Int) (data : List (List UInt8 × List UInt8 × List UInt8 × List UInt8 × Int × Int)) : Option (List (List UInt8 × List UInt8 × List UInt8 × List UInt8 × Int × Int)) :=
  (iter (fun x => slices_heapSortCmpFunc_api_Nomination_L0 a b cmp x.1 x.2) (wi64 (Int.tdiv (wi64 ((wi64 (b - a)) - 1)) 2), data)).bind fun s =>
  (iter (fun x2 => slices_heapSortCmpFunc_api_Nomination_L1 a cmp x2.1 x2.2) (wi64 ((wi64 (b - a)) - 1), s)).bind fun s2 =>
  some s2

noncomputable def fn_slices_heapSortCmpFunc_api_Nomination : Fun :=
  { f := 80, np := 4, nr := 0,
    ji := { regs := [(0, .one (.own 0)), (1, .one (.data (.int .i64))), (2, .one (.data (.int .i64))), (3, .one (.fn [.pair (.str) (.pair (.str) (.pair (.str) (.pair (.str) (.pair (.int .i64) (.int .i64))))), .pair (.str) (.pair (.str) (.pair (.str) (.pair (.str) (.pair (.int .i64) (.int .i64)))))] (.int .i64)))], vars := [], arrs := [(0, .arr 48 (.pair (.str) (.pair (.str) (.pair (.str) (.pair (.str) (.pair (.int .i64) (.int .i64)))))))] },
    jo := { regs := [], vars := [], arrs := [(0, .arr 48 (.pair (.str) (.pair (.str) (.pair (.str) (.pair (.str) (.pair (.int .i64) (.int .i64)))))))] },
    tw := fun x => slices_heapSortCmpFunc_api_Nomination x.1 x.2.1 x.2.2.1 x.2.2.2 }
noncomputable def cx_slices_heapSortCmpFunc_api_Nomination : Cx := { Γ := types, ow := [], fs := [fn_slices_siftDownCmpFunc_api_Nomination], N := 60 }
theorem ok_slices_heapSortCmpFunc_api_Nomination : FunOk Tryd.prog fn_slices_heapSortCmpFunc_api_Nomination :=
  FunOk.intro (C := cx_slices_heapSortCmpFunc_api_Nomination) (p := (.mk [] none .nil (.mk [] none .nil (.mk [] none .nil (.mk [] none (.mk [] none .nil (.mk [] none (.mk [] (some ({ regs := [(0, .one (.own 0)), (3, .one .keep), (8, .one .keep), (9, .one .keep), (10, .one .keep), (11, .one (.data (.int .i64)))], vars := [], arrs := [(0, .arr 48 (.pair (.str) (.pair (.str) (.pair (.str) (.pair (.str) (.pair (.int .i64) (.int .i64)))))))] }, [{ e := .x 0, j := { regs := [(0, .one (.own 0)), (3, .one .keep), (8, .one .keep), (9, .one .keep), (10, .one .keep)], vars := [], arrs := [(0, .arr 48 (.pair (.str) (.pair (.str) (.pair (.str) (.pair (.str) (.pair (.int .i64) (.int .i64)))))))] } }])) .nil .nil) .nil)) (.mk [] none .nil (.mk [] none (.mk [] (some ({ regs := [(0, .one (.own 0)), (3, .one .keep), (8, .one .keep), (9, .one .keep), (12, .one (.data (.int .i64)))], vars := [], arrs := [(0, .arr 48 (.pair (.str) (.pair (.str) (.pair (.str) (.pair (.str) (.pair (.int .i64) (.int .i64)))))))] }, [{ e := .x 2, j := { regs := [], vars := [], arrs := [(0, .arr 48 (.pair (.str) (.pair (.str) (.pair (.str) (.pair (.str) (.pair (.int .i64) (.int .i64)))))))] } }])) .nil .nil) .nil)))))))
    Tryd.func80 rfl nmr80 rfl rfl rfl rfl types_ok ⟨⟨ok_slices_siftDownCmpFunc_api_Nomination, trivial⟩, trivial⟩ mx (fun x => by kernel_rfl)

noncomputable def slices_nextPowerOfTwo (length : Int) : Option (Int) :=
  (math_bits_Len (wu64 length)).bind fun r =>
  gd (!decide (r < 0)) <|
  some (wu64 (1 * 2 ^ shAmt .u64 r))

noncomputable def fn_slices_nextPowerOfTwo : Fun :=
  { f := 88, np := 1, nr := 1,
    ji := { regs := [(0, .one (.data (.int .i64)))], vars := [], arrs := [] },
    jo := { regs := [(0, .one (.data (.int .u64)))], vars := [], arrs := [] },
    tw := fun x => slices_nextPowerOfTwo x }
noncomputable def cx_slices_nextPowerOfTwo : Cx := { Γ := types, ow := [], fs := [fn_math_bits_Len], N := 7 }
theorem ok_slices_nextPowerOfTwo : FunOk Tryd.prog fn_slices_nextPowerOfTwo :=
  FunOk.intro (C := cx_slices_nextPowerOfTwo) (p := .nil)
    Tryd.func88 rfl nmr88 rfl rfl rfl rfl types_ok ⟨⟨ok_math_bits_Len, trivial⟩, trivial⟩ mx (fun x => by kernel_rfl)

noncomputable def slices_xorshift_Next (r : Int) : Option (Int × Int) :=
  some (bitXor .u64 (bitXor .u64 (bitXor .u64 r (wu64 (r * 2 ^ shAmt .u64 13))) (Int.fdiv (bitXor .u64 r (wu64 (r * 2 ^ shAmt .u64 13))) (2 ^ shAmt .u64 7))) (wu64 ((bitXor .u64 (bitXor .u64 r (wu64 (r * 2 ^ shAmt .u64 13))) (Int.fdiv (bitXor .u64 r (wu64 (r * 2 ^ shAmt .u64 13))) (2 ^ shAmt .u64 7))) * 2 ^ shAmt .u64 17)), bitXor .u64 (bitXor .u64 (bitXor .u64 r (wu64 (r * 2 ^ shAmt .u64 13))) (Int.fdiv (bitXor .u64 r (wu64 (r * 2 ^ shAmt .u64 13))) (2 ^ shAmt .u64 7))) (wu64 ((bitXor .u64 (bitXor .u64 r (wu64 (r * 2 ^ shAmt .u64 13))) (Int.fdiv (bitXor .u64 r (wu64 (r * 2 ^ shAmt .u64 13))) (2 ^ shAmt .u64 7))) * 2 ^ shAmt .u64 17)))

noncomputable def fn_slices_xorshift_Next : Fun :=
  { f := 89, np := 1, nr := 1,
    ji := { regs := [(0, .one (.ptr 0 0))], vars := [(0, 135, [.data (.int .u64)])], arrs := [] },
    jo := { regs := [(0, .one (.data (.int .u64)))], vars := [(0, 135, [.data (.int .u64)])], arrs := [] },
    tw := fun x => slices_xorshift_Next x }
noncomputable def cx_slices_xorshift_Next : Cx := { Γ := types, ow := [], fs := [], N := 33 }
theorem ok_slices_xorshift_Next : FunOk Tryd.prog fn_slices_xorshift_Next :=
  FunOk.intro (C := cx_slices_xorshift_Next) (p := .nil)
    Tryd.func89 rfl nmr89 rfl rfl rfl rfl types_ok ⟨trivial, trivial⟩ mx (fun x => by kernel_rfl)

noncomputable def slices_breakPatternsCmpFunc_api_Nomination_L0 (a : Int) (b : Int) (r : Int) (idx : Int) (random : Int) (data2 : List (List UInt8 × List UInt8 × List UInt8 × List UInt8 × Int × Int)) : Option ((Int × Int × List (List UInt8 × List UInt8 × List UInt8 × List UInt8 × Int × Int)) ⊕ (List (List UInt8 × List UInt8 × List UInt8 × List UInt8 × Int × Int))) :=
  bif decide (idx ≤ wi64 ((wi64 (a + (wi64 ((wi64 (Int.tdiv (wi64 (b - a)) 4)) * 2)))) + 1)) then (
   (slices_xorshift_Next random).bind fun r2 =>
   Option.bind (α := Int × List (List UInt8 × List UInt8 × List UInt8 × List UInt8 × Int × Int)) (
     bif decide (wi64 (b - a) ≤ wi64 (bitAnd .u64 r2.1 (wu64 (r - 1)))) then (
      some (wi64 ((wi64 (bitAnd .u64 r2.1 (wu64 (r - 1)))) - (wi64 (b - a))), data2))
     else (
      some (wi64 (bitAnd .u64 r2.1 (wu64 (r - 1))), data2))) fun s =>
   gd (inB (wi64 (a + s.1)) s.2.length) <|
   gd (inB idx s.2.length) <|
   gd (inB idx s.2.length) <|
   gd (inB (wi64 (a + s.1)) (s.2.set idx.toNat (s.2.getD ((wi64 (a + s.1)).toNat) ([], ([], ([], ([], (0, 0))))))).length) <|
   some (.inl (wi64 (idx + 1), r2.2, (s.2.set idx.toNat (s.2.getD ((wi64 (a + s.1)).toNat) ([], ([], ([], ([], (0, 0))))))).set ((wi64 (a + s.1)).toNat) (s.2.getD idx.toNat ([], ([], ([], ([], (0, 0)))))))))
  else (
   some (.inr data2))

noncomputable def slices_breakPatternsCmpFunc_api_Nomination (a : Int) (b : Int) (cmp : (List UInt8 × List UInt8 × List UInt8 × List UInt8 × Int × Int) × (List UInt8 × List UInt8 × List UInt8 × List UInt8 × Int × Int) × Unit → Option Int) (data : List (List UInt8 × List UInt8 × List UInt8 × List UInt8 × Int × Int)) : Option (List (List UInt8 × List UInt8 × List UInt8 × List UInt8 × Int × Int)) :=
  bif decide (8 ≤ wi64 (b - a)) then (
   (slices_nextPowerOfTwo (wi64 (b - a))).bind fun r =>
   (iter (fun x => slices_breakPatternsCmpFunc_api_Nomination_L0 a b r x.1 x.2.1 x.2.2) (wi64 ((wi64 (a + (wi64 ((wi64 (Int.tdiv (wi64 (b - a)) 4)) * 2)))) - 1), wu64 (wi64 (b - a)), data)).bind fun s2 =>
   some s2)
  else (
   some data)

noncomputable def fn_slices_breakPatternsCmpFunc_api_Nomination : Fun :=
  { f := 81, np := 4, nr := 0,
    ji := { regs := [(0, .one (.own 0)), (1, .one (.data (.int .i64))), (2, .one (.data (.int .i64))), (3, .one (.fn [.pair (.str) (.pair (.str) (.pair (.str) (.pair (.str) (.pair (.int .i64) (.int .i64))))), .pair (.str) (.pair (.str) (.pair (.str) (.pair (.str) (.pair (.int .i64) (.int .i64)))))] (.int .i64)))], vars := [], arrs := [(0, .arr 48 (.pair (.str) (.pair (.str) (.pair (.str) (.pair (.str) (.pair (.int .i64) (.int .i64)))))))] },
    jo := { regs := [], vars := [], arrs := [(0, .arr 48 (.pair (.str) (.pair (.str) (.pair (.str) (.pair (.str) (.pair (.int .i64) (.int .i64)))))))] },
    tw := fun x => slices_breakPatternsCmpFunc_api_Nomination x.1 x.2.1 x.2.2.1 x.2.2.2 }
noncomputable def cx_slices_breakPatternsCmpFunc_api_Nomination : Cx := { Γ := types, ow := [], fs := [fn_slices_nextPowerOfTwo, fn_slices_xorshift_Next], N := 67 }
theorem ok_slices_breakPatternsCmpFunc_api_Nomination : FunOk Tryd.prog fn_slices_breakPatternsCmpFunc_api_Nomination :=
  FunOk.intro (C := cx_slices_breakPatternsCmpFunc_api_Nomination) (p := (.mk [] none .nil (.mk [] none .nil (.mk [] none (.mk [] none .nil (.mk [] none .nil (.mk [] none .nil (.mk [] none (.mk [] (some ({ regs := [(0, .one (.own 0)), (1, .one .keep), (8, .one .keep), (9, .one (.ptr 160 0)), (10, .one .keep), (11, .one (.data (.int .i64)))], vars := [(160, 135, [.data (.int .u64)])], arrs := [(0, .arr 48 (.pair (.str) (.pair (.str) (.pair (.str) (.pair (.str) (.pair (.int .i64) (.int .i64)))))))] }, [{ e := .x 0, j := { regs := [], vars := [], arrs := [(0, .arr 48 (.pair (.str) (.pair (.str) (.pair (.str) (.pair (.str) (.pair (.int .i64) (.int .i64)))))))] } }])) (.mk [] none .nil (.mk [] none (.mk [] none (.mk [] none .nil (.mk [] none (.mk [] none .nil (.mk [.join [{ e := .n, j := { regs := [(0, .one (.own 0)), (1, .one .keep), (8, .one .keep), (9, .one (.ptr 160 0)), (10, .one .keep), (11, .one .keep), (12, .one (.data (.int .i64)))], vars := [(160, 135, [.keep])], arrs := [(0, .arr 48 (.pair (.str) (.pair (.str) (.pair (.str) (.pair (.str) (.pair (.int .i64) (.int .i64)))))))] } }]] none .nil .nil)) .nil)) .nil) .nil)) .nil) .nil)))) .nil))))
    Tryd.func81 rfl nmr81 rfl rfl rfl rfl types_ok ⟨⟨ok_slices_nextPowerOfTwo, ok_slices_xorshift_Next, trivial⟩, trivial⟩ mx (fun x => by kernel_rfl)

noncomputable def slices_order2CmpFunc_api_Nomination (data : List (List UInt8 × List UInt8 × List UInt8 × List UInt8 × Int × Int)) (a : Int) (b : Int) (cmp : (List UInt8 × List UInt8 × List UInt8 × List UInt8 × Int × Int) × (List UInt8 × List UInt8 × List UInt8 × List UInt8 × Int × Int) × Unit → Option Int) (swaps : Int) : Option (Int × Int × Int) :=
  gd (inB b data.length) <|
  gd (inB a data.length) <|
  (cmp (data.getD b.toNat ([], ([], ([], ([], (0, 0))))), data.getD a.toNat ([], ([], ([], ([], (0, 0))))), ())).bind fun r =>
  bif decide (r < 0) then (
   some (b, a, wi64 (swaps + 1)))
  else (
   some (a, b, swaps))

noncomputable def fn_slices_order2CmpFunc_api_Nomination : Fun :=
  { f := 96, np := 5, nr := 2,
    ji := { regs := [(0, .one (.data (.sl (.pair (.str) (.pair (.str) (.pair (.str) (.pair (.str) (.pair (.int .i64) (.int .i64))))))))), (1, .one (.data (.int .i64))), (2, .one (.data (.int .i64))), (3, .one (.ptr 0 0)), (4, .one (.fn [.pair (.str) (.pair (.str) (.pair (.str) (.pair (.str) (.pair (.int .i64) (.int .i64))))), .pair (.str) (.pair (.str) (.pair (.str) (.pair (.str) (.pair (.int .i64) (.int .i64)))))] (.int .i64)))], vars := [(0, 3, [.data (.int .i64)])], arrs := [] },
    jo := { regs := [(0, .one (.data (.int .i64))), (1, .one (.data (.int .i64)))], vars := [(0, 3, [.data (.int .i64)])], arrs := [] },
    tw := fun x => slices_order2CmpFunc_api_Nomination x.1 x.2.1 x.2.2.1 x.2.2.2.1 x.2.2.2.2 }
noncomputable def cx_slices_order2CmpFunc_api_Nomination : Cx := { Γ := types, ow := [], fs := [], N := 32 }
theorem ok_slices_order2CmpFunc_api_Nomination : FunOk Tryd.prog fn_slices_order2CmpFunc_api_Nomination :=
  FunOk.intro (C := cx_slices_order2CmpFunc_api_Nomination) (p := .nil)
    Tryd.func96 rfl nmr96 rfl rfl rfl rfl types_ok ⟨trivial, trivial⟩ mx (fun x => by kernel_rfl)

noncomputable def slices_medianCmpFunc_api_Nomination (data : List (List UInt8 × List UInt8 × List UInt8 × List UInt8 × Int × Int)) (a : Int) (b : Int) (c : Int) (cmp : (List UInt8 × List UInt8 × List UInt8 × List UInt8 × Int × Int) × (List UInt8 × List UInt8 × List UInt8 × List UInt8 × Int × Int) × Unit → Option Int) (swaps : Int) : Option (Int × Int) :=
  (slices_order2CmpFunc_api_Nomination data a b cmp swaps).bind fun r =>
  (slices_order2CmpFunc_api_Nomination data r.2.1 c cmp r.2.2).bind fun r2 =>
  (slices_order2CmpFunc_api_Nomination data r.1 r2.1 cmp r2.2.2).bind fun r3 =>
  some (r3.2.1, r3.2.2)

noncomputable def fn_slices_medianCmpFunc_api_Nomination : Fun :=
  { f := 94, np := 6, nr := 1,
    ji := { regs := [(0, .one (.data (.sl (.pair (.str) (.pair (.str) (.pair (.str) (.pair (.str) (.pair (.int .i64) (.int .i64))))))))), (1, .one (.data (.int .i64))), (2, .one (.data (.int .i64))), (3, .one (.data (.int .i64))), (4, .one (.ptr 0 0)), (5, .one (.fn [.pair (.str) (.pair (.str) (.pair (.str) (.pair (.str) (.pair (.int .i64) (.int .i64))))), .pair (.str) (.pair (.str) (.pair (.str) (.pair (.str) (.pair (.int .i64) (.int .i64)))))] (.int .i64)))], vars := [(0, 3, [.data (.int .i64)])], arrs := [] },
    jo := { regs := [(0, .one (.data (.int .i64)))], vars := [(0, 3, [.data (.int .i64)])], arrs := [] },
    tw := fun x => slices_medianCmpFunc_api_Nomination x.1 x.2.1 x.2.2.1 x.2.2.2.1 x.2.2.2.2.1 x.2.2.2.2.2 }
noncomputable def cx_slices_medianCmpFunc_api_Nomination : Cx := { Γ := types, ow := [], fs := [fn_slices_order2CmpFunc_api_Nomination], N := 41 }
theorem ok_slices_medianCmpFunc_api_Nomination : FunOk Tryd.prog fn_slices_medianCmpFunc_api_Nomination :=
  FunOk.intro (C := cx_slices_medianCmpFunc_api_Nomination) (p := .nil)
    Tryd.func94 rfl nmr94 rfl rfl rfl rfl types_ok ⟨⟨ok_slices_order2CmpFunc_api_Nomination, trivial⟩, trivial⟩ mx (fun x => by kernel_rfl)

noncomputable def slices_medianAdjacentCmpFunc_api_Nomination (data : List (List UInt8 × List UInt8 × List UInt8 × List UInt8 × Int × Int)) (a : Int) (cmp : (List UInt8 × List UInt8 × List UInt8 × List UInt8 × Int × Int) × (List UInt8 × List UInt8 × List UInt8 × List UInt8 × Int × Int) × Unit → Option Int) (swaps : Int) : Option (Int × Int) :=
  (slices_medianCmpFunc_api_Nomination data (wi64 (a - 1)) a (wi64 (a + 1)) cmp swaps).bind fun r =>
  some (r.1, r.2)

noncomputable def fn_slices_medianAdjacentCmpFunc_api_Nomination : Fun :=
  { f := 93, np := 4, nr := 1,
    ji := { regs := [(0, .one (.data (.sl (.pair (.str) (.pair (.str) (.pair (.str) (.pair (.str) (.pair (.int .i64) (.int .i64))))))))), (1, .one (.data (.int .i64))), (2, .one (.ptr 0 0)), (3, .one (.fn [.pair (.str) (.pair (.str) (.pair (.str) (.pair (.str) (.pair (.int .i64) (.int .i64))))), .pair (.str) (.pair (.str) (.pair (.str) (.pair (.str) (.pair (.int .i64) (.int .i64)))))] (.int .i64)))], vars := [(0, 3, [.data (.int .i64)])], arrs := [] },
    jo := { regs := [(0, .one (.data (.int .i64)))], vars := [(0, 3, [.data (.int .i64)])], arrs := [] },
    tw := fun x => slices_medianAdjacentCmpFunc_api_Nomination x.1 x.2.1 x.2.2.1 x.2.2.2 }
noncomputable def cx_slices_medianAdjacentCmpFunc_api_Nomination : Cx := { Γ := types, ow := [], fs := [fn_slices_medianCmpFunc_api_Nomination], N := 18 }
theorem ok_slices_medianAdjacentCmpFunc_api_Nomination : FunOk Tryd.prog fn_slices_medianAdjacentCmpFunc_api_Nomination :=
  FunOk.intro (C := cx_slices_medianAdjacentCmpFunc_api_Nomination) (p := .nil)
    Tryd.func93 rfl nmr93 rfl rfl rfl rfl types_ok ⟨⟨ok_slices_medianCmpFunc_api_Nomination, trivial⟩, trivial⟩ mx (fun x => by kernel_rfl)

noncomputable def slices_choosePivotCmpFunc_api_Nomination (data : List (List UInt8 × List UInt8 × List UInt8 × List UInt8 × Int × Int)) (a : Int) (b : Int) (cmp : (List UInt8 × List UInt8 × List UInt8 × List UInt8 × Int × Int) × (List UInt8 × List UInt8 × List UInt8 × List UInt8 × Int × Int) × Unit → Option Int) : Option (Int × Int) :=
  Option.bind (α := Int × Int) (
    bif decide (8 ≤ wi64 (b - a)) then (
     Option.bind (α := Int × Int × Int × Int) (
       bif decide (50 ≤ wi64 (b - a)) then (
        (slices_medianAdjacentCmpFunc_api_Nomination data (wi64 (a + (wi64 ((wi64 (Int.tdiv (wi64 (b - a)) 4)) * 1)))) cmp 0).bind fun r =>
        (slices_medianAdjacentCmpFunc_api_Nomination data (wi64 (a + (wi64 ((wi64 (Int.tdiv (wi64 (b - a)) 4)) * 2)))) cmp r.2).bind fun r2 =>
        (slices_medianAdjacentCmpFunc_api_Nomination data (wi64 (a + (wi64 ((wi64 (Int.tdiv (wi64 (b - a)) 4)) * 3)))) cmp r2.2).bind fun r3 =>
        some (r.1, r2.1, r3.1, r3.2))
       else (
        some (wi64 (a + (wi64 ((wi64 (Int.tdiv (wi64 (b - a)) 4)) * 1))), wi64 (a + (wi64 ((wi64 (Int.tdiv (wi64 (b - a)) 4)) * 2))), wi64 (a + (wi64 ((wi64 (Int.tdiv (wi64 (b - a)) 4)) * 3))), 0))) fun s =>
     (slices_medianCmpFunc_api_Nomination data s.1 s.2.1 s.2.2.1 cmp s.2.2.2).bind fun r4 =>
     some (r4.1, r4.2))
    else (
     some (wi64 (a + (wi64 ((wi64 (Int.tdiv (wi64 (b - a)) 4)) * 2))), 0))) fun s2 =>
  bif decide (s2.2 = 0) then (
   some (s2.1, 1))
  else (
   bif decide (s2.2 = 12) then (
    some (s2.1, 2))
   else (
    some (s2.1, 0)))

noncomputable def fn_slices_choosePivotCmpFunc_api_Nomination : Fun :=
  { f := 82, np := 4, nr := 2,
    ji := { regs := [(0, .one (.data (.sl (.pair (.str) (.pair (.str) (.pair (.str) (.pair (.str) (.pair (.int .i64) (.int .i64))))))))), (1, .one (.data (.int .i64))), (2, .one (.data (.int .i64))), (3, .one (.fn [.pair (.str) (.pair (.str) (.pair (.str) (.pair (.str) (.pair (.int .i64) (.int .i64))))), .pair (.str) (.pair (.str) (.pair (.str) (.pair (.str) (.pair (.int .i64) (.int .i64)))))] (.int .i64)))], vars := [], arrs := [] },
    jo := { regs := [(0, .one (.data (.int .i64))), (1, .one (.data (.int .i64)))], vars := [], arrs := [] },
    tw := fun x => slices_choosePivotCmpFunc_api_Nomination x.1 x.2.1 x.2.2.1 x.2.2.2 }
noncomputable def cx_slices_choosePivotCmpFunc_api_Nomination : Cx := { Γ := types, ow := [], fs := [fn_slices_medianAdjacentCmpFunc_api_Nomination, fn_slices_medianCmpFunc_api_Nomination], N := 63 }
theorem ok_slices_choosePivotCmpFunc_api_Nomination : FunOk Tryd.prog fn_slices_choosePivotCmpFunc_api_Nomination :=
  FunOk.intro (C := cx_slices_choosePivotCmpFunc_api_Nomination) (p := (.mk [] none .nil (.mk [] none .nil (.mk [] none .nil (.mk [] none .nil (.mk [] none .nil (.mk [] none .nil (.mk [] none (.mk [] none .nil (.mk [.join [{ e := .n, j := { regs := [(11, .one (.ptr 192 0)), (13, .one (.data (.int .i64)))], vars := [(192, 3, [.data (.int .i64)])], arrs := [] } }]] none (.mk [] none (.mk [] none .nil (.mk [.join [{ e := .n, j := { regs := [(0, .one .keep), (3, .one .keep), (11, .one (.ptr 192 0)), (12, .one (.data (.int .i64))), (13, .one (.data (.int .i64))), (14, .one (.data (.int .i64)))], vars := [(192, 3, [.data (.int .i64)])], arrs := [] } }]] none .nil .nil)) .nil) .nil)) .nil))))))))
    Tryd.func82 rfl nmr82 rfl rfl rfl rfl types_ok ⟨⟨ok_slices_medianAdjacentCmpFunc_api_Nomination, ok_slices_medianCmpFunc_api_Nomination, trivial⟩, trivial⟩ mx (fun x => by kernel_rfl)

noncomputable def slices_reverseRangeCmpFunc_api_Nomination_L0 (i : Int) (j : Int) (data2 : List (List UInt8 × List UInt8 × List UInt8 × List UInt8 × Int × Int)) : Option ((Int × Int × List (List UInt8 × List UInt8 × List UInt8 × List UInt8 × Int × Int)) ⊕ (List (List UInt8 × List UInt8 × List UInt8 × List UInt8 × Int × Int))) :=
  bif decide (i < j) then (
   gd (inB j data2.length) <|
   gd (inB i data2.length) <|
   gd (inB i data2.length) <|
   gd (inB j (data2.set i.toNat (data2.getD j.toNat ([], ([], ([], ([], (0, 0))))))).length) <|
   some (.inl (wi64 (i + 1), wi64 (j - 1), (data2.set i.toNat (data2.getD j.toNat ([], ([], ([], ([], (0, 0))))))).set j.toNat (data2.getD i.toNat ([], ([], ([], ([], (0, 0)))))))))
  else (
   some (.inr data2))

noncomputable def slices_reverseRangeCmpFunc_api_Nomination (a : Int) (b : Int) (cmp : (List UInt8 × List UInt8 × List UInt8 × List UInt8 × Int × Int) × (List UInt8 × List UInt8 × List UInt8 × List UInt8 × Int × Int) × Unit → Option Int) (data : List (List UInt8 × List UInt8 × List UInt8 × List UInt8 × Int × Int)) : Option (List (List UInt8 × List UInt8 × List UInt8 × List UInt8 × Int × Int)) :=
  (iter (fun x => slices_reverseRangeCmpFunc_api_Nomination_L0 x.1 x.2.1 x.2.2) (a, wi64 (b - 1), data)).bind fun s =>
  some s

noncomputable def fn_slices_reverseRangeCmpFunc_api_Nomination : Fun :=
  { f := 83, np := 4, nr := 0,
    ji := { regs := [(0, .one (.own 0)), (1, .one (.data (.int .i64))), (2, .one (.data (.int .i64))), (3, .one (.fn [.pair (.str) (.pair (.str) (.pair (.str) (.pair (.str) (.pair (.int .i64) (.int .i64))))), .pair (.str) (.pair (.str) (.pair (.str) (.pair (.str) (.pair (.int .i64) (.int .i64)))))] (.int .i64)))], vars := [], arrs := [(0, .arr 48 (.pair (.str) (.pair (.str) (.pair (.str) (.pair (.str) (.pair (.int .i64) (.int .i64)))))))] },
    jo := { regs := [], vars := [], arrs := [(0, .arr 48 (.pair (.str) (.pair (.str) (.pair (.str) (.pair (.str) (.pair (.int .i64) (.int .i64)))))))] },
    tw := fun x => slices_reverseRangeCmpFunc_api_Nomination x.1 x.2.1 x.2.2.1 x.2.2.2 }
noncomputable def cx_slices_reverseRangeCmpFunc_api_Nomination : Cx := { Γ := types, ow := [], fs := [], N := 34 }
theorem ok_slices_reverseRangeCmpFunc_api_Nomination : FunOk Tryd.prog fn_slices_reverseRangeCmpFunc_api_Nomination :=
  FunOk.intro (C := cx_slices_reverseRangeCmpFunc_api_Nomination) (p := (.mk [] none .nil (.mk [] none .nil (.mk [] none (.mk [] (some ({ regs := [(0, .one (.own 0)), (8, .one (.data (.int .i64))), (9, .one (.data (.int .i64)))], vars := [], arrs := [(0, .arr 48 (.pair (.str) (.pair (.str) (.pair (.str) (.pair (.str) (.pair (.int .i64) (.int .i64)))))))] }, [{ e := .x 0, j := { regs := [], vars := [], arrs := [(0, .arr 48 (.pair (.str) (.pair (.str) (.pair (.str) (.pair (.str) (.pair (.int .i64) (.int .i64)))))))] } }])) .nil .nil) .nil))))
    Tryd.func83 rfl nmr83 rfl rfl rfl rfl types_ok ⟨trivial, trivial⟩ mx (fun x => by kernel_rfl)

noncomputable def slices_partialInsertionSortCmpFunc_api_Nomination_L1 (b : Int) (cmp : (List UInt8 × List UInt8 × List UInt8 × List UInt8 × Int × Int) × (List UInt8 × List UInt8 × List UInt8 × List UInt8 × Int × Int) × Unit → Option Int) (i2 : Int) (data3 : List (List UInt8 × List UInt8 × List UInt8 × List UInt8 × Int × Int)) : Option ((Int × List (List UInt8 × List UInt8 × List UInt8 × List UInt8 × Int × Int)) ⊕ (Int × List (List UInt8 × List UInt8 × List UInt8 × List UInt8 × Int × Int))) :=
  Option.bind (α := Bool × List (List UInt8 × List UInt8 × List UInt8 × List UInt8 × Int × Int)) (
    bif decide (i2 < b) then (
     gd (inB i2 data3.length) <|
     gd (inB (wi64 (i2 - 1)) data3.length) <|
     (cmp (data3.getD i2.toNat ([], ([], ([], ([], (0, 0))))), data3.getD ((wi64 (i2 - 1)).toNat) ([], ([], ([], ([], (0, 0))))), ())).bind fun r =>
     some ((!(decide (r < 0))), data3))
    else (
     some (false, data3))) fun s =>
  bif s.1 then (
   some (.inl (wi64 (i2 + 1), s.2)))
  else (
   some (.inr (i2, s.2)))

noncomputable def slices_partialInsertionSortCmpFunc_api_Nomination_L2 (cmp : (List UInt8 × List UInt8 × List UInt8 × List UInt8 × Int × Int) × (List UInt8 × List UInt8 × List UInt8 × List UInt8 × Int × Int) × Unit → Option Int) (j2 : Int) (data4 : List (List UInt8 × List UInt8 × List UInt8 × List UInt8 × Int × Int)) : Option ((Int × List (List UInt8 × List UInt8 × List UInt8 × List UInt8 × Int × Int)) ⊕ (List (List UInt8 × List UInt8 × List UInt8 × List UInt8 × Int × Int))) :=
  bif decide (1 ≤ j2) then (
   gd (inB j2 data4.length) <|
   gd (inB (wi64 (j2 - 1)) data4.length) <|
   (cmp (data4.getD j2.toNat ([], ([], ([], ([], (0, 0))))), data4.getD ((wi64 (j2 - 1)).toNat) ([], ([], ([], ([], (0, 0))))), ())).bind fun r2 =>
   bif !(decide (r2 < 0)) then (
    some (.inr data4))
   else (
    gd (inB (wi64 (j2 - 1)) data4.length) <|
    gd (inB j2 data4.length) <|
    gd (inB j2 data4.length) <|
    gd (inB (wi64 (j2 - 1)) (data4.set j2.toNat (data4.getD ((wi64 (j2 - 1)).toNat) ([], ([], ([], ([], (0, 0))))))).length) <|
    some (.inl (wi64 (j2 - 1), (data4.set j2.toNat (data4.getD ((wi64 (j2 - 1)).toNat) ([], ([], ([], ([], (0, 0))))))).set ((wi64 (j2 - 1)).toNat) (data4.getD j2.toNat ([], ([], ([], ([], (0, 0))))))))))
  else (
   some (.inr data4))

noncomputable def slices_partialInsertionSortCmpFunc_api_Nomination_L3 (b : Int) (cmp : (List UInt8 × List UInt8 × List UInt8 × List UInt8 × Int × Int) × (List UInt8 × List UInt8 × List UInt8 × List UInt8 × Int × Int) × Unit → Option Int) (j3 : Int) (data5 : List (List UInt8 × List UInt8 × List UInt8 × List UInt8 × Int × Int)) : Option ((Int × List (List UInt8 × List UInt8 × List UInt8 × List UInt8 × Int × Int)) ⊕ (List (List UInt8 × List UInt8 × List UInt8 × List UInt8 × Int × Int))) :=
  bif decide (j3 < b) then (
   gd (inB j3 data5.length) <|
   gd (inB (wi64 (j3 - 1)) data5.length) <|
   (cmp (data5.getD j3.toNat ([], ([], ([], ([], (0, 0))))), data5.getD ((wi64 (j3 - 1)).toNat) ([], ([], ([], ([], (0, 0))))), ())).bind fun r3 =>
   bif !(decide (r3 < 0)) then (
    some (.inr data5))
   else (
    gd (inB (wi64 (j3 - 1)) data5.length) <|
    gd (inB j3 data5.length) <|
    gd (inB j3 data5.length) <|
    gd (inB (wi64 (j3 - 1)) (data5.set j3.toNat (data5.getD ((wi64 (j3 - 1)).toNat) ([], ([], ([], ([], (0, 0))))))).length) <|
    some (.inl (wi64 (j3 + 1), (data5.set j3.toNat (data5.getD ((wi64 (j3 - 1)).toNat) ([], ([], ([], ([], (0, 0))))))).set ((wi64 (j3 - 1)).toNat) (data5.getD j3.toNat ([], ([], ([], ([], (0, 0))))))))))
  else (
   some (.inr data5))

noncomputable def slices_partialInsertionSortCmpFunc_api_Nomination_L0 (a : Int) (b : Int) (cmp : (List UInt8 × List UInt8 × List UInt8 × List UInt8 × Int × Int) × (List UInt8 × List UInt8 × List UInt8 × List UInt8 × Int × Int) × Unit → Option Int) (i : Int) (j : Int) (data2 : List (List UInt8 × List UInt8 × List UInt8 × List UInt8 × Int × Int)) : Option ((Int × Int × List (List UInt8 × List UInt8 × List UInt8 × List UInt8 × Int × Int)) ⊕ ((List (List UInt8 × List UInt8 × List UInt8 × List UInt8 × Int × Int)) ⊕ (Bool × List (List UInt8 × List UInt8 × List UInt8 × List UInt8 × Int × Int)))) :=
  bif decide (j < 5) then (
   (iter (fun x => slices_partialInsertionSortCmpFunc_api_Nomination_L1 b cmp x.1 x.2) (i, data2)).bind fun s2 =>
   bif decide (s2.1 = b) then (
    some (.inr (.inr (true, s2.2))))
   else (
    bif decide (wi64 (b - a) < 50) then (
     some (.inr (.inr (false, s2.2))))
    else (
     gd (inB (wi64 (s2.1 - 1)) s2.2.length) <|
     gd (inB s2.1 s2.2.length) <|
     gd (inB s2.1 s2.2.length) <|
     gd (inB (wi64 (s2.1 - 1)) (s2.2.set s2.1.toNat (s2.2.getD ((wi64 (s2.1 - 1)).toNat) ([], ([], ([], ([], (0, 0))))))).length) <|
     Option.bind (α := List (List UInt8 × List UInt8 × List UInt8 × List UInt8 × Int × Int)) (
       bif decide (2 ≤ wi64 (s2.1 - a)) then (
        (iter (fun x2 => slices_partialInsertionSortCmpFunc_api_Nomination_L2 cmp x2.1 x2.2) (wi64 (s2.1 - 1), (s2.2.set s2.1.toNat (s2.2.getD ((wi64 (s2.1 - 1)).toNat) ([], ([], ([], ([], (0, 0))))))).set ((wi64 (s2.1 - 1)).toNat) (s2.2.getD s2.1.toNat ([], ([], ([], ([], (0, 0)))))))).bind fun s3 =>
        some s3)
       else (
        some ((s2.2.set s2.1.toNat (s2.2.getD ((wi64 (s2.1 - 1)).toNat) ([], ([], ([], ([], (0, 0))))))).set ((wi64 (s2.1 - 1)).toNat) (s2.2.getD s2.1.toNat ([], ([], ([], ([], (0, 0))))))))) fun s4 =>
     Option.bind (α := List (List UInt8 × List UInt8 × List UInt8 × List UInt8 × Int × Int)) (
       bif decide (2 ≤ wi64 (b - s2.1)) then (
        (iter (fun x3 => slices_partialInsertionSortCmpFunc_api_Nomination_L3 b cmp x3.1 x3.2) (wi64 (s2.1 + 1), s4)).bind fun s5 =>
        some s5)
       else (
        some s4)) fun s6 =>
     some (.inl (s2.1, wi64 (j + 1), s6)))))
  else (
   some (.inr (.inl data2)))

noncomputable def slices_partialInsertionSortCmpFunc_api_Nomination (a : Int) (b : Int) (cmp : (List UInt8 × List UInt8 × List UInt8 × List UInt8 × Int × Int) × (List UInt8 × List UInt8 × List UInt8 × List UInt8 × Int × Int) × Unit → Option Int) (data : List (List UInt8 × List UInt8 × List UInt8 × List UInt8 × Int × Int)) : Option (Bool × List (List UInt8 × List UInt8 × List UInt8 × List UInt8 × Int × Int)) :=
  (iter (fun x4 => slices_partialInsertionSortCmpFunc_api_Nomination_L0 a b cmp x4.1 x4.2.1 x4.2.2) (wi64 (a + 1), 0, data)).bind fun s7 =>
  s7.elim (fun s8 =>
   some (false, s8))
  (fun s9 =>
   some (s9.1, s9.2))

noncomputable def fn_slices_partialInsertionSortCmpFunc_api_Nomination : Fun :=
  { f := 84, np := 4, nr := 1,
    ji := { regs := [(0, .one (.own 0)), (1, .one (.data (.int .i64))), (2, .one (.data (.int .i64))), (3, .one (.fn [.pair (.str) (.pair (.str) (.pair (.str) (.pair (.str) (.pair (.int .i64) (.int .i64))))), .pair (.str) (.pair (.str) (.pair (.str) (.pair (.str) (.pair (.int .i64) (.int .i64)))))] (.int .i64)))], vars := [], arrs := [(0, .arr 48 (.pair (.str) (.pair (.str) (.pair (.str) (.pair (.str) (.pair (.int .i64) (.int .i64)))))))] },
    jo := { regs := [(0, .one (.data (.bool)))], vars := [], arrs := [(0, .arr 48 (.pair (.str) (.pair (.str) (.pair (.str) (.pair (.str) (.pair (.int .i64) (.int .i64)))))))] },
    tw := fun x => slices_partialInsertionSortCmpFunc_api_Nomination x.1 x.2.1 x.2.2.1 x.2.2.2 }
noncomputable def cx_slices_partialInsertionSortCmpFunc_api_Nomination : Cx := { Γ := types, ow := [], fs := [], N := 141 }
theorem ok_slices_partialInsertionSortCmpFunc_api_Nomination : FunOk Tryd.prog fn_slices_partialInsertionSortCmpFunc_api_Nomination :=
  FunOk.intro (C := cx_slices_partialInsertionSortCmpFunc_api_Nomination) (p := (.mk [] none .nil (.mk [] none .nil (.mk [] none (.mk [] none .nil (.mk [] none (.mk [] (some ({ regs := [(0, .one (.own 0)), (1, .one .keep), (2, .one .keep), (3, .one .keep), (9, .one (.data (.int .i64))), (10, .one (.data (.int .i64)))], vars := [], arrs := [(0, .arr 48 (.pair (.str) (.pair (.str) (.pair (.str) (.pair (.str) (.pair (.int .i64) (.int .i64)))))))] }, [{ e := .x 0, j := { regs := [], vars := [], arrs := [(0, .arr 48 (.pair (.str) (.pair (.str) (.pair (.str) (.pair (.str) (.pair (.int .i64) (.int .i64)))))))] } }, { e := .r, j := { regs := [(8, .one (.data (.bool)))], vars := [], arrs := [(0, .arr 48 (.pair (.str) (.pair (.str) (.pair (.str) (.pair (.str) (.pair (.int .i64) (.int .i64)))))))] } }])) (.mk [] none .nil (.mk [] none (.mk [] none (.mk [] none (.mk [] none (.mk [] (some ({ regs := [(0, .one (.own 0)), (1, .one .keep), (2, .one .keep), (3, .one .keep), (9, .one (.data (.int .i64))), (10, .one .keep)], vars := [], arrs := [(0, .arr 48 (.pair (.str) (.pair (.str) (.pair (.str) (.pair (.str) (.pair (.int .i64) (.int .i64)))))))] }, [{ e := .x 2, j := { regs := [(0, .one (.own 0)), (1, .one .keep), (2, .one .keep), (3, .one .keep), (9, .one (.data (.int .i64))), (10, .one .keep)], vars := [], arrs := [(0, .arr 48 (.pair (.str) (.pair (.str) (.pair (.str) (.pair (.str) (.pair (.int .i64) (.int .i64)))))))] } }])) (.mk [] none (.mk [] none (.mk [.join [{ e := .n, j := { regs := [(0, .one (.own 0)), (1, .one .keep), (2, .one .keep), (3, .one .keep), (9, .one .keep), (10, .one .keep), (36, .one (.data (.bool)))], vars := [], arrs := [(0, .arr 48 (.pair (.str) (.pair (.str) (.pair (.str) (.pair (.str) (.pair (.int .i64) (.int .i64)))))))] } }]] none .nil .nil) .nil) .nil) .nil) .nil) (.mk [] none .nil (.mk [] none .nil (.mk [] none .nil (.mk [] none (.mk [] none .nil (.mk [.join [{ e := .n, j := { regs := [(0, .one (.own 0)), (1, .one .keep), (2, .one .keep), (3, .one .keep), (9, .one .keep), (10, .one .keep)], vars := [], arrs := [(0, .arr 48 (.pair (.str) (.pair (.str) (.pair (.str) (.pair (.str) (.pair (.int .i64) (.int .i64)))))))] } }]] none (.mk [] none .nil (.mk [] none (.mk [] (some ({ regs := [(0, .one (.own 0)), (1, .one .keep), (2, .one .keep), (3, .one .keep), (9, .one .keep), (10, .one .keep), (11, .one (.data (.int .i64)))], vars := [], arrs := [(0, .arr 48 (.pair (.str) (.pair (.str) (.pair (.str) (.pair (.str) (.pair (.int .i64) (.int .i64)))))))] }, [{ e := .x 4, j := { regs := [(0, .one (.own 0)), (1, .one .keep), (2, .one .keep), (3, .one .keep), (9, .one .keep), (10, .one .keep)], vars := [], arrs := [(0, .arr 48 (.pair (.str) (.pair (.str) (.pair (.str) (.pair (.str) (.pair (.int .i64) (.int .i64)))))))] } }])) .nil .nil) .nil)) .nil)) (.mk [] none .nil (.mk [.join [{ e := .n, j := { regs := [(0, .one (.own 0)), (1, .one .keep), (2, .one .keep), (3, .one .keep), (9, .one .keep), (10, .one .keep)], vars := [], arrs := [(0, .arr 48 (.pair (.str) (.pair (.str) (.pair (.str) (.pair (.str) (.pair (.int .i64) (.int .i64)))))))] } }]] none (.mk [] none .nil (.mk [] none (.mk [] (some ({ regs := [(0, .one (.own 0)), (1, .one .keep), (2, .one .keep), (3, .one .keep), (9, .one .keep), (10, .one .keep), (12, .one (.data (.int .i64)))], vars := [], arrs := [(0, .arr 48 (.pair (.str) (.pair (.str) (.pair (.str) (.pair (.str) (.pair (.int .i64) (.int .i64)))))))] }, [{ e := .x 6, j := { regs := [(0, .one (.own 0)), (1, .one .keep), (2, .one .keep), (3, .one .keep), (9, .one .keep), (10, .one .keep)], vars := [], arrs := [(0, .arr 48 (.pair (.str) (.pair (.str) (.pair (.str) (.pair (.str) (.pair (.int .i64) (.int .i64)))))))] } }])) .nil .nil) .nil)) .nil))))))) .nil) .nil)) .nil) .nil)) .nil))))
    Tryd.func84 rfl nmr84 rfl rfl rfl rfl types_ok ⟨trivial, trivial⟩ mx (fun x => by kernel_rfl)

noncomputable def slices_partitionEqualCmpFunc_api_Nomination_L1 (a : Int) (cmp : (List UInt8 × List UInt8 × List UInt8 × List UInt8 × Int × Int) × (List UInt8 × List UInt8 × List UInt8 × List UInt8 × Int × Int) × Unit → Option Int) (j : Int) (i2 : Int) (data3 : List (List UInt8 × List UInt8 × List UInt8 × List UInt8 × Int × Int)) : Option ((Int × List (List UInt8 × List UInt8 × List UInt8 × List UInt8 × Int × Int)) ⊕ (Int × List (List UInt8 × List UInt8 × List UInt8 × List UInt8 × Int × Int))) :=
  Option.bind (α := Bool × List (List UInt8 × List UInt8 × List UInt8 × List UInt8 × Int × Int)) (
    bif decide (i2 ≤ j) then (
     gd (inB a data3.length) <|
     gd (inB i2 data3.length) <|
     (cmp (data3.getD a.toNat ([], ([], ([], ([], (0, 0))))), data3.getD i2.toNat ([], ([], ([], ([], (0, 0))))), ())).bind fun r =>
     some ((!(decide (r < 0))), data3))
    else (
     some (false, data3))) fun s =>
  bif s.1 then (
   some (.inl (wi64 (i2 + 1), s.2)))
  else (
   some (.inr (i2, s.2)))

noncomputable def slices_partitionEqualCmpFunc_api_Nomination_L2 (a : Int) (cmp : (List UInt8 × List UInt8 × List UInt8 × List UInt8 × Int × Int) × (List UInt8 × List UInt8 × List UInt8 × List UInt8 × Int × Int) × Unit → Option Int) (s2 : Int × List (List UInt8 × List UInt8 × List UInt8 × List UInt8 × Int × Int)) (j2 : Int) (data4 : List (List UInt8 × List UInt8 × List UInt8 × List UInt8 × Int × Int)) : Option ((Int × List (List UInt8 × List UInt8 × List UInt8 × List UInt8 × Int × Int)) ⊕ (Int × List (List UInt8 × List UInt8 × List UInt8 × List UInt8 × Int × Int))) :=
  Option.bind (α := Bool × List (List UInt8 × List UInt8 × List UInt8 × List UInt8 × Int × Int)) (
    bif decide (s2.1 ≤ j2) then (
     gd (inB a data4.length) <|
     gd (inB j2 data4.length) <|
     (cmp (data4.getD a.toNat ([], ([], ([], ([], (0, 0))))), data4.getD j2.toNat ([], ([], ([], ([], (0, 0))))), ())).bind fun r2 =>
     some (decide (r2 < 0), data4))
    else (
     some (false, data4))) fun s3 =>
  bif s3.1 then (
   some (.inl (wi64 (j2 - 1), s3.2)))
  else (
   some (.inr (j2, s3.2)))

noncomputable def slices_partitionEqualCmpFunc_api_Nomination_L0 (a : Int) (cmp : (List UInt8 × List UInt8 × List UInt8 × List UInt8 × Int × Int) × (List UInt8 × List UInt8 × List UInt8 × List UInt8 × Int × Int) × Unit → Option Int) (i : Int) (j : Int) (data2 : List (List UInt8 × List UInt8 × List UInt8 × List UInt8 × Int × Int)) : Option ((Int × Int × List (List UInt8 × List UInt8 × List UInt8 × List UInt8 × Int × Int)) ⊕ (Int × List (List UInt8 × List UInt8 × List UInt8 × List UInt8 × Int × Int))) :=
  (iter (fun x => slices_partitionEqualCmpFunc_api_Nomination_L1 a cmp j x.1 x.2) (i, data2)).bind fun s2 =>
  (iter (fun x2 => slices_partitionEqualCmpFunc_api_Nomination_L2 a cmp s2 x2.1 x2.2) (j, s2.2)).bind fun s4 =>
  bif decide (s4.1 < s2.1) then (
   some (.inr (s2.1, s4.2)))
  else (
   gd (inB s4.1 s4.2.length) <|
   gd (inB s2.1 s4.2.length) <|
   gd (inB s2.1 s4.2.length) <|
   gd (inB s4.1 (s4.2.set s2.1.toNat (s4.2.getD s4.1.toNat ([], ([], ([], ([], (0, 0))))))).length) <|
   some (.inl (wi64 (s2.1 + 1), wi64 (s4.1 - 1), (s4.2.set s2.1.toNat (s4.2.getD s4.1.toNat ([], ([], ([], ([], (0, 0))))))).set s4.1.toNat (s4.2.getD s2.1.toNat ([], ([], ([], ([], (0, 0)))))))))

noncomputable def slices_partitionEqualCmpFunc_api_Nomination (a : Int) (b : Int) (pivot : Int) (cmp : (List UInt8 × List UInt8 × List UInt8 × List UInt8 × Int × Int) × (List UInt8 × List UInt8 × List UInt8 × List UInt8 × Int × Int) × Unit → Option Int) (data : List (List UInt8 × List UInt8 × List UInt8 × List UInt8 × Int × Int)) : Option (Int × List (List UInt8 × List UInt8 × List UInt8 × List UInt8 × Int × Int)) :=
  gd (inB pivot data.length) <|
  gd (inB a data.length) <|
  gd (inB a data.length) <|
  gd (inB pivot (data.set a.toNat (data.getD pivot.toNat ([], ([], ([], ([], (0, 0))))))).length) <|
  (iter (fun x3 => slices_partitionEqualCmpFunc_api_Nomination_L0 a cmp x3.1 x3.2.1 x3.2.2) (wi64 (a + 1), wi64 (b - 1), (data.set a.toNat (data.getD pivot.toNat ([], ([], ([], ([], (0, 0))))))).set pivot.toNat (data.getD a.toNat ([], ([], ([], ([], (0, 0)))))))).bind fun s5 =>
  some (s5.1, s5.2)

noncomputable def fn_slices_partitionEqualCmpFunc_api_Nomination : Fun :=
  { f := 85, np := 5, nr := 1,
    ji := { regs := [(0, .one (.own 0)), (1, .one (.data (.int .i64))), (2, .one (.data (.int .i64))), (3, .one (.data (.int .i64))), (4, .one (.fn [.pair (.str) (.pair (.str) (.pair (.str) (.pair (.str) (.pair (.int .i64) (.int .i64))))), .pair (.str) (.pair (.str) (.pair (.str) (.pair (.str) (.pair (.int .i64) (.int .i64)))))] (.int .i64)))], vars := [], arrs := [(0, .arr 48 (.pair (.str) (.pair (.str) (.pair (.str) (.pair (.str) (.pair (.int .i64) (.int .i64)))))))] },
    jo := { regs := [(0, .one (.data (.int .i64)))], vars := [], arrs := [(0, .arr 48 (.pair (.str) (.pair (.str) (.pair (.str) (.pair (.str) (.pair (.int .i64) (.int .i64)))))))] },
    tw := fun x => slices_partitionEqualCmpFunc_api_Nomination x.1 x.2.1 x.2.2.1 x.2.2.2.1 x.2.2.2.2 }
noncomputable def cx_slices_partitionEqualCmpFunc_api_Nomination : Cx := { Γ := types, ow := [], fs := [], N := 90 }
theorem ok_slices_partitionEqualCmpFunc_api_Nomination : FunOk Tryd.prog fn_slices_partitionEqualCmpFunc_api_Nomination :=
  FunOk.intro (C := cx_slices_partitionEqualCmpFunc_api_Nomination) (p := (.mk [] none .nil (.mk [] none .nil (.mk [] none .nil (.mk [] none (.mk [] none (.mk [] (some ({ regs := [(0, .one (.own 0)), (1, .one .keep), (4, .one .keep), (11, .one (.data (.int .i64))), (12, .one (.data (.int .i64)))], vars := [], arrs := [(0, .arr 48 (.pair (.str) (.pair (.str) (.pair (.str) (.pair (.str) (.pair (.int .i64) (.int .i64)))))))] }, [{ e := .x 0, j := { regs := [(11, .one (.data (.int .i64)))], vars := [], arrs := [(0, .arr 48 (.pair (.str) (.pair (.str) (.pair (.str) (.pair (.str) (.pair (.int .i64) (.int .i64)))))))] } }])) (.mk [] none (.mk [] none (.mk [] none (.mk [] (some ({ regs := [(0, .one (.own 0)), (1, .one .keep), (4, .one .keep), (11, .one (.data (.int .i64))), (12, .one .keep)], vars := [], arrs := [(0, .arr 48 (.pair (.str) (.pair (.str) (.pair (.str) (.pair (.str) (.pair (.int .i64) (.int .i64)))))))] }, [{ e := .x 2, j := { regs := [(0, .one (.own 0)), (1, .one .keep), (4, .one .keep), (11, .one (.data (.int .i64))), (12, .one .keep)], vars := [], arrs := [(0, .arr 48 (.pair (.str) (.pair (.str) (.pair (.str) (.pair (.str) (.pair (.int .i64) (.int .i64)))))))] } }])) (.mk [] none (.mk [] none (.mk [.join [{ e := .n, j := { regs := [(0, .one (.own 0)), (1, .one .keep), (4, .one .keep), (11, .one .keep), (12, .one .keep), (47, .one (.data (.bool)))], vars := [], arrs := [(0, .arr 48 (.pair (.str) (.pair (.str) (.pair (.str) (.pair (.str) (.pair (.int .i64) (.int .i64)))))))] } }]] none .nil .nil) .nil) .nil) .nil) .nil) (.mk [] none (.mk [] none (.mk [] (some ({ regs := [(0, .one (.own 0)), (1, .one .keep), (4, .one .keep), (11, .one .keep), (12, .one (.data (.int .i64)))], vars := [], arrs := [(0, .arr 48 (.pair (.str) (.pair (.str) (.pair (.str) (.pair (.str) (.pair (.int .i64) (.int .i64)))))))] }, [{ e := .x 4, j := { regs := [(0, .one (.own 0)), (1, .one .keep), (4, .one .keep), (11, .one .keep), (12, .one (.data (.int .i64)))], vars := [], arrs := [(0, .arr 48 (.pair (.str) (.pair (.str) (.pair (.str) (.pair (.str) (.pair (.int .i64) (.int .i64)))))))] } }])) (.mk [] none (.mk [] none (.mk [.join [{ e := .n, j := { regs := [(0, .one (.own 0)), (1, .one .keep), (4, .one .keep), (11, .one .keep), (12, .one .keep), (65, .one (.data (.bool)))], vars := [], arrs := [(0, .arr 48 (.pair (.str) (.pair (.str) (.pair (.str) (.pair (.str) (.pair (.int .i64) (.int .i64)))))))] } }]] none .nil .nil) .nil) .nil) .nil) .nil) .nil)) .nil) .nil) .nil) .nil)))))
    Tryd.func85 rfl nmr85 rfl rfl rfl rfl types_ok ⟨trivial, trivial⟩ mx (fun x => by kernel_rfl)

noncomputable def slices_partitionCmpFunc_api_Nomination_L0 (a : Int) (b : Int) (cmp : (List UInt8 × List UInt8 × List UInt8 × List UInt8 × Int × Int) × (List UInt8 × List UInt8 × List UInt8 × List UInt8 × Int × Int) × Unit → Option Int) (i : Int) (data2 : List (List UInt8 × List UInt8 × List UInt8 × List UInt8 × Int × Int)) : Option ((Int × List (List UInt8 × List UInt8 × List UInt8 × List UInt8 × Int × Int)) ⊕ (Int × List (List UInt8 × List UInt8 × List UInt8 × List UInt8 × Int × Int))) :=
  Option.bind (α := Bool × List (List UInt8 × List UInt8 × List UInt8 × List UInt8 × Int × Int)) (
    bif decide (i ≤ wi64 (b - 1)) then (
     gd (inB i data2.length) <|
     gd (inB a data2.length) <|
     (cmp (data2.getD i.toNat ([], ([], ([], ([], (0, 0))))), data2.getD a.toNat ([], ([], ([], ([], (0, 0))))), ())).bind fun r =>
     some (decide (r < 0), data2))
    else (
     some (false, data2))) fun s =>
  bif s.1 then (
   some (.inl (wi64 (i + 1), s.2)))
  else (
   some (.inr (i, s.2)))

noncomputable def slices_partitionCmpFunc_api_Nomination_L1 (a : Int) (cmp : (List UInt8 × List UInt8 × List UInt8 × List UInt8 × Int × Int) × (List UInt8 × List UInt8 × List UInt8 × List UInt8 × Int × Int) × Unit → Option Int) (s2 : Int × List (List UInt8 × List UInt8 × List UInt8 × List UInt8 × Int × Int)) (j : Int) (data3 : List (List UInt8 × List UInt8 × List UInt8 × List UInt8 × Int × Int)) : Option ((Int × List (List UInt8 × List UInt8 × List UInt8 × List UInt8 × Int × Int)) ⊕ (Int × List (List UInt8 × List UInt8 × List UInt8 × List UInt8 × Int × Int))) :=
  Option.bind (α := Bool × List (List UInt8 × List UInt8 × List UInt8 × List UInt8 × Int × Int)) (
    bif decide (s2.1 ≤ j) then (
     gd (inB j data3.length) <|
     gd (inB a data3.length) <|
     (cmp (data3.getD j.toNat ([], ([], ([], ([], (0, 0))))), data3.getD a.toNat ([], ([], ([], ([], (0, 0))))), ())).bind fun r2 =>
     some ((!(decide (r2 < 0))), data3))
    else (
     some (false, data3))) fun s3 =>
  bif s3.1 then (
   some (.inl (wi64 (j - 1), s3.2)))
  else (
   some (.inr (j, s3.2)))

noncomputable def slices_partitionCmpFunc_api_Nomination_L3 (a : Int) (cmp : (List UInt8 × List UInt8 × List UInt8 × List UInt8 × Int × Int) × (List UInt8 × List UInt8 × List UInt8 × List UInt8 × Int × Int) × Unit → Option Int) (j2 : Int) (i3 : Int) (data5 : List (List UInt8 × List UInt8 × List UInt8 × List UInt8 × Int × Int)) : Option ((Int × List (List UInt8 × List UInt8 × List UInt8 × List UInt8 × Int × Int)) ⊕ (Int × List (List UInt8 × List UInt8 × List UInt8 × List UInt8 × Int × Int))) :=
  Option.bind (α := Bool × List (List UInt8 × List UInt8 × List UInt8 × List UInt8 × Int × Int)) (
    bif decide (i3 ≤ j2) then (
     gd (inB i3 data5.length) <|
     gd (inB a data5.length) <|
     (cmp (data5.getD i3.toNat ([], ([], ([], ([], (0, 0))))), data5.getD a.toNat ([], ([], ([], ([], (0, 0))))), ())).bind fun r3 =>
     some (decide (r3 < 0), data5))
    else (
     some (false, data5))) fun s5 =>
  bif s5.1 then (
   some (.inl (wi64 (i3 + 1), s5.2)))
  else (
   some (.inr (i3, s5.2)))

noncomputable def slices_partitionCmpFunc_api_Nomination_L4 (a : Int) (cmp : (List UInt8 × List UInt8 × List UInt8 × List UInt8 × Int × Int) × (List UInt8 × List UInt8 × List UInt8 × List UInt8 × Int × Int) × Unit → Option Int) (s6 : Int × List (List UInt8 × List UInt8 × List UInt8 × List UInt8 × Int × Int)) (j3 : Int) (data6 : List (List UInt8 × List UInt8 × List UInt8 × List UInt8 × Int × Int)) : Option ((Int × List (List UInt8 × List UInt8 × List UInt8 × List UInt8 × Int × Int)) ⊕ (Int × List (List UInt8 × List UInt8 × List UInt8 × List UInt8 × Int × Int))) :=
  Option.bind (α := Bool × List (List UInt8 × List UInt8 × List UInt8 × List UInt8 × Int × Int)) (
    bif decide (s6.1 ≤ j3) then (
     gd (inB j3 data6.length) <|
     gd (inB a data6.length) <|
     (cmp (data6.getD j3.toNat ([], ([], ([], ([], (0, 0))))), data6.getD a.toNat ([], ([], ([], ([], (0, 0))))), ())).bind fun r4 =>
     some ((!(decide (r4 < 0))), data6))
    else (
     some (false, data6))) fun s7 =>
  bif s7.1 then (
   some (.inl (wi64 (j3 - 1), s7.2)))
  else (
   some (.inr (j3, s7.2)))

noncomputable def slices_partitionCmpFunc_api_Nomination_L2 (a : Int) (cmp : (List UInt8 × List UInt8 × List UInt8 × List UInt8 × Int × Int) × (List UInt8 × List UInt8 × List UInt8 × List UInt8 × Int × Int) × Unit → Option Int) (i2 : Int) (j2 : Int) (data4 : List (List UInt8 × List UInt8 × List UInt8 × List UInt8 × Int × Int)) : Option ((Int × Int × List (List UInt8 × List UInt8 × List UInt8 × List UInt8 × Int × Int)) ⊕ (Int × List (List UInt8 × List UInt8 × List UInt8 × List UInt8 × Int × Int))) :=
  (iter (fun x3 => slices_partitionCmpFunc_api_Nomination_L3 a cmp j2 x3.1 x3.2) (i2, data4)).bind fun s6 =>
  (iter (fun x4 => slices_partitionCmpFunc_api_Nomination_L4 a cmp s6 x4.1 x4.2) (j2, s6.2)).bind fun s8 =>
  bif decide (s8.1 < s6.1) then (
   some (.inr (s8.1, s8.2)))
  else (
   gd (inB s8.1 s8.2.length) <|
   gd (inB s6.1 s8.2.length) <|
   gd (inB s6.1 s8.2.length) <|
   gd (inB s8.1 (s8.2.set s6.1.toNat (s8.2.getD s8.1.toNat ([], ([], ([], ([], (0, 0))))))).length) <|
   some (.inl (wi64 (s6.1 + 1), wi64 (s8.1 - 1), (s8.2.set s6.1.toNat (s8.2.getD s8.1.toNat ([], ([], ([], ([], (0, 0))))))).set s8.1.toNat (s8.2.getD s6.1.toNat ([], ([], ([], ([], (0, 0)))))))))

noncomputable def slices_partitionCmpFunc_api_Nomination (a : Int) (b : Int) (pivot : Int) (cmp : (List UInt8 × List UInt8 × List UInt8 × List UInt8 × Int × Int) × (List UInt8 × List UInt8 × List UInt8 × List UInt8 × Int × Int) × Unit → Option Int) (data : List (List UInt8 × List UInt8 × List UInt8 × List UInt8 × Int × Int)) : Option (Int × Bool × List (List UInt8 × List UInt8 × List UInt8 × List UInt8 × Int × Int)) :=
  gd (inB pivot data.length) <|
  gd (inB a data.length) <|
  gd (inB a data.length) <|
  gd (inB pivot (data.set a.toNat (data.getD pivot.toNat ([], ([], ([], ([], (0, 0))))))).length) <|
  (iter (fun x => slices_partitionCmpFunc_api_Nomination_L0 a b cmp x.1 x.2) (wi64 (a + 1), (data.set a.toNat (data.getD pivot.toNat ([], ([], ([], ([], (0, 0))))))).set pivot.toNat (data.getD a.toNat ([], ([], ([], ([], (0, 0)))))))).bind fun s2 =>
  (iter (fun x2 => slices_partitionCmpFunc_api_Nomination_L1 a cmp s2 x2.1 x2.2) (wi64 (b - 1), s2.2)).bind fun s4 =>
  bif decide (s4.1 < s2.1) then (
   gd (inB a s4.2.length) <|
   gd (inB s4.1 s4.2.length) <|
   gd (inB s4.1 s4.2.length) <|
   gd (inB a (s4.2.set s4.1.toNat (s4.2.getD a.toNat ([], ([], ([], ([], (0, 0))))))).length) <|
   some (s4.1, true, (s4.2.set s4.1.toNat (s4.2.getD a.toNat ([], ([], ([], ([], (0, 0))))))).set a.toNat (s4.2.getD s4.1.toNat ([], ([], ([], ([], (0, 0))))))))
  else (
   gd (inB s4.1 s4.2.length) <|
   gd (inB s2.1 s4.2.length) <|
   gd (inB s2.1 s4.2.length) <|
   gd (inB s4.1 (s4.2.set s2.1.toNat (s4.2.getD s4.1.toNat ([], ([], ([], ([], (0, 0))))))).length) <|
   (iter (fun x5 => slices_partitionCmpFunc_api_Nomination_L2 a cmp x5.1 x5.2.1 x5.2.2) (wi64 (s2.1 + 1), wi64 (s4.1 - 1), (s4.2.set s2.1.toNat (s4.2.getD s4.1.toNat ([], ([], ([], ([], (0, 0))))))).set s4.1.toNat (s4.2.getD s2.1.toNat ([], ([], ([], ([], (0, 0)))))))).bind fun s9 =>
   gd (inB a s9.2.length) <|
   gd (inB s9.1 s9.2.length) <|
   gd (inB s9.1 s9.2.length) <|
   gd (inB a (s9.2.set s9.1.toNat (s9.2.getD a.toNat ([], ([], ([], ([], (0, 0))))))).length) <|
   some (s9.1, false, (s9.2.set s9.1.toNat (s9.2.getD a.toNat ([], ([], ([], ([], (0, 0))))))).set a.toNat (s9.2.getD s9.1.toNat ([], ([], ([], ([], (0, 0))))))))

noncomputable def fn_slices_partitionCmpFunc_api_Nomination : Fun :=
  { f := 86, np := 5, nr := 2,
    ji := { regs := [(0, .one (.own 0)), (1, .one (.data (.int .i64))), (2, .one (.data (.int .i64))), (3, .one (.data (.int .i64))), (4, .one (.fn [.pair (.str) (.pair (.str) (.pair (.str) (.pair (.str) (.pair (.int .i64) (.int .i64))))), .pair (.str) (.pair (.str) (.pair (.str) (.pair (.str) (.pair (.int .i64) (.int .i64)))))] (.int .i64)))], vars := [], arrs := [(0, .arr 48 (.pair (.str) (.pair (.str) (.pair (.str) (.pair (.str) (.pair (.int .i64) (.int .i64)))))))] },
    jo := { regs := [(0, .one (.data (.int .i64))), (1, .one (.data (.bool)))], vars := [], arrs := [(0, .arr 48 (.pair (.str) (.pair (.str) (.pair (.str) (.pair (.str) (.pair (.int .i64) (.int .i64)))))))] },
    tw := fun x => slices_partitionCmpFunc_api_Nomination x.1 x.2.1 x.2.2.1 x.2.2.2.1 x.2.2.2.2 }
noncomputable def cx_slices_partitionCmpFunc_api_Nomination : Cx := { Γ := types, ow := [], fs := [], N := 178 }
theorem ok_slices_partitionCmpFunc_api_Nomination : FunOk Tryd.prog fn_slices_partitionCmpFunc_api_Nomination :=
  FunOk.intro (C := cx_slices_partitionCmpFunc_api_Nomination) (p := (.mk [] none .nil (.mk [] none .nil (.mk [] none .nil (.mk [] none (.mk [] none (.mk [] (some ({ regs := [(0, .one (.own 0)), (1, .one .keep), (4, .one .keep), (12, .one (.data (.int .i64))), (13, .one .keep)], vars := [], arrs := [(0, .arr 48 (.pair (.str) (.pair (.str) (.pair (.str) (.pair (.str) (.pair (.int .i64) (.int .i64)))))))] }, [{ e := .x 0, j := { regs := [(0, .one (.own 0)), (1, .one .keep), (4, .one .keep), (12, .one (.data (.int .i64))), (13, .one .keep)], vars := [], arrs := [(0, .arr 48 (.pair (.str) (.pair (.str) (.pair (.str) (.pair (.str) (.pair (.int .i64) (.int .i64)))))))] } }])) (.mk [] none (.mk [] none (.mk [.join [{ e := .n, j := { regs := [(0, .one (.own 0)), (1, .one .keep), (4, .one .keep), (12, .one .keep), (13, .one .keep), (47, .one (.data (.bool)))], vars := [], arrs := [(0, .arr 48 (.pair (.str) (.pair (.str) (.pair (.str) (.pair (.str) (.pair (.int .i64) (.int .i64)))))))] } }]] none .nil .nil) .nil) .nil) .nil) .nil) (.mk [] none (.mk [] none (.mk [] (some ({ regs := [(0, .one (.own 0)), (1, .one .keep), (4, .one .keep), (12, .one .keep), (13, .one (.data (.int .i64)))], vars := [], arrs := [(0, .arr 48 (.pair (.str) (.pair (.str) (.pair (.str) (.pair (.str) (.pair (.int .i64) (.int .i64)))))))] }, [{ e := .x 2, j := { regs := [(0, .one (.own 0)), (1, .one .keep), (4, .one .keep), (12, .one .keep), (13, .one (.data (.int .i64)))], vars := [], arrs := [(0, .arr 48 (.pair (.str) (.pair (.str) (.pair (.str) (.pair (.str) (.pair (.int .i64) (.int .i64)))))))] } }])) (.mk [] none (.mk [] none (.mk [.join [{ e := .n, j := { regs := [(0, .one (.own 0)), (1, .one .keep), (4, .one .keep), (12, .one .keep), (13, .one .keep), (66, .one (.data (.bool)))], vars := [], arrs := [(0, .arr 48 (.pair (.str) (.pair (.str) (.pair (.str) (.pair (.str) (.pair (.int .i64) (.int .i64)))))))] } }]] none .nil .nil) .nil) .nil) .nil) .nil) (.mk [] none .nil (.mk [] none .nil (.mk [] none .nil (.mk [] none .nil (.mk [] none (.mk [] none (.mk [] (some ({ regs := [(0, .one (.own 0)), (1, .one .keep), (4, .one .keep), (12, .one (.data (.int .i64))), (13, .one (.data (.int .i64)))], vars := [], arrs := [(0, .arr 48 (.pair (.str) (.pair (.str) (.pair (.str) (.pair (.str) (.pair (.int .i64) (.int .i64)))))))] }, [{ e := .x 4, j := { regs := [(0, .one (.own 0)), (1, .one .keep), (13, .one (.data (.int .i64)))], vars := [], arrs := [(0, .arr 48 (.pair (.str) (.pair (.str) (.pair (.str) (.pair (.str) (.pair (.int .i64) (.int .i64)))))))] } }])) (.mk [] none (.mk [] none (.mk [] none (.mk [] (some ({ regs := [(0, .one (.own 0)), (1, .one .keep), (4, .one .keep), (12, .one (.data (.int .i64))), (13, .one .keep)], vars := [], arrs := [(0, .arr 48 (.pair (.str) (.pair (.str) (.pair (.str) (.pair (.str) (.pair (.int .i64) (.int .i64)))))))] }, [{ e := .x 6, j := { regs := [(0, .one (.own 0)), (1, .one .keep), (4, .one .keep), (12, .one (.data (.int .i64))), (13, .one .keep)], vars := [], arrs := [(0, .arr 48 (.pair (.str) (.pair (.str) (.pair (.str) (.pair (.str) (.pair (.int .i64) (.int .i64)))))))] } }])) (.mk [] none (.mk [] none (.mk [.join [{ e := .n, j := { regs := [(0, .one (.own 0)), (1, .one .keep), (4, .one .keep), (12, .one .keep), (13, .one .keep), (120, .one (.data (.bool)))], vars := [], arrs := [(0, .arr 48 (.pair (.str) (.pair (.str) (.pair (.str) (.pair (.str) (.pair (.int .i64) (.int .i64)))))))] } }]] none .nil .nil) .nil) .nil) .nil) .nil) (.mk [] none (.mk [] none (.mk [] (some ({ regs := [(0, .one (.own 0)), (1, .one .keep), (4, .one .keep), (12, .one .keep), (13, .one (.data (.int .i64)))], vars := [], arrs := [(0, .arr 48 (.pair (.str) (.pair (.str) (.pair (.str) (.pair (.str) (.pair (.int .i64) (.int .i64)))))))] }, [{ e := .x 8, j := { regs := [(0, .one (.own 0)), (1, .one .keep), (4, .one .keep), (12, .one .keep), (13, .one (.data (.int .i64)))], vars := [], arrs := [(0, .arr 48 (.pair (.str) (.pair (.str) (.pair (.str) (.pair (.str) (.pair (.int .i64) (.int .i64)))))))] } }])) (.mk [] none (.mk [] none (.mk [.join [{ e := .n, j := { regs := [(0, .one (.own 0)), (1, .one .keep), (4, .one .keep), (12, .one .keep), (13, .one .keep), (139, .one (.data (.bool)))], vars := [], arrs := [(0, .arr 48 (.pair (.str) (.pair (.str) (.pair (.str) (.pair (.str) (.pair (.int .i64) (.int .i64)))))))] } }]] none .nil .nil) .nil) .nil) .nil) .nil) .nil)) .nil) .nil) .nil) .nil)))))))))))
    Tryd.func86 rfl nmr86 rfl rfl rfl rfl types_ok ⟨trivial, trivial⟩ mx (fun x => by kernel_rfl)

noncomputable def slices_pdqsortCmpFunc_api_Nomination_L0 (cmp : (List UInt8 × List UInt8 × List UInt8 × List UInt8 × Int × Int) × (List UInt8 × List UInt8 × List UInt8 × List UInt8 × Int × Int) × Unit → Option Int) (rec : Int → Int → Int → ((List UInt8 × List UInt8 × List UInt8 × List UInt8 × Int × Int) × (List UInt8 × List UInt8 × List UInt8 × List UInt8 × Int × Int) × Unit → Option Int) → List (List UInt8 × List UInt8 × List UInt8 × List UInt8 × Int × Int) → Option (List (List UInt8 × List UInt8 × List UInt8 × List UInt8 × Int × Int))) (a2 : Int) (b2 : Int) (limit2 : Int) (wasBalanced : Bool) (wasPartitioned : Bool) (data2 : List (List UInt8 × List UInt8 × List UInt8 × List UInt8 × Int × Int)) : Option ((Int × Int × Int × Bool × Bool × List (List UInt8 × List UInt8 × List UInt8 × List UInt8 × Int × Int)) ⊕ (List (List UInt8 × List UInt8 × List UInt8 × List UInt8 × Int × Int))) :=
  bif decide (wi64 (b2 - a2) ≤ 12) then (
   (slices_insertionSortCmpFunc_api_Nomination a2 b2 cmp data2).bind fun r =>
   some (.inr r))
  else (
   bif decide (limit2 = 0) then (
    (slices_heapSortCmpFunc_api_Nomination a2 b2 cmp data2).bind fun r2 =>
    some (.inr r2))
   else (
    Option.bind (α := Int × List (List UInt8 × List UInt8 × List UInt8 × List UInt8 × Int × Int)) (
      bif !wasBalanced then (
       (slices_breakPatternsCmpFunc_api_Nomination a2 b2 cmp data2).bind fun r3 =>
       some (wi64 (limit2 - 1), r3))
      else (
       some (limit2, data2))) fun s =>
    (slices_choosePivotCmpFunc_api_Nomination s.2 a2 b2 cmp).bind fun r4 =>
    Option.bind (α := Int × Int × List (List UInt8 × List UInt8 × List UInt8 × List UInt8 × Int × Int)) (
      bif decide (r4.2 = 2) then (
       (slices_reverseRangeCmpFunc_api_Nomination a2 b2 cmp s.2).bind fun r5 =>
       some (wi64 ((wi64 (b2 - 1)) - (wi64 (r4.1 - a2))), 1, r5))
      else (
       some (r4.1, r4.2, s.2))) fun s2 =>
    Option.bind (α := Bool × List (List UInt8 × List UInt8 × List UInt8 × List UInt8 × Int × Int)) (
      bif wasBalanced then (
       bif wasPartitioned then (
        some (decide (s2.2.1 = 1), s2.2.2))
       else (
        some (false, s2.2.2)))
      else (
       some (false, s2.2.2))) fun s3 =>
    Option.bind (α := (List (List UInt8 × List UInt8 × List UInt8 × List UInt8 × Int × Int)) ⊕ (List (List UInt8 × List UInt8 × List UInt8 × List UInt8 × Int × Int))) (
      bif s3.1 then (
       (slices_partialInsertionSortCmpFunc_api_Nomination a2 b2 cmp s3.2).bind fun r6 =>
       bif r6.1 then (
        some (.inr r6.2))
       else (
        some (.inl r6.2)))
      else (
       some (.inl s3.2))) fun s4 =>
    s4.elim (fun s5 =>
     Option.bind (α := Bool × List (List UInt8 × List UInt8 × List UInt8 × List UInt8 × Int × Int)) (
       bif decide (0 < a2) then (
        gd (inB (wi64 (a2 - 1)) s5.length) <|
        gd (inB s2.1 s5.length) <|
        (cmp (s5.getD ((wi64 (a2 - 1)).toNat) ([], ([], ([], ([], (0, 0))))), s5.getD s2.1.toNat ([], ([], ([], ([], (0, 0))))), ())).bind fun r7 =>
        some ((!(decide (r7 < 0))), s5))
       else (
        some (false, s5))) fun s7 =>
     bif s7.1 then (
      (slices_partitionEqualCmpFunc_api_Nomination a2 b2 s2.1 cmp s7.2).bind fun r8 =>
      some (.inl (r8.1, b2, s.1, wasBalanced, wasPartitioned, r8.2)))
     else (
      (slices_partitionCmpFunc_api_Nomination a2 b2 s2.1 cmp s7.2).bind fun r9 =>
      bif decide (wi64 (r9.1 - a2) < wi64 (b2 - r9.1)) then (
       (rec a2 r9.1 s.1 cmp r9.2.2).bind fun r10 =>
       some (.inl (wi64 (r9.1 + 1), b2, s.1, decide (wi64 (Int.tdiv (wi64 (b2 - a2)) 8) ≤ wi64 (r9.1 - a2)), r9.2.1, r10)))
      else (
       (rec (wi64 (r9.1 + 1)) b2 s.1 cmp r9.2.2).bind fun r11 =>
       some (.inl (a2, r9.1, s.1, decide (wi64 (Int.tdiv (wi64 (b2 - a2)) 8) ≤ wi64 (b2 - r9.1)), r9.2.1, r11)))))
    (fun s6 =>
     some (.inr s6))))

noncomputable def slices_pdqsortCmpFunc_api_Nomination_S (rec : Int → Int → Int → ((List UInt8 × List UInt8 × List UInt8 × List UInt8 × Int × Int) × (List UInt8 × List UInt8 × List UInt8 × List UInt8 × Int × Int) × Unit → Option Int) → List (List UInt8 × List UInt8 × List UInt8 × List UInt8 × Int × Int) → Option (List (List UInt8 × List UInt8 × List UInt8 × List UInt8 × Int × Int))) (a : Int) (b : Int) (limit : Int) (cmp : (List UInt8 × List UInt8 × List UInt8 × List UInt8 × Int × Int) × (List UInt8 × List UInt8 × List UInt8 × List UInt8 × Int × Int) × Unit → Option Int) (data : List (List UInt8 × List UInt8 × List UInt8 × List UInt8 × Int × Int)) : Option (List (List UInt8 × List UInt8 × List UInt8 × List UInt8 × Int × Int)) :=
  (iter (fun x => slices_pdqsortCmpFunc_api_Nomination_L0 cmp rec x.1 x.2.1 x.2.2.1 x.2.2.2.1 x.2.2.2.2.1 x.2.2.2.2.2) (a, b, limit, true, true, data)).bind fun s8 =>
  some s8

noncomputable def slices_pdqsortCmpFunc_api_Nomination_F : Nat → Int → Int → Int → ((List UInt8 × List UInt8 × List UInt8 × List UInt8 × Int × Int) × (List UInt8 × List UInt8 × List UInt8 × List UInt8 × Int × Int) × Unit → Option Int) → List (List UInt8 × List UInt8 × List UInt8 × List UInt8 × Int × Int) → Option (List (List UInt8 × List UInt8 × List UInt8 × List UInt8 × Int × Int))
  | 0 => fun _ _ _ _ _ => none
  | n + 1 => slices_pdqsortCmpFunc_api_Nomination_S (slices_pdqsortCmpFunc_api_Nomination_F n)

noncomputable def slices_pdqsortCmpFunc_api_Nomination (a : Int) (b : Int) (limit : Int) (cmp : (List UInt8 × List UInt8 × List UInt8 × List UInt8 × Int × Int) × (List UInt8 × List UInt8 × List UInt8 × List UInt8 × Int × Int) × Unit → Option Int) (data : List (List UInt8 × List UInt8 × List UInt8 × List UInt8 × Int × Int)) : Option (List (List UInt8 × List UInt8 × List UInt8 × List UInt8 × Int × Int)) := slices_pdqsortCmpFunc_api_Nomination_F 18446744073709551616 a b limit cmp data

noncomputable def fn_slices_pdqsortCmpFunc_api_Nomination_F (n : Nat) : Fun :=
  { f := 66, np := 5, nr := 0,
    ji := { regs := [(0, .one (.own 0)), (1, .one (.data (.int .i64))), (2, .one (.data (.int .i64))), (3, .one (.data (.int .i64))), (4, .one (.fn [.pair (.str) (.pair (.str) (.pair (.str) (.pair (.str) (.pair (.int .i64) (.int .i64))))), .pair (.str) (.pair (.str) (.pair (.str) (.pair (.str) (.pair (.int .i64) (.int .i64)))))] (.int .i64)))], vars := [], arrs := [(0, .arr 48 (.pair (.str) (.pair (.str) (.pair (.str) (.pair (.str) (.pair (.int .i64) (.int .i64)))))))] },
    jo := { regs := [], vars := [], arrs := [(0, .arr 48 (.pair (.str) (.pair (.str) (.pair (.str) (.pair (.str) (.pair (.int .i64) (.int .i64)))))))] },
    tw := fun x => slices_pdqsortCmpFunc_api_Nomination_F n x.1 x.2.1 x.2.2.1 x.2.2.2.1 x.2.2.2.2 }
noncomputable def fn_slices_pdqsortCmpFunc_api_Nomination : Fun := fn_slices_pdqsortCmpFunc_api_Nomination_F 18446744073709551616
noncomputable def cx_slices_pdqsortCmpFunc_api_Nomination (n : Nat) : Cx := { Γ := types, ow := [], fs := [fn_slices_insertionSortCmpFunc_api_Nomination, fn_slices_heapSortCmpFunc_api_Nomination, fn_slices_breakPatternsCmpFunc_api_Nomination, fn_slices_choosePivotCmpFunc_api_Nomination, fn_slices_reverseRangeCmpFunc_api_Nomination, fn_slices_partialInsertionSortCmpFunc_api_Nomination, fn_slices_partitionEqualCmpFunc_api_Nomination, fn_slices_partitionCmpFunc_api_Nomination, fn_slices_pdqsortCmpFunc_api_Nomination_F n], N := 148 }
theorem ok_slices_pdqsortCmpFunc_api_Nomination_F : ∀ n : Nat, FunOk Tryd.prog (fn_slices_pdqsortCmpFunc_api_Nomination_F n)
  | 0 => FunOk.nothing Tryd.func66 rfl nmr66 (fun x => rfl)
  | n + 1 => FunOk.intro (C := cx_slices_pdqsortCmpFunc_api_Nomination n) (p := (.mk [] none .nil (.mk [] none .nil (.mk [] none (.mk [] (some ({ regs := [(0, .one (.own 0)), (1, .one (.data (.int .i64))), (2, .one (.data (.int .i64))), (3, .one (.data (.int .i64))), (4, .one .keep), (10, .one (.data (.bool))), (11, .one (.data (.bool)))], vars := [], arrs := [(0, .arr 48 (.pair (.str) (.pair (.str) (.pair (.str) (.pair (.str) (.pair (.int .i64) (.int .i64)))))))] }, [{ e := .r, j := { regs := [], vars := [], arrs := [(0, .arr 48 (.pair (.str) (.pair (.str) (.pair (.str) (.pair (.str) (.pair (.int .i64) (.int .i64)))))))] } }])) (.mk [] none (.mk [] none .nil (.mk [] none .nil (.mk [] none .nil (.mk [] none (.mk [] none .nil (.mk [.join [{ e := .n, j := { regs := [(0, .one (.own 0)), (1, .one .keep), (2, .one .keep), (3, .one (.data (.int .i64))), (4, .one .keep), (10, .one .keep), (11, .one .keep), (12, .one .keep)], vars := [], arrs := [(0, .arr 48 (.pair (.str) (.pair (.str) (.pair (.str) (.pair (.str) (.pair (.int .i64) (.int .i64)))))))] } }]] none .nil .nil)) (.mk [] none .nil (.mk [] none (.mk [] none .nil (.mk [.join [{ e := .n, j := { regs := [(0, .one (.own 0)), (1, .one .keep), (2, .one .keep), (3, .one .keep), (4, .one .keep), (10, .one .keep), (11, .one .keep), (12, .one .keep), (13, .one (.data (.int .i64))), (14, .one (.data (.int .i64)))], vars := [], arrs := [(0, .arr 48 (.pair (.str) (.pair (.str) (.pair (.str) (.pair (.str) (.pair (.int .i64) (.int .i64)))))))] } }]] none .nil .nil)) (.mk [] none (.mk [] none (.mk [.join [{ e := .n, j := { regs := [(0, .one (.own 0)), (1, .one .keep), (2, .one .keep), (3, .one .keep), (4, .one .keep), (10, .one .keep), (11, .one .keep), (12, .one .keep), (13, .one .keep), (75, .one (.data (.bool)))], vars := [], arrs := [(0, .arr 48 (.pair (.str) (.pair (.str) (.pair (.str) (.pair (.str) (.pair (.int .i64) (.int .i64)))))))] } }]] none .nil .nil) (.mk [.join [{ e := .n, j := { regs := [(0, .one (.own 0)), (1, .one .keep), (2, .one .keep), (3, .one .keep), (4, .one .keep), (10, .one .keep), (11, .one .keep), (12, .one .keep), (13, .one .keep)], vars := [], arrs := [(0, .arr 48 (.pair (.str) (.pair (.str) (.pair (.str) (.pair (.str) (.pair (.int .i64) (.int .i64)))))))] } }, { e := .r, j := { regs := [], vars := [], arrs := [(0, .arr 48 (.pair (.str) (.pair (.str) (.pair (.str) (.pair (.str) (.pair (.int .i64) (.int .i64)))))))] } }]] none .nil .nil)) (.mk [] none (.mk [] none (.mk [.join [{ e := .n, j := { regs := [(0, .one (.own 0)), (1, .one .keep), (2, .one .keep), (3, .one .keep), (4, .one .keep), (10, .one .keep), (11, .one .keep), (12, .one .keep), (13, .one .keep), (97, .one (.data (.bool)))], vars := [], arrs := [(0, .arr 48 (.pair (.str) (.pair (.str) (.pair (.str) (.pair (.str) (.pair (.int .i64) (.int .i64)))))))] } }]] none .nil .nil) .nil) .nil)))))))) .nil) .nil) .nil))))
    Tryd.func66 rfl nmr66 rfl rfl rfl rfl types_ok ⟨⟨ok_slices_insertionSortCmpFunc_api_Nomination, ok_slices_heapSortCmpFunc_api_Nomination, ok_slices_breakPatternsCmpFunc_api_Nomination, ok_slices_choosePivotCmpFunc_api_Nomination, ok_slices_reverseRangeCmpFunc_api_Nomination, ok_slices_partialInsertionSortCmpFunc_api_Nomination, ok_slices_partitionEqualCmpFunc_api_Nomination, ok_slices_partitionCmpFunc_api_Nomination, ok_slices_pdqsortCmpFunc_api_Nomination_F n, trivial⟩, trivial⟩ mx (fun x => by kernel_rfl)
theorem ok_slices_pdqsortCmpFunc_api_Nomination : FunOk Tryd.prog fn_slices_pdqsortCmpFunc_api_Nomination := ok_slices_pdqsortCmpFunc_api_Nomination_F 18446744073709551616

noncomputable def slices_SortFunc_api_Nomination_api_Nomination (cmp : (List UInt8 × List UInt8 × List UInt8 × List UInt8 × Int × Int) × (List UInt8 × List UInt8 × List UInt8 × List UInt8 × Int × Int) × Unit → Option Int) (x : List (List UInt8 × List UInt8 × List UInt8 × List UInt8 × Int × Int)) : Option (List (List UInt8 × List UInt8 × List UInt8 × List UInt8 × Int × Int)) :=
  (math_bits_Len (wu64 (x.length : Int))).bind fun r =>
  (slices_pdqsortCmpFunc_api_Nomination 0 (x.length : Int) r cmp x).bind fun r2 =>
  some r2

noncomputable def fn_slices_SortFunc_api_Nomination_api_Nomination : Fun :=
  { f := 38, np := 2, nr := 0,
    ji := { regs := [(0, .one (.own 0)), (1, .one (.fn [.pair (.str) (.pair (.str) (.pair (.str) (.pair (.str) (.pair (.int .i64) (.int .i64))))), .pair (.str) (.pair (.str) (.pair (.str) (.pair (.str) (.pair (.int .i64) (.int .i64)))))] (.int .i64)))], vars := [], arrs := [(0, .arr 48 (.pair (.str) (.pair (.str) (.pair (.str) (.pair (.str) (.pair (.int .i64) (.int .i64)))))))] },
    jo := { regs := [], vars := [], arrs := [(0, .arr 48 (.pair (.str) (.pair (.str) (.pair (.str) (.pair (.str) (.pair (.int .i64) (.int .i64)))))))] },
    tw := fun x => slices_SortFunc_api_Nomination_api_Nomination x.1 x.2 }
noncomputable def cx_slices_SortFunc_api_Nomination_api_Nomination : Cx := { Γ := types, ow := [], fs := [fn_math_bits_Len, fn_slices_pdqsortCmpFunc_api_Nomination], N := 14 }
theorem ok_slices_SortFunc_api_Nomination_api_Nomination : FunOk Tryd.prog fn_slices_SortFunc_api_Nomination_api_Nomination :=
  FunOk.intro (C := cx_slices_SortFunc_api_Nomination_api_Nomination) (p := .nil)
    Tryd.func38 rfl nmr38 rfl rfl rfl rfl types_ok ⟨⟨ok_math_bits_Len, ok_slices_pdqsortCmpFunc_api_Nomination, trivial⟩, trivial⟩ mx (fun x => by kernel_rfl)

noncomputable def cmp_isNaN_int (x : Int) : Option (Bool) :=
  some (!decide (x = x))

noncomputable def fn_cmp_isNaN_int : Fun :=
  { f := 47, np := 1, nr := 1,
    ji := { regs := [(0, .one (.data (.int .i64)))], vars := [], arrs := [] },
    jo := { regs := [(0, .one (.data (.bool)))], vars := [], arrs := [] },
    tw := fun x => cmp_isNaN_int x }
noncomputable def cx_cmp_isNaN_int : Cx := { Γ := types, ow := [], fs := [], N := 6 }
theorem ok_cmp_isNaN_int : FunOk Tryd.prog fn_cmp_isNaN_int :=
  FunOk.intro (C := cx_cmp_isNaN_int) (p := .nil)
    Tryd.func47 rfl nmr47 rfl rfl rfl rfl types_ok ⟨trivial, trivial⟩ mx (fun x => by kernel_rfl)

noncomputable def cmp_Compare_int (x : Int) (y : Int) : Option (Int) :=
  (cmp_isNaN_int x).bind fun r =>
  (cmp_isNaN_int y).bind fun r2 =>
  bif r then (
   bif r2 then (
    some 0)
   else (
    some (-1)))
  else (
   bif r2 then (
    some 1)
   else (
    bif decide (x < y) then (
     some (-1))
    else (
     bif decide (y < x) then (
      some 1)
     else (
      some 0))))

noncomputable def fn_cmp_Compare_int : Fun :=
  { f := 24, np := 2, nr := 1,
    ji := { regs := [(0, .one (.data (.int .i64))), (1, .one (.data (.int .i64)))], vars := [], arrs := [] },
    jo := { regs := [(0, .one (.data (.int .i64)))], vars := [], arrs := [] },
    tw := fun x => cmp_Compare_int x.1 x.2 }
noncomputable def cx_cmp_Compare_int : Cx := { Γ := types, ow := [], fs := [fn_cmp_isNaN_int], N := 20 }
theorem ok_cmp_Compare_int : FunOk Tryd.prog fn_cmp_Compare_int :=
  FunOk.intro (C := cx_cmp_Compare_int) (p := .nil)
    Tryd.func24 rfl nmr24 rfl rfl rfl rfl types_ok ⟨⟨ok_cmp_isNaN_int, trivial⟩, trivial⟩ mx (fun x => by kernel_rfl)

noncomputable def cmp_isNaN_string (x : List UInt8) : Option (Bool) :=
  some (!decide (x = x))

noncomputable def fn_cmp_isNaN_string : Fun :=
  { f := 48, np := 1, nr := 1,
    ji := { regs := [(0, .one (.data (.str)))], vars := [], arrs := [] },
    jo := { regs := [(0, .one (.data (.bool)))], vars := [], arrs := [] },
    tw := fun x => cmp_isNaN_string x }
noncomputable def cx_cmp_isNaN_string : Cx := { Γ := types, ow := [], fs := [], N := 6 }
theorem ok_cmp_isNaN_string : FunOk Tryd.prog fn_cmp_isNaN_string :=
  FunOk.intro (C := cx_cmp_isNaN_string) (p := .nil)
    Tryd.func48 rfl nmr48 rfl rfl rfl rfl types_ok ⟨trivial, trivial⟩ mx (fun x => by kernel_rfl)

noncomputable def cmp_Compare_string (x : List UInt8) (y : List UInt8) : Option (Int) :=
  (cmp_isNaN_string x).bind fun r =>
  (cmp_isNaN_string y).bind fun r2 =>
  bif r then (
   bif r2 then (
    some 0)
   else (
    some (-1)))
  else (
   bif r2 then (
    some 1)
   else (
    bif Op.bytesLess x y then (
     some (-1))
    else (
     bif !(Op.bytesLess x y || decide (x = y)) then (
      some 1)
     else (
      some 0))))

noncomputable def fn_cmp_Compare_string : Fun :=
  { f := 25, np := 2, nr := 1,
    ji := { regs := [(0, .one (.data (.str))), (1, .one (.data (.str)))], vars := [], arrs := [] },
    jo := { regs := [(0, .one (.data (.int .i64)))], vars := [], arrs := [] },
    tw := fun x => cmp_Compare_string x.1 x.2 }
noncomputable def cx_cmp_Compare_string : Cx := { Γ := types, ow := [], fs := [fn_cmp_isNaN_string], N := 20 }
theorem ok_cmp_Compare_string : FunOk Tryd.prog fn_cmp_Compare_string :=
  FunOk.intro (C := cx_cmp_Compare_string) (p := .nil)
    Tryd.func25 rfl nmr25 rfl rfl rfl rfl types_ok ⟨⟨ok_cmp_isNaN_string, trivial⟩, trivial⟩ mx (fun x => by kernel_rfl)

noncomputable def cmp_Or_int_L0 (vals : List Int) (v : Int) : Option (Int ⊕ (Unit ⊕ Int)) :=
  bif decide (v < (vals.length : Int)) then (
   gd (inB v vals.length) <|
   bif !decide (vals.getD v.toNat 0 = 0) then (
    some (.inr (.inr (vals.getD v.toNat 0))))
   else (
    some (.inl (wi64 (v + 1)))))
  else (
   some (.inr (.inl ())))

noncomputable def cmp_Or_int (vals : List Int) : Option (Int) :=
  (iter (fun x => cmp_Or_int_L0 vals x) 0).bind fun s =>
  s.elim (fun s2 =>
   some 0)
  (fun s3 =>
   some s3)

noncomputable def fn_cmp_Or_int : Fun :=
  { f := 23, np := 1, nr := 1,
    ji := { regs := [(0, .one (.data (.sl (.int .i64))))], vars := [], arrs := [] },
    jo := { regs := [(0, .one (.data (.int .i64)))], vars := [], arrs := [] },
    tw := fun x => cmp_Or_int x }
noncomputable def cx_cmp_Or_int : Cx := { Γ := types, ow := [], fs := [], N := 18 }
theorem ok_cmp_Or_int : FunOk Tryd.prog fn_cmp_Or_int :=
  FunOk.intro (C := cx_cmp_Or_int) (p := (.mk [] none .nil (.mk [] none .nil (.mk [] none (.mk [] none .nil (.mk [] none (.mk [] (some ({ regs := [(3, .one .keep), (6, .one .keep), (7, .one .keep), (8, .one (.data (.int .i64)))], vars := [], arrs := [] }, [{ e := .x 0, j := { regs := [(3, .one .keep)], vars := [], arrs := [] } }, { e := .r, j := { regs := [(2, .one (.data (.int .i64)))], vars := [], arrs := [] } }])) .nil .nil) .nil)) .nil))))
    Tryd.func23 rfl nmr23 rfl rfl rfl rfl types_ok ⟨trivial, trivial⟩ mx (fun x => by kernel_rfl)

noncomputable def nomination_compare (a : List UInt8 × List UInt8 × List UInt8 × List UInt8 × Int × Int) (b : List UInt8 × List UInt8 × List UInt8 × List UInt8 × Int × Int) : Option (Int) :=
  (cmp_Compare_int a.2.2.2.2.1 b.2.2.2.2.1).bind fun r =>
  (cmp_Compare_string a.1 b.1).bind fun r2 =>
  (cmp_Compare_string a.2.1 b.2.1).bind fun r3 =>
  (cmp_Compare_string a.2.2.1 b.2.2.1).bind fun r4 =>
  (cmp_Compare_string a.2.2.2.1 b.2.2.2.1).bind fun r5 =>
  (cmp_Or_int [r, r2, r3, r4, r5]).bind fun r6 =>
  some r6

noncomputable def fn_nomination_compare : Fun :=
  { f := 39, np := 2, nr := 1,
    ji := { regs := [(0, .one (.data (.pair (.str) (.pair (.str) (.pair (.str) (.pair (.str) (.pair (.int .i64) (.int .i64)))))))), (1, .one (.data (.pair (.str) (.pair (.str) (.pair (.str) (.pair (.str) (.pair (.int .i64) (.int .i64))))))))], vars := [], arrs := [] },
    jo := { regs := [(0, .one (.data (.int .i64)))], vars := [], arrs := [] },
    tw := fun x => nomination_compare x.1 x.2 }
noncomputable def cx_nomination_compare : Cx := { Γ := types, ow := [], fs := [fn_cmp_Compare_int, fn_cmp_Compare_string, fn_cmp_Or_int], N := 32 }
theorem ok_nomination_compare : FunOk Tryd.prog fn_nomination_compare :=
  FunOk.intro (C := cx_nomination_compare) (p := .nil)
    Tryd.func39 rfl nmr39 rfl rfl rfl rfl types_ok ⟨⟨ok_cmp_Compare_int, ok_cmp_Compare_string, ok_cmp_Or_int, trivial⟩, trivial⟩ mx (fun x => by kernel_rfl)

noncomputable def nomination_Totals_L0 (l : List (List UInt8 × List UInt8 × List UInt8 × List UInt8 × Int × Int)) (v : Int) (sums : List ((List UInt8 × List UInt8 × List UInt8 × List UInt8 × Int × Int) × Int)) : Option ((Int × List ((List UInt8 × List UInt8 × List UInt8 × List UInt8 × Int × Int) × Int)) ⊕ (List ((List UInt8 × List UInt8 × List UInt8 × List UInt8 × Int × Int) × Int))) :=
  bif decide (v < (l.length : Int)) then (
   gd (inB v l.length) <|
   gd (decide (0 ≤ Int.ofNat (midx kO_0 sums ((l.getD v.toNat ([], ([], ([], ([], (0, 0)))))).1, (((l.getD v.toNat ([], ([], ([], ([], (0, 0)))))).2).1, ((((l.getD v.toNat ([], ([], ([], ([], (0, 0)))))).2).2).1, (((((l.getD v.toNat ([], ([], ([], ([], (0, 0)))))).2).2).2).1, ((((((l.getD v.toNat ([], ([], ([], ([], (0, 0)))))).2).2).2).2).1, 0))))))) && Nat.blt (Int.ofNat (midx kO_0 sums ((l.getD v.toNat ([], ([], ([], ([], (0, 0)))))).1, (((l.getD v.toNat ([], ([], ([], ([], (0, 0)))))).2).1, ((((l.getD v.toNat ([], ([], ([], ([], (0, 0)))))).2).2).1, (((((l.getD v.toNat ([], ([], ([], ([], (0, 0)))))).2).2).2).1, ((((((l.getD v.toNat ([], ([], ([], ([], (0, 0)))))).2).2).2).2).1, 0))))))).toNat (ment kO_0 sums ((l.getD v.toNat ([], ([], ([], ([], (0, 0)))))).1, (((l.getD v.toNat ([], ([], ([], ([], (0, 0)))))).2).1, ((((l.getD v.toNat ([], ([], ([], ([], (0, 0)))))).2).2).1, (((((l.getD v.toNat ([], ([], ([], ([], (0, 0)))))).2).2).2).1, ((((((l.getD v.toNat ([], ([], ([], ([], (0, 0)))))).2).2).2).2).1, 0))))) 0).length) <|
   some (.inl (wi64 (v + 1), mset (ment kO_0 sums ((l.getD v.toNat ([], ([], ([], ([], (0, 0)))))).1, (((l.getD v.toNat ([], ([], ([], ([], (0, 0)))))).2).1, ((((l.getD v.toNat ([], ([], ([], ([], (0, 0)))))).2).2).1, (((((l.getD v.toNat ([], ([], ([], ([], (0, 0)))))).2).2).2).1, ((((((l.getD v.toNat ([], ([], ([], ([], (0, 0)))))).2).2).2).2).1, 0))))) 0) (Int.ofNat (midx kO_0 sums ((l.getD v.toNat ([], ([], ([], ([], (0, 0)))))).1, (((l.getD v.toNat ([], ([], ([], ([], (0, 0)))))).2).1, ((((l.getD v.toNat ([], ([], ([], ([], (0, 0)))))).2).2).1, (((((l.getD v.toNat ([], ([], ([], ([], (0, 0)))))).2).2).2).1, ((((((l.getD v.toNat ([], ([], ([], ([], (0, 0)))))).2).2).2).2).1, 0))))))).toNat (wi64 (((mget kO_0 sums ((l.getD v.toNat ([], ([], ([], ([], (0, 0)))))).1, (((l.getD v.toNat ([], ([], ([], ([], (0, 0)))))).2).1, ((((l.getD v.toNat ([], ([], ([], ([], (0, 0)))))).2).2).1, (((((l.getD v.toNat ([], ([], ([], ([], (0, 0)))))).2).2).2).1, ((((((l.getD v.toNat ([], ([], ([], ([], (0, 0)))))).2).2).2).2).1, 0)))))).getD 0) + ((((((l.getD v.toNat ([], ([], ([], ([], (0, 0)))))).2).2).2).2).2))))))
  else (
   some (.inr sums))

noncomputable def nomination_Totals_L1 (out : List (List UInt8 × List UInt8 × List UInt8 × List UInt8 × Int × Int)) (v2 : List ((List UInt8 × List UInt8 × List UInt8 × List UInt8 × Int × Int) × Int)) : List (Option (((List (List UInt8 × List UInt8 × List UInt8 × List UInt8 × Int × Int)) × List ((List UInt8 × List UInt8 × List UInt8 × List UInt8 × Int × Int) × Int)) ⊕ ((List (List UInt8 × List UInt8 × List UInt8 × List UInt8 × Int × Int)) ⊕ ((List (List UInt8 × List UInt8 × List UInt8 × List UInt8 × Int × Int)) × Int)))) :=
  bif isNilL v2.tail then [
   some (.inr (.inl out))]
  else ((List.range v2.tail.length).map fun i =>
   bif decide (1099511627776 < ((pickAt (([], ([], ([], ([], (0, 0))))), 0) v2.tail i).headD (([], ([], ([], ([], (0, 0))))), 0)).2) then (
    some (.inr (.inr ([], 4))))
   else (
    gd (fits (out.length + 1) 80) <|
    some (.inl (out ++ [((((pickAt (([], ([], ([], ([], (0, 0))))), 0) v2.tail i).headD (([], ([], ([], ([], (0, 0))))), 0)).1).1, (((((pickAt (([], ([], ([], ([], (0, 0))))), 0) v2.tail i).headD (([], ([], ([], ([], (0, 0))))), 0)).1).2).1, ((((((pickAt (([], ([], ([], ([], (0, 0))))), 0) v2.tail i).headD (([], ([], ([], ([], (0, 0))))), 0)).1).2).2).1, (((((((pickAt (([], ([], ([], ([], (0, 0))))), 0) v2.tail i).headD (([], ([], ([], ([], (0, 0))))), 0)).1).2).2).2).1, ((((((((pickAt (([], ([], ([], ([], (0, 0))))), 0) v2.tail i).headD (([], ([], ([], ([], (0, 0))))), 0)).1).2).2).2).2).1, ((pickAt (([], ([], ([], ([], (0, 0))))), 0) v2.tail i).headD (([], ([], ([], ([], (0, 0))))), 0)).2)))))], pickAt (([], ([], ([], ([], (0, 0))))), 0) v2.tail i))))

noncomputable def nomination_Totals (l : List (List UInt8 × List UInt8 × List UInt8 × List UInt8 × Int × Int)) : Option ((List (List UInt8 × List UInt8 × List UInt8 × List UInt8 × Int × Int)) × Int) :=
  (nomination_Check l).bind fun r =>
  bif !decide (r = 0) then (
   some ([], r))
  else (
   (iter (fun x => nomination_Totals_L0 l x.1 x.2) (0, [])).bind fun s =>
   (iterA (fun x2 => nomination_Totals_L1 x2.1 x2.2) ([], ((([], ([], ([], ([], (0, 0))))), 0) :: s))).bind fun s2 =>
   s2.elim (fun s3 =>
    (slices_SortFunc_api_Nomination_api_Nomination (fun h => (nomination_compare h.1 h.2.1).bind fun y => some y) s3).bind fun r2 =>
    some (r2, 0))
   (fun s4 =>
    some (s4.1, s4.2)))

noncomputable def fn_nomination_Totals : Fun :=
  { f := 17, np := 1, nr := 2,
    ji := { regs := [(0, .one (.data (.sl (.pair (.str) (.pair (.str) (.pair (.str) (.pair (.str) (.pair (.int .i64) (.int .i64)))))))))], vars := [], arrs := [] },
    jo := { regs := [(0, .one (.data (.sl (.pair (.str) (.pair (.str) (.pair (.str) (.pair (.str) (.pair (.int .i64) (.int .i64))))))))), (1, .one (.data (.int .i64)))], vars := [], arrs := [] },
    tw := fun x => nomination_Totals x }
noncomputable def cx_nomination_Totals : Cx := { Γ := types, ow := [], fs := [fn_nomination_Check, fn_slices_SortFunc_api_Nomination_api_Nomination, fn_nomination_compare], N := 53 }
theorem ok_nomination_Totals : FunOk Tryd.prog fn_nomination_Totals :=
  FunOk.intro (C := cx_nomination_Totals) (p := (.mk [] none .nil (.mk [] none .nil (.mk [] none .nil (.mk [] none (.mk [] none .nil (.mk [] none (.mk [] (some ({ regs := [(5, .one (.own 288)), (18, .one .keep), (19, .one .keep), (20, .one (.data (.int .i64)))], vars := [], arrs := [(288, .map true 1000087 (.pair (.str) (.pair (.str) (.pair (.str) (.pair (.str) (.pair (.int .i64) (.int .i64)))))) (.int .i64))] }, [{ e := .x 0, j := { regs := [(5, .one (.own 288))], vars := [], arrs := [(288, .map true 1000087 (.pair (.str) (.pair (.str) (.pair (.str) (.pair (.str) (.pair (.int .i64) (.int .i64)))))) (.int .i64))] } }])) .nil .nil) .nil)) (.mk [] none .nil (.mk [] none (.mk [] none (.mk [.fz [5]] none .nil .nil) (.mk [] none (.mk [] (some ({ regs := [(9, .one (.own 171)), (36, .one (.own 592))], vars := [], arrs := [(171, .arr 48 (.pair (.str) (.pair (.str) (.pair (.str) (.pair (.str) (.pair (.int .i64) (.int .i64))))))), (592, .iter false (.pair (.str) (.pair (.str) (.pair (.str) (.pair (.str) (.pair (.int .i64) (.int .i64)))))) (.int .i64))] }, [{ e := .x 2, j := { regs := [(9, .one (.own 171))], vars := [], arrs := [(171, .arr 48 (.pair (.str) (.pair (.str) (.pair (.str) (.pair (.str) (.pair (.int .i64) (.int .i64)))))))] } }, { e := .r, j := { regs := [(2, .one (.data (.sl (.pair (.str) (.pair (.str) (.pair (.str) (.pair (.str) (.pair (.int .i64) (.int .i64))))))))), (3, .one (.data (.int .i64)))], vars := [], arrs := [] } }])) .nil .nil) .nil)) .nil)))))))
    Tryd.func17 rfl nmr17 rfl rfl rfl rfl types_ok ⟨⟨ok_nomination_Check, ok_slices_SortFunc_api_Nomination_api_Nomination, ok_nomination_compare, trivial⟩, trivial⟩ mx (fun x => by kernel_rfl)

noncomputable def network_Port_1 (p : List UInt8 × Int × Int) (v : List UInt8) : Option (Bool) :=
  some (decide (p.1 = v))

noncomputable def fn_network_Port_1 : Fun :=
  { f := 43, np := 2, nr := 1,
    ji := { regs := [(0, .one (.data (.pair (.str) (.pair (.int .i64) (.int .i64))))), (1, .one (.sel (.str)))], vars := [], arrs := [] },
    jo := { regs := [(0, .one (.data (.bool)))], vars := [], arrs := [] },
    tw := fun x => network_Port_1 x.1 x.2 }
noncomputable def cx_network_Port_1 : Cx := { Γ := types, ow := [], fs := [], N := 8 }
theorem ok_network_Port_1 : FunOk Tryd.prog fn_network_Port_1 :=
  FunOk.intro (C := cx_network_Port_1) (p := .nil)
    Tryd.func43 rfl nmr43 rfl rfl rfl rfl types_ok ⟨trivial, trivial⟩ mx (fun x => by kernel_rfl)

noncomputable def network_Port (n : List (List UInt8) × List (List UInt8 × Int × Int × Int × Int × Int × List (Int × Int × Int)) × List (List UInt8 × Int × Int) × List (List UInt8 × Int × Int × Int × Int) × Int × Int) (name : List UInt8) : Option (Int) :=
  (slices_IndexFunc_api_Port_api_Port n.2.2.1 (fun h => (network_Port_1 h.1 name).bind fun y => some y)).bind fun r =>
  some r

noncomputable def fn_network_Port : Fun :=
  { f := 19, np := 2, nr := 1,
    ji := { regs := [(0, .one (.data (.pair (.sl (.str)) (.pair (.sl (.pair (.str) (.pair (.int .i64) (.pair (.int .i64) (.pair (.int .i64) (.pair (.int .i64) (.pair (.int .i64) (.sl (.pair (.int .i64) (.pair (.int .i64) (.int .i64))))))))))) (.pair (.sl (.pair (.str) (.pair (.int .i64) (.int .i64)))) (.pair (.sl (.pair (.str) (.pair (.int .i64) (.pair (.int .i64) (.pair (.int .i64) (.int .i64)))))) (.pair (.int .i64) (.int .i64)))))))), (1, .one (.data (.str)))], vars := [], arrs := [] },
    jo := { regs := [(0, .one (.data (.int .i64)))], vars := [], arrs := [] },
    tw := fun x => network_Port x.1 x.2 }
noncomputable def cx_network_Port : Cx := { Γ := types, ow := [], fs := [fn_slices_IndexFunc_api_Port_api_Port, fn_network_Port_1], N := 9 }
theorem ok_network_Port : FunOk Tryd.prog fn_network_Port :=
  FunOk.intro (C := cx_network_Port) (p := (.mk [] none .nil (.mk [] none (.mk [.fv [(3, .str)]] none .nil .nil) .nil)))
    Tryd.func19 rfl nmr19 rfl rfl rfl rfl types_ok ⟨⟨ok_slices_IndexFunc_api_Port_api_Port, ok_network_Port_1, trivial⟩, trivial⟩ mx (fun x => by kernel_rfl)

noncomputable def lots_rank (products : List (List UInt8 × Int × Int × Int × Int)) (order : List (List UInt8)) (index : Int) : Option (Int) :=
  gd (inB index products.length) <|
  (slices_Index_string_string order ((products.getD index.toNat ([], (0, (0, (0, 0))))).1)).bind fun r =>
  bif decide (0 ≤ r) then (
   some r)
  else (
   some (wi64 ((order.length : Int) + index)))

noncomputable def fn_lots_rank : Fun :=
  { f := 20, np := 3, nr := 1,
    ji := { regs := [(0, .one (.data (.sl (.pair (.str) (.pair (.int .i64) (.pair (.int .i64) (.pair (.int .i64) (.int .i64)))))))), (1, .one (.data (.sl (.str)))), (2, .one (.data (.int .i64)))], vars := [], arrs := [] },
    jo := { regs := [(0, .one (.data (.int .i64)))], vars := [], arrs := [] },
    tw := fun x => lots_rank x.1 x.2.1 x.2.2 }
noncomputable def cx_lots_rank : Cx := { Γ := types, ow := [], fs := [fn_slices_Index_string_string], N := 22 }
theorem ok_lots_rank : FunOk Tryd.prog fn_lots_rank :=
  FunOk.intro (C := cx_lots_rank) (p := .nil)
    Tryd.func20 rfl nmr20 rfl rfl rfl rfl types_ok ⟨⟨ok_slices_Index_string_string, trivial⟩, trivial⟩ mx (fun x => by kernel_rfl)

noncomputable def slices_insertionSortCmpFunc_lots_made_L1 (a : Int) (cmp : ((List UInt8 × List UInt8 × List UInt8 × List UInt8 × Int × Int) × (Int × List UInt8 × Int × Int) × Int) × ((List UInt8 × List UInt8 × List UInt8 × List UInt8 × Int × Int) × (Int × List UInt8 × Int × Int) × Int) × Unit → Option Int) (j : Int) (data3 : List ((List UInt8 × List UInt8 × List UInt8 × List UInt8 × Int × Int) × (Int × List UInt8 × Int × Int) × Int)) : Option ((Int × List ((List UInt8 × List UInt8 × List UInt8 × List UInt8 × Int × Int) × (Int × List UInt8 × Int × Int) × Int)) ⊕ (List ((List UInt8 × List UInt8 × List UInt8 × List UInt8 × Int × Int) × (Int × List UInt8 × Int × Int) × Int))) :=
  Option.bind (α := Bool × List ((List UInt8 × List UInt8 × List UInt8 × List UInt8 × Int × Int) × (Int × List UInt8 × Int × Int) × Int)) (
    bif decide (a < j) then (
     gd (inB j data3.length) <|
     gd (inB (wi64 (j - 1)) data3.length) <|
     (cmp (data3.getD j.toNat (([], ([], ([], ([], (0, 0))))), ((0, ([], (0, 0))), 0)), data3.getD ((wi64 (j - 1)).toNat) (([], ([], ([], ([], (0, 0))))), ((0, ([], (0, 0))), 0)), ())).bind fun r =>
     some (decide (r < 0), data3))
    else (
     some (false, data3))) fun s =>
  bif s.1 then (
   gd (inB (wi64 (j - 1)) s.2.length) <|
   gd (inB j s.2.length) <|
   gd (inB j s.2.length) <|
   gd (inB (wi64 (j - 1)) (s.2.set j.toNat (s.2.getD ((wi64 (j - 1)).toNat) (([], ([], ([], ([], (0, 0))))), ((0, ([], (0, 0))), 0)))).length) <|
   some (.inl (wi64 (j - 1), (s.2.set j.toNat (s.2.getD ((wi64 (j - 1)).toNat) (([], ([], ([], ([], (0, 0))))), ((0, ([], (0, 0))), 0)))).set ((wi64 (j - 1)).toNat) (s.2.getD j.toNat (([], ([], ([], ([], (0, 0))))), ((0, ([], (0, 0))), 0))))))
  else (
   some (.inr s.2))

noncomputable def slices_insertionSortCmpFunc_lots_made_L0 (a : Int) (b : Int) (cmp : ((List UInt8 × List UInt8 × List UInt8 × List UInt8 × Int × Int) × (Int × List UInt8 × Int × Int) × Int) × ((List UInt8 × List UInt8 × List UInt8 × List UInt8 × Int × Int) × (Int × List UInt8 × Int × Int) × Int) × Unit → Option Int) (i : Int) (data2 : List ((List UInt8 × List UInt8 × List UInt8 × List UInt8 × Int × Int) × (Int × List UInt8 × Int × Int) × Int)) : Option ((Int × List ((List UInt8 × List UInt8 × List UInt8 × List UInt8 × Int × Int) × (Int × List UInt8 × Int × Int) × Int)) ⊕ (List ((List UInt8 × List UInt8 × List UInt8 × List UInt8 × Int × Int) × (Int × List UInt8 × Int × Int) × Int))) :=
  bif decide (i < b) then (
   (iter (fun x => slices_insertionSortCmpFunc_lots_made_L1 a cmp x.1 x.2) (i, data2)).bind fun s2 =>
   some (.inl (wi64 (i + 1), s2)))
  else (
   some (.inr data2))

noncomputable def slices_insertionSortCmpFunc_lots_made (a : Int) (b : Int) (cmp : ((List UInt8 × List UInt8 × List UInt8 × List UInt8 × Int × Int) × (Int × List UInt8 × Int × Int) × Int) × ((List UInt8 × List UInt8 × List UInt8 × List UInt8 × Int × Int) × (Int × List UInt8 × Int × Int) × Int) × Unit → Option Int) (data : List ((List UInt8 × List UInt8 × List UInt8 × List UInt8 × Int × Int) × (Int × List UInt8 × Int × Int) × Int)) : Option (List ((List UInt8 × List UInt8 × List UInt8 × List UInt8 × Int × Int) × (Int × List UInt8 × Int × Int) × Int)) :=
  (iter (fun x2 => slices_insertionSortCmpFunc_lots_made_L0 a b cmp x2.1 x2.2) (wi64 (a + 1), data)).bind fun s3 =>
  some s3

noncomputable def fn_slices_insertionSortCmpFunc_lots_made : Fun :=
  { f := 67, np := 4, nr := 0,
    ji := { regs := [(0, .one (.own 0)), (1, .one (.data (.int .i64))), (2, .one (.data (.int .i64))), (3, .one (.fn [.pair (.pair (.str) (.pair (.str) (.pair (.str) (.pair (.str) (.pair (.int .i64) (.int .i64)))))) (.pair (.pair (.int .i64) (.pair (.str) (.pair (.int .i64) (.int .i64)))) (.int .i64)), .pair (.pair (.str) (.pair (.str) (.pair (.str) (.pair (.str) (.pair (.int .i64) (.int .i64)))))) (.pair (.pair (.int .i64) (.pair (.str) (.pair (.int .i64) (.int .i64)))) (.int .i64))] (.int .i64)))], vars := [], arrs := [(0, .arr 73 (.pair (.pair (.str) (.pair (.str) (.pair (.str) (.pair (.str) (.pair (.int .i64) (.int .i64)))))) (.pair (.pair (.int .i64) (.pair (.str) (.pair (.int .i64) (.int .i64)))) (.int .i64))))] },
    jo := { regs := [], vars := [], arrs := [(0, .arr 73 (.pair (.pair (.str) (.pair (.str) (.pair (.str) (.pair (.str) (.pair (.int .i64) (.int .i64)))))) (.pair (.pair (.int .i64) (.pair (.str) (.pair (.int .i64) (.int .i64)))) (.int .i64))))] },
    tw := fun x => slices_insertionSortCmpFunc_lots_made x.1 x.2.1 x.2.2.1 x.2.2.2 }
noncomputable def cx_slices_insertionSortCmpFunc_lots_made : Cx := { Γ := types, ow := [], fs := [], N := 53 }
theorem ok_slices_insertionSortCmpFunc_lots_made : FunOk Tryd.prog fn_slices_insertionSortCmpFunc_lots_made :=
  FunOk.intro (C := cx_slices_insertionSortCmpFunc_lots_made) (p := (.mk [] none .nil (.mk [] none (.mk [] (some ({ regs := [(0, .one (.own 0)), (1, .one .keep), (2, .one .keep), (3, .one .keep), (8, .one (.data (.int .i64)))], vars := [], arrs := [(0, .arr 73 (.pair (.pair (.str) (.pair (.str) (.pair (.str) (.pair (.str) (.pair (.int .i64) (.int .i64)))))) (.pair (.pair (.int .i64) (.pair (.str) (.pair (.int .i64) (.int .i64)))) (.int .i64))))] }, [{ e := .x 0, j := { regs := [], vars := [], arrs := [(0, .arr 73 (.pair (.pair (.str) (.pair (.str) (.pair (.str) (.pair (.str) (.pair (.int .i64) (.int .i64)))))) (.pair (.pair (.int .i64) (.pair (.str) (.pair (.int .i64) (.int .i64)))) (.int .i64))))] } }])) (.mk [] none .nil (.mk [] none (.mk [] none (.mk [] none .nil (.mk [] none (.mk [] (some ({ regs := [(0, .one (.own 0)), (1, .one .keep), (2, .one .keep), (3, .one .keep), (8, .one .keep), (9, .one (.data (.int .i64)))], vars := [], arrs := [(0, .arr 73 (.pair (.pair (.str) (.pair (.str) (.pair (.str) (.pair (.str) (.pair (.int .i64) (.int .i64)))))) (.pair (.pair (.int .i64) (.pair (.str) (.pair (.int .i64) (.int .i64)))) (.int .i64))))] }, [{ e := .x 2, j := { regs := [(0, .one (.own 0)), (1, .one .keep), (2, .one .keep), (3, .one .keep), (8, .one .keep)], vars := [], arrs := [(0, .arr 73 (.pair (.pair (.str) (.pair (.str) (.pair (.str) (.pair (.str) (.pair (.int .i64) (.int .i64)))))) (.pair (.pair (.int .i64) (.pair (.str) (.pair (.int .i64) (.int .i64)))) (.int .i64))))] } }])) (.mk [] none (.mk [] none (.mk [.join [{ e := .n, j := { regs := [(0, .one (.own 0)), (1, .one .keep), (2, .one .keep), (3, .one .keep), (8, .one .keep), (9, .one .keep), (34, .one (.data (.bool)))], vars := [], arrs := [(0, .arr 73 (.pair (.pair (.str) (.pair (.str) (.pair (.str) (.pair (.str) (.pair (.int .i64) (.int .i64)))))) (.pair (.pair (.int .i64) (.pair (.str) (.pair (.int .i64) (.int .i64)))) (.int .i64))))] } }]] none .nil .nil) .nil) .nil) .nil) .nil)) .nil) .nil)) .nil) .nil)))
    Tryd.func67 rfl nmr67 rfl rfl rfl rfl types_ok ⟨trivial, trivial⟩ mx (fun x => by kernel_rfl)

noncomputable def slices_siftDownCmpFunc_lots_made_L0 (hi : Int) (first : Int) (cmp : ((List UInt8 × List UInt8 × List UInt8 × List UInt8 × Int × Int) × (Int × List UInt8 × Int × Int) × Int) × ((List UInt8 × List UInt8 × List UInt8 × List UInt8 × Int × Int) × (Int × List UInt8 × Int × Int) × Int) × Unit → Option Int) (root : Int) (data2 : List ((List UInt8 × List UInt8 × List UInt8 × List UInt8 × Int × Int) × (Int × List UInt8 × Int × Int) × Int)) : Option ((Int × List ((List UInt8 × List UInt8 × List UInt8 × List UInt8 × Int × Int) × (Int × List UInt8 × Int × Int) × Int)) ⊕ ((List ((List UInt8 × List UInt8 × List UInt8 × List UInt8 × Int × Int) × (Int × List UInt8 × Int × Int) × Int)) ⊕ (List ((List UInt8 × List UInt8 × List UInt8 × List UInt8 × Int × Int) × (Int × List UInt8 × Int × Int) × Int)))) :=
  bif decide (hi ≤ wi64 ((wi64 (2 * root)) + 1)) then (
   some (.inr (.inl data2)))
  else (
   Option.bind (α := Bool × List ((List UInt8 × List UInt8 × List UInt8 × List UInt8 × Int × Int) × (Int × List UInt8 × Int × Int) × Int)) (
     bif decide (wi64 ((wi64 ((wi64 (2 * root)) + 1)) + 1) < hi) then (
      gd (inB (wi64 (first + (wi64 ((wi64 (2 * root)) + 1)))) data2.length) <|
      gd (inB (wi64 ((wi64 (first + (wi64 ((wi64 (2 * root)) + 1)))) + 1)) data2.length) <|
      (cmp (data2.getD ((wi64 (first + (wi64 ((wi64 (2 * root)) + 1)))).toNat) (([], ([], ([], ([], (0, 0))))), ((0, ([], (0, 0))), 0)), data2.getD ((wi64 ((wi64 (first + (wi64 ((wi64 (2 * root)) + 1)))) + 1)).toNat) (([], ([], ([], ([], (0, 0))))), ((0, ([], (0, 0))), 0)), ())).bind fun r =>
      some (decide (r < 0), data2))
     else (
      some (false, data2))) fun s =>
   Option.bind (α := Int × List ((List UInt8 × List UInt8 × List UInt8 × List UInt8 × Int × Int) × (Int × List UInt8 × Int × Int) × Int)) (
     bif s.1 then (
      some (wi64 ((wi64 ((wi64 (2 * root)) + 1)) + 1), s.2))
     else (
      some (wi64 ((wi64 (2 * root)) + 1), s.2))) fun s2 =>
   gd (inB (wi64 (first + root)) s2.2.length) <|
   gd (inB (wi64 (first + s2.1)) s2.2.length) <|
   (cmp (s2.2.getD ((wi64 (first + root)).toNat) (([], ([], ([], ([], (0, 0))))), ((0, ([], (0, 0))), 0)), s2.2.getD ((wi64 (first + s2.1)).toNat) (([], ([], ([], ([], (0, 0))))), ((0, ([], (0, 0))), 0)), ())).bind fun r2 =>
   bif !(decide (r2 < 0)) then (
    some (.inr (.inr s2.2)))
   else (
    gd (inB (wi64 (first + s2.1)) s2.2.length) <|
    gd (inB (wi64 (first + root)) s2.2.length) <|
    gd (inB (wi64 (first + root)) s2.2.length) <|
    gd (inB (wi64 (first + s2.1)) (s2.2.set ((wi64 (first + root)).toNat) (s2.2.getD ((wi64 (first + s2.1)).toNat) (([], ([], ([], ([], (0, 0))))), ((0, ([], (0, 0))), 0)))).length) <|
    some (.inl (s2.1, (s2.2.set ((wi64 (first + root)).toNat) (s2.2.getD ((wi64 (first + s2.1)).toNat) (([], ([], ([], ([], (0, 0))))), ((0, ([], (0, 0))), 0)))).set ((wi64 (first + s2.1)).toNat) (s2.2.getD ((wi64 (first + root)).toNat) (([], ([], ([], ([], (0, 0))))), ((0, ([], (0, 0))), 0)))))))

noncomputable def slices_siftDownCmpFunc_lots_made (lo : Int) (hi : Int) (first : Int) (cmp : ((List UInt8 × List UInt8 × List UInt8 × List UInt8 × Int × Int) × (Int × List UInt8 × Int × Int) × Int) × ((List UInt8 × List UInt8 × List UInt8 × List UInt8 × Int × Int) × (Int × List UInt8 × Int × Int) × Int) × Unit → Option Int) (data : List ((List UInt8 × List UInt8 × List UInt8 × List UInt8 × Int × Int) × (Int × List UInt8 × Int × Int) × Int)) : Option (List ((List UInt8 × List UInt8 × List UInt8 × List UInt8 × Int × Int) × (Int × List UInt8 × Int × Int) × Int)) :=
  (iter (fun x => slices_siftDownCmpFunc_lots_made_L0 hi first cmp x.1 x.2) (lo, data)).bind fun s3 =>
  s3.elim (fun s4 =>
   some s4)
  (fun s5 =>
   some s5)

noncomputable def fn_slices_siftDownCmpFunc_lots_made : Fun :=
  { f := 87, np := 5, nr := 0,
    ji := { regs := [(0, .one (.own 0)), (1, .one (.data (.int .i64))), (2, .one (.data (.int .i64))), (3, .one (.data (.int .i64))), (4, .one (.fn [.pair (.pair (.str) (.pair (.str) (.pair (.str) (.pair (.str) (.pair (.int .i64) (.int .i64)))))) (.pair (.pair (.int .i64) (.pair (.str) (.pair (.int .i64) (.int .i64)))) (.int .i64)), .pair (.pair (.str) (.pair (.str) (.pair (.str) (.pair (.str) (.pair (.int .i64) (.int .i64)))))) (.pair (.pair (.int .i64) (.pair (.str) (.pair (.int .i64) (.int .i64)))) (.int .i64))] (.int .i64)))], vars := [], arrs := [(0, .arr 73 (.pair (.pair (.str) (.pair (.str) (.pair (.str) (.pair (.str) (.pair (.int .i64) (.int .i64)))))) (.pair (.pair (.int .i64) (.pair (.str) (.pair (.int .i64) (.int .i64)))) (.int .i64))))] },
    jo := { regs := [], vars := [], arrs := [(0, .arr 73 (.pair (.pair (.str) (.pair (.str) (.pair (.str) (.pair (.str) (.pair (.int .i64) (.int .i64)))))) (.pair (.pair (.int .i64) (.pair (.str) (.pair (.int .i64) (.int .i64)))) (.int .i64))))] },
    tw := fun x => slices_siftDownCmpFunc_lots_made x.1 x.2.1 x.2.2.1 x.2.2.2.1 x.2.2.2.2 }
noncomputable def cx_slices_siftDownCmpFunc_lots_made : Cx := { Γ := types, ow := [], fs := [], N := 82 }
theorem ok_slices_siftDownCmpFunc_lots_made : FunOk Tryd.prog fn_slices_siftDownCmpFunc_lots_made :=
  FunOk.intro (C := cx_slices_siftDownCmpFunc_lots_made) (p := (.mk [] none .nil (.mk [] none (.mk [] (some ({ regs := [(0, .one (.own 0)), (2, .one .keep), (3, .one .keep), (4, .one .keep), (10, .one (.data (.int .i64)))], vars := [], arrs := [(0, .arr 73 (.pair (.pair (.str) (.pair (.str) (.pair (.str) (.pair (.str) (.pair (.int .i64) (.int .i64)))))) (.pair (.pair (.int .i64) (.pair (.str) (.pair (.int .i64) (.int .i64)))) (.int .i64))))] }, [{ e := .x 0, j := { regs := [], vars := [], arrs := [(0, .arr 73 (.pair (.pair (.str) (.pair (.str) (.pair (.str) (.pair (.str) (.pair (.int .i64) (.int .i64)))))) (.pair (.pair (.int .i64) (.pair (.str) (.pair (.int .i64) (.int .i64)))) (.int .i64))))] } }, { e := .r, j := { regs := [], vars := [], arrs := [(0, .arr 73 (.pair (.pair (.str) (.pair (.str) (.pair (.str) (.pair (.str) (.pair (.int .i64) (.int .i64)))))) (.pair (.pair (.int .i64) (.pair (.str) (.pair (.int .i64) (.int .i64)))) (.int .i64))))] } }])) (.mk [] none (.mk [] none .nil (.mk [] none .nil (.mk [] none (.mk [] none (.mk [.join [{ e := .n, j := { regs := [(0, .one (.own 0)), (2, .one .keep), (3, .one .keep), (4, .one .keep), (10, .one .keep), (11, .one .keep), (40, .one (.data (.bool)))], vars := [], arrs := [(0, .arr 73 (.pair (.pair (.str) (.pair (.str) (.pair (.str) (.pair (.str) (.pair (.int .i64) (.int .i64)))))) (.pair (.pair (.int .i64) (.pair (.str) (.pair (.int .i64) (.int .i64)))) (.int .i64))))] } }]] none .nil .nil) (.mk [.join [{ e := .n, j := { regs := [(0, .one (.own 0)), (2, .one .keep), (3, .one .keep), (4, .one .keep), (10, .one .keep), (11, .one (.data (.int .i64)))], vars := [], arrs := [(0, .arr 73 (.pair (.pair (.str) (.pair (.str) (.pair (.str) (.pair (.str) (.pair (.int .i64) (.int .i64)))))) (.pair (.pair (.int .i64) (.pair (.str) (.pair (.int .i64) (.int .i64)))) (.int .i64))))] } }]] none .nil .nil)) .nil))) .nil) .nil) .nil)))
    Tryd.func87 rfl nmr87 rfl rfl rfl rfl types_ok ⟨trivial, trivial⟩ mx (fun x => by kernel_rfl)

noncomputable def slices_heapSortCmpFunc_lots_made_L0 (a : Int) (b : Int) (cmp : ((List UInt8 × List UInt8 × List UInt8 × List UInt8 × Int × Int) × (Int × List UInt8 × Int × Int) × Int) × ((List UInt8 × List UInt8 × List UInt8 × List UInt8 × Int × Int) × (Int × List UInt8 × Int × Int) × Int) × Unit → Option Int) (i : Int) (data2 : List ((List UInt8 × List UInt8 × List UInt8 × List UInt8 × Int × Int) × (Int × List UInt8 × Int × Int) × Int)) : Option ((Int × List ((List UInt8 × List UInt8 × List UInt8 × List UInt8 × Int × Int) × (Int × List UInt8 × Int × Int) × Int)) ⊕ (List ((List UInt8 × List UInt8 × List UInt8 × List UInt8 × Int × Int) × (Int × List UInt8 × Int × Int) × Int))) :=
  bif decide (0 ≤ i) then (
   (slices_siftDownCmpFunc_lots_made i (wi64 (b - a)) a cmp data2).bind fun r =>
   some (.inl (wi64 (i - 1), r)))
  else (
   some (.inr data2))

noncomputable def slices_heapSortCmpFunc_lots_made_L1 (a : Int) (cmp : ((List UInt8 × List UInt8 × List UInt8 × List UInt8 × Int × Int) × (Int × List UInt8 × Int × Int) × Int) × ((List UInt8 × List UInt8 × List UInt8 × List UInt8 × Int × Int) × (Int × List UInt8 × Int × Int) × Int) × Unit → Option Int) (i2 : Int) (data3 : List ((List UInt8 × List UInt8 × List UInt8 × List UInt8 × Int × Int) × (Int × List UInt8 × Int × Int) × Int)) : Option ((Int × List ((List UInt8 × List UInt8 × List UInt8 × List UInt8 × Int × Int) × (Int × List UInt8 × Int × Int) × Int)) ⊕ (List ((List UInt8 × List UInt8 × List UInt8 × List UInt8 × Int × Int) × (Int × List UInt8 × Int × Int) × Int))) :=
  bif decide (0 ≤ i2) then (
   gd (inB (wi64 (a + i2)) data3.length) <|
   gd (inB a data3.length) <|
   gd (inB a data3.length) <|
   gd (inB (wi64 (a + i2)) (data3.set a.toNat (data3.getD ((wi64 (a + i2)).toNat) (([], ([], ([], ([], (0, 0))))), ((0, ([], (0, 0))), 0)))).length) <|
   (slices_siftDownCmpFunc_lots_made 0 i2 a cmp ((data3.set a.toNat (data3.getD ((wi64 (a + i2)).toNat) (([], ([], ([], ([], (0, 0))))), ((0, ([], (0, 0))), 0)))).set ((wi64 (a + i2)).toNat) (data3.getD a.toNat (([], ([], ([], ([], (0, 0))))), ((0, ([], (0, 0))), 0))))).bind fun r2 =>
   some (.inl (wi64 (i2 - 1), r2)))
  else (
   some (.inr data3))

noncomputable def slices_heapSortCmpFunc_lots_made (a : Int) (b : Int) (cmp : ((List UInt8 × List UInt8 × List UInt8 × List UInt8 × Int × Int) × (Int × List UInt8 × Int × Int) × Int) × ((List UInt8 × List UInt8 × List UInt8 × List UInt8 × Int × Int) × (Int × List UInt8 × Int × Int) × Int) × Unit → Option Int) (data : List ((List UInt8 × List UInt8 × List UInt8 × List UInt8 × Int × Int) × (Int × List UInt8 × Int × Int) × Int)) : Option (List ((List UInt8 × List UInt8 × List UInt8 × List UInt8 × Int × Int) × (Int × List UInt8 × Int × Int) × Int)) :=
  (iter (fun x => slices_heapSortCmpFunc_lots_made_L0 a b cmp x.1 x.2) (wi64 (Int.tdiv (wi64 ((wi64 (b - a)) - 1)) 2), data)).bind fun s =>
  (iter (fun x2 => slices_heapSortCmpFunc_lots_made_L1 a cmp x2.1 x2.2) (wi64 ((wi64 (b - a)) - 1), s)).bind fun s2 =>
  some s2

noncomputable def fn_slices_heapSortCmpFunc_lots_made : Fun :=
  { f := 68, np := 4, nr := 0,
    ji := { regs := [(0, .one (.own 0)), (1, .one (.data (.int .i64))), (2, .one (.data (.int .i64))), (3, .one (.fn [.pair (.pair (.str) (.pair (.str) (.pair (.str) (.pair (.str) (.pair (.int .i64) (.int .i64)))))) (.pair (.pair (.int .i64) (.pair (.str) (.pair (.int .i64) (.int .i64)))) (.int .i64)), .pair (.pair (.str) (.pair (.str) (.pair (.str) (.pair (.str) (.pair (.int .i64) (.int .i64)))))) (.pair (.pair (.int .i64) (.pair (.str) (.pair (.int .i64) (.int .i64)))) (.int .i64))] (.int .i64)))], vars := [], arrs := [(0, .arr 73 (.pair (.pair (.str) (.pair (.str) (.pair (.str) (.pair (.str) (.pair (.int .i64) (.int .i64)))))) (.pair (.pair (.int .i64) (.pair (.str) (.pair (.int .i64) (.int .i64)))) (.int .i64))))] },
    jo := { regs := [], vars := [], arrs := [(0, .arr 73 (.pair (.pair (.str) (.pair (.str) (.pair (.str) (.pair (.str) (.pair (.int .i64) (.int .i64)))))) (.pair (.pair (.int .i64) (.pair (.str) (.pair (.int .i64) (.int .i64)))) (.int .i64))))] },
    tw := fun x => slices_heapSortCmpFunc_lots_made x.1 x.2.1 x.2.2.1 x.2.2.2 }
noncomputable def cx_slices_heapSortCmpFunc_lots_made : Cx := { Γ := types, ow := [], fs := [fn_slices_siftDownCmpFunc_lots_made], N := 60 }
theorem ok_slices_heapSortCmpFunc_lots_made : FunOk Tryd.prog fn_slices_heapSortCmpFunc_lots_made :=
  FunOk.intro (C := cx_slices_heapSortCmpFunc_lots_made) (p := (.mk [] none .nil (.mk [] none .nil (.mk [] none .nil (.mk [] none (.mk [] none .nil (.mk [] none (.mk [] (some ({ regs := [(0, .one (.own 0)), (3, .one .keep), (8, .one .keep), (9, .one .keep), (10, .one .keep), (11, .one (.data (.int .i64)))], vars := [], arrs := [(0, .arr 73 (.pair (.pair (.str) (.pair (.str) (.pair (.str) (.pair (.str) (.pair (.int .i64) (.int .i64)))))) (.pair (.pair (.int .i64) (.pair (.str) (.pair (.int .i64) (.int .i64)))) (.int .i64))))] }, [{ e := .x 0, j := { regs := [(0, .one (.own 0)), (3, .one .keep), (8, .one .keep), (9, .one .keep), (10, .one .keep)], vars := [], arrs := [(0, .arr 73 (.pair (.pair (.str) (.pair (.str) (.pair (.str) (.pair (.str) (.pair (.int .i64) (.int .i64)))))) (.pair (.pair (.int .i64) (.pair (.str) (.pair (.int .i64) (.int .i64)))) (.int .i64))))] } }])) .nil .nil) .nil)) (.mk [] none .nil (.mk [] none (.mk [] (some ({ regs := [(0, .one (.own 0)), (3, .one .keep), (8, .one .keep), (9, .one .keep), (12, .one (.data (.int .i64)))], vars := [], arrs := [(0, .arr 73 (.pair (.pair (.str) (.pair (.str) (.pair (.str) (.pair (.str) (.pair (.int .i64) (.int .i64)))))) (.pair (.pair (.int .i64) (.pair (.str) (.pair (.int .i64) (.int .i64)))) (.int .i64))))] }, [{ e := .x 2, j := { regs := [], vars := [], arrs := [(0, .arr 73 (.pair (.pair (.str) (.pair (.str) (.pair (.str) (.pair (.str) (.pair (.int .i64) (.int .i64)))))) (.pair (.pair (.int .i64) (.pair (.str) (.pair (.int .i64) (.int .i64)))) (.int .i64))))] } }])) .nil .nil) .nil)))))))
    Tryd.func68 rfl nmr68 rfl rfl rfl rfl types_ok ⟨⟨ok_slices_siftDownCmpFunc_lots_made, trivial⟩, trivial⟩ mx (fun x => by kernel_rfl)

noncomputable def slices_breakPatternsCmpFunc_lots_made_L0 (a : Int) (b : Int) (r : Int) (idx : Int) (random : Int) (data2 : List ((List UInt8 × List UInt8 × List UInt8 × List UInt8 × Int × Int) × (Int × List UInt8 × Int × Int) × Int)) : Option ((Int × Int × List ((List UInt8 × List UInt8 × List UInt8 × List UInt8 × Int × Int) × (Int × List UInt8 × Int × Int) × Int)) ⊕ (List ((List UInt8 × List UInt8 × List UInt8 × List UInt8 × Int × Int) × (Int × List UInt8 × Int × Int) × Int))) :=
  bif decide (idx ≤ wi64 ((wi64 (a + (wi64 ((wi64 (Int.tdiv (wi64 (b - a)) 4)) * 2)))) + 1)) then (
   (slices_xorshift_Next random).bind fun r2 =>
   Option.bind (α := Int × List ((List UInt8 × List UInt8 × List UInt8 × List UInt8 × Int × Int) × (Int × List UInt8 × Int × Int) × Int)) (
     bif decide (wi64 (b - a) ≤ wi64 (bitAnd .u64 r2.1 (wu64 (r - 1)))) then (
      some (wi64 ((wi64 (bitAnd .u64 r2.1 (wu64 (r - 1)))) - (wi64 (b - a))), data2))
     else (
      some (wi64 (bitAnd .u64 r2.1 (wu64 (r - 1))), data2))) fun s =>
   gd (inB (wi64 (a + s.1)) s.2.length) <|
   gd (inB idx s.2.length) <|
   gd (inB idx s.2.length) <|
   gd (inB (wi64 (a + s.1)) (s.2.set idx.toNat (s.2.getD ((wi64 (a + s.1)).toNat) (([], ([], ([], ([], (0, 0))))), ((0, ([], (0, 0))), 0)))).length) <|
   some (.inl (wi64 (idx + 1), r2.2, (s.2.set idx.toNat (s.2.getD ((wi64 (a + s.1)).toNat) (([], ([], ([], ([], (0, 0))))), ((0, ([], (0, 0))), 0)))).set ((wi64 (a + s.1)).toNat) (s.2.getD idx.toNat (([], ([], ([], ([], (0, 0))))), ((0, ([], (0, 0))), 0))))))
  else (
   some (.inr data2))

noncomputable def slices_breakPatternsCmpFunc_lots_made (a : Int) (b : Int) (cmp : ((List UInt8 × List UInt8 × List UInt8 × List UInt8 × Int × Int) × (Int × List UInt8 × Int × Int) × Int) × ((List UInt8 × List UInt8 × List UInt8 × List UInt8 × Int × Int) × (Int × List UInt8 × Int × Int) × Int) × Unit → Option Int) (data : List ((List UInt8 × List UInt8 × List UInt8 × List UInt8 × Int × Int) × (Int × List UInt8 × Int × Int) × Int)) : Option (List ((List UInt8 × List UInt8 × List UInt8 × List UInt8 × Int × Int) × (Int × List UInt8 × Int × Int) × Int)) :=
  bif decide (8 ≤ wi64 (b - a)) then (
   (slices_nextPowerOfTwo (wi64 (b - a))).bind fun r =>
   (iter (fun x => slices_breakPatternsCmpFunc_lots_made_L0 a b r x.1 x.2.1 x.2.2) (wi64 ((wi64 (a + (wi64 ((wi64 (Int.tdiv (wi64 (b - a)) 4)) * 2)))) - 1), wu64 (wi64 (b - a)), data)).bind fun s2 =>
   some s2)
  else (
   some data)

noncomputable def fn_slices_breakPatternsCmpFunc_lots_made : Fun :=
  { f := 69, np := 4, nr := 0,
    ji := { regs := [(0, .one (.own 0)), (1, .one (.data (.int .i64))), (2, .one (.data (.int .i64))), (3, .one (.fn [.pair (.pair (.str) (.pair (.str) (.pair (.str) (.pair (.str) (.pair (.int .i64) (.int .i64)))))) (.pair (.pair (.int .i64) (.pair (.str) (.pair (.int .i64) (.int .i64)))) (.int .i64)), .pair (.pair (.str) (.pair (.str) (.pair (.str) (.pair (.str) (.pair (.int .i64) (.int .i64)))))) (.pair (.pair (.int .i64) (.pair (.str) (.pair (.int .i64) (.int .i64)))) (.int .i64))] (.int .i64)))], vars := [], arrs := [(0, .arr 73 (.pair (.pair (.str) (.pair (.str) (.pair (.str) (.pair (.str) (.pair (.int .i64) (.int .i64)))))) (.pair (.pair (.int .i64) (.pair (.str) (.pair (.int .i64) (.int .i64)))) (.int .i64))))] },
    jo := { regs := [], vars := [], arrs := [(0, .arr 73 (.pair (.pair (.str) (.pair (.str) (.pair (.str) (.pair (.str) (.pair (.int .i64) (.int .i64)))))) (.pair (.pair (.int .i64) (.pair (.str) (.pair (.int .i64) (.int .i64)))) (.int .i64))))] },
    tw := fun x => slices_breakPatternsCmpFunc_lots_made x.1 x.2.1 x.2.2.1 x.2.2.2 }
noncomputable def cx_slices_breakPatternsCmpFunc_lots_made : Cx := { Γ := types, ow := [], fs := [fn_slices_nextPowerOfTwo, fn_slices_xorshift_Next], N := 67 }
theorem ok_slices_breakPatternsCmpFunc_lots_made : FunOk Tryd.prog fn_slices_breakPatternsCmpFunc_lots_made :=
  FunOk.intro (C := cx_slices_breakPatternsCmpFunc_lots_made) (p := (.mk [] none .nil (.mk [] none .nil (.mk [] none (.mk [] none .nil (.mk [] none .nil (.mk [] none .nil (.mk [] none (.mk [] (some ({ regs := [(0, .one (.own 0)), (1, .one .keep), (8, .one .keep), (9, .one (.ptr 160 0)), (10, .one .keep), (11, .one (.data (.int .i64)))], vars := [(160, 135, [.data (.int .u64)])], arrs := [(0, .arr 73 (.pair (.pair (.str) (.pair (.str) (.pair (.str) (.pair (.str) (.pair (.int .i64) (.int .i64)))))) (.pair (.pair (.int .i64) (.pair (.str) (.pair (.int .i64) (.int .i64)))) (.int .i64))))] }, [{ e := .x 0, j := { regs := [], vars := [], arrs := [(0, .arr 73 (.pair (.pair (.str) (.pair (.str) (.pair (.str) (.pair (.str) (.pair (.int .i64) (.int .i64)))))) (.pair (.pair (.int .i64) (.pair (.str) (.pair (.int .i64) (.int .i64)))) (.int .i64))))] } }])) (.mk [] none .nil (.mk [] none (.mk [] none (.mk [] none .nil (.mk [] none (.mk [] none .nil (.mk [.join [{ e := .n, j := { regs := [(0, .one (.own 0)), (1, .one .keep), (8, .one .keep), (9, .one (.ptr 160 0)), (10, .one .keep), (11, .one .keep), (12, .one (.data (.int .i64)))], vars := [(160, 135, [.keep])], arrs := [(0, .arr 73 (.pair (.pair (.str) (.pair (.str) (.pair (.str) (.pair (.str) (.pair (.int .i64) (.int .i64)))))) (.pair (.pair (.int .i64) (.pair (.str) (.pair (.int .i64) (.int .i64)))) (.int .i64))))] } }]] none .nil .nil)) .nil)) .nil) .nil)) .nil) .nil)))) .nil))))
    Tryd.func69 rfl nmr69 rfl rfl rfl rfl types_ok ⟨⟨ok_slices_nextPowerOfTwo, ok_slices_xorshift_Next, trivial⟩, trivial⟩ mx (fun x => by kernel_rfl)

noncomputable def slices_order2CmpFunc_lots_made (data : List ((List UInt8 × List UInt8 × List UInt8 × List UInt8 × Int × Int) × (Int × List UInt8 × Int × Int) × Int)) (a : Int) (b : Int) (cmp : ((List UInt8 × List UInt8 × List UInt8 × List UInt8 × Int × Int) × (Int × List UInt8 × Int × Int) × Int) × ((List UInt8 × List UInt8 × List UInt8 × List UInt8 × Int × Int) × (Int × List UInt8 × Int × Int) × Int) × Unit → Option Int) (swaps : Int) : Option (Int × Int × Int) :=
  gd (inB b data.length) <|
  gd (inB a data.length) <|
  (cmp (data.getD b.toNat (([], ([], ([], ([], (0, 0))))), ((0, ([], (0, 0))), 0)), data.getD a.toNat (([], ([], ([], ([], (0, 0))))), ((0, ([], (0, 0))), 0)), ())).bind fun r =>
  bif decide (r < 0) then (
   some (b, a, wi64 (swaps + 1)))
  else (
   some (a, b, swaps))

noncomputable def fn_slices_order2CmpFunc_lots_made : Fun :=
  { f := 95, np := 5, nr := 2,
    ji := { regs := [(0, .one (.data (.sl (.pair (.pair (.str) (.pair (.str) (.pair (.str) (.pair (.str) (.pair (.int .i64) (.int .i64)))))) (.pair (.pair (.int .i64) (.pair (.str) (.pair (.int .i64) (.int .i64)))) (.int .i64)))))), (1, .one (.data (.int .i64))), (2, .one (.data (.int .i64))), (3, .one (.ptr 0 0)), (4, .one (.fn [.pair (.pair (.str) (.pair (.str) (.pair (.str) (.pair (.str) (.pair (.int .i64) (.int .i64)))))) (.pair (.pair (.int .i64) (.pair (.str) (.pair (.int .i64) (.int .i64)))) (.int .i64)), .pair (.pair (.str) (.pair (.str) (.pair (.str) (.pair (.str) (.pair (.int .i64) (.int .i64)))))) (.pair (.pair (.int .i64) (.pair (.str) (.pair (.int .i64) (.int .i64)))) (.int .i64))] (.int .i64)))], vars := [(0, 3, [.data (.int .i64)])], arrs := [] },
    jo := { regs := [(0, .one (.data (.int .i64))), (1, .one (.data (.int .i64)))], vars := [(0, 3, [.data (.int .i64)])], arrs := [] },
    tw := fun x => slices_order2CmpFunc_lots_made x.1 x.2.1 x.2.2.1 x.2.2.2.1 x.2.2.2.2 }
noncomputable def cx_slices_order2CmpFunc_lots_made : Cx := { Γ := types, ow := [], fs := [], N := 32 }
theorem ok_slices_order2CmpFunc_lots_made : FunOk Tryd.prog fn_slices_order2CmpFunc_lots_made :=
  FunOk.intro (C := cx_slices_order2CmpFunc_lots_made) (p := .nil)
    Tryd.func95 rfl nmr95 rfl rfl rfl rfl types_ok ⟨trivial, trivial⟩ mx (fun x => by kernel_rfl)

noncomputable def slices_medianCmpFunc_lots_made (data : List ((List UInt8 × List UInt8 × List UInt8 × List UInt8 × Int × Int) × (Int × List UInt8 × Int × Int) × Int)) (a : Int) (b : Int) (c : Int) (cmp : ((List UInt8 × List UInt8 × List UInt8 × List UInt8 × Int × Int) × (Int × List UInt8 × Int × Int) × Int) × ((List UInt8 × List UInt8 × List UInt8 × List UInt8 × Int × Int) × (Int × List UInt8 × Int × Int) × Int) × Unit → Option Int) (swaps : Int) : Option (Int × Int) :=
  (slices_order2CmpFunc_lots_made data a b cmp swaps).bind fun r =>
  (slices_order2CmpFunc_lots_made data r.2.1 c cmp r.2.2).bind fun r2 =>
  (slices_order2CmpFunc_lots_made data r.1 r2.1 cmp r2.2.2).bind fun r3 =>
  some (r3.2.1, r3.2.2)

noncomputable def fn_slices_medianCmpFunc_lots_made : Fun :=
  { f := 91, np := 6, nr := 1,
    ji := { regs := [(0, .one (.data (.sl (.pair (.pair (.str) (.pair (.str) (.pair (.str) (.pair (.str) (.pair (.int .i64) (.int .i64)))))) (.pair (.pair (.int .i64) (.pair (.str) (.pair (.int .i64) (.int .i64)))) (.int .i64)))))), (1, .one (.data (.int .i64))), (2, .one (.data (.int .i64))), (3, .one (.data (.int .i64))), (4, .one (.ptr 0 0)), (5, .one (.fn [.pair (.pair (.str) (.pair (.str) (.pair (.str) (.pair (.str) (.pair (.int .i64) (.int .i64)))))) (.pair (.pair (.int .i64) (.pair (.str) (.pair (.int .i64) (.int .i64)))) (.int .i64)), .pair (.pair (.str) (.pair (.str) (.pair (.str) (.pair (.str) (.pair (.int .i64) (.int .i64)))))) (.pair (.pair (.int .i64) (.pair (.str) (.pair (.int .i64) (.int .i64)))) (.int .i64))] (.int .i64)))], vars := [(0, 3, [.data (.int .i64)])], arrs := [] },
    jo := { regs := [(0, .one (.data (.int .i64)))], vars := [(0, 3, [.data (.int .i64)])], arrs := [] },
    tw := fun x => slices_medianCmpFunc_lots_made x.1 x.2.1 x.2.2.1 x.2.2.2.1 x.2.2.2.2.1 x.2.2.2.2.2 }
noncomputable def cx_slices_medianCmpFunc_lots_made : Cx := { Γ := types, ow := [], fs := [fn_slices_order2CmpFunc_lots_made], N := 41 }
theorem ok_slices_medianCmpFunc_lots_made : FunOk Tryd.prog fn_slices_medianCmpFunc_lots_made :=
  FunOk.intro (C := cx_slices_medianCmpFunc_lots_made) (p := .nil)
    Tryd.func91 rfl nmr91 rfl rfl rfl rfl types_ok ⟨⟨ok_slices_order2CmpFunc_lots_made, trivial⟩, trivial⟩ mx (fun x => by kernel_rfl)

noncomputable def slices_medianAdjacentCmpFunc_lots_made (data : List ((List UInt8 × List UInt8 × List UInt8 × List UInt8 × Int × Int) × (Int × List UInt8 × Int × Int) × Int)) (a : Int) (cmp : ((List UInt8 × List UInt8 × List UInt8 × List UInt8 × Int × Int) × (Int × List UInt8 × Int × Int) × Int) × ((List UInt8 × List UInt8 × List UInt8 × List UInt8 × Int × Int) × (Int × List UInt8 × Int × Int) × Int) × Unit → Option Int) (swaps : Int) : Option (Int × Int) :=
  (slices_medianCmpFunc_lots_made data (wi64 (a - 1)) a (wi64 (a + 1)) cmp swaps).bind fun r =>
  some (r.1, r.2)

noncomputable def fn_slices_medianAdjacentCmpFunc_lots_made : Fun :=
  { f := 90, np := 4, nr := 1,
    ji := { regs := [(0, .one (.data (.sl (.pair (.pair (.str) (.pair (.str) (.pair (.str) (.pair (.str) (.pair (.int .i64) (.int .i64)))))) (.pair (.pair (.int .i64) (.pair (.str) (.pair (.int .i64) (.int .i64)))) (.int .i64)))))), (1, .one (.data (.int .i64))), (2, .one (.ptr 0 0)), (3, .one (.fn [.pair (.pair (.str) (.pair (.str) (.pair (.str) (.pair (.str) (.pair (.int .i64) (.int .i64)))))) (.pair (.pair (.int .i64) (.pair (.str) (.pair (.int .i64) (.int .i64)))) (.int .i64)), .pair (.pair (.str) (.pair (.str) (.pair (.str) (.pair (.str) (.pair (.int .i64) (.int .i64)))))) (.pair (.pair (.int .i64) (.pair (.str) (.pair (.int .i64) (.int .i64)))) (.int .i64))] (.int .i64)))], vars := [(0, 3, [.data (.int .i64)])], arrs := [] },
    jo := { regs := [(0, .one (.data (.int .i64)))], vars := [(0, 3, [.data (.int .i64)])], arrs := [] },
    tw := fun x => slices_medianAdjacentCmpFunc_lots_made x.1 x.2.1 x.2.2.1 x.2.2.2 }
noncomputable def cx_slices_medianAdjacentCmpFunc_lots_made : Cx := { Γ := types, ow := [], fs := [fn_slices_medianCmpFunc_lots_made], N := 18 }
theorem ok_slices_medianAdjacentCmpFunc_lots_made : FunOk Tryd.prog fn_slices_medianAdjacentCmpFunc_lots_made :=
  FunOk.intro (C := cx_slices_medianAdjacentCmpFunc_lots_made) (p := .nil)
    Tryd.func90 rfl nmr90 rfl rfl rfl rfl types_ok ⟨⟨ok_slices_medianCmpFunc_lots_made, trivial⟩, trivial⟩ mx (fun x => by kernel_rfl)

noncomputable def slices_choosePivotCmpFunc_lots_made (data : List ((List UInt8 × List UInt8 × List UInt8 × List UInt8 × Int × Int) × (Int × List UInt8 × Int × Int) × Int)) (a : Int) (b : Int) (cmp : ((List UInt8 × List UInt8 × List UInt8 × List UInt8 × Int × Int) × (Int × List UInt8 × Int × Int) × Int) × ((List UInt8 × List UInt8 × List UInt8 × List UInt8 × Int × Int) × (Int × List UInt8 × Int × Int) × Int) × Unit → Option Int) : Option (Int × Int) :=
  Option.bind (α := Int × Int) (
    bif decide (8 ≤ wi64 (b - a)) then (
     Option.bind (α := Int × Int × Int × Int) (
       bif decide (50 ≤ wi64 (b - a)) then (
        (slices_medianAdjacentCmpFunc_lots_made data (wi64 (a + (wi64 ((wi64 (Int.tdiv (wi64 (b - a)) 4)) * 1)))) cmp 0).bind fun r =>
        (slices_medianAdjacentCmpFunc_lots_made data (wi64 (a + (wi64 ((wi64 (Int.tdiv (wi64 (b - a)) 4)) * 2)))) cmp r.2).bind fun r2 =>
        (slices_medianAdjacentCmpFunc_lots_made data (wi64 (a + (wi64 ((wi64 (Int.tdiv (wi64 (b - a)) 4)) * 3)))) cmp r2.2).bind fun r3 =>
        some (r.1, r2.1, r3.1, r3.2))
       else (
        some (wi64 (a + (wi64 ((wi64 (Int.tdiv (wi64 (b - a)) 4)) * 1))), wi64 (a + (wi64 ((wi64 (Int.tdiv (wi64 (b - a)) 4)) * 2))), wi64 (a + (wi64 ((wi64 (Int.tdiv (wi64 (b - a)) 4)) * 3))), 0))) fun s =>
     (slices_medianCmpFunc_lots_made data s.1 s.2.1 s.2.2.1 cmp s.2.2.2).bind fun r4 =>
     some (r4.1, r4.2))
    else (
     some (wi64 (a + (wi64 ((wi64 (Int.tdiv (wi64 (b - a)) 4)) * 2))), 0))) fun s2 =>
  bif decide (s2.2 = 0) then (
   some (s2.1, 1))
  else (
   bif decide (s2.2 = 12) then (
    some (s2.1, 2))
   else (
    some (s2.1, 0)))

noncomputable def fn_slices_choosePivotCmpFunc_lots_made : Fun :=
  { f := 70, np := 4, nr := 2,
    ji := { regs := [(0, .one (.data (.sl (.pair (.pair (.str) (.pair (.str) (.pair (.str) (.pair (.str) (.pair (.int .i64) (.int .i64)))))) (.pair (.pair (.int .i64) (.pair (.str) (.pair (.int .i64) (.int .i64)))) (.int .i64)))))), (1, .one (.data (.int .i64))), (2, .one (.data (.int .i64))), (3, .one (.fn [.pair (.pair (.str) (.pair (.str) (.pair (.str) (.pair (.str) (.pair (.int .i64) (.int .i64)))))) (.pair (.pair (.int .i64) (.pair (.str) (.pair (.int .i64) (.int .i64)))) (.int .i64)), .pair (.pair (.str) (.pair (.str) (.pair (.str) (.pair (.str) (.pair (.int .i64) (.int .i64)))))) (.pair (.pair (.int .i64) (.pair (.str) (.pair (.int .i64) (.int .i64)))) (.int .i64))] (.int .i64)))], vars := [], arrs := [] },
    jo := { regs := [(0, .one (.data (.int .i64))), (1, .one (.data (.int .i64)))], vars := [], arrs := [] },
    tw := fun x => slices_choosePivotCmpFunc_lots_made x.1 x.2.1 x.2.2.1 x.2.2.2 }
noncomputable def cx_slices_choosePivotCmpFunc_lots_made : Cx := { Γ := types, ow := [], fs := [fn_slices_medianAdjacentCmpFunc_lots_made, fn_slices_medianCmpFunc_lots_made], N := 63 }
theorem ok_slices_choosePivotCmpFunc_lots_made : FunOk Tryd.prog fn_slices_choosePivotCmpFunc_lots_made :=
  FunOk.intro (C := cx_slices_choosePivotCmpFunc_lots_made) (p := (.mk [] none .nil (.mk [] none .nil (.mk [] none .nil (.mk [] none .nil (.mk [] none .nil (.mk [] none .nil (.mk [] none (.mk [] none .nil (.mk [.join [{ e := .n, j := { regs := [(11, .one (.ptr 192 0)), (13, .one (.data (.int .i64)))], vars := [(192, 3, [.data (.int .i64)])], arrs := [] } }]] none (.mk [] none (.mk [] none .nil (.mk [.join [{ e := .n, j := { regs := [(0, .one .keep), (3, .one .keep), (11, .one (.ptr 192 0)), (12, .one (.data (.int .i64))), (13, .one (.data (.int .i64))), (14, .one (.data (.int .i64)))], vars := [(192, 3, [.data (.int .i64)])], arrs := [] } }]] none .nil .nil)) .nil) .nil)) .nil))))))))
    Tryd.func70 rfl nmr70 rfl rfl rfl rfl types_ok ⟨⟨ok_slices_medianAdjacentCmpFunc_lots_made, ok_slices_medianCmpFunc_lots_made, trivial⟩, trivial⟩ mx (fun x => by kernel_rfl)

noncomputable def slices_reverseRangeCmpFunc_lots_made_L0 (i : Int) (j : Int) (data2 : List ((List UInt8 × List UInt8 × List UInt8 × List UInt8 × Int × Int) × (Int × List UInt8 × Int × Int) × Int)) : Option ((Int × Int × List ((List UInt8 × List UInt8 × List UInt8 × List UInt8 × Int × Int) × (Int × List UInt8 × Int × Int) × Int)) ⊕ (List ((List UInt8 × List UInt8 × List UInt8 × List UInt8 × Int × Int) × (Int × List UInt8 × Int × Int) × Int))) :=
  bif decide (i < j) then (
   gd (inB j data2.length) <|
   gd (inB i data2.length) <|
   gd (inB i data2.length) <|
   gd (inB j (data2.set i.toNat (data2.getD j.toNat (([], ([], ([], ([], (0, 0))))), ((0, ([], (0, 0))), 0)))).length) <|
   some (.inl (wi64 (i + 1), wi64 (j - 1), (data2.set i.toNat (data2.getD j.toNat (([], ([], ([], ([], (0, 0))))), ((0, ([], (0, 0))), 0)))).set j.toNat (data2.getD i.toNat (([], ([], ([], ([], (0, 0))))), ((0, ([], (0, 0))), 0))))))
  else (
   some (.inr data2))

noncomputable def slices_reverseRangeCmpFunc_lots_made (a : Int) (b : Int) (cmp : ((List UInt8 × List UInt8 × List UInt8 × List UInt8 × Int × Int) × (Int × List UInt8 × Int × Int) × Int) × ((List UInt8 × List UInt8 × List UInt8 × List UInt8 × Int × Int) × (Int × List UInt8 × Int × Int) × Int) × Unit → Option Int) (data : List ((List UInt8 × List UInt8 × List UInt8 × List UInt8 × Int × Int) × (Int × List UInt8 × Int × Int) × Int)) : Option (List ((List UInt8 × List UInt8 × List UInt8 × List UInt8 × Int × Int) × (Int × List UInt8 × Int × Int) × Int)) :=
  (iter (fun x => slices_reverseRangeCmpFunc_lots_made_L0 x.1 x.2.1 x.2.2) (a, wi64 (b - 1), data)).bind fun s =>
  some s

noncomputable def fn_slices_reverseRangeCmpFunc_lots_made : Fun :=
  { f := 71, np := 4, nr := 0,
    ji := { regs := [(0, .one (.own 0)), (1, .one (.data (.int .i64))), (2, .one (.data (.int .i64))), (3, .one (.fn [.pair (.pair (.str) (.pair (.str) (.pair (.str) (.pair (.str) (.pair (.int .i64) (.int .i64)))))) (.pair (.pair (.int .i64) (.pair (.str) (.pair (.int .i64) (.int .i64)))) (.int .i64)), .pair (.pair (.str) (.pair (.str) (.pair (.str) (.pair (.str) (.pair (.int .i64) (.int .i64)))))) (.pair (.pair (.int .i64) (.pair (.str) (.pair (.int .i64) (.int .i64)))) (.int .i64))] (.int .i64)))], vars := [], arrs := [(0, .arr 73 (.pair (.pair (.str) (.pair (.str) (.pair (.str) (.pair (.str) (.pair (.int .i64) (.int .i64)))))) (.pair (.pair (.int .i64) (.pair (.str) (.pair (.int .i64) (.int .i64)))) (.int .i64))))] },
    jo := { regs := [], vars := [], arrs := [(0, .arr 73 (.pair (.pair (.str) (.pair (.str) (.pair (.str) (.pair (.str) (.pair (.int .i64) (.int .i64)))))) (.pair (.pair (.int .i64) (.pair (.str) (.pair (.int .i64) (.int .i64)))) (.int .i64))))] },
    tw := fun x => slices_reverseRangeCmpFunc_lots_made x.1 x.2.1 x.2.2.1 x.2.2.2 }
noncomputable def cx_slices_reverseRangeCmpFunc_lots_made : Cx := { Γ := types, ow := [], fs := [], N := 34 }
theorem ok_slices_reverseRangeCmpFunc_lots_made : FunOk Tryd.prog fn_slices_reverseRangeCmpFunc_lots_made :=
  FunOk.intro (C := cx_slices_reverseRangeCmpFunc_lots_made) (p := (.mk [] none .nil (.mk [] none .nil (.mk [] none (.mk [] (some ({ regs := [(0, .one (.own 0)), (8, .one (.data (.int .i64))), (9, .one (.data (.int .i64)))], vars := [], arrs := [(0, .arr 73 (.pair (.pair (.str) (.pair (.str) (.pair (.str) (.pair (.str) (.pair (.int .i64) (.int .i64)))))) (.pair (.pair (.int .i64) (.pair (.str) (.pair (.int .i64) (.int .i64)))) (.int .i64))))] }, [{ e := .x 0, j := { regs := [], vars := [], arrs := [(0, .arr 73 (.pair (.pair (.str) (.pair (.str) (.pair (.str) (.pair (.str) (.pair (.int .i64) (.int .i64)))))) (.pair (.pair (.int .i64) (.pair (.str) (.pair (.int .i64) (.int .i64)))) (.int .i64))))] } }])) .nil .nil) .nil))))
    Tryd.func71 rfl nmr71 rfl rfl rfl rfl types_ok ⟨trivial, trivial⟩ mx (fun x => by kernel_rfl)

noncomputable def slices_partialInsertionSortCmpFunc_lots_made_L1 (b : Int) (cmp : ((List UInt8 × List UInt8 × List UInt8 × List UInt8 × Int × Int) × (Int × List UInt8 × Int × Int) × Int) × ((List UInt8 × List UInt8 × List UInt8 × List UInt8 × Int × Int) × (Int × List UInt8 × Int × Int) × Int) × Unit → Option Int) (i2 : Int) (data3 : List ((List UInt8 × List UInt8 × List UInt8 × List UInt8 × Int × Int) × (Int × List UInt8 × Int × Int) × Int)) : Option ((Int × List ((List UInt8 × List UInt8 × List UInt8 × List UInt8 × Int × Int) × (Int × List UInt8 × Int × Int) × Int)) ⊕ (Int × List ((List UInt8 × List UInt8 × List UInt8 × List UInt8 × Int × Int) × (Int × List UInt8 × Int × Int) × Int))) :=
  Option.bind (α := Bool × List ((List UInt8 × List UInt8 × List UInt8 × List UInt8 × Int × Int) × (Int × List UInt8 × Int × Int) × Int)) (
    bif decide (i2 < b) then (
     gd (inB i2 data3.length) <|
     gd (inB (wi64 (i2 - 1)) data3.length) <|
     (cmp (data3.getD i2.toNat (([], ([], ([], ([], (0, 0))))), ((0, ([], (0, 0))), 0)), data3.getD ((wi64 (i2 - 1)).toNat) (([], ([], ([], ([], (0, 0))))), ((0, ([], (0, 0))), 0)), ())).bind fun r =>
     some ((!(decide (r < 0))), data3))
    else (
     some (false, data3))) fun s =>
  bif s.1 then (
   some (.inl (wi64 (i2 + 1), s.2)))
  else (
   some (.inr (i2, s.2)))

noncomputable def slices_partialInsertionSortCmpFunc_lots_made_L2 (cmp : ((List UInt8 × List UInt8 × List UInt8 × List UInt8 × Int × Int) × (Int × List UInt8 × Int × Int) × Int) × ((List UInt8 × List UInt8 × List UInt8 × List UInt8 × Int × Int) × (Int × List UInt8 × Int × Int) × Int) × Unit → Option Int) (j2 : Int) (data4 : List ((List UInt8 × List UInt8 × List UInt8 × List UInt8 × Int × Int) × (Int × List UInt8 × Int × Int) × Int)) : Option ((Int × List ((List UInt8 × List UInt8 × List UInt8 × List UInt8 × Int × Int) × (Int × List UInt8 × Int × Int) × Int)) ⊕ (List ((List UInt8 × List UInt8 × List UInt8 × List UInt8 × Int × Int) × (Int × List UInt8 × Int × Int) × Int))) :=
  bif decide (1 ≤ j2) then (
   gd (inB j2 data4.length) <|
   gd (inB (wi64 (j2 - 1)) data4.length) <|
   (cmp (data4.getD j2.toNat (([], ([], ([], ([], (0, 0))))), ((0, ([], (0, 0))), 0)), data4.getD ((wi64 (j2 - 1)).toNat) (([], ([], ([], ([], (0, 0))))), ((0, ([], (0, 0))), 0)), ())).bind fun r2 =>
   bif !(decide (r2 < 0)) then (
    some (.inr data4))
   else (
    gd (inB (wi64 (j2 - 1)) data4.length) <|
    gd (inB j2 data4.length) <|
    gd (inB j2 data4.length) <|
    gd (inB (wi64 (j2 - 1)) (data4.set j2.toNat (data4.getD ((wi64 (j2 - 1)).toNat) (([], ([], ([], ([], (0, 0))))), ((0, ([], (0, 0))), 0)))).length) <|
    some (.inl (wi64 (j2 - 1), (data4.set j2.toNat (data4.getD ((wi64 (j2 - 1)).toNat) (([], ([], ([], ([], (0, 0))))), ((0, ([], (0, 0))), 0)))).set ((wi64 (j2 - 1)).toNat) (data4.getD j2.toNat (([], ([], ([], ([], (0, 0))))), ((0, ([], (0, 0))), 0)))))))
  else (
   some (.inr data4))

noncomputable def slices_partialInsertionSortCmpFunc_lots_made_L3 (b : Int) (cmp : ((List UInt8 × List UInt8 × List UInt8 × List UInt8 × Int × Int) × (Int × List UInt8 × Int × Int) × Int) × ((List UInt8 × List UInt8 × List UInt8 × List UInt8 × Int × Int) × (Int × List UInt8 × Int × Int) × Int) × Unit → Option Int) (j3 : Int) (data5 : List ((List UInt8 × List UInt8 × List UInt8 × List UInt8 × Int × Int) × (Int × List UInt8 × Int × Int) × Int)) : Option ((Int × List ((List UInt8 × List UInt8 × List UInt8 × List UInt8 × Int × Int) × (Int × List UInt8 × Int × Int) × Int)) ⊕ (List ((List UInt8 × List UInt8 × List UInt8 × List UInt8 × Int × Int) × (Int × List UInt8 × Int × Int) × Int))) :=
  bif decide (j3 < b) then (
   gd (inB j3 data5.length) <|
   gd (inB (wi64 (j3 - 1)) data5.length) <|
   (cmp (data5.getD j3.toNat (([], ([], ([], ([], (0, 0))))), ((0, ([], (0, 0))), 0)), data5.getD ((wi64 (j3 - 1)).toNat) (([], ([], ([], ([], (0, 0))))), ((0, ([], (0, 0))), 0)), ())).bind fun r3 =>
   bif !(decide (r3 < 0)) then (
    some (.inr data5))
   else (
    gd (inB (wi64 (j3 - 1)) data5.length) <|
    gd (inB j3 data5.length) <|
    gd (inB j3 data5.length) <|
    gd (inB (wi64 (j3 - 1)) (data5.set j3.toNat (data5.getD ((wi64 (j3 - 1)).toNat) (([], ([], ([], ([], (0, 0))))), ((0, ([], (0, 0))), 0)))).length) <|
    some (.inl (wi64 (j3 + 1), (data5.set j3.toNat (data5.getD ((wi64 (j3 - 1)).toNat) (([], ([], ([], ([], (0, 0))))), ((0, ([], (0, 0))), 0)))).set ((wi64 (j3 - 1)).toNat) (data5.getD j3.toNat (([], ([], ([], ([], (0, 0))))), ((0, ([], (0, 0))), 0)))))))
  else (
   some (.inr data5))

noncomputable def slices_partialInsertionSortCmpFunc_lots_made_L0 (a : Int) (b : Int) (cmp : ((List UInt8 × List UInt8 × List UInt8 × List UInt8 × Int × Int) × (Int × List UInt8 × Int × Int) × Int) × ((List UInt8 × List UInt8 × List UInt8 × List UInt8 × Int × Int) × (Int × List UInt8 × Int × Int) × Int) × Unit → Option Int) (i : Int) (j : Int) (data2 : List ((List UInt8 × List UInt8 × List UInt8 × List UInt8 × Int × Int) × (Int × List UInt8 × Int × Int) × Int)) : Option ((Int × Int × List ((List UInt8 × List UInt8 × List UInt8 × List UInt8 × Int × Int) × (Int × List UInt8 × Int × Int) × Int)) ⊕ ((List ((List UInt8 × List UInt8 × List UInt8 × List UInt8 × Int × Int) × (Int × List UInt8 × Int × Int) × Int)) ⊕ (Bool × List ((List UInt8 × List UInt8 × List UInt8 × List UInt8 × Int × Int) × (Int × List UInt8 × Int × Int) × Int)))) :=
  bif decide (j < 5) then (
   (iter (fun x => slices_partialInsertionSortCmpFunc_lots_made_L1 b cmp x.1 x.2) (i, data2)).bind fun s2 =>
   bif decide (s2.1 = b) then (
    some (.inr (.inr (true, s2.2))))
   else (
    bif decide (wi64 (b - a) < 50) then (
     some (.inr (.inr (false, s2.2))))
    else (
     gd (inB (wi64 (s2.1 - 1)) s2.2.length) <|
     gd (inB s2.1 s2.2.length) <|
     gd (inB s2.1 s2.2.length) <|
     gd (inB (wi64 (s2.1 - 1)) (s2.2.set s2.1.toNat (s2.2.getD ((wi64 (s2.1 - 1)).toNat) (([], ([], ([], ([], (0, 0))))), ((0, ([], (0, 0))), 0)))).length) <|
     Option.bind (α := List ((List UInt8 × List UInt8 × List UInt8 × List UInt8 × Int × Int) × (Int × List UInt8 × Int × Int) × Int)) (
       bif decide (2 ≤ wi64 (s2.1 - a)) then (
        (iter (fun x2 => slices_partialInsertionSortCmpFunc_lots_made_L2 cmp x2.1 x2.2) (wi64 (s2.1 - 1), (s2.2.set s2.1.toNat (s2.2.getD ((wi64 (s2.1 - 1)).toNat) (([], ([], ([], ([], (0, 0))))), ((0, ([], (0, 0))), 0)))).set ((wi64 (s2.1 - 1)).toNat) (s2.2.getD s2.1.toNat (([], ([], ([], ([], (0, 0))))), ((0, ([], (0, 0))), 0))))).bind fun s3 =>
        some s3)
       else (
        some ((s2.2.set s2.1.toNat (s2.2.getD ((wi64 (s2.1 - 1)).toNat) (([], ([], ([], ([], (0, 0))))), ((0, ([], (0, 0))), 0)))).set ((wi64 (s2.1 - 1)).toNat) (s2.2.getD s2.1.toNat (([], ([], ([], ([], (0, 0))))), ((0, ([], (0, 0))), 0)))))) fun s4 =>
     Option.bind (α := List ((List UInt8 × List UInt8 × List UInt8 × List UInt8 × Int × Int) × (Int × List UInt8 × Int × Int) × Int)) (
       bif decide (2 ≤ wi64 (b - s2.1)) then (
        (iter (fun x3 => slices_partialInsertionSortCmpFunc_lots_made_L3 b cmp x3.1 x3.2) (wi64 (s2.1 + 1), s4)).bind fun s5 =>
        some s5)
       else (
        some s4)) fun s6 =>
     some (.inl (s2.1, wi64 (j + 1), s6)))))
  else (
   some (.inr (.inl data2)))

noncomputable def slices_partialInsertionSortCmpFunc_lots_made (a : Int) (b : Int) (cmp : ((List UInt8 × List UInt8 × List UInt8 × List UInt8 × Int × Int) × (Int × List UInt8 × Int × Int) × Int) × ((List UInt8 × List UInt8 × List UInt8 × List UInt8 × Int × Int) × (Int × List UInt8 × Int × Int) × Int) × Unit → Option Int) (data : List ((List UInt8 × List UInt8 × List UInt8 × List UInt8 × Int × Int) × (Int × List UInt8 × Int × Int) × Int)) : Option (Bool × List ((List UInt8 × List UInt8 × List UInt8 × List UInt8 × Int × Int) × (Int × List UInt8 × Int × Int) × Int)) :=
  (iter (fun x4 => slices_partialInsertionSortCmpFunc_lots_made_L0 a b cmp x4.1 x4.2.1 x4.2.2) (wi64 (a + 1), 0, data)).bind fun s7 =>
  s7.elim (fun s8 =>
   some (false, s8))
  (fun s9 =>
   some (s9.1, s9.2))

noncomputable def fn_slices_partialInsertionSortCmpFunc_lots_made : Fun :=
  { f := 72, np := 4, nr := 1,
    ji := { regs := [(0, .one (.own 0)), (1, .one (.data (.int .i64))), (2, .one (.data (.int .i64))), (3, .one (.fn [.pair (.pair (.str) (.pair (.str) (.pair (.str) (.pair (.str) (.pair (.int .i64) (.int .i64)))))) (.pair (.pair (.int .i64) (.pair (.str) (.pair (.int .i64) (.int .i64)))) (.int .i64)), .pair (.pair (.str) (.pair (.str) (.pair (.str) (.pair (.str) (.pair (.int .i64) (.int .i64)))))) (.pair (.pair (.int .i64) (.pair (.str) (.pair (.int .i64) (.int .i64)))) (.int .i64))] (.int .i64)))], vars := [], arrs := [(0, .arr 73 (.pair (.pair (.str) (.pair (.str) (.pair (.str) (.pair (.str) (.pair (.int .i64) (.int .i64)))))) (.pair (.pair (.int .i64) (.pair (.str) (.pair (.int .i64) (.int .i64)))) (.int .i64))))] },
    jo := { regs := [(0, .one (.data (.bool)))], vars := [], arrs := [(0, .arr 73 (.pair (.pair (.str) (.pair (.str) (.pair (.str) (.pair (.str) (.pair (.int .i64) (.int .i64)))))) (.pair (.pair (.int .i64) (.pair (.str) (.pair (.int .i64) (.int .i64)))) (.int .i64))))] },
    tw := fun x => slices_partialInsertionSortCmpFunc_lots_made x.1 x.2.1 x.2.2.1 x.2.2.2 }
noncomputable def cx_slices_partialInsertionSortCmpFunc_lots_made : Cx := { Γ := types, ow := [], fs := [], N := 141 }
theorem ok_slices_partialInsertionSortCmpFunc_lots_made : FunOk Tryd.prog fn_slices_partialInsertionSortCmpFunc_lots_made :=
  FunOk.intro (C := cx_slices_partialInsertionSortCmpFunc_lots_made) (p := (.mk [] none .nil (.mk [] none .nil (.mk [] none (.mk [] none .nil (.mk [] none (.mk [] (some ({ regs := [(0, .one (.own 0)), (1, .one .keep), (2, .one .keep), (3, .one .keep), (9, .one (.data (.int .i64))), (10, .one (.data (.int .i64)))], vars := [], arrs := [(0, .arr 73 (.pair (.pair (.str) (.pair (.str) (.pair (.str) (.pair (.str) (.pair (.int .i64) (.int .i64)))))) (.pair (.pair (.int .i64) (.pair (.str) (.pair (.int .i64) (.int .i64)))) (.int .i64))))] }, [{ e := .x 0, j := { regs := [], vars := [], arrs := [(0, .arr 73 (.pair (.pair (.str) (.pair (.str) (.pair (.str) (.pair (.str) (.pair (.int .i64) (.int .i64)))))) (.pair (.pair (.int .i64) (.pair (.str) (.pair (.int .i64) (.int .i64)))) (.int .i64))))] } }, { e := .r, j := { regs := [(8, .one (.data (.bool)))], vars := [], arrs := [(0, .arr 73 (.pair (.pair (.str) (.pair (.str) (.pair (.str) (.pair (.str) (.pair (.int .i64) (.int .i64)))))) (.pair (.pair (.int .i64) (.pair (.str) (.pair (.int .i64) (.int .i64)))) (.int .i64))))] } }])) (.mk [] none .nil (.mk [] none (.mk [] none (.mk [] none (.mk [] none (.mk [] (some ({ regs := [(0, .one (.own 0)), (1, .one .keep), (2, .one .keep), (3, .one .keep), (9, .one (.data (.int .i64))), (10, .one .keep)], vars := [], arrs := [(0, .arr 73 (.pair (.pair (.str) (.pair (.str) (.pair (.str) (.pair (.str) (.pair (.int .i64) (.int .i64)))))) (.pair (.pair (.int .i64) (.pair (.str) (.pair (.int .i64) (.int .i64)))) (.int .i64))))] }, [{ e := .x 2, j := { regs := [(0, .one (.own 0)), (1, .one .keep), (2, .one .keep), (3, .one .keep), (9, .one (.data (.int .i64))), (10, .one .keep)], vars := [], arrs := [(0, .arr 73 (.pair (.pair (.str) (.pair (.str) (.pair (.str) (.pair (.str) (.pair (.int .i64) (.int .i64)))))) (.pair (.pair (.int .i64) (.pair (.str) (.pair (.int .i64) (.int .i64)))) (.int .i64))))] } }])) (.mk [] none (.mk [] none (.mk [.join [{ e := .n, j := { regs := [(0, .one (.own 0)), (1, .one .keep), (2, .one .keep), (3, .one .keep), (9, .one .keep), (10, .one .keep), (36, .one (.data (.bool)))], vars := [], arrs := [(0, .arr 73 (.pair (.pair (.str) (.pair (.str) (.pair (.str) (.pair (.str) (.pair (.int .i64) (.int .i64)))))) (.pair (.pair (.int .i64) (.pair (.str) (.pair (.int .i64) (.int .i64)))) (.int .i64))))] } }]] none .nil .nil) .nil) .nil) .nil) .nil) (.mk [] none .nil (.mk [] none .nil (.mk [] none .nil (.mk [] none (.mk [] none .nil (.mk [.join [{ e := .n, j := { regs := [(0, .one (.own 0)), (1, .one .keep), (2, .one .keep), (3, .one .keep), (9, .one .keep), (10, .one .keep)], vars := [], arrs := [(0, .arr 73 (.pair (.pair (.str) (.pair (.str) (.pair (.str) (.pair (.str) (.pair (.int .i64) (.int .i64)))))) (.pair (.pair (.int .i64) (.pair (.str) (.pair (.int .i64) (.int .i64)))) (.int .i64))))] } }]] none (.mk [] none .nil (.mk [] none (.mk [] (some ({ regs := [(0, .one (.own 0)), (1, .one .keep), (2, .one .keep), (3, .one .keep), (9, .one .keep), (10, .one .keep), (11, .one (.data (.int .i64)))], vars := [], arrs := [(0, .arr 73 (.pair (.pair (.str) (.pair (.str) (.pair (.str) (.pair (.str) (.pair (.int .i64) (.int .i64)))))) (.pair (.pair (.int .i64) (.pair (.str) (.pair (.int .i64) (.int .i64)))) (.int .i64))))] }, [{ e := .x 4, j := { regs := [(0, .one (.own 0)), (1, .one .keep), (2, .one .keep), (3, .one .keep), (9, .one .keep), (10, .one .keep)], vars := [], arrs := [(0, .arr 73 (.pair (.pair (.str) (.pair (.str) (.pair (.str) (.pair (.str) (.pair (.int .i64) (.int .i64)))))) (.pair (.pair (.int .i64) (.pair (.str) (.pair (.int .i64) (.int .i64)))) (.int .i64))))] } }])) .nil .nil) .nil)) .nil)) (.mk [] none .nil (.mk [.join [{ e := .n, j := { regs := [(0, .one (.own 0)), (1, .one .keep), (2, .one .keep), (3, .one .keep), (9, .one .keep), (10, .one .keep)], vars := [], arrs := [(0, .arr 73 (.pair (.pair (.str) (.pair (.str) (.pair (.str) (.pair (.str) (.pair (.int .i64) (.int .i64)))))) (.pair (.pair (.int .i64) (.pair (.str) (.pair (.int .i64) (.int .i64)))) (.int .i64))))] } }]] none (.mk [] none .nil (.mk [] none (.mk [] (some ({ regs := [(0, .one (.own 0)), (1, .one .keep), (2, .one .keep), (3, .one .keep), (9, .one .keep), (10, .one .keep), (12, .one (.data (.int .i64)))], vars := [], arrs := [(0, .arr 73 (.pair (.pair (.str) (.pair (.str) (.pair (.str) (.pair (.str) (.pair (.int .i64) (.int .i64)))))) (.pair (.pair (.int .i64) (.pair (.str) (.pair (.int .i64) (.int .i64)))) (.int .i64))))] }, [{ e := .x 6, j := { regs := [(0, .one (.own 0)), (1, .one .keep), (2, .one .keep), (3, .one .keep), (9, .one .keep), (10, .one .keep)], vars := [], arrs := [(0, .arr 73 (.pair (.pair (.str) (.pair (.str) (.pair (.str) (.pair (.str) (.pair (.int .i64) (.int .i64)))))) (.pair (.pair (.int .i64) (.pair (.str) (.pair (.int .i64) (.int .i64)))) (.int .i64))))] } }])) .nil .nil) .nil)) .nil))))))) .nil) .nil)) .nil) .nil)) .nil))))
    Tryd.func72 rfl nmr72 rfl rfl rfl rfl types_ok ⟨trivial, trivial⟩ mx (fun x => by kernel_rfl)

noncomputable def slices_partitionEqualCmpFunc_lots_made_L1 (a : Int) (cmp : ((List UInt8 × List UInt8 × List UInt8 × List UInt8 × Int × Int) × (Int × List UInt8 × Int × Int) × Int) × ((List UInt8 × List UInt8 × List UInt8 × List UInt8 × Int × Int) × (Int × List UInt8 × Int × Int) × Int) × Unit → Option Int) (j : Int) (i2 : Int) (data3 : List ((List UInt8 × List UInt8 × List UInt8 × List UInt8 × Int × Int) × (Int × List UInt8 × Int × Int) × Int)) : Option ((Int × List ((List UInt8 × List UInt8 × List UInt8 × List UInt8 × Int × Int) × (Int × List UInt8 × Int × Int) × Int)) ⊕ (Int × List ((List UInt8 × List UInt8 × List UInt8 × List UInt8 × Int × Int) × (Int × List UInt8 × Int × Int) × Int))) :=
  Option.bind (α := Bool × List ((List UInt8 × List UInt8 × List UInt8 × List UInt8 × Int × Int) × (Int × List UInt8 × Int × Int) × Int)) (
    bif decide (i2 ≤ j) then (
     gd (inB a data3.length) <|
     gd (inB i2 data3.length) <|
     (cmp (data3.getD a.toNat (([], ([], ([], ([], (0, 0))))), ((0, ([], (0, 0))), 0)), data3.getD i2.toNat (([], ([], ([], ([], (0, 0))))), ((0, ([], (0, 0))), 0)), ())).bind fun r =>
     some ((!(decide (r < 0))), data3))
    else (
     some (false, data3))) fun s =>
  bif s.1 then (
   some (.inl (wi64 (i2 + 1), s.2)))
  else (
   some (.inr (i2, s.2)))

noncomputable def slices_partitionEqualCmpFunc_lots_made_L2 (a : Int) (cmp : ((List UInt8 × List UInt8 × List UInt8 × List UInt8 × Int × Int) × (Int × List UInt8 × Int × Int) × Int) × ((List UInt8 × List UInt8 × List UInt8 × List UInt8 × Int × Int) × (Int × List UInt8 × Int × Int) × Int) × Unit → Option Int) (s2 : Int × List ((List UInt8 × List UInt8 × List UInt8 × List UInt8 × Int × Int) × (Int × List UInt8 × Int × Int) × Int)) (j2 : Int) (data4 : List ((List UInt8 × List UInt8 × List UInt8 × List UInt8 × Int × Int) × (Int × List UInt8 × Int × Int) × Int)) : Option ((Int × List ((List UInt8 × List UInt8 × List UInt8 × List UInt8 × Int × Int) × (Int × List UInt8 × Int × Int) × Int)) ⊕ (Int × List ((List UInt8 × List UInt8 × List UInt8 × List UInt8 × Int × Int) × (Int × List UInt8 × Int × Int) × Int))) :=
  Option.bind (α := Bool × List ((List UInt8 × List UInt8 × List UInt8 × List UInt8 × Int × Int) × (Int × List UInt8 × Int × Int) × Int)) (
    bif decide (s2.1 ≤ j2) then (
     gd (inB a data4.length) <|
     gd (inB j2 data4.length) <|
     (cmp (data4.getD a.toNat (([], ([], ([], ([], (0, 0))))), ((0, ([], (0, 0))), 0)), data4.getD j2.toNat (([], ([], ([], ([], (0, 0))))), ((0, ([], (0, 0))), 0)), ())).bind fun r2 =>
     some (decide (r2 < 0), data4))
    else (
     some (false, data4))) fun s3 =>
  bif s3.1 then (
   some (.inl (wi64 (j2 - 1), s3.2)))
  else (
   some (.inr (j2, s3.2)))

noncomputable def slices_partitionEqualCmpFunc_lots_made_L0 (a : Int) (cmp : ((List UInt8 × List UInt8 × List UInt8 × List UInt8 × Int × Int) × (Int × List UInt8 × Int × Int) × Int) × ((List UInt8 × List UInt8 × List UInt8 × List UInt8 × Int × Int) × (Int × List UInt8 × Int × Int) × Int) × Unit → Option Int) (i : Int) (j : Int) (data2 : List ((List UInt8 × List UInt8 × List UInt8 × List UInt8 × Int × Int) × (Int × List UInt8 × Int × Int) × Int)) : Option ((Int × Int × List ((List UInt8 × List UInt8 × List UInt8 × List UInt8 × Int × Int) × (Int × List UInt8 × Int × Int) × Int)) ⊕ (Int × List ((List UInt8 × List UInt8 × List UInt8 × List UInt8 × Int × Int) × (Int × List UInt8 × Int × Int) × Int))) :=
  (iter (fun x => slices_partitionEqualCmpFunc_lots_made_L1 a cmp j x.1 x.2) (i, data2)).bind fun s2 =>
  (iter (fun x2 => slices_partitionEqualCmpFunc_lots_made_L2 a cmp s2 x2.1 x2.2) (j, s2.2)).bind fun s4 =>
  bif decide (s4.1 < s2.1) then (
   some (.inr (s2.1, s4.2)))
  else (
   gd (inB s4.1 s4.2.length) <|
   gd (inB s2.1 s4.2.length) <|
   gd (inB s2.1 s4.2.length) <|
   gd (inB s4.1 (s4.2.set s2.1.toNat (s4.2.getD s4.1.toNat (([], ([], ([], ([], (0, 0))))), ((0, ([], (0, 0))), 0)))).length) <|
   some (.inl (wi64 (s2.1 + 1), wi64 (s4.1 - 1), (s4.2.set s2.1.toNat (s4.2.getD s4.1.toNat (([], ([], ([], ([], (0, 0))))), ((0, ([], (0, 0))), 0)))).set s4.1.toNat (s4.2.getD s2.1.toNat (([], ([], ([], ([], (0, 0))))), ((0, ([], (0, 0))), 0))))))

noncomputable def slices_partitionEqualCmpFunc_lots_made (a : Int) (b : Int) (pivot : Int) (cmp : ((List UInt8 × List UInt8 × List UInt8 × List UInt8 × Int × Int) × (Int × List UInt8 × Int × Int) × Int) × ((List UInt8 × List UInt8 × List UInt8 × List UInt8 × Int × Int) × (Int × List UInt8 × Int × Int) × Int) × Unit → Option Int) (data : List ((List UInt8 × List UInt8 × List UInt8 × List UInt8 × Int × Int) × (Int × List UInt8 × Int × Int) × Int)) : Option (Int × List ((List UInt8 × List UInt8 × List UInt8 × List UInt8 × Int × Int) × (Int × List UInt8 × Int × Int) × Int)) :=
  gd (inB pivot data.length) <|
  gd (inB a data.length) <|
  gd (inB a data.length) <|
  gd (inB pivot (data.set a.toNat (data.getD pivot.toNat (([], ([], ([], ([], (0, 0))))), ((0, ([], (0, 0))), 0)))).length) <|
  (iter (fun x3 => slices_partitionEqualCmpFunc_lots_made_L0 a cmp x3.1 x3.2.1 x3.2.2) (wi64 (a + 1), wi64 (b - 1), (data.set a.toNat (data.getD pivot.toNat (([], ([], ([], ([], (0, 0))))), ((0, ([], (0, 0))), 0)))).set pivot.toNat (data.getD a.toNat (([], ([], ([], ([], (0, 0))))), ((0, ([], (0, 0))), 0))))).bind fun s5 =>
  some (s5.1, s5.2)

noncomputable def fn_slices_partitionEqualCmpFunc_lots_made : Fun :=
  { f := 73, np := 5, nr := 1,
    ji := { regs := [(0, .one (.own 0)), (1, .one (.data (.int .i64))), (2, .one (.data (.int .i64))), (3, .one (.data (.int .i64))), (4, .one (.fn [.pair (.pair (.str) (.pair (.str) (.pair (.str) (.pair (.str) (.pair (.int .i64) (.int .i64)))))) (.pair (.pair (.int .i64) (.pair (.str) (.pair (.int .i64) (.int .i64)))) (.int .i64)), .pair (.pair (.str) (.pair (.str) (.pair (.str) (.pair (.str) (.pair (.int .i64) (.int .i64)))))) (.pair (.pair (.int .i64) (.pair (.str) (.pair (.int .i64) (.int .i64)))) (.int .i64))] (.int .i64)))], vars := [], arrs := [(0, .arr 73 (.pair (.pair (.str) (.pair (.str) (.pair (.str) (.pair (.str) (.pair (.int .i64) (.int .i64)))))) (.pair (.pair (.int .i64) (.pair (.str) (.pair (.int .i64) (.int .i64)))) (.int .i64))))] },
    jo := { regs := [(0, .one (.data (.int .i64)))], vars := [], arrs := [(0, .arr 73 (.pair (.pair (.str) (.pair (.str) (.pair (.str) (.pair (.str) (.pair (.int .i64) (.int .i64)))))) (.pair (.pair (.int .i64) (.pair (.str) (.pair (.int .i64) (.int .i64)))) (.int .i64))))] },
    tw := fun x => slices_partitionEqualCmpFunc_lots_made x.1 x.2.1 x.2.2.1 x.2.2.2.1 x.2.2.2.2 }
noncomputable def cx_slices_partitionEqualCmpFunc_lots_made : Cx := { Γ := types, ow := [], fs := [], N := 90 }
theorem ok_slices_partitionEqualCmpFunc_lots_made : FunOk Tryd.prog fn_slices_partitionEqualCmpFunc_lots_made :=
  FunOk.intro (C := cx_slices_partitionEqualCmpFunc_lots_made) (p := (.mk [] none .nil (.mk [] none .nil (.mk [] none .nil (.mk [] none (.mk [] none (.mk [] (some ({ regs := [(0, .one (.own 0)), (1, .one .keep), (4, .one .keep), (11, .one (.data (.int .i64))), (12, .one (.data (.int .i64)))], vars := [], arrs := [(0, .arr 73 (.pair (.pair (.str) (.pair (.str) (.pair (.str) (.pair (.str) (.pair (.int .i64) (.int .i64)))))) (.pair (.pair (.int .i64) (.pair (.str) (.pair (.int .i64) (.int .i64)))) (.int .i64))))] }, [{ e := .x 0, j := { regs := [(11, .one (.data (.int .i64)))], vars := [], arrs := [(0, .arr 73 (.pair (.pair (.str) (.pair (.str) (.pair (.str) (.pair (.str) (.pair (.int .i64) (.int .i64)))))) (.pair (.pair (.int .i64) (.pair (.str) (.pair (.int .i64) (.int .i64)))) (.int .i64))))] } }])) (.mk [] none (.mk [] none (.mk [] none (.mk [] (some ({ regs := [(0, .one (.own 0)), (1, .one .keep), (4, .one .keep), (11, .one (.data (.int .i64))), (12, .one .keep)], vars := [], arrs := [(0, .arr 73 (.pair (.pair (.str) (.pair (.str) (.pair (.str) (.pair (.str) (.pair (.int .i64) (.int .i64)))))) (.pair (.pair (.int .i64) (.pair (.str) (.pair (.int .i64) (.int .i64)))) (.int .i64))))] }, [{ e := .x 2, j := { regs := [(0, .one (.own 0)), (1, .one .keep), (4, .one .keep), (11, .one (.data (.int .i64))), (12, .one .keep)], vars := [], arrs := [(0, .arr 73 (.pair (.pair (.str) (.pair (.str) (.pair (.str) (.pair (.str) (.pair (.int .i64) (.int .i64)))))) (.pair (.pair (.int .i64) (.pair (.str) (.pair (.int .i64) (.int .i64)))) (.int .i64))))] } }])) (.mk [] none (.mk [] none (.mk [.join [{ e := .n, j := { regs := [(0, .one (.own 0)), (1, .one .keep), (4, .one .keep), (11, .one .keep), (12, .one .keep), (47, .one (.data (.bool)))], vars := [], arrs := [(0, .arr 73 (.pair (.pair (.str) (.pair (.str) (.pair (.str) (.pair (.str) (.pair (.int .i64) (.int .i64)))))) (.pair (.pair (.int .i64) (.pair (.str) (.pair (.int .i64) (.int .i64)))) (.int .i64))))] } }]] none .nil .nil) .nil) .nil) .nil) .nil) (.mk [] none (.mk [] none (.mk [] (some ({ regs := [(0, .one (.own 0)), (1, .one .keep), (4, .one .keep), (11, .one .keep), (12, .one (.data (.int .i64)))], vars := [], arrs := [(0, .arr 73 (.pair (.pair (.str) (.pair (.str) (.pair (.str) (.pair (.str) (.pair (.int .i64) (.int .i64)))))) (.pair (.pair (.int .i64) (.pair (.str) (.pair (.int .i64) (.int .i64)))) (.int .i64))))] }, [{ e := .x 4, j := { regs := [(0, .one (.own 0)), (1, .one .keep), (4, .one .keep), (11, .one .keep), (12, .one (.data (.int .i64)))], vars := [], arrs := [(0, .arr 73 (.pair (.pair (.str) (.pair (.str) (.pair (.str) (.pair (.str) (.pair (.int .i64) (.int .i64)))))) (.pair (.pair (.int .i64) (.pair (.str) (.pair (.int .i64) (.int .i64)))) (.int .i64))))] } }])) (.mk [] none (.mk [] none (.mk [.join [{ e := .n, j := { regs := [(0, .one (.own 0)), (1, .one .keep), (4, .one .keep), (11, .one .keep), (12, .one .keep), (65, .one (.data (.bool)))], vars := [], arrs := [(0, .arr 73 (.pair (.pair (.str) (.pair (.str) (.pair (.str) (.pair (.str) (.pair (.int .i64) (.int .i64)))))) (.pair (.pair (.int .i64) (.pair (.str) (.pair (.int .i64) (.int .i64)))) (.int .i64))))] } }]] none .nil .nil) .nil) .nil) .nil) .nil) .nil)) .nil) .nil) .nil) .nil)))))
    Tryd.func73 rfl nmr73 rfl rfl rfl rfl types_ok ⟨trivial, trivial⟩ mx (fun x => by kernel_rfl)


end Go.Proofs.YtiojagjejddocaaDoor
