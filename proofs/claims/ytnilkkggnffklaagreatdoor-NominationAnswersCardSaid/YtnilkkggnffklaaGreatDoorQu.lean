/- Functions, evaluated. No condition. -/
import Derived.Test.YtnilkkggnffklaaGreatDoorProg
import Derived.Test.YtnilkkggnffklaaGreatDoorSqLB
import Derived.Test.YtnilkkggnffklaaGreatDoorLx
import Derived.Test.YtnilkkggnffklaaGreatDoorLc
namespace Go.Proofs.YtnilkkggnffklaaGreatDoor
open Go Go.Sq
def ti3 : TI := { t := 3, desc := .int .i64, size := 1, bytes := 8, zero := .int .i64 0, τ := .int .i64, eq := false }
theorem tk3 : ti3.ok Tryz.prog := ⟨Tryz.underlying3, by kernel_rfl, fun h => by cases h⟩
def ti5 : TI := { t := 5, desc := .int .u8, size := 1, bytes := 1, zero := .int .u8 0, τ := .int .u8, eq := false }
theorem tk5 : ti5.ok Tryz.prog := ⟨Tryz.underlying5, by kernel_rfl, fun h => by cases h⟩
def ti9 : TI := { t := 9, desc := .string, size := 1, bytes := 16, zero := .string ⟨#[]⟩, τ := .str, eq := false }
theorem tk9 : ti9.ok Tryz.prog := ⟨Tryz.underlying9, by kernel_rfl, fun h => by cases h⟩
def ti22 : TI := { t := 22, desc := .slice 3, size := 1, bytes := 24, zero := .slice none 0 0, τ := .sl (.int .i64), eq := false }
theorem tk22 : ti22.ok Tryz.prog := ⟨Tryz.underlying22, by kernel_rfl, fun h => by cases h⟩
def ti23 : TI := { t := 23, desc := .slice 28, size := 1, bytes := 24, zero := .slice none 0 0, τ := .sl (.pair (.str) (.pair (.str) (.pair (.str) (.pair (.str) (.pair (.int .i64) (.int .i64)))))), eq := false }
theorem tk23 : ti23.ok Tryz.prog := ⟨Tryz.underlying23, by kernel_rfl, fun h => by cases h⟩
def ti28 : TI := { t := 28, desc := .struct #[{ name := "Shipper", type := 9, offset := 0, embedded := false, tag := "", pkgPath := "", byteOffset := 0 }, { name := "Product", type := 9, offset := 1, embedded := false, tag := "", pkgPath := "", byteOffset := 16 }, { name := "From", type := 9, offset := 2, embedded := false, tag := "", pkgPath := "", byteOffset := 32 }, { name := "To", type := 9, offset := 3, embedded := false, tag := "", pkgPath := "", byteOffset := 48 }, { name := "Cycle", type := 3, offset := 4, embedded := false, tag := "", pkgPath := "", byteOffset := 64 }, { name := "Volume", type := 3, offset := 5, embedded := false, tag := "", pkgPath := "", byteOffset := 72 }], size := 6, bytes := 80, zero := .agg #[.string ⟨#[]⟩, .string ⟨#[]⟩, .string ⟨#[]⟩, .string ⟨#[]⟩, .int .i64 0, .int .i64 0], τ := .pair (.str) (.pair (.str) (.pair (.str) (.pair (.str) (.pair (.int .i64) (.int .i64))))), eq := true }
theorem tk28 : ti28.ok Tryz.prog := ⟨Tryz.underlying28, by kernel_rfl, fun _ => ⟨Tryz.eqGuardType28, Tryz.stoodInHeld28⟩⟩
def ti38 : TI := { t := 38, desc := .slice 23, size := 1, bytes := 24, zero := .slice none 0 0, τ := .sl (.sl (.pair (.str) (.pair (.str) (.pair (.str) (.pair (.str) (.pair (.int .i64) (.int .i64))))))), eq := false }
theorem tk38 : ti38.ok Tryz.prog := ⟨Tryz.underlying38, by kernel_rfl, fun h => by cases h⟩
def ti42 : TI := { t := 42, desc := .slice 9, size := 1, bytes := 24, zero := .slice none 0 0, τ := .sl (.str), eq := false }
theorem tk42 : ti42.ok Tryz.prog := ⟨Tryz.underlying42, by kernel_rfl, fun h => by cases h⟩
def ti50 : TI := { t := 50, desc := .struct #[{ name := "L", type := 22, offset := 0, embedded := false, tag := "", pkgPath := "", byteOffset := 0 }, { name := "At", type := 3, offset := 1, embedded := false, tag := "", pkgPath := "", byteOffset := 24 }], size := 2, bytes := 32, zero := .agg #[.slice none 0 0, .int .i64 0], τ := .pair (.sl (.int .i64)) (.int .i64), eq := true }
theorem tk50 : ti50.ok Tryz.prog := ⟨Tryz.underlying50, by kernel_rfl, fun _ => ⟨Tryz.eqGuardType50, Tryz.stoodInHeld50⟩⟩
def ti51 : TI := { t := 51, desc := .map 28 3, size := 1, bytes := 8, zero := .map none, τ := .map (.pair (.str) (.pair (.str) (.pair (.str) (.pair (.str) (.pair (.int .i64) (.int .i64)))))) (.int .i64), eq := false }
theorem tk51 : ti51.ok Tryz.prog := ⟨Tryz.underlying51, by kernel_rfl, fun h => by cases h⟩
def ti54 : TI := { t := 54, desc := .slice 42, size := 1, bytes := 24, zero := .slice none 0 0, τ := .sl (.sl (.str)), eq := false }
theorem tk54 : ti54.ok Tryz.prog := ⟨Tryz.underlying54, by kernel_rfl, fun h => by cases h⟩
def ti69 : TI := { t := 69, desc := .int .u64, size := 1, bytes := 8, zero := .int .u64 0, τ := .int .u64, eq := false }
theorem tk69 : ti69.ok Tryz.prog := ⟨Tryz.underlying69, by kernel_rfl, fun h => by cases h⟩
def ti73 : TI := { t := 73, desc := .pointer 76, size := 1, bytes := 8, zero := .pointer none, τ := .unit, eq := false }
theorem tk73 : ti73.ok Tryz.prog := ⟨Tryz.underlying73, by kernel_rfl, fun h => by cases h⟩
def ti74 : TI := { t := 74, desc := .slice 5, size := 1, bytes := 24, zero := .slice none 0 0, τ := .sl (.int .u8), eq := false }
theorem tk74 : ti74.ok Tryz.prog := ⟨Tryz.underlying74, by kernel_rfl, fun h => by cases h⟩
def ti76 : TI := { t := 76, desc := .struct #[{ name := "addr", type := 73, offset := 0, embedded := false, tag := "", pkgPath := "strings", byteOffset := 0 }, { name := "buf", type := 74, offset := 1, embedded := false, tag := "", pkgPath := "strings", byteOffset := 8 }], size := 2, bytes := 32, zero := .agg #[.pointer none, .slice none 0 0], τ := .unit, eq := true }
theorem tk76 : ti76.ok Tryz.prog := ⟨Tryz.underlying76, by kernel_rfl, fun _ => ⟨Tryz.eqGuardType76, Tryz.stoodInHeld76⟩⟩
def ti78 : TI := { t := 78, desc := .interface #[("Error", 82)], size := 1, bytes := 16, zero := .nilIface, τ := .err, eq := false }
theorem tk78 : ti78.ok Tryz.prog := ⟨Tryz.underlying78, by kernel_rfl, fun h => by cases h⟩
def ti99 : TI := { t := 99, desc := .int .u32, size := 1, bytes := 4, zero := .int .u32 0, τ := .int .u32, eq := false }
theorem tk99 : ti99.ok Tryz.prog := ⟨Tryz.underlying99, by kernel_rfl, fun h => by cases h⟩
def ti101 : TI := { t := 101, desc := .int .u64, size := 1, bytes := 8, zero := .int .u64 0, τ := .int .u64, eq := false }
theorem tk101 : ti101.ok Tryz.prog := ⟨Tryz.underlying101, by kernel_rfl, fun h => by cases h⟩
def ti105 : TI := { t := 105, desc := .pointer 5, size := 1, bytes := 8, zero := .pointer none, τ := .unit, eq := false }
theorem tk105 : ti105.ok Tryz.prog := ⟨Tryz.underlying105, by kernel_rfl, fun h => by cases h⟩
def ti111 : TI := { t := 111, desc := .int .u64, size := 1, bytes := 8, zero := .int .u64 0, τ := .int .u64, eq := false }
theorem tk111 : ti111.ok Tryz.prog := ⟨Tryz.underlying111, by kernel_rfl, fun h => by cases h⟩
def types : List TI := [ti3, ti5, ti9, ti22, ti23, ti28, ti38, ti42, ti50, ti51, ti54, ti69, ti73, ti74, ti76, ti78, ti99, ti101, ti105, ti111]
theorem types_ok : Tys Tryz.prog types := ⟨tk3, tk5, tk9, tk22, tk23, tk28, tk38, tk42, tk50, tk51, tk54, tk69, tk73, tk74, tk76, tk78, tk99, tk101, tk105, tk111, trivial⟩
def xt80 : Ext := extCnt 80
theorem xk80 : ExtOk Tryz.prog xt80 := extCnt_ok Tryz.func80 (by kernel_rfl) (by kernel_rfl) (by kernel_rfl) (by kernel_rfl)
def xt122 : Ext := extIdx 122
theorem xk122 : ExtOk Tryz.prog xt122 := extIdx_ok Tryz.func122 (by kernel_rfl) (by kernel_rfl) (by kernel_rfl) (by kernel_rfl)
abbrev str_0 : List UInt8 := [0, 1, 2, 2, 3, 3, 3, 3, 4, 4, 4, 4, 4, 4, 4, 4, 5, 5, 5, 5, 5, 5, 5, 5, 5, 5, 5, 5, 5, 5, 5, 5, 6, 6, 6, 6, 6, 6, 6, 6, 6, 6, 6, 6, 6, 6, 6, 6, 6, 6, 6, 6, 6, 6, 6, 6, 6, 6, 6, 6, 6, 6, 6, 6, 7, 7, 7, 7, 7, 7, 7, 7, 7, 7, 7, 7, 7, 7, 7, 7, 7, 7, 7, 7, 7, 7, 7, 7, 7, 7, 7, 7, 7, 7, 7, 7, 7, 7, 7, 7, 7, 7, 7, 7, 7, 7, 7, 7, 7, 7, 7, 7, 7, 7, 7, 7, 7, 7, 7, 7, 7, 7, 7, 7, 7, 7, 7, 7, 8, 8, 8, 8, 8, 8, 8, 8, 8, 8, 8, 8, 8, 8, 8, 8, 8, 8, 8, 8, 8, 8, 8, 8, 8, 8, 8, 8, 8, 8, 8, 8, 8, 8, 8, 8, 8, 8, 8, 8, 8, 8, 8, 8, 8, 8, 8, 8, 8, 8, 8, 8, 8, 8, 8, 8, 8, 8, 8, 8, 8, 8, 8, 8, 8, 8, 8, 8, 8, 8, 8, 8, 8, 8, 8, 8, 8, 8, 8, 8, 8, 8, 8, 8, 8, 8, 8, 8, 8, 8, 8, 8, 8, 8, 8, 8, 8, 8, 8, 8, 8, 8, 8, 8, 8, 8, 8, 8, 8, 8, 8, 8, 8, 8, 8, 8, 8, 8, 8, 8, 8, 8, 8, 8, 8, 8, 8, 8]
abbrev kO_0 : KO (List UInt8 × List UInt8 × List UInt8 × List UInt8 × Int × Int) := keyO (.pair (.str) (.pair (.str) (.pair (.str) (.pair (.str) (.pair (.int .i64) (.int .i64))))))
theorem mx : Tryz.prog.follows .mixedOrders = true := by kernel_rfl
theorem nmr7 : (Tryz.f7.name == "runtime.NumGoroutine") = false := by kernel_rfl
theorem nmr38 : (Tryz.f38.name == "runtime.NumGoroutine") = false := by kernel_rfl
theorem nmr37 : (Tryz.f37.name == "runtime.NumGoroutine") = false := by kernel_rfl
theorem nmr20 : (Tryz.f20.name == "runtime.NumGoroutine") = false := by kernel_rfl
theorem nmr21 : (Tryz.f21.name == "runtime.NumGoroutine") = false := by kernel_rfl
theorem nmr22 : (Tryz.f22.name == "runtime.NumGoroutine") = false := by kernel_rfl
theorem nmr6 : (Tryz.f6.name == "runtime.NumGoroutine") = false := by kernel_rfl
theorem nmr52 : (Tryz.f52.name == "runtime.NumGoroutine") = false := by kernel_rfl
theorem nmr29 : (Tryz.f29.name == "runtime.NumGoroutine") = false := by kernel_rfl
theorem nmr78 : (Tryz.f78.name == "runtime.NumGoroutine") = false := by kernel_rfl
theorem nmr53 : (Tryz.f53.name == "runtime.NumGoroutine") = false := by kernel_rfl
theorem nmr31 : (Tryz.f31.name == "runtime.NumGoroutine") = false := by kernel_rfl
theorem nmr30 : (Tryz.f30.name == "runtime.NumGoroutine") = false := by kernel_rfl
theorem nmr16 : (Tryz.f16.name == "runtime.NumGoroutine") = false := by kernel_rfl
theorem nmr70 : (Tryz.f70.name == "runtime.NumGoroutine") = false := by kernel_rfl
theorem nmr71 : (Tryz.f71.name == "runtime.NumGoroutine") = false := by kernel_rfl
theorem nmr40 : (Tryz.f40.name == "runtime.NumGoroutine") = false := by kernel_rfl
theorem nmr62 : (Tryz.f62.name == "runtime.NumGoroutine") = false := by kernel_rfl
theorem nmr87 : (Tryz.f87.name == "runtime.NumGoroutine") = false := by kernel_rfl
theorem nmr63 : (Tryz.f63.name == "runtime.NumGoroutine") = false := by kernel_rfl
theorem nmr88 : (Tryz.f88.name == "runtime.NumGoroutine") = false := by kernel_rfl
theorem nmr89 : (Tryz.f89.name == "runtime.NumGoroutine") = false := by kernel_rfl
theorem nmr64 : (Tryz.f64.name == "runtime.NumGoroutine") = false := by kernel_rfl
theorem nmr103 : (Tryz.f103.name == "runtime.NumGoroutine") = false := by kernel_rfl
theorem nmr91 : (Tryz.f91.name == "runtime.NumGoroutine") = false := by kernel_rfl
theorem nmr90 : (Tryz.f90.name == "runtime.NumGoroutine") = false := by kernel_rfl
theorem nmr65 : (Tryz.f65.name == "runtime.NumGoroutine") = false := by kernel_rfl
theorem nmr66 : (Tryz.f66.name == "runtime.NumGoroutine") = false := by kernel_rfl
theorem nmr67 : (Tryz.f67.name == "runtime.NumGoroutine") = false := by kernel_rfl
theorem nmr68 : (Tryz.f68.name == "runtime.NumGoroutine") = false := by kernel_rfl
theorem nmr69 : (Tryz.f69.name == "runtime.NumGoroutine") = false := by kernel_rfl
theorem nmr39 : (Tryz.f39.name == "runtime.NumGoroutine") = false := by kernel_rfl
theorem nmr23 : (Tryz.f23.name == "runtime.NumGoroutine") = false := by kernel_rfl
theorem nmr72 : (Tryz.f72.name == "runtime.NumGoroutine") = false := by kernel_rfl
theorem nmr42 : (Tryz.f42.name == "runtime.NumGoroutine") = false := by kernel_rfl
theorem nmr73 : (Tryz.f73.name == "runtime.NumGoroutine") = false := by kernel_rfl
theorem nmr43 : (Tryz.f43.name == "runtime.NumGoroutine") = false := by kernel_rfl
theorem nmr41 : (Tryz.f41.name == "runtime.NumGoroutine") = false := by kernel_rfl
theorem nmr24 : (Tryz.f24.name == "runtime.NumGoroutine") = false := by kernel_rfl
theorem nmr8 : (Tryz.f8.name == "runtime.NumGoroutine") = false := by kernel_rfl
theorem nmr9 : (Tryz.f9.name == "runtime.NumGoroutine") = false := by kernel_rfl
theorem nmr10 : (Tryz.f10.name == "runtime.NumGoroutine") = false := by kernel_rfl
theorem nmr109 : (Tryz.f109.name == "runtime.NumGoroutine") = false := by kernel_rfl
theorem nmr98 : (Tryz.f98.name == "runtime.NumGoroutine") = false := by kernel_rfl
theorem nmr81 : (Tryz.f81.name == "runtime.NumGoroutine") = false := by kernel_rfl
theorem nmr55 : (Tryz.f55.name == "runtime.NumGoroutine") = false := by kernel_rfl
theorem nmr82 : (Tryz.f82.name == "runtime.NumGoroutine") = false := by kernel_rfl
theorem nmr56 : (Tryz.f56.name == "runtime.NumGoroutine") = false := by kernel_rfl
theorem nmr83 : (Tryz.f83.name == "runtime.NumGoroutine") = false := by kernel_rfl
theorem nmr57 : (Tryz.f57.name == "runtime.NumGoroutine") = false := by kernel_rfl
theorem nmr84 : (Tryz.f84.name == "runtime.NumGoroutine") = false := by kernel_rfl
theorem nmr58 : (Tryz.f58.name == "runtime.NumGoroutine") = false := by kernel_rfl
theorem nmr75 : (Tryz.f75.name == "runtime.NumGoroutine") = false := by kernel_rfl
theorem nmr45 : (Tryz.f45.name == "runtime.NumGoroutine") = false := by kernel_rfl
theorem nmr33 : (Tryz.f33.name == "runtime.NumGoroutine") = false := by kernel_rfl
theorem nmr114 : (Tryz.f114.name == "runtime.NumGoroutine") = false := by kernel_rfl
theorem nmr100 : (Tryz.f100.name == "runtime.NumGoroutine") = false := by kernel_rfl
theorem nmr85 : (Tryz.f85.name == "runtime.NumGoroutine") = false := by kernel_rfl
theorem nmr86 : (Tryz.f86.name == "runtime.NumGoroutine") = false := by kernel_rfl
theorem nmr59 : (Tryz.f59.name == "runtime.NumGoroutine") = false := by kernel_rfl
theorem nmr34 : (Tryz.f34.name == "runtime.NumGoroutine") = false := by kernel_rfl
theorem nmr18 : (Tryz.f18.name == "runtime.NumGoroutine") = false := by kernel_rfl
theorem nmr11 : (Tryz.f11.name == "runtime.NumGoroutine") = false := by kernel_rfl
theorem nmr3 : (Tryz.f3.name == "runtime.NumGoroutine") = false := by kernel_rfl
theorem nmr4 : (Tryz.f4.name == "runtime.NumGoroutine") = false := by kernel_rfl
theorem nmr12 : (Tryz.f12.name == "runtime.NumGoroutine") = false := by kernel_rfl
theorem nmr25 : (Tryz.f25.name == "runtime.NumGoroutine") = false := by kernel_rfl
theorem nmr47 : (Tryz.f47.name == "runtime.NumGoroutine") = false := by kernel_rfl
theorem nmr76 : (Tryz.f76.name == "runtime.NumGoroutine") = false := by kernel_rfl
theorem nmr46 : (Tryz.f46.name == "runtime.NumGoroutine") = false := by kernel_rfl
theorem nmr48 : (Tryz.f48.name == "runtime.NumGoroutine") = false := by kernel_rfl
theorem nmr49 : (Tryz.f49.name == "runtime.NumGoroutine") = false := by kernel_rfl
theorem nmr26 : (Tryz.f26.name == "runtime.NumGoroutine") = false := by kernel_rfl
theorem nmr13 : (Tryz.f13.name == "runtime.NumGoroutine") = false := by kernel_rfl
theorem nmr54 : (Tryz.f54.name == "runtime.NumGoroutine") = false := by kernel_rfl
theorem nmr32 : (Tryz.f32.name == "runtime.NumGoroutine") = false := by kernel_rfl
theorem nmr17 : (Tryz.f17.name == "runtime.NumGoroutine") = false := by kernel_rfl
theorem nmr27 : (Tryz.f27.name == "runtime.NumGoroutine") = false := by kernel_rfl
theorem nmr50 : (Tryz.f50.name == "runtime.NumGoroutine") = false := by kernel_rfl
theorem nmr51 : (Tryz.f51.name == "runtime.NumGoroutine") = false := by kernel_rfl
theorem nmr28 : (Tryz.f28.name == "runtime.NumGoroutine") = false := by kernel_rfl
theorem nmr14 : (Tryz.f14.name == "runtime.NumGoroutine") = false := by kernel_rfl
theorem nmr15 : (Tryz.f15.name == "runtime.NumGoroutine") = false := by kernel_rfl
theorem nmr60 : (Tryz.f60.name == "runtime.NumGoroutine") = false := by kernel_rfl
theorem nmr61 : (Tryz.f61.name == "runtime.NumGoroutine") = false := by kernel_rfl
theorem nmr35 : (Tryz.f35.name == "runtime.NumGoroutine") = false := by kernel_rfl
theorem nmr36 : (Tryz.f36.name == "runtime.NumGoroutine") = false := by kernel_rfl
theorem nmr19 : (Tryz.f19.name == "runtime.NumGoroutine") = false := by kernel_rfl
theorem nmr5 : (Tryz.f5.name == "runtime.NumGoroutine") = false := by kernel_rfl

noncomputable def keep_New (l : List Int) : Option (List Int × Int) :=
  gd (cutG none (some (.i64, min (l.length : Int) 2000)) l.length) <|
  some (l.take (min (l.length : Int) 2000).toNat, 0)

noncomputable def fn_keep_New : Fun :=
  { f := 7, np := 1, nr := 1,
    ji := { regs := [(0, .one (.data (.sl (.int .i64))))], vars := [], arrs := [] },
    jo := { regs := [(0, .one (.ptr 0 0))], vars := [(0, 50, [.data (.sl (.int .i64)), .data (.int .i64)])], arrs := [] },
    tw := fun x => keep_New x }
noncomputable def cx_keep_New : Cx := { Γ := types, ow := [], fs := [], N := 10 }
theorem ok_keep_New : FunOk Tryz.prog fn_keep_New :=
  FunOk.intro (C := cx_keep_New) (p := .nil)
    Tryz.func7 rfl nmr7 rfl rfl rfl rfl types_ok ⟨trivial, trivial⟩ mx (fun x => by kernel_rfl)

noncomputable def keep_Src_Raw (s : List Int) (s2 : Int) : Option (Int × List Int × Int) :=
  bif decide ((s.length : Int) ≤ s2) then (
   some (0, s, s2))
  else (
   gd (inB (wi64 ((wi64 (s2 + 1)) - 1)) s.length) <|
   some (s.getD (wi64 ((wi64 (s2 + 1)) - 1)).toNat 0, s, wi64 (s2 + 1)))

noncomputable def fn_keep_Src_Raw : Fun :=
  { f := 38, np := 1, nr := 1,
    ji := { regs := [(0, .one (.ptr 0 0))], vars := [(0, 50, [.data (.sl (.int .i64)), .data (.int .i64)])], arrs := [] },
    jo := { regs := [(0, .one (.data (.int .i64)))], vars := [(0, 50, [.data (.sl (.int .i64)), .data (.int .i64)])], arrs := [] },
    tw := fun x => keep_Src_Raw x.1 x.2 }
noncomputable def cx_keep_Src_Raw : Cx := { Γ := types, ow := [], fs := [], N := 31 }
theorem ok_keep_Src_Raw : FunOk Tryz.prog fn_keep_Src_Raw :=
  FunOk.intro (C := cx_keep_Src_Raw) (p := .nil)
    Tryz.func38 rfl nmr38 rfl rfl rfl rfl types_ok ⟨trivial, trivial⟩ mx (fun x => by kernel_rfl)

noncomputable def keep_Mod (x : Int) (n : Int) : Option (Int) :=
  bif decide (n < 1) then (
   some 0)
  else (
   gd (!decide (n = 0)) <|
   bif decide (Int.tmod x n < 0) then (
    some (wi64 ((Int.tmod x n) + n)))
   else (
    some (Int.tmod x n)))

noncomputable def fn_keep_Mod : Fun :=
  { f := 37, np := 2, nr := 1,
    ji := { regs := [(0, .one (.data (.int .i64))), (1, .one (.data (.int .i64)))], vars := [], arrs := [] },
    jo := { regs := [(0, .one (.data (.int .i64)))], vars := [], arrs := [] },
    tw := fun x => keep_Mod x.1 x.2 }
noncomputable def cx_keep_Mod : Cx := { Γ := types, ow := [], fs := [], N := 16 }
theorem ok_keep_Mod : FunOk Tryz.prog fn_keep_Mod :=
  FunOk.intro (C := cx_keep_Mod) (p := .nil)
    Tryz.func37 rfl nmr37 rfl rfl rfl rfl types_ok ⟨trivial, trivial⟩ mx (fun x => by kernel_rfl)

noncomputable def keep_Src_N (n : Int) (s : List Int) (s2 : Int) : Option (Int × List Int × Int) :=
  (keep_Src_Raw s s2).bind fun r =>
  (keep_Mod r.1 n).bind fun r2 =>
  some (r2, r.2.1, r.2.2)

noncomputable def fn_keep_Src_N : Fun :=
  { f := 20, np := 2, nr := 1,
    ji := { regs := [(0, .one (.ptr 0 0)), (1, .one (.data (.int .i64)))], vars := [(0, 50, [.data (.sl (.int .i64)), .data (.int .i64)])], arrs := [] },
    jo := { regs := [(0, .one (.data (.int .i64)))], vars := [(0, 50, [.data (.sl (.int .i64)), .data (.int .i64)])], arrs := [] },
    tw := fun x => keep_Src_N x.1 x.2.1 x.2.2 }
noncomputable def cx_keep_Src_N : Cx := { Γ := types, ow := [], fs := [fn_keep_Src_Raw, fn_keep_Mod], N := 9 }
theorem ok_keep_Src_N : FunOk Tryz.prog fn_keep_Src_N :=
  FunOk.intro (C := cx_keep_Src_N) (p := .nil)
    Tryz.func20 rfl nmr20 rfl rfl rfl rfl types_ok ⟨⟨ok_keep_Src_Raw, ok_keep_Mod, trivial⟩, trivial⟩ mx (fun x => by kernel_rfl)

noncomputable def keep_Src_Text (l : List (List UInt8)) (s : List Int) (s2 : Int) : Option (List UInt8 × List Int × Int) :=
  (keep_Src_N (l.length : Int) s s2).bind fun r =>
  gd (inB r.1 l.length) <|
  some (l.getD r.1.toNat [], r.2.1, r.2.2)

noncomputable def fn_keep_Src_Text : Fun :=
  { f := 21, np := 2, nr := 1,
    ji := { regs := [(0, .one (.ptr 0 0)), (1, .one (.data (.sl (.str))))], vars := [(0, 50, [.data (.sl (.int .i64)), .data (.int .i64)])], arrs := [] },
    jo := { regs := [(0, .one (.data (.str)))], vars := [(0, 50, [.data (.sl (.int .i64)), .data (.int .i64)])], arrs := [] },
    tw := fun x => keep_Src_Text x.1 x.2.1 x.2.2 }
noncomputable def cx_keep_Src_Text : Cx := { Γ := types, ow := [], fs := [fn_keep_Src_N], N := 12 }
theorem ok_keep_Src_Text : FunOk Tryz.prog fn_keep_Src_Text :=
  FunOk.intro (C := cx_keep_Src_Text) (p := .nil)
    Tryz.func21 rfl nmr21 rfl rfl rfl rfl types_ok ⟨⟨ok_keep_Src_N, trivial⟩, trivial⟩ mx (fun x => by kernel_rfl)

noncomputable def keep_Src_Pick (l : List Int) (s : List Int) (s2 : Int) : Option (Int × List Int × Int) :=
  (keep_Src_N (l.length : Int) s s2).bind fun r =>
  gd (inB r.1 l.length) <|
  some (l.getD r.1.toNat 0, r.2.1, r.2.2)

noncomputable def fn_keep_Src_Pick : Fun :=
  { f := 22, np := 2, nr := 1,
    ji := { regs := [(0, .one (.ptr 0 0)), (1, .one (.data (.sl (.int .i64))))], vars := [(0, 50, [.data (.sl (.int .i64)), .data (.int .i64)])], arrs := [] },
    jo := { regs := [(0, .one (.data (.int .i64)))], vars := [(0, 50, [.data (.sl (.int .i64)), .data (.int .i64)])], arrs := [] },
    tw := fun x => keep_Src_Pick x.1 x.2.1 x.2.2 }
noncomputable def cx_keep_Src_Pick : Cx := { Γ := types, ow := [], fs := [fn_keep_Src_N], N := 12 }
theorem ok_keep_Src_Pick : FunOk Tryz.prog fn_keep_Src_Pick :=
  FunOk.intro (C := cx_keep_Src_Pick) (p := .nil)
    Tryz.func22 rfl nmr22 rfl rfl rfl rfl types_ok ⟨⟨ok_keep_Src_N, trivial⟩, trivial⟩ mx (fun x => by kernel_rfl)

noncomputable def law11_made_L0 (i : Int) (d3 : List Int) (d4 : Int) (out : List (List UInt8 × List UInt8 × List UInt8 × List UInt8 × Int × Int)) : Option ((Int × List Int × Int × List (List UInt8 × List UInt8 × List UInt8 × List UInt8 × Int × Int)) ⊕ (List Int × Int × List (List UInt8 × List UInt8 × List UInt8 × List UInt8 × Int × Int))) :=
  bif decide (0 < i) then (
   (keep_Src_Text ([[97, 99, 109, 101], [98, 111, 108, 116]] : List (List UInt8)) d3 d4).bind fun r2 =>
   (keep_Src_Text ([[100, 105, 101, 115, 101, 108], [106, 101, 116]] : List (List UInt8)) r2.2.1 r2.2.2).bind fun r3 =>
   (keep_Src_Text ([[112, 111, 114, 116, 97], [112, 111, 114, 116, 98]] : List (List UInt8)) r3.2.1 r3.2.2).bind fun r4 =>
   (keep_Src_Text ([[112, 111, 114, 116, 99], [112, 111, 114, 116, 100]] : List (List UInt8)) r4.2.1 r4.2.2).bind fun r5 =>
   (keep_Src_N 3 r5.2.1 r5.2.2).bind fun r6 =>
   (keep_Src_Pick [1, 1000, 1073741824] r6.2.1 r6.2.2).bind fun r7 =>
   (keep_Src_N r7.1 r7.2.1 r7.2.2).bind fun r8 =>
   gd (fits (out.length + 1) 80) <|
   some (.inl (wi64 (i - 1), r8.2.1, r8.2.2, out ++ [(r2.1, (r3.1, (r4.1, (r5.1, (r6.1, wi64 (1 + r8.1))))))])))
  else (
   some (.inr (d3, d4, out)))

noncomputable def law11_made (d : List Int) (d2 : Int) : Option (List Int × Int × List (List UInt8 × List UInt8 × List UInt8 × List UInt8 × Int × Int)) :=
  (keep_Src_N 12 d d2).bind fun r =>
  (iter (fun x => law11_made_L0 x.1 x.2.1 x.2.2.1 x.2.2.2) (r.1, r.2.1, r.2.2, [])).bind fun s =>
  some (s.1, s.2.1, s.2.2)

noncomputable def fn_law11_made : Fun :=
  { f := 6, np := 1, nr := 1,
    ji := { regs := [(0, .one (.ptr 0 0))], vars := [(0, 50, [.data (.sl (.int .i64)), .data (.int .i64)])], arrs := [] },
    jo := { regs := [(0, .one (.own 1))], vars := [(0, 50, [.data (.sl (.int .i64)), .data (.int .i64)])], arrs := [(1, .arr 28 (.pair (.str) (.pair (.str) (.pair (.str) (.pair (.str) (.pair (.int .i64) (.int .i64)))))))] },
    tw := fun x => law11_made x.1 x.2 }
noncomputable def cx_law11_made : Cx := { Γ := types, ow := [], fs := [fn_keep_Src_N, fn_keep_Src_Text, fn_keep_Src_Pick], N := 36 }
theorem ok_law11_made : FunOk Tryz.prog fn_law11_made :=
  FunOk.intro (C := cx_law11_made) (p := (.mk [] none .nil (.mk [] none .nil (.mk [] none (.mk [] none .nil (.mk [] none (.mk [] (some ({ regs := [(0, .one (.ptr 0 0)), (3, .one (.own 75)), (4, .one (.data (.int .i64)))], vars := [(0, 50, [.data (.sl (.int .i64)), .data (.int .i64)])], arrs := [(75, .arr 28 (.pair (.str) (.pair (.str) (.pair (.str) (.pair (.str) (.pair (.int .i64) (.int .i64)))))))] }, [{ e := .x 0, j := { regs := [(3, .one (.own 75))], vars := [(0, 50, [.data (.sl (.int .i64)), .data (.int .i64)])], arrs := [(75, .arr 28 (.pair (.str) (.pair (.str) (.pair (.str) (.pair (.str) (.pair (.int .i64) (.int .i64)))))))] } }])) .nil .nil) .nil)) .nil))))
    Tryz.func6 rfl nmr6 rfl rfl rfl rfl types_ok ⟨⟨ok_keep_Src_N, ok_keep_Src_Text, ok_keep_Src_Pick, trivial⟩, trivial⟩ mx (fun x => by kernel_rfl)

noncomputable def slices_IndexFunc_api_Nomination_api_Nomination_L0 (s : List (List UInt8 × List UInt8 × List UInt8 × List UInt8 × Int × Int)) (f : (List UInt8 × List UInt8 × List UInt8 × List UInt8 × Int × Int) × Unit → Option Bool) (v : Int) : Option (Int ⊕ (Unit ⊕ Int)) :=
  bif decide (v < (s.length : Int)) then (
   gd (inB v s.length) <|
   (f (s.getD v.toNat ([], ([], ([], ([], (0, 0))))), ())).bind fun r =>
   bif r then (
    some (.inr (.inr v)))
   else (
    some (.inl (wi64 (v + 1)))))
  else (
   some (.inr (.inl ())))

noncomputable def slices_IndexFunc_api_Nomination_api_Nomination (s : List (List UInt8 × List UInt8 × List UInt8 × List UInt8 × Int × Int)) (f : (List UInt8 × List UInt8 × List UInt8 × List UInt8 × Int × Int) × Unit → Option Bool) : Option (Int) :=
  (iter (fun x => slices_IndexFunc_api_Nomination_api_Nomination_L0 s f x) 0).bind fun s2 =>
  s2.elim (fun s3 =>
   some (-1))
  (fun s4 =>
   some s4)

noncomputable def fn_slices_IndexFunc_api_Nomination_api_Nomination : Fun :=
  { f := 52, np := 2, nr := 1,
    ji := { regs := [(0, .one (.data (.sl (.pair (.str) (.pair (.str) (.pair (.str) (.pair (.str) (.pair (.int .i64) (.int .i64))))))))), (1, .one (.fn [.pair (.str) (.pair (.str) (.pair (.str) (.pair (.str) (.pair (.int .i64) (.int .i64)))))] (.bool)))], vars := [], arrs := [] },
    jo := { regs := [(0, .one (.data (.int .i64)))], vars := [], arrs := [] },
    tw := fun x => slices_IndexFunc_api_Nomination_api_Nomination x.1 x.2 }
noncomputable def cx_slices_IndexFunc_api_Nomination_api_Nomination : Cx := { Γ := types, ow := [], fs := [], N := 19 }
theorem ok_slices_IndexFunc_api_Nomination_api_Nomination : FunOk Tryz.prog fn_slices_IndexFunc_api_Nomination_api_Nomination :=
  FunOk.intro (C := cx_slices_IndexFunc_api_Nomination_api_Nomination) (p := (.mk [] none .nil (.mk [] none (.mk [] none .nil (.mk [] none (.mk [] (some ({ regs := [(0, .one .keep), (1, .one .keep), (7, .one .keep), (8, .one (.data (.int .i64)))], vars := [], arrs := [] }, [{ e := .x 0, j := { regs := [], vars := [], arrs := [] } }, { e := .r, j := { regs := [(4, .one (.data (.int .i64)))], vars := [], arrs := [] } }])) .nil .nil) .nil)) .nil)))
    Tryz.func52 rfl nmr52 rfl rfl rfl rfl types_ok ⟨trivial, trivial⟩ mx (fun x => by kernel_rfl)

noncomputable def slices_ContainsFunc_api_Nomination_api_Nomination (s : List (List UInt8 × List UInt8 × List UInt8 × List UInt8 × Int × Int)) (f : (List UInt8 × List UInt8 × List UInt8 × List UInt8 × Int × Int) × Unit → Option Bool) : Option (Bool) :=
  (slices_IndexFunc_api_Nomination_api_Nomination s f).bind fun r =>
  some (decide (0 ≤ r))

noncomputable def fn_slices_ContainsFunc_api_Nomination_api_Nomination : Fun :=
  { f := 29, np := 2, nr := 1,
    ji := { regs := [(0, .one (.data (.sl (.pair (.str) (.pair (.str) (.pair (.str) (.pair (.str) (.pair (.int .i64) (.int .i64))))))))), (1, .one (.fn [.pair (.str) (.pair (.str) (.pair (.str) (.pair (.str) (.pair (.int .i64) (.int .i64)))))] (.bool)))], vars := [], arrs := [] },
    jo := { regs := [(0, .one (.data (.bool)))], vars := [], arrs := [] },
    tw := fun x => slices_ContainsFunc_api_Nomination_api_Nomination x.1 x.2 }
noncomputable def cx_slices_ContainsFunc_api_Nomination_api_Nomination : Cx := { Γ := types, ow := [], fs := [fn_slices_IndexFunc_api_Nomination_api_Nomination], N := 9 }
theorem ok_slices_ContainsFunc_api_Nomination_api_Nomination : FunOk Tryz.prog fn_slices_ContainsFunc_api_Nomination_api_Nomination :=
  FunOk.intro (C := cx_slices_ContainsFunc_api_Nomination_api_Nomination) (p := .nil)
    Tryz.func29 rfl nmr29 rfl rfl rfl rfl types_ok ⟨⟨ok_slices_IndexFunc_api_Nomination_api_Nomination, trivial⟩, trivial⟩ mx (fun x => by kernel_rfl)

noncomputable def lines_place (c : Int) : Option (Int) :=
  Option.bind (α := Unit ⊕ Unit ⊕ Int) (
    Option.bind (α := Bool) (
      bif decide (97 ≤ c) then (
       some (decide (c ≤ 122)))
      else (
       some false)) fun s =>
    bif s then (
     some (.inr (.inr 1)))
    else (
     Option.bind (α := Bool) (
       bif decide (48 ≤ c) then (
        some (decide (c ≤ 57)))
       else (
        some false)) fun s2 =>
     bif s2 then (
      some (.inl ()))
     else (
      bif decide (c = 45) then (
       some (.inl ()))
      else (
       some (.inr (.inl ())))))) fun s3 =>
  s3.elim (fun s4 =>
   some 2)
  (fun s5 =>
   s5.elim (fun s6 =>
    some 0)
   (fun s7 =>
    some s7))

noncomputable def fn_lines_place : Fun :=
  { f := 78, np := 1, nr := 1,
    ji := { regs := [(0, .one (.data (.int .u8)))], vars := [], arrs := [] },
    jo := { regs := [(0, .one (.data (.int .i64)))], vars := [], arrs := [] },
    tw := fun x => lines_place x }
noncomputable def cx_lines_place : Cx := { Γ := types, ow := [], fs := [], N := 20 }
theorem ok_lines_place : FunOk Tryz.prog fn_lines_place :=
  FunOk.intro (C := cx_lines_place) (p := (.mk [] none .nil (.mk [] none (.mk [] none (.mk [] none (.mk [.join [{ e := .n, j := { regs := [], vars := [], arrs := [] } }, { e := .x 0, j := { regs := [], vars := [], arrs := [] } }, { e := .r, j := { regs := [(2, .one (.data (.int .i64)))], vars := [], arrs := [] } }]] none (.mk [] none (.mk [] none (.mk [] none (.mk [] none (.mk [] none (.mk [] none (.mk [.join [{ e := .n, j := { regs := [(0, .one .keep), (3, .one (.data (.bool)))], vars := [], arrs := [] } }]] none .nil .nil) .nil) (.mk [] none (.mk [] none (.mk [.join [{ e := .n, j := { regs := [(0, .one .keep), (10, .one (.data (.bool)))], vars := [], arrs := [] } }]] none .nil .nil) .nil) .nil)) .nil) .nil) .nil) .nil) .nil) .nil) .nil) .nil)))
    Tryz.func78 rfl nmr78 rfl rfl rfl rfl types_ok ⟨trivial, trivial⟩ mx (fun x => by kernel_rfl)

noncomputable def lines_Name_L0 (s : List UInt8) (v : Int) : Option (Int ⊕ (Unit ⊕ Bool)) :=
  bif decide (v < (s.length : Int)) then (
   gd (inB v s.length) <|
   (lines_place (Int.ofNat (s.getD v.toNat 0).toNat)).bind fun r2 =>
   bif decide (r2 = 0) then (
    some (.inr (.inr false)))
   else (
    some (.inl (wi64 (v + 1)))))
  else (
   some (.inr (.inl ())))

noncomputable def lines_Name (s : List UInt8) : Option (Bool) :=
  Option.bind (α := Bool) (
    bif decide ((s.length : Int) < 1) then (
     some true)
    else (
     bif decide (12 < (s.length : Int)) then (
      some true)
     else (
      gd (inB 0 s.length) <|
      (lines_place (Int.ofNat (s.getD 0 0).toNat)).bind fun r =>
      some (!decide (r = 1))))) fun s2 =>
  bif s2 then (
   some false)
  else (
   (iter (fun x => lines_Name_L0 s x) 0).bind fun s3 =>
   s3.elim (fun s4 =>
    some true)
   (fun s5 =>
    some s5))

noncomputable def fn_lines_Name : Fun :=
  { f := 53, np := 1, nr := 1,
    ji := { regs := [(0, .one (.data (.str)))], vars := [], arrs := [] },
    jo := { regs := [(0, .one (.data (.bool)))], vars := [], arrs := [] },
    tw := fun x => lines_Name x }
noncomputable def cx_lines_Name : Cx := { Γ := types, ow := [], fs := [fn_lines_place], N := 29 }
theorem ok_lines_Name : FunOk Tryz.prog fn_lines_Name :=
  FunOk.intro (C := cx_lines_Name) (p := (.mk [] none .nil (.mk [] none (.mk [] none (.mk [.join [{ e := .n, j := { regs := [(0, .one .keep), (17, .one (.data (.bool)))], vars := [], arrs := [] } }]] none .nil .nil) .nil) (.mk [] none (.mk [] none .nil (.mk [] none (.mk [] (some ({ regs := [(0, .one .keep), (19, .one .keep), (20, .one (.data (.int .i64)))], vars := [], arrs := [] }, [{ e := .x 0, j := { regs := [], vars := [], arrs := [] } }, { e := .r, j := { regs := [(2, .one (.data (.bool)))], vars := [], arrs := [] } }])) .nil .nil) .nil)) .nil))))
    Tryz.func53 rfl nmr53 rfl rfl rfl rfl types_ok ⟨⟨ok_lines_place, trivial⟩, trivial⟩ mx (fun x => by kernel_rfl)

noncomputable def nomination_valid_L0 (n : List UInt8 × List UInt8 × List UInt8 × List UInt8 × Int × Int) (v : Int) : Option (Int ⊕ (Unit ⊕ Bool)) :=
  bif decide (v < ([n.1, n.2.1, n.2.2.1, n.2.2.2.1].length : Int)) then (
   gd (inB v [n.1, n.2.1, n.2.2.1, n.2.2.2.1].length) <|
   (lines_Name ([n.1, n.2.1, n.2.2.1, n.2.2.2.1].getD v.toNat [])).bind fun r =>
   bif !r then (
    some (.inr (.inr false)))
   else (
    some (.inl (wi64 (v + 1)))))
  else (
   some (.inr (.inl ())))

noncomputable def nomination_valid (n : List UInt8 × List UInt8 × List UInt8 × List UInt8 × Int × Int) : Option (Bool) :=
  (iter (fun x => nomination_valid_L0 n x) 0).bind fun s =>
  s.elim (fun s2 =>
   bif !decide (n.2.2.1 = n.2.2.2.1) then (
    bif decide (0 ≤ n.2.2.2.2.1) then (
     bif decide (n.2.2.2.2.1 ≤ 1000000) then (
      bif decide (1 ≤ n.2.2.2.2.2) then (
       some (decide (n.2.2.2.2.2 ≤ 1099511627776)))
      else (
       some false))
     else (
      some false))
    else (
     some false))
   else (
    some false))
  (fun s3 =>
   some s3)

noncomputable def fn_nomination_valid : Fun :=
  { f := 31, np := 1, nr := 1,
    ji := { regs := [(0, .one (.data (.pair (.str) (.pair (.str) (.pair (.str) (.pair (.str) (.pair (.int .i64) (.int .i64))))))))], vars := [], arrs := [] },
    jo := { regs := [(0, .one (.data (.bool)))], vars := [], arrs := [] },
    tw := fun x => nomination_valid x }
noncomputable def cx_nomination_valid : Cx := { Γ := types, ow := [], fs := [fn_lines_Name], N := 48 }
theorem ok_nomination_valid : FunOk Tryz.prog fn_nomination_valid :=
  FunOk.intro (C := cx_nomination_valid) (p := (.mk [] none .nil (.mk [] none (.mk [] none .nil (.mk [] none (.mk [] (some ({ regs := [(1, .one (.ptr 32 0)), (13, .one .keep), (14, .one .keep), (15, .one (.data (.int .i64)))], vars := [(32, 28, [.keep, .keep, .keep, .keep, .keep, .keep])], arrs := [] }, [{ e := .x 0, j := { regs := [(1, .one (.ptr 32 0))], vars := [(32, 28, [.keep, .keep, .keep, .keep, .keep, .keep])], arrs := [] } }, { e := .r, j := { regs := [(2, .one (.data (.bool)))], vars := [], arrs := [] } }])) .nil .nil) .nil)) .nil)))
    Tryz.func31 rfl nmr31 rfl rfl rfl rfl types_ok ⟨⟨ok_lines_Name, trivial⟩, trivial⟩ mx (fun x => by kernel_rfl)

noncomputable def nomination_Check_1 (n : List UInt8 × List UInt8 × List UInt8 × List UInt8 × Int × Int) : Option (Bool) :=
  (nomination_valid (n.1, (n.2.1, (n.2.2.1, (n.2.2.2.1, (n.2.2.2.2.1, n.2.2.2.2.2)))))).bind fun r =>
  some (!r)

noncomputable def fn_nomination_Check_1 : Fun :=
  { f := 30, np := 1, nr := 1,
    ji := { regs := [(0, .one (.data (.pair (.str) (.pair (.str) (.pair (.str) (.pair (.str) (.pair (.int .i64) (.int .i64))))))))], vars := [], arrs := [] },
    jo := { regs := [(0, .one (.data (.bool)))], vars := [], arrs := [] },
    tw := fun x => nomination_Check_1 x }
noncomputable def cx_nomination_Check_1 : Cx := { Γ := types, ow := [], fs := [fn_nomination_valid], N := 6 }
theorem ok_nomination_Check_1 : FunOk Tryz.prog fn_nomination_Check_1 :=
  FunOk.intro (C := cx_nomination_Check_1) (p := .nil)
    Tryz.func30 rfl nmr30 rfl rfl rfl rfl types_ok ⟨⟨ok_nomination_valid, trivial⟩, trivial⟩ mx (fun x => by kernel_rfl)

noncomputable def nomination_Check (l : List (List UInt8 × List UInt8 × List UInt8 × List UInt8 × Int × Int)) : Option (Int) :=
  bif decide (400 < (l.length : Int)) then (
   some 4)
  else (
   (slices_ContainsFunc_api_Nomination_api_Nomination l (fun h => (nomination_Check_1 h.1).bind fun y => some y)).bind fun r =>
   bif r then (
    some 9)
   else (
    some 0))

noncomputable def fn_nomination_Check : Fun :=
  { f := 16, np := 1, nr := 1,
    ji := { regs := [(0, .one (.data (.sl (.pair (.str) (.pair (.str) (.pair (.str) (.pair (.str) (.pair (.int .i64) (.int .i64)))))))))], vars := [], arrs := [] },
    jo := { regs := [(0, .one (.data (.int .i64)))], vars := [], arrs := [] },
    tw := fun x => nomination_Check x }
noncomputable def cx_nomination_Check : Cx := { Γ := types, ow := [], fs := [fn_slices_ContainsFunc_api_Nomination_api_Nomination, fn_nomination_Check_1], N := 8 }
theorem ok_nomination_Check : FunOk Tryz.prog fn_nomination_Check :=
  FunOk.intro (C := cx_nomination_Check) (p := .nil)
    Tryz.func16 rfl nmr16 rfl rfl rfl rfl types_ok ⟨⟨ok_slices_ContainsFunc_api_Nomination_api_Nomination, ok_nomination_Check_1, trivial⟩, trivial⟩ mx (fun x => by kernel_rfl)

noncomputable def math_bits_Len32 (x : Int) : Option (Int) :=
  Option.bind (α := Int × Int) (
    bif decide (65536 ≤ x) then (
     some (Int.fdiv x (2 ^ shAmt .u32 16), 16))
    else (
     some (x, 0))) fun s =>
  Option.bind (α := Int × Int) (
    bif decide (256 ≤ s.1) then (
     some (Int.fdiv s.1 (2 ^ shAmt .u32 8), wi64 (s.2 + 8)))
    else (
     some (s.1, s.2))) fun s2 =>
  gd (inB (wu8 s2.1) str_0.length) <|
  some (wi64 (s2.2 + (wi64 (Int.ofNat (str_0.getD (wu8 s2.1).toNat 0).toNat))))

noncomputable def fn_math_bits_Len32 : Fun :=
  { f := 70, np := 1, nr := 1,
    ji := { regs := [(0, .one (.data (.int .u32)))], vars := [], arrs := [] },
    jo := { regs := [(0, .one (.data (.int .i64)))], vars := [], arrs := [] },
    tw := fun x => math_bits_Len32 x }
noncomputable def cx_math_bits_Len32 : Cx := { Γ := types, ow := [], fs := [], N := 19 }
set_option maxRecDepth 100000 in
theorem ok_math_bits_Len32 : FunOk Tryz.prog fn_math_bits_Len32 :=
  FunOk.intro (C := cx_math_bits_Len32) (p := (.mk [] none .nil (.mk [] none (.mk [] none .nil (.mk [.join [{ e := .n, j := { regs := [(0, .one (.data (.int .u32))), (2, .one (.data (.int .i64)))], vars := [], arrs := [] } }]] none .nil .nil)) (.mk [] none (.mk [] none .nil (.mk [.join [{ e := .n, j := { regs := [(0, .one (.data (.int .u32))), (2, .one (.data (.int .i64)))], vars := [], arrs := [] } }]] none .nil .nil)) .nil))))
    Tryz.func70 rfl nmr70 rfl rfl rfl rfl types_ok ⟨trivial, trivial⟩ mx (fun x => by kernel_rfl)

noncomputable def math_bits_Len64 (x : Int) : Option (Int) :=
  Option.bind (α := Int × Int) (
    bif decide (4294967296 ≤ x) then (
     some (Int.fdiv x (2 ^ shAmt .u64 32), 32))
    else (
     some (x, 0))) fun s =>
  Option.bind (α := Int × Int) (
    bif decide (65536 ≤ s.1) then (
     some (Int.fdiv s.1 (2 ^ shAmt .u64 16), wi64 (s.2 + 16)))
    else (
     some (s.1, s.2))) fun s2 =>
  Option.bind (α := Int × Int) (
    bif decide (256 ≤ s2.1) then (
     some (Int.fdiv s2.1 (2 ^ shAmt .u64 8), wi64 (s2.2 + 8)))
    else (
     some (s2.1, s2.2))) fun s3 =>
  gd (inB (wu8 s3.1) str_0.length) <|
  some (wi64 (s3.2 + (wi64 (Int.ofNat (str_0.getD (wu8 s3.1).toNat 0).toNat))))

noncomputable def fn_math_bits_Len64 : Fun :=
  { f := 71, np := 1, nr := 1,
    ji := { regs := [(0, .one (.data (.int .u64)))], vars := [], arrs := [] },
    jo := { regs := [(0, .one (.data (.int .i64)))], vars := [], arrs := [] },
    tw := fun x => math_bits_Len64 x }
noncomputable def cx_math_bits_Len64 : Cx := { Γ := types, ow := [], fs := [], N := 25 }
set_option maxRecDepth 100000 in
theorem ok_math_bits_Len64 : FunOk Tryz.prog fn_math_bits_Len64 :=
  FunOk.intro (C := cx_math_bits_Len64) (p := (.mk [] none .nil (.mk [] none (.mk [] none .nil (.mk [.join [{ e := .n, j := { regs := [(0, .one (.data (.int .u64))), (2, .one (.data (.int .i64)))], vars := [], arrs := [] } }]] none .nil .nil)) (.mk [] none (.mk [] none .nil (.mk [.join [{ e := .n, j := { regs := [(0, .one (.data (.int .u64))), (2, .one (.data (.int .i64)))], vars := [], arrs := [] } }]] none .nil .nil)) (.mk [] none (.mk [] none .nil (.mk [.join [{ e := .n, j := { regs := [(0, .one (.data (.int .u64))), (2, .one (.data (.int .i64)))], vars := [], arrs := [] } }]] none .nil .nil)) .nil)))))
    Tryz.func71 rfl nmr71 rfl rfl rfl rfl types_ok ⟨trivial, trivial⟩ mx (fun x => by kernel_rfl)

noncomputable def math_bits_Len (x : Int) : Option (Int) :=
  (math_bits_Len64 x).bind fun r =>
  some r

noncomputable def fn_math_bits_Len : Fun :=
  { f := 40, np := 1, nr := 1,
    ji := { regs := [(0, .one (.data (.int .u64)))], vars := [], arrs := [] },
    jo := { regs := [(0, .one (.data (.int .i64)))], vars := [], arrs := [] },
    tw := fun x => math_bits_Len x }
noncomputable def cx_math_bits_Len : Cx := { Γ := types, ow := [], fs := [fn_math_bits_Len64], N := 8 }
theorem ok_math_bits_Len : FunOk Tryz.prog fn_math_bits_Len :=
  FunOk.intro (C := cx_math_bits_Len) (p := .nil)
    Tryz.func40 rfl nmr40 rfl rfl rfl rfl types_ok ⟨⟨ok_math_bits_Len64, trivial⟩, trivial⟩ mx (fun x => by kernel_rfl)

noncomputable def slices_insertionSortCmpFunc_api_Nomination_L1 (a : Int) (cmp : (List UInt8 × List UInt8 × List UInt8 × List UInt8 × Int × Int) × (List UInt8 × List UInt8 × List UInt8 × List UInt8 × Int × Int) × Unit → Option Int) (j : Int) (data3 : List (List UInt8 × List UInt8 × List UInt8 × List UInt8 × Int × Int)) : Option ((Int × List (List UInt8 × List UInt8 × List UInt8 × List UInt8 × Int × Int)) ⊕ (List (List UInt8 × List UInt8 × List UInt8 × List UInt8 × Int × Int))) :=
  Option.bind (α := Bool × List (List UInt8 × List UInt8 × List UInt8 × List UInt8 × Int × Int)) (
    bif decide (a < j) then (
     gd (inB j data3.length) <|
     gd (inB (wi64 (j - 1)) data3.length) <|
     (cmp (data3.getD j.toNat ([], ([], ([], ([], (0, 0))))), data3.getD ((wi64 (j - 1)).toNat) ([], ([], ([], ([], (0, 0))))), ())).bind fun r =>
     some (decide (r < 0), data3))
    else (
     some (false, data3))) fun s =>
  bif s.1 then (
   gd (inB (wi64 (j - 1)) s.2.length) <|
   gd (inB j s.2.length) <|
   gd (inB j s.2.length) <|
   gd (inB (wi64 (j - 1)) (s.2.set j.toNat (s.2.getD ((wi64 (j - 1)).toNat) ([], ([], ([], ([], (0, 0))))))).length) <|
   some (.inl (wi64 (j - 1), (s.2.set j.toNat (s.2.getD ((wi64 (j - 1)).toNat) ([], ([], ([], ([], (0, 0))))))).set ((wi64 (j - 1)).toNat) (s.2.getD j.toNat ([], ([], ([], ([], (0, 0)))))))))
  else (
   some (.inr s.2))

noncomputable def slices_insertionSortCmpFunc_api_Nomination_L0 (a : Int) (b : Int) (cmp : (List UInt8 × List UInt8 × List UInt8 × List UInt8 × Int × Int) × (List UInt8 × List UInt8 × List UInt8 × List UInt8 × Int × Int) × Unit → Option Int) (i : Int) (data2 : List (List UInt8 × List UInt8 × List UInt8 × List UInt8 × Int × Int)) : Option ((Int × List (List UInt8 × List UInt8 × List UInt8 × List UInt8 × Int × Int)) ⊕ (List (List UInt8 × List UInt8 × List UInt8 × List UInt8 × Int × Int))) :=
  bif decide (i < b) then (
   (iter (fun x => slices_insertionSortCmpFunc_api_Nomination_L1 a cmp x.1 x.2) (i, data2)).bind fun s2 =>
   some (.inl (wi64 (i + 1), s2)))
  else (
   some (.inr data2))

noncomputable def slices_insertionSortCmpFunc_api_Nomination (a : Int) (b : Int) (cmp : (List UInt8 × List UInt8 × List UInt8 × List UInt8 × Int × Int) × (List UInt8 × List UInt8 × List UInt8 × List UInt8 × Int × Int) × Unit → Option Int) (data : List (List UInt8 × List UInt8 × List UInt8 × List UInt8 × Int × Int)) : Option (List (List UInt8 × List UInt8 × List UInt8 × List UInt8 × Int × Int)) :=
  (iter (fun x2 => slices_insertionSortCmpFunc_api_Nomination_L0 a b cmp x2.1 x2.2) (wi64 (a + 1), data)).bind fun s3 =>
  some s3

noncomputable def fn_slices_insertionSortCmpFunc_api_Nomination : Fun :=
  { f := 62, np := 4, nr := 0,
    ji := { regs := [(0, .one (.own 0)), (1, .one (.data (.int .i64))), (2, .one (.data (.int .i64))), (3, .one (.fn [.pair (.str) (.pair (.str) (.pair (.str) (.pair (.str) (.pair (.int .i64) (.int .i64))))), .pair (.str) (.pair (.str) (.pair (.str) (.pair (.str) (.pair (.int .i64) (.int .i64)))))] (.int .i64)))], vars := [], arrs := [(0, .arr 28 (.pair (.str) (.pair (.str) (.pair (.str) (.pair (.str) (.pair (.int .i64) (.int .i64)))))))] },
    jo := { regs := [], vars := [], arrs := [(0, .arr 28 (.pair (.str) (.pair (.str) (.pair (.str) (.pair (.str) (.pair (.int .i64) (.int .i64)))))))] },
    tw := fun x => slices_insertionSortCmpFunc_api_Nomination x.1 x.2.1 x.2.2.1 x.2.2.2 }
noncomputable def cx_slices_insertionSortCmpFunc_api_Nomination : Cx := { Γ := types, ow := [], fs := [], N := 53 }
theorem ok_slices_insertionSortCmpFunc_api_Nomination : FunOk Tryz.prog fn_slices_insertionSortCmpFunc_api_Nomination :=
  FunOk.intro (C := cx_slices_insertionSortCmpFunc_api_Nomination) (p := (.mk [] none .nil (.mk [] none (.mk [] (some ({ regs := [(0, .one (.own 0)), (1, .one .keep), (2, .one .keep), (3, .one .keep), (8, .one (.data (.int .i64)))], vars := [], arrs := [(0, .arr 28 (.pair (.str) (.pair (.str) (.pair (.str) (.pair (.str) (.pair (.int .i64) (.int .i64)))))))] }, [{ e := .x 0, j := { regs := [], vars := [], arrs := [(0, .arr 28 (.pair (.str) (.pair (.str) (.pair (.str) (.pair (.str) (.pair (.int .i64) (.int .i64)))))))] } }])) (.mk [] none .nil (.mk [] none (.mk [] none (.mk [] none .nil (.mk [] none (.mk [] (some ({ regs := [(0, .one (.own 0)), (1, .one .keep), (2, .one .keep), (3, .one .keep), (8, .one .keep), (9, .one (.data (.int .i64)))], vars := [], arrs := [(0, .arr 28 (.pair (.str) (.pair (.str) (.pair (.str) (.pair (.str) (.pair (.int .i64) (.int .i64)))))))] }, [{ e := .x 2, j := { regs := [(0, .one (.own 0)), (1, .one .keep), (2, .one .keep), (3, .one .keep), (8, .one .keep)], vars := [], arrs := [(0, .arr 28 (.pair (.str) (.pair (.str) (.pair (.str) (.pair (.str) (.pair (.int .i64) (.int .i64)))))))] } }])) (.mk [] none (.mk [] none (.mk [.join [{ e := .n, j := { regs := [(0, .one (.own 0)), (1, .one .keep), (2, .one .keep), (3, .one .keep), (8, .one .keep), (9, .one .keep), (34, .one (.data (.bool)))], vars := [], arrs := [(0, .arr 28 (.pair (.str) (.pair (.str) (.pair (.str) (.pair (.str) (.pair (.int .i64) (.int .i64)))))))] } }]] none .nil .nil) .nil) .nil) .nil) .nil)) .nil) .nil)) .nil) .nil)))
    Tryz.func62 rfl nmr62 rfl rfl rfl rfl types_ok ⟨trivial, trivial⟩ mx (fun x => by kernel_rfl)

noncomputable def slices_siftDownCmpFunc_api_Nomination_L0 (hi : Int) (first : Int) (cmp : (List UInt8 × List UInt8 × List UInt8 × List UInt8 × Int × Int) × (List UInt8 × List UInt8 × List UInt8 × List UInt8 × Int × Int) × Unit → Option Int) (root : Int) (data2 : List (List UInt8 × List UInt8 × List UInt8 × List UInt8 × Int × Int)) : Option ((Int × List (List UInt8 × List UInt8 × List UInt8 × List UInt8 × Int × Int)) ⊕ ((List (List UInt8 × List UInt8 × List UInt8 × List UInt8 × Int × Int)) ⊕ (List (List UInt8 × List UInt8 × List UInt8 × List UInt8 × Int × Int)))) :=
  bif decide (hi ≤ wi64 ((wi64 (2 * root)) + 1)) then (
   some (.inr (.inl data2)))
  else (
   Option.bind (α := Bool × List (List UInt8 × List UInt8 × List UInt8 × List UInt8 × Int × Int)) (
     bif decide (wi64 ((wi64 ((wi64 (2 * root)) + 1)) + 1) < hi) then (
      gd (inB (wi64 (first + (wi64 ((wi64 (2 * root)) + 1)))) data2.length) <|
      gd (inB (wi64 ((wi64 (first + (wi64 ((wi64 (2 * root)) + 1)))) + 1)) data2.length) <|
      (cmp (data2.getD ((wi64 (first + (wi64 ((wi64 (2 * root)) + 1)))).toNat) ([], ([], ([], ([], (0, 0))))), data2.getD ((wi64 ((wi64 (first + (wi64 ((wi64 (2 * root)) + 1)))) + 1)).toNat) ([], ([], ([], ([], (0, 0))))), ())).bind fun r =>
      some (decide (r < 0), data2))
     else (
      some (false, data2))) fun s =>
   Option.bind (α := Int × List (List UInt8 × List UInt8 × List UInt8 × List UInt8 × Int × Int)) (
     bif s.1 then (
      some (wi64 ((wi64 ((wi64 (2 * root)) + 1)) + 1), s.2))
     else (
      some (wi64 ((wi64 (2 * root)) + 1), s.2))) fun s2 =>
   gd (inB (wi64 (first + root)) s2.2.length) <|
   gd (inB (wi64 (first + s2.1)) s2.2.length) <|
   (cmp (s2.2.getD ((wi64 (first + root)).toNat) ([], ([], ([], ([], (0, 0))))), s2.2.getD ((wi64 (first + s2.1)).toNat) ([], ([], ([], ([], (0, 0))))), ())).bind fun r2 =>
   bif !(decide (r2 < 0)) then (
    some (.inr (.inr s2.2)))
   else (
    gd (inB (wi64 (first + s2.1)) s2.2.length) <|
    gd (inB (wi64 (first + root)) s2.2.length) <|
    gd (inB (wi64 (first + root)) s2.2.length) <|
    gd (inB (wi64 (first + s2.1)) (s2.2.set ((wi64 (first + root)).toNat) (s2.2.getD ((wi64 (first + s2.1)).toNat) ([], ([], ([], ([], (0, 0))))))).length) <|
    some (.inl (s2.1, (s2.2.set ((wi64 (first + root)).toNat) (s2.2.getD ((wi64 (first + s2.1)).toNat) ([], ([], ([], ([], (0, 0))))))).set ((wi64 (first + s2.1)).toNat) (s2.2.getD ((wi64 (first + root)).toNat) ([], ([], ([], ([], (0, 0))))))))))

noncomputable def slices_siftDownCmpFunc_api_Nomination (lo : Int) (hi : Int) (first : Int) (cmp : (List UInt8 × List UInt8 × List UInt8 × List UInt8 × Int × Int) × (List UInt8 × List UInt8 × List UInt8 × List UInt8 × Int × Int) × Unit → Option Int) (data : List (List UInt8 × List UInt8 × List UInt8 × List UInt8 × Int × Int)) : Option (List (List UInt8 × List UInt8 × List UInt8 × List UInt8 × Int × Int)) :=
  (iter (fun x => slices_siftDownCmpFunc_api_Nomination_L0 hi first cmp x.1 x.2) (lo, data)).bind fun s3 =>
  s3.elim (fun s4 =>
   some s4)
  (fun s5 =>
   some s5)

noncomputable def fn_slices_siftDownCmpFunc_api_Nomination : Fun :=
  { f := 87, np := 5, nr := 0,
    ji := { regs := [(0, .one (.own 0)), (1, .one (.data (.int .i64))), (2, .one (.data (.int .i64))), (3, .one (.data (.int .i64))), (4, .one (.fn [.pair (.str) (.pair (.str) (.pair (.str) (.pair (.str) (.pair (.int .i64) (.int .i64))))), .pair (.str) (.pair (.str) (.pair (.str) (.pair (.str) (.pair (.int .i64) (.int .i64)))))] (.int .i64)))], vars := [], arrs := [(0, .arr 28 (.pair (.str) (.pair (.str) (.pair (.str) (.pair (.str) (.pair (.int .i64) (.int .i64)))))))] },
    jo := { regs := [], vars := [], arrs := [(0, .arr 28 (.pair (.str) (.pair (.str) (.pair (.str) (.pair (.str) (.pair (.int .i64) (.int .i64)))))))] },
    tw := fun x => slices_siftDownCmpFunc_api_Nomination x.1 x.2.1 x.2.2.1 x.2.2.2.1 x.2.2.2.2 }
noncomputable def cx_slices_siftDownCmpFunc_api_Nomination : Cx := { Γ := types, ow := [], fs := [], N := 82 }
theorem ok_slices_siftDownCmpFunc_api_Nomination : FunOk Tryz.prog fn_slices_siftDownCmpFunc_api_Nomination :=
  FunOk.intro (C := cx_slices_siftDownCmpFunc_api_Nomination) (p := (.mk [] none .nil (.mk [] none (.mk [] (some ({ regs := [(0, .one (.own 0)), (2, .one .keep), (3, .one .keep), (4, .one .keep), (10, .one (.data (.int .i64)))], vars := [], arrs := [(0, .arr 28 (.pair (.str) (.pair (.str) (.pair (.str) (.pair (.str) (.pair (.int .i64) (.int .i64)))))))] }, [{ e := .x 0, j := { regs := [], vars := [], arrs := [(0, .arr 28 (.pair (.str) (.pair (.str) (.pair (.str) (.pair (.str) (.pair (.int .i64) (.int .i64)))))))] } }, { e := .r, j := { regs := [], vars := [], arrs := [(0, .arr 28 (.pair (.str) (.pair (.str) (.pair (.str) (.pair (.str) (.pair (.int .i64) (.int .i64)))))))] } }])) (.mk [] none (.mk [] none .nil (.mk [] none .nil (.mk [] none (.mk [] none (.mk [.join [{ e := .n, j := { regs := [(0, .one (.own 0)), (2, .one .keep), (3, .one .keep), (4, .one .keep), (10, .one .keep), (11, .one .keep), (40, .one (.data (.bool)))], vars := [], arrs := [(0, .arr 28 (.pair (.str) (.pair (.str) (.pair (.str) (.pair (.str) (.pair (.int .i64) (.int .i64)))))))] } }]] none .nil .nil) (.mk [.join [{ e := .n, j := { regs := [(0, .one (.own 0)), (2, .one .keep), (3, .one .keep), (4, .one .keep), (10, .one .keep), (11, .one (.data (.int .i64)))], vars := [], arrs := [(0, .arr 28 (.pair (.str) (.pair (.str) (.pair (.str) (.pair (.str) (.pair (.int .i64) (.int .i64)))))))] } }]] none .nil .nil)) .nil))) .nil) .nil) .nil)))
    Tryz.func87 rfl nmr87 rfl rfl rfl rfl types_ok ⟨trivial, trivial⟩ mx (fun x => by kernel_rfl)

noncomputable def slices_heapSortCmpFunc_api_Nomination_L0 (a : Int) (b : Int) (cmp : (List UInt8 × List UInt8 × List UInt8 × List UInt8 × Int × Int) × (List UInt8 × List UInt8 × List UInt8 × List UInt8 × Int × Int) × Unit → Option Int) (i : Int) (data2 : List (List UInt8 × List UInt8 × List UInt8 × List UInt8 × Int × Int)) : Option ((Int × List (List UInt8 × List UInt8 × List UInt8 × List UInt8 × Int × Int)) ⊕ (List (List UInt8 × List UInt8 × List UInt8 × List UInt8 × Int × Int))) :=
  bif decide (0 ≤ i) then (
   (slices_siftDownCmpFunc_api_Nomination i (wi64 (b - a)) a cmp data2).bind fun r =>
   some (.inl (wi64 (i - 1), r)))
  else (
   some (.inr data2))

noncomputable def slices_heapSortCmpFunc_api_Nomination_L1 (a : Int) (cmp : (List UInt8 × List UInt8 × List UInt8 × List UInt8 × Int × Int) × (List UInt8 × List UInt8 × List UInt8 × List UInt8 × Int × Int) × Unit → Option Int) (i2 : Int) (data3 : List (List UInt8 × List UInt8 × List UInt8 × List UInt8 × Int × Int)) : Option ((Int × List (List UInt8 × List UInt8 × List UInt8 × List UInt8 × Int × Int)) ⊕ (List (List UInt8 × List UInt8 × List UInt8 × List UInt8 × Int × Int))) :=
  bif decide (0 ≤ i2) then (
   gd (inB (wi64 (a + i2)) data3.length) <|
   gd (inB a data3.length) <|
   gd (inB a data3.length) <|
   gd (inB (wi64 (a + i2)) (data3.set a.toNat (data3.getD ((wi64 (a + i2)).toNat) ([], ([], ([], ([], (0, 0))))))).length) <|
   (slices_siftDownCmpFunc_api_Nomination 0 i2 a cmp ((data3.set a.toNat (data3.getD ((wi64 (a + i2)).toNat) ([], ([], ([], ([], (0, 0))))))).set ((wi64 (a + i2)).toNat) (data3.getD a.toNat ([], ([], ([], ([], (0, 0)))))))).bind fun r2 =>
   some (.inl (wi64 (i2 - 1), r2)))
  else (
   some (.inr data3))

noncomputable def slices_heapSortCmpFunc_api_Nomination (a : Int) (b : Int) (cmp : (List UInt8 × List UInt8 × List UInt8 × List UInt8 × Int × Int) × (List UInt8 × List UInt8 × List UInt8 × List UInt8 × Int × Int) × Unit → Option Int) (data : List (List UInt8 × List UInt8 × List UInt8 × List UInt8 × Int × Int)) : Option (List (List UInt8 × List UInt8 × List UInt8 × List UInt8 × Int × Int)) :=
  (iter (fun x => slices_heapSortCmpFunc_api_Nomination_L0 a b cmp x.1 x.2) (wi64 (Int.tdiv (wi64 ((wi64 (b - a)) - 1)) 2), data)).bind fun s =>
  (iter (fun x2 => slices_heapSortCmpFunc_api_Nomination_L1 a cmp x2.1 x2.2) (wi64 ((wi64 (b - a)) - 1), s)).bind fun s2 =>
  some s2

noncomputable def fn_slices_heapSortCmpFunc_api_Nomination : Fun :=
  { f := 63, np := 4, nr := 0,
    ji := { regs := [(0, .one (.own 0)), (1, .one (.data (.int .i64))), (2, .one (.data (.int .i64))), (3, .one (.fn [.pair (.str) (.pair (.str) (.pair (.str) (.pair (.str) (.pair (.int .i64) (.int .i64))))), .pair (.str) (.pair (.str) (.pair (.str) (.pair (.str) (.pair (.int .i64) (.int .i64)))))] (.int .i64)))], vars := [], arrs := [(0, .arr 28 (.pair (.str) (.pair (.str) (.pair (.str) (.pair (.str) (.pair (.int .i64) (.int .i64)))))))] },
    jo := { regs := [], vars := [], arrs := [(0, .arr 28 (.pair (.str) (.pair (.str) (.pair (.str) (.pair (.str) (.pair (.int .i64) (.int .i64)))))))] },
    tw := fun x => slices_heapSortCmpFunc_api_Nomination x.1 x.2.1 x.2.2.1 x.2.2.2 }
noncomputable def cx_slices_heapSortCmpFunc_api_Nomination : Cx := { Γ := types, ow := [], fs := [fn_slices_siftDownCmpFunc_api_Nomination], N := 60 }
theorem ok_slices_heapSortCmpFunc_api_Nomination : FunOk Tryz.prog fn_slices_heapSortCmpFunc_api_Nomination :=
  FunOk.intro (C := cx_slices_heapSortCmpFunc_api_Nomination) (p := (.mk [] none .nil (.mk [] none .nil (.mk [] none .nil (.mk [] none (.mk [] none .nil (.mk [] none (.mk [] (some ({ regs := [(0, .one (.own 0)), (3, .one .keep), (8, .one .keep), (9, .one .keep), (10, .one .keep), (11, .one (.data (.int .i64)))], vars := [], arrs := [(0, .arr 28 (.pair (.str) (.pair (.str) (.pair (.str) (.pair (.str) (.pair (.int .i64) (.int .i64)))))))] }, [{ e := .x 0, j := { regs := [(0, .one (.own 0)), (3, .one .keep), (8, .one .keep), (9, .one .keep), (10, .one .keep)], vars := [], arrs := [(0, .arr 28 (.pair (.str) (.pair (.str) (.pair (.str) (.pair (.str) (.pair (.int .i64) (.int .i64)))))))] } }])) .nil .nil) .nil)) (.mk [] none .nil (.mk [] none (.mk [] (some ({ regs := [(0, .one (.own 0)), (3, .one .keep), (8, .one .keep), (9, .one .keep), (12, .one (.data (.int .i64)))], vars := [], arrs := [(0, .arr 28 (.pair (.str) (.pair (.str) (.pair (.str) (.pair (.str) (.pair (.int .i64) (.int .i64)))))))] }, [{ e := .x 2, j := { regs := [], vars := [], arrs := [(0, .arr 28 (.pair (.str) (.pair (.str) (.pair (.str) (.pair (.str) (.pair (.int .i64) (.int .i64)))))))] } }])) .nil .nil) .nil)))))))
    Tryz.func63 rfl nmr63 rfl rfl rfl rfl types_ok ⟨⟨ok_slices_siftDownCmpFunc_api_Nomination, trivial⟩, trivial⟩ mx (fun x => by kernel_rfl)

noncomputable def slices_nextPowerOfTwo (length : Int) : Option (Int) :=
  (math_bits_Len (wu64 length)).bind fun r =>
  gd (!decide (r < 0)) <|
  some (wu64 (1 * 2 ^ shAmt .u64 r))

noncomputable def fn_slices_nextPowerOfTwo : Fun :=
  { f := 88, np := 1, nr := 1,
    ji := { regs := [(0, .one (.data (.int .i64)))], vars := [], arrs := [] },
    jo := { regs := [(0, .one (.data (.int .u64)))], vars := [], arrs := [] },
    tw := fun x => slices_nextPowerOfTwo x }
noncomputable def cx_slices_nextPowerOfTwo : Cx := { Γ := types, ow := [], fs := [fn_math_bits_Len], N := 7 }
theorem ok_slices_nextPowerOfTwo : FunOk Tryz.prog fn_slices_nextPowerOfTwo :=
  FunOk.intro (C := cx_slices_nextPowerOfTwo) (p := .nil)
    Tryz.func88 rfl nmr88 rfl rfl rfl rfl types_ok ⟨⟨ok_math_bits_Len, trivial⟩, trivial⟩ mx (fun x => by kernel_rfl)

noncomputable def slices_xorshift_Next (r : Int) : Option (Int × Int) :=
  some (bitXor .u64 (bitXor .u64 (bitXor .u64 r (wu64 (r * 2 ^ shAmt .u64 13))) (Int.fdiv (bitXor .u64 r (wu64 (r * 2 ^ shAmt .u64 13))) (2 ^ shAmt .u64 7))) (wu64 ((bitXor .u64 (bitXor .u64 r (wu64 (r * 2 ^ shAmt .u64 13))) (Int.fdiv (bitXor .u64 r (wu64 (r * 2 ^ shAmt .u64 13))) (2 ^ shAmt .u64 7))) * 2 ^ shAmt .u64 17)), bitXor .u64 (bitXor .u64 (bitXor .u64 r (wu64 (r * 2 ^ shAmt .u64 13))) (Int.fdiv (bitXor .u64 r (wu64 (r * 2 ^ shAmt .u64 13))) (2 ^ shAmt .u64 7))) (wu64 ((bitXor .u64 (bitXor .u64 r (wu64 (r * 2 ^ shAmt .u64 13))) (Int.fdiv (bitXor .u64 r (wu64 (r * 2 ^ shAmt .u64 13))) (2 ^ shAmt .u64 7))) * 2 ^ shAmt .u64 17)))

noncomputable def fn_slices_xorshift_Next : Fun :=
  { f := 89, np := 1, nr := 1,
    ji := { regs := [(0, .one (.ptr 0 0))], vars := [(0, 111, [.data (.int .u64)])], arrs := [] },
    jo := { regs := [(0, .one (.data (.int .u64)))], vars := [(0, 111, [.data (.int .u64)])], arrs := [] },
    tw := fun x => slices_xorshift_Next x }
noncomputable def cx_slices_xorshift_Next : Cx := { Γ := types, ow := [], fs := [], N := 33 }
theorem ok_slices_xorshift_Next : FunOk Tryz.prog fn_slices_xorshift_Next :=
  FunOk.intro (C := cx_slices_xorshift_Next) (p := .nil)
    Tryz.func89 rfl nmr89 rfl rfl rfl rfl types_ok ⟨trivial, trivial⟩ mx (fun x => by kernel_rfl)

noncomputable def slices_breakPatternsCmpFunc_api_Nomination_L0 (a : Int) (b : Int) (r : Int) (idx : Int) (random : Int) (data2 : List (List UInt8 × List UInt8 × List UInt8 × List UInt8 × Int × Int)) : Option ((Int × Int × List (List UInt8 × List UInt8 × List UInt8 × List UInt8 × Int × Int)) ⊕ (List (List UInt8 × List UInt8 × List UInt8 × List UInt8 × Int × Int))) :=
  bif decide (idx ≤ wi64 ((wi64 (a + (wi64 ((wi64 (Int.tdiv (wi64 (b - a)) 4)) * 2)))) + 1)) then (
   (slices_xorshift_Next random).bind fun r2 =>
   Option.bind (α := Int × List (List UInt8 × List UInt8 × List UInt8 × List UInt8 × Int × Int)) (
     bif decide (wi64 (b - a) ≤ wi64 (bitAnd .u64 r2.1 (wu64 (r - 1)))) then (
      some (wi64 ((wi64 (bitAnd .u64 r2.1 (wu64 (r - 1)))) - (wi64 (b - a))), data2))
     else (
      some (wi64 (bitAnd .u64 r2.1 (wu64 (r - 1))), data2))) fun s =>
   gd (inB (wi64 (a + s.1)) s.2.length) <|
   gd (inB idx s.2.length) <|
   gd (inB idx s.2.length) <|
   gd (inB (wi64 (a + s.1)) (s.2.set idx.toNat (s.2.getD ((wi64 (a + s.1)).toNat) ([], ([], ([], ([], (0, 0))))))).length) <|
   some (.inl (wi64 (idx + 1), r2.2, (s.2.set idx.toNat (s.2.getD ((wi64 (a + s.1)).toNat) ([], ([], ([], ([], (0, 0))))))).set ((wi64 (a + s.1)).toNat) (s.2.getD idx.toNat ([], ([], ([], ([], (0, 0)))))))))
  else (
   some (.inr data2))

noncomputable def slices_breakPatternsCmpFunc_api_Nomination (a : Int) (b : Int) (cmp : (List UInt8 × List UInt8 × List UInt8 × List UInt8 × Int × Int) × (List UInt8 × List UInt8 × List UInt8 × List UInt8 × Int × Int) × Unit → Option Int) (data : List (List UInt8 × List UInt8 × List UInt8 × List UInt8 × Int × Int)) : Option (List (List UInt8 × List UInt8 × List UInt8 × List UInt8 × Int × Int)) :=
  bif decide (8 ≤ wi64 (b - a)) then (
   (slices_nextPowerOfTwo (wi64 (b - a))).bind fun r =>
   (iter (fun x => slices_breakPatternsCmpFunc_api_Nomination_L0 a b r x.1 x.2.1 x.2.2) (wi64 ((wi64 (a + (wi64 ((wi64 (Int.tdiv (wi64 (b - a)) 4)) * 2)))) - 1), wu64 (wi64 (b - a)), data)).bind fun s2 =>
   some s2)
  else (
   some data)

noncomputable def fn_slices_breakPatternsCmpFunc_api_Nomination : Fun :=
  { f := 64, np := 4, nr := 0,
    ji := { regs := [(0, .one (.own 0)), (1, .one (.data (.int .i64))), (2, .one (.data (.int .i64))), (3, .one (.fn [.pair (.str) (.pair (.str) (.pair (.str) (.pair (.str) (.pair (.int .i64) (.int .i64))))), .pair (.str) (.pair (.str) (.pair (.str) (.pair (.str) (.pair (.int .i64) (.int .i64)))))] (.int .i64)))], vars := [], arrs := [(0, .arr 28 (.pair (.str) (.pair (.str) (.pair (.str) (.pair (.str) (.pair (.int .i64) (.int .i64)))))))] },
    jo := { regs := [], vars := [], arrs := [(0, .arr 28 (.pair (.str) (.pair (.str) (.pair (.str) (.pair (.str) (.pair (.int .i64) (.int .i64)))))))] },
    tw := fun x => slices_breakPatternsCmpFunc_api_Nomination x.1 x.2.1 x.2.2.1 x.2.2.2 }
noncomputable def cx_slices_breakPatternsCmpFunc_api_Nomination : Cx := { Γ := types, ow := [], fs := [fn_slices_nextPowerOfTwo, fn_slices_xorshift_Next], N := 67 }
theorem ok_slices_breakPatternsCmpFunc_api_Nomination : FunOk Tryz.prog fn_slices_breakPatternsCmpFunc_api_Nomination :=
  FunOk.intro (C := cx_slices_breakPatternsCmpFunc_api_Nomination) (p := (.mk [] none .nil (.mk [] none .nil (.mk [] none (.mk [] none .nil (.mk [] none .nil (.mk [] none .nil (.mk [] none (.mk [] (some ({ regs := [(0, .one (.own 0)), (1, .one .keep), (8, .one .keep), (9, .one (.ptr 160 0)), (10, .one .keep), (11, .one (.data (.int .i64)))], vars := [(160, 111, [.data (.int .u64)])], arrs := [(0, .arr 28 (.pair (.str) (.pair (.str) (.pair (.str) (.pair (.str) (.pair (.int .i64) (.int .i64)))))))] }, [{ e := .x 0, j := { regs := [], vars := [], arrs := [(0, .arr 28 (.pair (.str) (.pair (.str) (.pair (.str) (.pair (.str) (.pair (.int .i64) (.int .i64)))))))] } }])) (.mk [] none .nil (.mk [] none (.mk [] none (.mk [] none .nil (.mk [] none (.mk [] none .nil (.mk [.join [{ e := .n, j := { regs := [(0, .one (.own 0)), (1, .one .keep), (8, .one .keep), (9, .one (.ptr 160 0)), (10, .one .keep), (11, .one .keep), (12, .one (.data (.int .i64)))], vars := [(160, 111, [.keep])], arrs := [(0, .arr 28 (.pair (.str) (.pair (.str) (.pair (.str) (.pair (.str) (.pair (.int .i64) (.int .i64)))))))] } }]] none .nil .nil)) .nil)) .nil) .nil)) .nil) .nil)))) .nil))))
    Tryz.func64 rfl nmr64 rfl rfl rfl rfl types_ok ⟨⟨ok_slices_nextPowerOfTwo, ok_slices_xorshift_Next, trivial⟩, trivial⟩ mx (fun x => by kernel_rfl)

noncomputable def slices_order2CmpFunc_api_Nomination (data : List (List UInt8 × List UInt8 × List UInt8 × List UInt8 × Int × Int)) (a : Int) (b : Int) (cmp : (List UInt8 × List UInt8 × List UInt8 × List UInt8 × Int × Int) × (List UInt8 × List UInt8 × List UInt8 × List UInt8 × Int × Int) × Unit → Option Int) (swaps : Int) : Option (Int × Int × Int) :=
  gd (inB b data.length) <|
  gd (inB a data.length) <|
  (cmp (data.getD b.toNat ([], ([], ([], ([], (0, 0))))), data.getD a.toNat ([], ([], ([], ([], (0, 0))))), ())).bind fun r =>
  bif decide (r < 0) then (
   some (b, a, wi64 (swaps + 1)))
  else (
   some (a, b, swaps))

noncomputable def fn_slices_order2CmpFunc_api_Nomination : Fun :=
  { f := 103, np := 5, nr := 2,
    ji := { regs := [(0, .one (.data (.sl (.pair (.str) (.pair (.str) (.pair (.str) (.pair (.str) (.pair (.int .i64) (.int .i64))))))))), (1, .one (.data (.int .i64))), (2, .one (.data (.int .i64))), (3, .one (.ptr 0 0)), (4, .one (.fn [.pair (.str) (.pair (.str) (.pair (.str) (.pair (.str) (.pair (.int .i64) (.int .i64))))), .pair (.str) (.pair (.str) (.pair (.str) (.pair (.str) (.pair (.int .i64) (.int .i64)))))] (.int .i64)))], vars := [(0, 3, [.data (.int .i64)])], arrs := [] },
    jo := { regs := [(0, .one (.data (.int .i64))), (1, .one (.data (.int .i64)))], vars := [(0, 3, [.data (.int .i64)])], arrs := [] },
    tw := fun x => slices_order2CmpFunc_api_Nomination x.1 x.2.1 x.2.2.1 x.2.2.2.1 x.2.2.2.2 }
noncomputable def cx_slices_order2CmpFunc_api_Nomination : Cx := { Γ := types, ow := [], fs := [], N := 32 }
theorem ok_slices_order2CmpFunc_api_Nomination : FunOk Tryz.prog fn_slices_order2CmpFunc_api_Nomination :=
  FunOk.intro (C := cx_slices_order2CmpFunc_api_Nomination) (p := .nil)
    Tryz.func103 rfl nmr103 rfl rfl rfl rfl types_ok ⟨trivial, trivial⟩ mx (fun x => by kernel_rfl)

noncomputable def slices_medianCmpFunc_api_Nomination (data : List (List UInt8 × List UInt8 × List UInt8 × List UInt8 × Int × Int)) (a : Int) (b : Int) (c : Int) (cmp : (List UInt8 × List UInt8 × List UInt8 × List UInt8 × Int × Int) × (List UInt8 × List UInt8 × List UInt8 × List UInt8 × Int × Int) × Unit → Option Int) (swaps : Int) : Option (Int × Int) :=
  (slices_order2CmpFunc_api_Nomination data a b cmp swaps).bind fun r =>
  (slices_order2CmpFunc_api_Nomination data r.2.1 c cmp r.2.2).bind fun r2 =>
  (slices_order2CmpFunc_api_Nomination data r.1 r2.1 cmp r2.2.2).bind fun r3 =>
  some (r3.2.1, r3.2.2)

noncomputable def fn_slices_medianCmpFunc_api_Nomination : Fun :=
  { f := 91, np := 6, nr := 1,
    ji := { regs := [(0, .one (.data (.sl (.pair (.str) (.pair (.str) (.pair (.str) (.pair (.str) (.pair (.int .i64) (.int .i64))))))))), (1, .one (.data (.int .i64))), (2, .one (.data (.int .i64))), (3, .one (.data (.int .i64))), (4, .one (.ptr 0 0)), (5, .one (.fn [.pair (.str) (.pair (.str) (.pair (.str) (.pair (.str) (.pair (.int .i64) (.int .i64))))), .pair (.str) (.pair (.str) (.pair (.str) (.pair (.str) (.pair (.int .i64) (.int .i64)))))] (.int .i64)))], vars := [(0, 3, [.data (.int .i64)])], arrs := [] },
    jo := { regs := [(0, .one (.data (.int .i64)))], vars := [(0, 3, [.data (.int .i64)])], arrs := [] },
    tw := fun x => slices_medianCmpFunc_api_Nomination x.1 x.2.1 x.2.2.1 x.2.2.2.1 x.2.2.2.2.1 x.2.2.2.2.2 }
noncomputable def cx_slices_medianCmpFunc_api_Nomination : Cx := { Γ := types, ow := [], fs := [fn_slices_order2CmpFunc_api_Nomination], N := 41 }
theorem ok_slices_medianCmpFunc_api_Nomination : FunOk Tryz.prog fn_slices_medianCmpFunc_api_Nomination :=
  FunOk.intro (C := cx_slices_medianCmpFunc_api_Nomination) (p := .nil)
    Tryz.func91 rfl nmr91 rfl rfl rfl rfl types_ok ⟨⟨ok_slices_order2CmpFunc_api_Nomination, trivial⟩, trivial⟩ mx (fun x => by kernel_rfl)

noncomputable def slices_medianAdjacentCmpFunc_api_Nomination (data : List (List UInt8 × List UInt8 × List UInt8 × List UInt8 × Int × Int)) (a : Int) (cmp : (List UInt8 × List UInt8 × List UInt8 × List UInt8 × Int × Int) × (List UInt8 × List UInt8 × List UInt8 × List UInt8 × Int × Int) × Unit → Option Int) (swaps : Int) : Option (Int × Int) :=
  (slices_medianCmpFunc_api_Nomination data (wi64 (a - 1)) a (wi64 (a + 1)) cmp swaps).bind fun r =>
  some (r.1, r.2)

noncomputable def fn_slices_medianAdjacentCmpFunc_api_Nomination : Fun :=
  { f := 90, np := 4, nr := 1,
    ji := { regs := [(0, .one (.data (.sl (.pair (.str) (.pair (.str) (.pair (.str) (.pair (.str) (.pair (.int .i64) (.int .i64))))))))), (1, .one (.data (.int .i64))), (2, .one (.ptr 0 0)), (3, .one (.fn [.pair (.str) (.pair (.str) (.pair (.str) (.pair (.str) (.pair (.int .i64) (.int .i64))))), .pair (.str) (.pair (.str) (.pair (.str) (.pair (.str) (.pair (.int .i64) (.int .i64)))))] (.int .i64)))], vars := [(0, 3, [.data (.int .i64)])], arrs := [] },
    jo := { regs := [(0, .one (.data (.int .i64)))], vars := [(0, 3, [.data (.int .i64)])], arrs := [] },
    tw := fun x => slices_medianAdjacentCmpFunc_api_Nomination x.1 x.2.1 x.2.2.1 x.2.2.2 }
noncomputable def cx_slices_medianAdjacentCmpFunc_api_Nomination : Cx := { Γ := types, ow := [], fs := [fn_slices_medianCmpFunc_api_Nomination], N := 18 }
theorem ok_slices_medianAdjacentCmpFunc_api_Nomination : FunOk Tryz.prog fn_slices_medianAdjacentCmpFunc_api_Nomination :=
  FunOk.intro (C := cx_slices_medianAdjacentCmpFunc_api_Nomination) (p := .nil)
    Tryz.func90 rfl nmr90 rfl rfl rfl rfl types_ok ⟨⟨ok_slices_medianCmpFunc_api_Nomination, trivial⟩, trivial⟩ mx (fun x => by kernel_rfl)

noncomputable def slices_choosePivotCmpFunc_api_Nomination (data : List (List UInt8 × List UInt8 × List UInt8 × List UInt8 × Int × Int)) (a : Int) (b : Int) (cmp : (List UInt8 × List UInt8 × List UInt8 × List UInt8 × Int × Int) × (List UInt8 × List UInt8 × List UInt8 × List UInt8 × Int × Int) × Unit → Option Int) : Option (Int × Int) :=
  Option.bind (α := Int × Int) (
    bif decide (8 ≤ wi64 (b - a)) then (
     Option.bind (α := Int × Int × Int × Int) (
       bif decide (50 ≤ wi64 (b - a)) then (
        (slices_medianAdjacentCmpFunc_api_Nomination data (wi64 (a + (wi64 ((wi64 (Int.tdiv (wi64 (b - a)) 4)) * 1)))) cmp 0).bind fun r =>
        (slices_medianAdjacentCmpFunc_api_Nomination data (wi64 (a + (wi64 ((wi64 (Int.tdiv (wi64 (b - a)) 4)) * 2)))) cmp r.2).bind fun r2 =>
        (slices_medianAdjacentCmpFunc_api_Nomination data (wi64 (a + (wi64 ((wi64 (Int.tdiv (wi64 (b - a)) 4)) * 3)))) cmp r2.2).bind fun r3 =>
        some (r.1, r2.1, r3.1, r3.2))
       else (
        some (wi64 (a + (wi64 ((wi64 (Int.tdiv (wi64 (b - a)) 4)) * 1))), wi64 (a + (wi64 ((wi64 (Int.tdiv (wi64 (b - a)) 4)) * 2))), wi64 (a + (wi64 ((wi64 (Int.tdiv (wi64 (b - a)) 4)) * 3))), 0))) fun s =>
     (slices_medianCmpFunc_api_Nomination data s.1 s.2.1 s.2.2.1 cmp s.2.2.2).bind fun r4 =>
     some (r4.1, r4.2))
    else (
     some (wi64 (a + (wi64 ((wi64 (Int.tdiv (wi64 (b - a)) 4)) * 2))), 0))) fun s2 =>
  bif decide (s2.2 = 0) then (
   some (s2.1, 1))
  else (
   bif decide (s2.2 = 12) then (
    some (s2.1, 2))
   else (
    some (s2.1, 0)))

noncomputable def fn_slices_choosePivotCmpFunc_api_Nomination : Fun :=
  { f := 65, np := 4, nr := 2,
    ji := { regs := [(0, .one (.data (.sl (.pair (.str) (.pair (.str) (.pair (.str) (.pair (.str) (.pair (.int .i64) (.int .i64))))))))), (1, .one (.data (.int .i64))), (2, .one (.data (.int .i64))), (3, .one (.fn [.pair (.str) (.pair (.str) (.pair (.str) (.pair (.str) (.pair (.int .i64) (.int .i64))))), .pair (.str) (.pair (.str) (.pair (.str) (.pair (.str) (.pair (.int .i64) (.int .i64)))))] (.int .i64)))], vars := [], arrs := [] },
    jo := { regs := [(0, .one (.data (.int .i64))), (1, .one (.data (.int .i64)))], vars := [], arrs := [] },
    tw := fun x => slices_choosePivotCmpFunc_api_Nomination x.1 x.2.1 x.2.2.1 x.2.2.2 }
noncomputable def cx_slices_choosePivotCmpFunc_api_Nomination : Cx := { Γ := types, ow := [], fs := [fn_slices_medianAdjacentCmpFunc_api_Nomination, fn_slices_medianCmpFunc_api_Nomination], N := 63 }
theorem ok_slices_choosePivotCmpFunc_api_Nomination : FunOk Tryz.prog fn_slices_choosePivotCmpFunc_api_Nomination :=
  FunOk.intro (C := cx_slices_choosePivotCmpFunc_api_Nomination) (p := (.mk [] none .nil (.mk [] none .nil (.mk [] none .nil (.mk [] none .nil (.mk [] none .nil (.mk [] none .nil (.mk [] none (.mk [] none .nil (.mk [.join [{ e := .n, j := { regs := [(11, .one (.ptr 192 0)), (13, .one (.data (.int .i64)))], vars := [(192, 3, [.data (.int .i64)])], arrs := [] } }]] none (.mk [] none (.mk [] none .nil (.mk [.join [{ e := .n, j := { regs := [(0, .one .keep), (3, .one .keep), (11, .one (.ptr 192 0)), (12, .one (.data (.int .i64))), (13, .one (.data (.int .i64))), (14, .one (.data (.int .i64)))], vars := [(192, 3, [.data (.int .i64)])], arrs := [] } }]] none .nil .nil)) .nil) .nil)) .nil))))))))
    Tryz.func65 rfl nmr65 rfl rfl rfl rfl types_ok ⟨⟨ok_slices_medianAdjacentCmpFunc_api_Nomination, ok_slices_medianCmpFunc_api_Nomination, trivial⟩, trivial⟩ mx (fun x => by kernel_rfl)

noncomputable def slices_reverseRangeCmpFunc_api_Nomination_L0 (i : Int) (j : Int) (data2 : List (List UInt8 × List UInt8 × List UInt8 × List UInt8 × Int × Int)) : Option ((Int × Int × List (List UInt8 × List UInt8 × List UInt8 × List UInt8 × Int × Int)) ⊕ (List (List UInt8 × List UInt8 × List UInt8 × List UInt8 × Int × Int))) :=
  bif decide (i < j) then (
   gd (inB j data2.length) <|
   gd (inB i data2.length) <|
   gd (inB i data2.length) <|
   gd (inB j (data2.set i.toNat (data2.getD j.toNat ([], ([], ([], ([], (0, 0))))))).length) <|
   some (.inl (wi64 (i + 1), wi64 (j - 1), (data2.set i.toNat (data2.getD j.toNat ([], ([], ([], ([], (0, 0))))))).set j.toNat (data2.getD i.toNat ([], ([], ([], ([], (0, 0)))))))))
  else (
   some (.inr data2))

noncomputable def slices_reverseRangeCmpFunc_api_Nomination (a : Int) (b : Int) (cmp : (List UInt8 × List UInt8 × List UInt8 × List UInt8 × Int × Int) × (List UInt8 × List UInt8 × List UInt8 × List UInt8 × Int × Int) × Unit → Option Int) (data : List (List UInt8 × List UInt8 × List UInt8 × List UInt8 × Int × Int)) : Option (List (List UInt8 × List UInt8 × List UInt8 × List UInt8 × Int × Int)) :=
  (iter (fun x => slices_reverseRangeCmpFunc_api_Nomination_L0 x.1 x.2.1 x.2.2) (a, wi64 (b - 1), data)).bind fun s =>
  some s

noncomputable def fn_slices_reverseRangeCmpFunc_api_Nomination : Fun :=
  { f := 66, np := 4, nr := 0,
    ji := { regs := [(0, .one (.own 0)), (1, .one (.data (.int .i64))), (2, .one (.data (.int .i64))), (3, .one (.fn [.pair (.str) (.pair (.str) (.pair (.str) (.pair (.str) (.pair (.int .i64) (.int .i64))))), .pair (.str) (.pair (.str) (.pair (.str) (.pair (.str) (.pair (.int .i64) (.int .i64)))))] (.int .i64)))], vars := [], arrs := [(0, .arr 28 (.pair (.str) (.pair (.str) (.pair (.str) (.pair (.str) (.pair (.int .i64) (.int .i64)))))))] },
    jo := { regs := [], vars := [], arrs := [(0, .arr 28 (.pair (.str) (.pair (.str) (.pair (.str) (.pair (.str) (.pair (.int .i64) (.int .i64)))))))] },
    tw := fun x => slices_reverseRangeCmpFunc_api_Nomination x.1 x.2.1 x.2.2.1 x.2.2.2 }
noncomputable def cx_slices_reverseRangeCmpFunc_api_Nomination : Cx := { Γ := types, ow := [], fs := [], N := 34 }
theorem ok_slices_reverseRangeCmpFunc_api_Nomination : FunOk Tryz.prog fn_slices_reverseRangeCmpFunc_api_Nomination :=
  FunOk.intro (C := cx_slices_reverseRangeCmpFunc_api_Nomination) (p := (.mk [] none .nil (.mk [] none .nil (.mk [] none (.mk [] (some ({ regs := [(0, .one (.own 0)), (8, .one (.data (.int .i64))), (9, .one (.data (.int .i64)))], vars := [], arrs := [(0, .arr 28 (.pair (.str) (.pair (.str) (.pair (.str) (.pair (.str) (.pair (.int .i64) (.int .i64)))))))] }, [{ e := .x 0, j := { regs := [], vars := [], arrs := [(0, .arr 28 (.pair (.str) (.pair (.str) (.pair (.str) (.pair (.str) (.pair (.int .i64) (.int .i64)))))))] } }])) .nil .nil) .nil))))
    Tryz.func66 rfl nmr66 rfl rfl rfl rfl types_ok ⟨trivial, trivial⟩ mx (fun x => by kernel_rfl)

noncomputable def slices_partialInsertionSortCmpFunc_api_Nomination_L1 (b : Int) (cmp : (List UInt8 × List UInt8 × List UInt8 × List UInt8 × Int × Int) × (List UInt8 × List UInt8 × List UInt8 × List UInt8 × Int × Int) × Unit → Option Int) (i2 : Int) (data3 : List (List UInt8 × List UInt8 × List UInt8 × List UInt8 × Int × Int)) : Option ((Int × List (List UInt8 × List UInt8 × List UInt8 × List UInt8 × Int × Int)) ⊕ (Int × List (List UInt8 × List UInt8 × List UInt8 × List UInt8 × Int × Int))) :=
  Option.bind (α := Bool × List (List UInt8 × List UInt8 × List UInt8 × List UInt8 × Int × Int)) (
    bif decide (i2 < b) then (
     gd (inB i2 data3.length) <|
     gd (inB (wi64 (i2 - 1)) data3.length) <|
     (cmp (data3.getD i2.toNat ([], ([], ([], ([], (0, 0))))), data3.getD ((wi64 (i2 - 1)).toNat) ([], ([], ([], ([], (0, 0))))), ())).bind fun r =>
     some ((!(decide (r < 0))), data3))
    else (
     some (false, data3))) fun s =>
  bif s.1 then (
   some (.inl (wi64 (i2 + 1), s.2)))
  else (
   some (.inr (i2, s.2)))

noncomputable def slices_partialInsertionSortCmpFunc_api_Nomination_L2 (cmp : (List UInt8 × List UInt8 × List UInt8 × List UInt8 × Int × Int) × (List UInt8 × List UInt8 × List UInt8 × List UInt8 × Int × Int) × Unit → Option Int) (j2 : Int) (data4 : List (List UInt8 × List UInt8 × List UInt8 × List UInt8 × Int × Int)) : Option ((Int × List (List UInt8 × List UInt8 × List UInt8 × List UInt8 × Int × Int)) ⊕ (List (List UInt8 × List UInt8 × List UInt8 × List UInt8 × Int × Int))) :=
  bif decide (1 ≤ j2) then (
   gd (inB j2 data4.length) <|
   gd (inB (wi64 (j2 - 1)) data4.length) <|
   (cmp (data4.getD j2.toNat ([], ([], ([], ([], (0, 0))))), data4.getD ((wi64 (j2 - 1)).toNat) ([], ([], ([], ([], (0, 0))))), ())).bind fun r2 =>
   bif !(decide (r2 < 0)) then (
    some (.inr data4))
   else (
    gd (inB (wi64 (j2 - 1)) data4.length) <|
    gd (inB j2 data4.length) <|
    gd (inB j2 data4.length) <|
    gd (inB (wi64 (j2 - 1)) (data4.set j2.toNat (data4.getD ((wi64 (j2 - 1)).toNat) ([], ([], ([], ([], (0, 0))))))).length) <|
    some (.inl (wi64 (j2 - 1), (data4.set j2.toNat (data4.getD ((wi64 (j2 - 1)).toNat) ([], ([], ([], ([], (0, 0))))))).set ((wi64 (j2 - 1)).toNat) (data4.getD j2.toNat ([], ([], ([], ([], (0, 0))))))))))
  else (
   some (.inr data4))

noncomputable def slices_partialInsertionSortCmpFunc_api_Nomination_L3 (b : Int) (cmp : (List UInt8 × List UInt8 × List UInt8 × List UInt8 × Int × Int) × (List UInt8 × List UInt8 × List UInt8 × List UInt8 × Int × Int) × Unit → Option Int) (j3 : Int) (data5 : List (List UInt8 × List UInt8 × List UInt8 × List UInt8 × Int × Int)) : Option ((Int × List (List UInt8 × List UInt8 × List UInt8 × List UInt8 × Int × Int)) ⊕ (List (List UInt8 × List UInt8 × List UInt8 × List UInt8 × Int × Int))) :=
  bif decide (j3 < b) then (
   gd (inB j3 data5.length) <|
   gd (inB (wi64 (j3 - 1)) data5.length) <|
   (cmp (data5.getD j3.toNat ([], ([], ([], ([], (0, 0))))), data5.getD ((wi64 (j3 - 1)).toNat) ([], ([], ([], ([], (0, 0))))), ())).bind fun r3 =>
   bif !(decide (r3 < 0)) then (
    some (.inr data5))
   else (
    gd (inB (wi64 (j3 - 1)) data5.length) <|
    gd (inB j3 data5.length) <|
    gd (inB j3 data5.length) <|
    gd (inB (wi64 (j3 - 1)) (data5.set j3.toNat (data5.getD ((wi64 (j3 - 1)).toNat) ([], ([], ([], ([], (0, 0))))))).length) <|
    some (.inl (wi64 (j3 + 1), (data5.set j3.toNat (data5.getD ((wi64 (j3 - 1)).toNat) ([], ([], ([], ([], (0, 0))))))).set ((wi64 (j3 - 1)).toNat) (data5.getD j3.toNat ([], ([], ([], ([], (0, 0))))))))))
  else (
   some (.inr data5))

noncomputable def slices_partialInsertionSortCmpFunc_api_Nomination_L0 (a : Int) (b : Int) (cmp : (List UInt8 × List UInt8 × List UInt8 × List UInt8 × Int × Int) × (List UInt8 × List UInt8 × List UInt8 × List UInt8 × Int × Int) × Unit → Option Int) (i : Int) (j : Int) (data2 : List (List UInt8 × List UInt8 × List UInt8 × List UInt8 × Int × Int)) : Option ((Int × Int × List (List UInt8 × List UInt8 × List UInt8 × List UInt8 × Int × Int)) ⊕ ((List (List UInt8 × List UInt8 × List UInt8 × List UInt8 × Int × Int)) ⊕ (Bool × List (List UInt8 × List UInt8 × List UInt8 × List UInt8 × Int × Int)))) :=
  bif decide (j < 5) then (
   (iter (fun x => slices_partialInsertionSortCmpFunc_api_Nomination_L1 b cmp x.1 x.2) (i, data2)).bind fun s2 =>
   bif decide (s2.1 = b) then (
    some (.inr (.inr (true, s2.2))))
   else (
    bif decide (wi64 (b - a) < 50) then (
     some (.inr (.inr (false, s2.2))))
    else (
     gd (inB (wi64 (s2.1 - 1)) s2.2.length) <|
     gd (inB s2.1 s2.2.length) <|
     gd (inB s2.1 s2.2.length) <|
     gd (inB (wi64 (s2.1 - 1)) (s2.2.set s2.1.toNat (s2.2.getD ((wi64 (s2.1 - 1)).toNat) ([], ([], ([], ([], (0, 0))))))).length) <|
     Option.bind (α := List (List UInt8 × List UInt8 × List UInt8 × List UInt8 × Int × Int)) (
       bif decide (2 ≤ wi64 (s2.1 - a)) then (
        (iter (fun x2 => slices_partialInsertionSortCmpFunc_api_Nomination_L2 cmp x2.1 x2.2) (wi64 (s2.1 - 1), (s2.2.set s2.1.toNat (s2.2.getD ((wi64 (s2.1 - 1)).toNat) ([], ([], ([], ([], (0, 0))))))).set ((wi64 (s2.1 - 1)).toNat) (s2.2.getD s2.1.toNat ([], ([], ([], ([], (0, 0)))))))).bind fun s3 =>
        some s3)
       else (
        some ((s2.2.set s2.1.toNat (s2.2.getD ((wi64 (s2.1 - 1)).toNat) ([], ([], ([], ([], (0, 0))))))).set ((wi64 (s2.1 - 1)).toNat) (s2.2.getD s2.1.toNat ([], ([], ([], ([], (0, 0))))))))) fun s4 =>
     Option.bind (α := List (List UInt8 × List UInt8 × List UInt8 × List UInt8 × Int × Int)) (
       bif decide (2 ≤ wi64 (b - s2.1)) then (
        (iter (fun x3 => slices_partialInsertionSortCmpFunc_api_Nomination_L3 b cmp x3.1 x3.2) (wi64 (s2.1 + 1), s4)).bind fun s5 =>
        some s5)
       else (
        some s4)) fun s6 =>
     some (.inl (s2.1, wi64 (j + 1), s6)))))
  else (
   some (.inr (.inl data2)))

noncomputable def slices_partialInsertionSortCmpFunc_api_Nomination (a : Int) (b : Int) (cmp : (List UInt8 × List UInt8 × List UInt8 × List UInt8 × Int × Int) × (List UInt8 × List UInt8 × List UInt8 × List UInt8 × Int × Int) × Unit → Option Int) (data : List (List UInt8 × List UInt8 × List UInt8 × List UInt8 × Int × Int)) : Option (Bool × List (List UInt8 × List UInt8 × List UInt8 × List UInt8 × Int × Int)) :=
  (iter (fun x4 => slices_partialInsertionSortCmpFunc_api_Nomination_L0 a b cmp x4.1 x4.2.1 x4.2.2) (wi64 (a + 1), 0, data)).bind fun s7 =>
  s7.elim (fun s8 =>
   some (false, s8))
  (fun s9 =>
   some (s9.1, s9.2))

noncomputable def fn_slices_partialInsertionSortCmpFunc_api_Nomination : Fun :=
  { f := 67, np := 4, nr := 1,
    ji := { regs := [(0, .one (.own 0)), (1, .one (.data (.int .i64))), (2, .one (.data (.int .i64))), (3, .one (.fn [.pair (.str) (.pair (.str) (.pair (.str) (.pair (.str) (.pair (.int .i64) (.int .i64))))), .pair (.str) (.pair (.str) (.pair (.str) (.pair (.str) (.pair (.int .i64) (.int .i64)))))] (.int .i64)))], vars := [], arrs := [(0, .arr 28 (.pair (.str) (.pair (.str) (.pair (.str) (.pair (.str) (.pair (.int .i64) (.int .i64)))))))] },
    jo := { regs := [(0, .one (.data (.bool)))], vars := [], arrs := [(0, .arr 28 (.pair (.str) (.pair (.str) (.pair (.str) (.pair (.str) (.pair (.int .i64) (.int .i64)))))))] },
    tw := fun x => slices_partialInsertionSortCmpFunc_api_Nomination x.1 x.2.1 x.2.2.1 x.2.2.2 }
noncomputable def cx_slices_partialInsertionSortCmpFunc_api_Nomination : Cx := { Γ := types, ow := [], fs := [], N := 141 }
theorem ok_slices_partialInsertionSortCmpFunc_api_Nomination : FunOk Tryz.prog fn_slices_partialInsertionSortCmpFunc_api_Nomination :=
  FunOk.intro (C := cx_slices_partialInsertionSortCmpFunc_api_Nomination) (p := (.mk [] none .nil (.mk [] none .nil (.mk [] none (.mk [] none .nil (.mk [] none (.mk [] (some ({ regs := [(0, .one (.own 0)), (1, .one .keep), (2, .one .keep), (3, .one .keep), (9, .one (.data (.int .i64))), (10, .one (.data (.int .i64)))], vars := [], arrs := [(0, .arr 28 (.pair (.str) (.pair (.str) (.pair (.str) (.pair (.str) (.pair (.int .i64) (.int .i64)))))))] }, [{ e := .x 0, j := { regs := [], vars := [], arrs := [(0, .arr 28 (.pair (.str) (.pair (.str) (.pair (.str) (.pair (.str) (.pair (.int .i64) (.int .i64)))))))] } }, { e := .r, j := { regs := [(8, .one (.data (.bool)))], vars := [], arrs := [(0, .arr 28 (.pair (.str) (.pair (.str) (.pair (.str) (.pair (.str) (.pair (.int .i64) (.int .i64)))))))] } }])) (.mk [] none .nil (.mk [] none (.mk [] none (.mk [] none (.mk [] none (.mk [] (some ({ regs := [(0, .one (.own 0)), (1, .one .keep), (2, .one .keep), (3, .one .keep), (9, .one (.data (.int .i64))), (10, .one .keep)], vars := [], arrs := [(0, .arr 28 (.pair (.str) (.pair (.str) (.pair (.str) (.pair (.str) (.pair (.int .i64) (.int .i64)))))))] }, [{ e := .x 2, j := { regs := [(0, .one (.own 0)), (1, .one .keep), (2, .one .keep), (3, .one .keep), (9, .one (.data (.int .i64))), (10, .one .keep)], vars := [], arrs := [(0, .arr 28 (.pair (.str) (.pair (.str) (.pair (.str) (.pair (.str) (.pair (.int .i64) (.int .i64)))))))] } }])) (.mk [] none (.mk [] none (.mk [.join [{ e := .n, j := { regs := [(0, .one (.own 0)), (1, .one .keep), (2, .one .keep), (3, .one .keep), (9, .one .keep), (10, .one .keep), (36, .one (.data (.bool)))], vars := [], arrs := [(0, .arr 28 (.pair (.str) (.pair (.str) (.pair (.str) (.pair (.str) (.pair (.int .i64) (.int .i64)))))))] } }]] none .nil .nil) .nil) .nil) .nil) .nil) (.mk [] none .nil (.mk [] none .nil (.mk [] none .nil (.mk [] none (.mk [] none .nil (.mk [.join [{ e := .n, j := { regs := [(0, .one (.own 0)), (1, .one .keep), (2, .one .keep), (3, .one .keep), (9, .one .keep), (10, .one .keep)], vars := [], arrs := [(0, .arr 28 (.pair (.str) (.pair (.str) (.pair (.str) (.pair (.str) (.pair (.int .i64) (.int .i64)))))))] } }]] none (.mk [] none .nil (.mk [] none (.mk [] (some ({ regs := [(0, .one (.own 0)), (1, .one .keep), (2, .one .keep), (3, .one .keep), (9, .one .keep), (10, .one .keep), (11, .one (.data (.int .i64)))], vars := [], arrs := [(0, .arr 28 (.pair (.str) (.pair (.str) (.pair (.str) (.pair (.str) (.pair (.int .i64) (.int .i64)))))))] }, [{ e := .x 4, j := { regs := [(0, .one (.own 0)), (1, .one .keep), (2, .one .keep), (3, .one .keep), (9, .one .keep), (10, .one .keep)], vars := [], arrs := [(0, .arr 28 (.pair (.str) (.pair (.str) (.pair (.str) (.pair (.str) (.pair (.int .i64) (.int .i64)))))))] } }])) .nil .nil) .nil)) .nil)) (.mk [] none .nil (.mk [.join [{ e := .n, j := { regs := [(0, .one (.own 0)), (1, .one .keep), (2, .one .keep), (3, .one .keep), (9, .one .keep), (10, .one .keep)], vars := [], arrs := [(0, .arr 28 (.pair (.str) (.pair (.str) (.pair (.str) (.pair (.str) (.pair (.int .i64) (.int .i64)))))))] } }]] none (.mk [] none .nil (.mk [] none (.mk [] (some ({ regs := [(0, .one (.own 0)), (1, .one .keep), (2, .one .keep), (3, .one .keep), (9, .one .keep), (10, .one .keep), (12, .one (.data (.int .i64)))], vars := [], arrs := [(0, .arr 28 (.pair (.str) (.pair (.str) (.pair (.str) (.pair (.str) (.pair (.int .i64) (.int .i64)))))))] }, [{ e := .x 6, j := { regs := [(0, .one (.own 0)), (1, .one .keep), (2, .one .keep), (3, .one .keep), (9, .one .keep), (10, .one .keep)], vars := [], arrs := [(0, .arr 28 (.pair (.str) (.pair (.str) (.pair (.str) (.pair (.str) (.pair (.int .i64) (.int .i64)))))))] } }])) .nil .nil) .nil)) .nil))))))) .nil) .nil)) .nil) .nil)) .nil))))
    Tryz.func67 rfl nmr67 rfl rfl rfl rfl types_ok ⟨trivial, trivial⟩ mx (fun x => by kernel_rfl)

noncomputable def slices_partitionEqualCmpFunc_api_Nomination_L1 (a : Int) (cmp : (List UInt8 × List UInt8 × List UInt8 × List UInt8 × Int × Int) × (List UInt8 × List UInt8 × List UInt8 × List UInt8 × Int × Int) × Unit → Option Int) (j : Int) (i2 : Int) (data3 : List (List UInt8 × List UInt8 × List UInt8 × List UInt8 × Int × Int)) : Option ((Int × List (List UInt8 × List UInt8 × List UInt8 × List UInt8 × Int × Int)) ⊕ (Int × List (List UInt8 × List UInt8 × List UInt8 × List UInt8 × Int × Int))) :=
  Option.bind (α := Bool × List (List UInt8 × List UInt8 × List UInt8 × List UInt8 × Int × Int)) (
    bif decide (i2 ≤ j) then (
     gd (inB a data3.length) <|
     gd (inB i2 data3.length) <|
     (cmp (data3.getD a.toNat ([], ([], ([], ([], (0, 0))))), data3.getD i2.toNat ([], ([], ([], ([], (0, 0))))), ())).bind fun r =>
     some ((!(decide (r < 0))), data3))
    else (
     some (false, data3))) fun s =>
  bif s.1 then (
   some (.inl (wi64 (i2 + 1), s.2)))
  else (
   some (.inr (i2, s.2)))

noncomputable def slices_partitionEqualCmpFunc_api_Nomination_L2 (a : Int) (cmp : (List UInt8 × List UInt8 × List UInt8 × List UInt8 × Int × Int) × (List UInt8 × List UInt8 × List UInt8 × List UInt8 × Int × Int) × Unit → Option Int) (s2 : Int × List (List UInt8 × List UInt8 × List UInt8 × List UInt8 × Int × Int)) (j2 : Int) (data4 : List (List UInt8 × List UInt8 × List UInt8 × List UInt8 × Int × Int)) : Option ((Int × List (List UInt8 × List UInt8 × List UInt8 × List UInt8 × Int × Int)) ⊕ (Int × List (List UInt8 × List UInt8 × List UInt8 × List UInt8 × Int × Int))) :=
  Option.bind (α := Bool × List (List UInt8 × List UInt8 × List UInt8 × List UInt8 × Int × Int)) (
    bif decide (s2.1 ≤ j2) then (
     gd (inB a data4.length) <|
     gd (inB j2 data4.length) <|
     (cmp (data4.getD a.toNat ([], ([], ([], ([], (0, 0))))), data4.getD j2.toNat ([], ([], ([], ([], (0, 0))))), ())).bind fun r2 =>
     some (decide (r2 < 0), data4))
    else (
     some (false, data4))) fun s3 =>
  bif s3.1 then (
   some (.inl (wi64 (j2 - 1), s3.2)))
  else (
   some (.inr (j2, s3.2)))

noncomputable def slices_partitionEqualCmpFunc_api_Nomination_L0 (a : Int) (cmp : (List UInt8 × List UInt8 × List UInt8 × List UInt8 × Int × Int) × (List UInt8 × List UInt8 × List UInt8 × List UInt8 × Int × Int) × Unit → Option Int) (i : Int) (j : Int) (data2 : List (List UInt8 × List UInt8 × List UInt8 × List UInt8 × Int × Int)) : Option ((Int × Int × List (List UInt8 × List UInt8 × List UInt8 × List UInt8 × Int × Int)) ⊕ (Int × List (List UInt8 × List UInt8 × List UInt8 × List UInt8 × Int × Int))) :=
  (iter (fun x => slices_partitionEqualCmpFunc_api_Nomination_L1 a cmp j x.1 x.2) (i, data2)).bind fun s2 =>
  (iter (fun x2 => slices_partitionEqualCmpFunc_api_Nomination_L2 a cmp s2 x2.1 x2.2) (j, s2.2)).bind fun s4 =>
  bif decide (s4.1 < s2.1) then (
   some (.inr (s2.1, s4.2)))
  else (
   gd (inB s4.1 s4.2.length) <|
   gd (inB s2.1 s4.2.length) <|
   gd (inB s2.1 s4.2.length) <|
   gd (inB s4.1 (s4.2.set s2.1.toNat (s4.2.getD s4.1.toNat ([], ([], ([], ([], (0, 0))))))).length) <|
   some (.inl (wi64 (s2.1 + 1), wi64 (s4.1 - 1), (s4.2.set s2.1.toNat (s4.2.getD s4.1.toNat ([], ([], ([], ([], (0, 0))))))).set s4.1.toNat (s4.2.getD s2.1.toNat ([], ([], ([], ([], (0, 0)))))))))

noncomputable def slices_partitionEqualCmpFunc_api_Nomination (a : Int) (b : Int) (pivot : Int) (cmp : (List UInt8 × List UInt8 × List UInt8 × List UInt8 × Int × Int) × (List UInt8 × List UInt8 × List UInt8 × List UInt8 × Int × Int) × Unit → Option Int) (data : List (List UInt8 × List UInt8 × List UInt8 × List UInt8 × Int × Int)) : Option (Int × List (List UInt8 × List UInt8 × List UInt8 × List UInt8 × Int × Int)) :=
  gd (inB pivot data.length) <|
  gd (inB a data.length) <|
  gd (inB a data.length) <|
  gd (inB pivot (data.set a.toNat (data.getD pivot.toNat ([], ([], ([], ([], (0, 0))))))).length) <|
  (iter (fun x3 => slices_partitionEqualCmpFunc_api_Nomination_L0 a cmp x3.1 x3.2.1 x3.2.2) (wi64 (a + 1), wi64 (b - 1), (data.set a.toNat (data.getD pivot.toNat ([], ([], ([], ([], (0, 0))))))).set pivot.toNat (data.getD a.toNat ([], ([], ([], ([], (0, 0)))))))).bind fun s5 =>
  some (s5.1, s5.2)

noncomputable def fn_slices_partitionEqualCmpFunc_api_Nomination : Fun :=
  { f := 68, np := 5, nr := 1,
    ji := { regs := [(0, .one (.own 0)), (1, .one (.data (.int .i64))), (2, .one (.data (.int .i64))), (3, .one (.data (.int .i64))), (4, .one (.fn [.pair (.str) (.pair (.str) (.pair (.str) (.pair (.str) (.pair (.int .i64) (.int .i64))))), .pair (.str) (.pair (.str) (.pair (.str) (.pair (.str) (.pair (.int .i64) (.int .i64)))))] (.int .i64)))], vars := [], arrs := [(0, .arr 28 (.pair (.str) (.pair (.str) (.pair (.str) (.pair (.str) (.pair (.int .i64) (.int .i64)))))))] },
    jo := { regs := [(0, .one (.data (.int .i64)))], vars := [], arrs := [(0, .arr 28 (.pair (.str) (.pair (.str) (.pair (.str) (.pair (.str) (.pair (.int .i64) (.int .i64)))))))] },
    tw := fun x => slices_partitionEqualCmpFunc_api_Nomination x.1 x.2.1 x.2.2.1 x.2.2.2.1 x.2.2.2.2 }
noncomputable def cx_slices_partitionEqualCmpFunc_api_Nomination : Cx := { Γ := types, ow := [], fs := [], N := 90 }
theorem ok_slices_partitionEqualCmpFunc_api_Nomination : FunOk Tryz.prog fn_slices_partitionEqualCmpFunc_api_Nomination :=
  FunOk.intro (C := cx_slices_partitionEqualCmpFunc_api_Nomination) (p := (.mk [] none .nil (.mk [] none .nil (.mk [] none .nil (.mk [] none (.mk [] none (.mk [] (some ({ regs := [(0, .one (.own 0)), (1, .one .keep), (4, .one .keep), (11, .one (.data (.int .i64))), (12, .one (.data (.int .i64)))], vars := [], arrs := [(0, .arr 28 (.pair (.str) (.pair (.str) (.pair (.str) (.pair (.str) (.pair (.int .i64) (.int .i64)))))))] }, [{ e := .x 0, j := { regs := [(11, .one (.data (.int .i64)))], vars := [], arrs := [(0, .arr 28 (.pair (.str) (.pair (.str) (.pair (.str) (.pair (.str) (.pair (.int .i64) (.int .i64)))))))] } }])) (.mk [] none (.mk [] none (.mk [] none (.mk [] (some ({ regs := [(0, .one (.own 0)), (1, .one .keep), (4, .one .keep), (11, .one (.data (.int .i64))), (12, .one .keep)], vars := [], arrs := [(0, .arr 28 (.pair (.str) (.pair (.str) (.pair (.str) (.pair (.str) (.pair (.int .i64) (.int .i64)))))))] }, [{ e := .x 2, j := { regs := [(0, .one (.own 0)), (1, .one .keep), (4, .one .keep), (11, .one (.data (.int .i64))), (12, .one .keep)], vars := [], arrs := [(0, .arr 28 (.pair (.str) (.pair (.str) (.pair (.str) (.pair (.str) (.pair (.int .i64) (.int .i64)))))))] } }])) (.mk [] none (.mk [] none (.mk [.join [{ e := .n, j := { regs := [(0, .one (.own 0)), (1, .one .keep), (4, .one .keep), (11, .one .keep), (12, .one .keep), (47, .one (.data (.bool)))], vars := [], arrs := [(0, .arr 28 (.pair (.str) (.pair (.str) (.pair (.str) (.pair (.str) (.pair (.int .i64) (.int .i64)))))))] } }]] none .nil .nil) .nil) .nil) .nil) .nil) (.mk [] none (.mk [] none (.mk [] (some ({ regs := [(0, .one (.own 0)), (1, .one .keep), (4, .one .keep), (11, .one .keep), (12, .one (.data (.int .i64)))], vars := [], arrs := [(0, .arr 28 (.pair (.str) (.pair (.str) (.pair (.str) (.pair (.str) (.pair (.int .i64) (.int .i64)))))))] }, [{ e := .x 4, j := { regs := [(0, .one (.own 0)), (1, .one .keep), (4, .one .keep), (11, .one .keep), (12, .one (.data (.int .i64)))], vars := [], arrs := [(0, .arr 28 (.pair (.str) (.pair (.str) (.pair (.str) (.pair (.str) (.pair (.int .i64) (.int .i64)))))))] } }])) (.mk [] none (.mk [] none (.mk [.join [{ e := .n, j := { regs := [(0, .one (.own 0)), (1, .one .keep), (4, .one .keep), (11, .one .keep), (12, .one .keep), (65, .one (.data (.bool)))], vars := [], arrs := [(0, .arr 28 (.pair (.str) (.pair (.str) (.pair (.str) (.pair (.str) (.pair (.int .i64) (.int .i64)))))))] } }]] none .nil .nil) .nil) .nil) .nil) .nil) .nil)) .nil) .nil) .nil) .nil)))))
    Tryz.func68 rfl nmr68 rfl rfl rfl rfl types_ok ⟨trivial, trivial⟩ mx (fun x => by kernel_rfl)

noncomputable def slices_partitionCmpFunc_api_Nomination_L0 (a : Int) (b : Int) (cmp : (List UInt8 × List UInt8 × List UInt8 × List UInt8 × Int × Int) × (List UInt8 × List UInt8 × List UInt8 × List UInt8 × Int × Int) × Unit → Option Int) (i : Int) (data2 : List (List UInt8 × List UInt8 × List UInt8 × List UInt8 × Int × Int)) : Option ((Int × List (List UInt8 × List UInt8 × List UInt8 × List UInt8 × Int × Int)) ⊕ (Int × List (List UInt8 × List UInt8 × List UInt8 × List UInt8 × Int × Int))) :=
  Option.bind (α := Bool × List (List UInt8 × List UInt8 × List UInt8 × List UInt8 × Int × Int)) (
    bif decide (i ≤ wi64 (b - 1)) then (
     gd (inB i data2.length) <|
     gd (inB a data2.length) <|
     (cmp (data2.getD i.toNat ([], ([], ([], ([], (0, 0))))), data2.getD a.toNat ([], ([], ([], ([], (0, 0))))), ())).bind fun r =>
     some (decide (r < 0), data2))
    else (
     some (false, data2))) fun s =>
  bif s.1 then (
   some (.inl (wi64 (i + 1), s.2)))
  else (
   some (.inr (i, s.2)))

noncomputable def slices_partitionCmpFunc_api_Nomination_L1 (a : Int) (cmp : (List UInt8 × List UInt8 × List UInt8 × List UInt8 × Int × Int) × (List UInt8 × List UInt8 × List UInt8 × List UInt8 × Int × Int) × Unit → Option Int) (s2 : Int × List (List UInt8 × List UInt8 × List UInt8 × List UInt8 × Int × Int)) (j : Int) (data3 : List (List UInt8 × List UInt8 × List UInt8 × List UInt8 × Int × Int)) : Option ((Int × List (List UInt8 × List UInt8 × List UInt8 × List UInt8 × Int × Int)) ⊕ (Int × List (List UInt8 × List UInt8 × List UInt8 × List UInt8 × Int × Int))) :=
  Option.bind (α := Bool × List (List UInt8 × List UInt8 × List UInt8 × List UInt8 × Int × Int)) (
    bif decide (s2.1 ≤ j) then (
     gd (inB j data3.length) <|
     gd (inB a data3.length) <|
     (cmp (data3.getD j.toNat ([], ([], ([], ([], (0, 0))))), data3.getD a.toNat ([], ([], ([], ([], (0, 0))))), ())).bind fun r2 =>
     some ((!(decide (r2 < 0))), data3))
    else (
     some (false, data3))) fun s3 =>
  bif s3.1 then (
   some (.inl (wi64 (j - 1), s3.2)))
  else (
   some (.inr (j, s3.2)))

noncomputable def slices_partitionCmpFunc_api_Nomination_L3 (a : Int) (cmp : (List UInt8 × List UInt8 × List UInt8 × List UInt8 × Int × Int) × (List UInt8 × List UInt8 × List UInt8 × List UInt8 × Int × Int) × Unit → Option Int) (j2 : Int) (i3 : Int) (data5 : List (List UInt8 × List UInt8 × List UInt8 × List UInt8 × Int × Int)) : Option ((Int × List (List UInt8 × List UInt8 × List UInt8 × List UInt8 × Int × Int)) ⊕ (Int × List (List UInt8 × List UInt8 × List UInt8 × List UInt8 × Int × Int))) :=
  Option.bind (α := Bool × List (List UInt8 × List UInt8 × List UInt8 × List UInt8 × Int × Int)) (
    bif decide (i3 ≤ j2) then (
     gd (inB i3 data5.length) <|
     gd (inB a data5.length) <|
     (cmp (data5.getD i3.toNat ([], ([], ([], ([], (0, 0))))), data5.getD a.toNat ([], ([], ([], ([], (0, 0))))), ())).bind fun r3 =>
     some (decide (r3 < 0), data5))
    else (
     some (false, data5))) fun s5 =>
  bif s5.1 then (
   some (.inl (wi64 (i3 + 1), s5.2)))
  else (
   some (.inr (i3, s5.2)))

noncomputable def slices_partitionCmpFunc_api_Nomination_L4 (a : Int) (cmp : (List UInt8 × List UInt8 × List UInt8 × List UInt8 × Int × Int) × (List UInt8 × List UInt8 × List UInt8 × List UInt8 × Int × Int) × Unit → Option Int) (s6 : Int × List (List UInt8 × List UInt8 × List UInt8 × List UInt8 × Int × Int)) (j3 : Int) (data6 : List (List UInt8 × List UInt8 × List UInt8 × List UInt8 × Int × Int)) : Option ((Int × List (List UInt8 × List UInt8 × List UInt8 × List UInt8 × Int × Int)) ⊕ (Int × List (List UInt8 × List UInt8 × List UInt8 × List UInt8 × Int × Int))) :=
  Option.bind (α := Bool × List (List UInt8 × List UInt8 × List UInt8 × List UInt8 × Int × Int)) (
    bif decide (s6.1 ≤ j3) then (
     gd (inB j3 data6.length) <|
     gd (inB a data6.length) <|
     (cmp (data6.getD j3.toNat ([], ([], ([], ([], (0, 0))))), data6.getD a.toNat ([], ([], ([], ([], (0, 0))))), ())).bind fun r4 =>
     some ((!(decide (r4 < 0))), data6))
    else (
     some (false, data6))) fun s7 =>
  bif s7.1 then (
   some (.inl (wi64 (j3 - 1), s7.2)))
  else (
   some (.inr (j3, s7.2)))

noncomputable def slices_partitionCmpFunc_api_Nomination_L2 (a : Int) (cmp : (List UInt8 × List UInt8 × List UInt8 × List UInt8 × Int × Int) × (List UInt8 × List UInt8 × List UInt8 × List UInt8 × Int × Int) × Unit → Option Int) (i2 : Int) (j2 : Int) (data4 : List (List UInt8 × List UInt8 × List UInt8 × List UInt8 × Int × Int)) : Option ((Int × Int × List (List UInt8 × List UInt8 × List UInt8 × List UInt8 × Int × Int)) ⊕ (Int × List (List UInt8 × List UInt8 × List UInt8 × List UInt8 × Int × Int))) :=
  (iter (fun x3 => slices_partitionCmpFunc_api_Nomination_L3 a cmp j2 x3.1 x3.2) (i2, data4)).bind fun s6 =>
  (iter (fun x4 => slices_partitionCmpFunc_api_Nomination_L4 a cmp s6 x4.1 x4.2) (j2, s6.2)).bind fun s8 =>
  bif decide (s8.1 < s6.1) then (
   some (.inr (s8.1, s8.2)))
  else (
   gd (inB s8.1 s8.2.length) <|
   gd (inB s6.1 s8.2.length) <|
   gd (inB s6.1 s8.2.length) <|
   gd (inB s8.1 (s8.2.set s6.1.toNat (s8.2.getD s8.1.toNat ([], ([], ([], ([], (0, 0))))))).length) <|
   some (.inl (wi64 (s6.1 + 1), wi64 (s8.1 - 1), (s8.2.set s6.1.toNat (s8.2.getD s8.1.toNat ([], ([], ([], ([], (0, 0))))))).set s8.1.toNat (s8.2.getD s6.1.toNat ([], ([], ([], ([], (0, 0)))))))))

noncomputable def slices_partitionCmpFunc_api_Nomination (a : Int) (b : Int) (pivot : Int) (cmp : (List UInt8 × List UInt8 × List UInt8 × List UInt8 × Int × Int) × (List UInt8 × List UInt8 × List UInt8 × List UInt8 × Int × Int) × Unit → Option Int) (data : List (List UInt8 × List UInt8 × List UInt8 × List UInt8 × Int × Int)) : Option (Int × Bool × List (List UInt8 × List UInt8 × List UInt8 × List UInt8 × Int × Int)) :=
  gd (inB pivot data.length) <|
  gd (inB a data.length) <|
  gd (inB a data.length) <|
  gd (inB pivot (data.set a.toNat (data.getD pivot.toNat ([], ([], ([], ([], (0, 0))))))).length) <|
  (iter (fun x => slices_partitionCmpFunc_api_Nomination_L0 a b cmp x.1 x.2) (wi64 (a + 1), (data.set a.toNat (data.getD pivot.toNat ([], ([], ([], ([], (0, 0))))))).set pivot.toNat (data.getD a.toNat ([], ([], ([], ([], (0, 0)))))))).bind fun s2 =>
  (iter (fun x2 => slices_partitionCmpFunc_api_Nomination_L1 a cmp s2 x2.1 x2.2) (wi64 (b - 1), s2.2)).bind fun s4 =>
  bif decide (s4.1 < s2.1) then (
   gd (inB a s4.2.length) <|
   gd (inB s4.1 s4.2.length) <|
   gd (inB s4.1 s4.2.length) <|
   gd (inB a (s4.2.set s4.1.toNat (s4.2.getD a.toNat ([], ([], ([], ([], (0, 0))))))).length) <|
   some (s4.1, true, (s4.2.set s4.1.toNat (s4.2.getD a.toNat ([], ([], ([], ([], (0, 0))))))).set a.toNat (s4.2.getD s4.1.toNat ([], ([], ([], ([], (0, 0))))))))
  else (
   gd (inB s4.1 s4.2.length) <|
   gd (inB s2.1 s4.2.length) <|
   gd (inB s2.1 s4.2.length) <|
   gd (inB s4.1 (s4.2.set s2.1.toNat (s4.2.getD s4.1.toNat ([], ([], ([], ([], (0, 0))))))).length) <|
   (iter (fun x5 => slices_partitionCmpFunc_api_Nomination_L2 a cmp x5.1 x5.2.1 x5.2.2) (wi64 (s2.1 + 1), wi64 (s4.1 - 1), (s4.2.set s2.1.toNat (s4.2.getD s4.1.toNat ([], ([], ([], ([], (0, 0))))))).set s4.1.toNat (s4.2.getD s2.1.toNat ([], ([], ([], ([], (0, 0)))))))).bind fun s9 =>
   gd (inB a s9.2.length) <|
   gd (inB s9.1 s9.2.length) <|
   gd (inB s9.1 s9.2.length) <|
   gd (inB a (s9.2.set s9.1.toNat (s9.2.getD a.toNat ([], ([], ([], ([], (0, 0))))))).length) <|
   some (s9.1, false, (s9.2.set s9.1.toNat (s9.2.getD a.toNat ([], ([], ([], ([], (0, 0))))))).set a.toNat (s9.2.getD s9.1.toNat ([], ([], ([], ([], (0, 0))))))))

noncomputable def fn_slices_partitionCmpFunc_api_Nomination : Fun :=
  { f := 69, np := 5, nr := 2,
    ji := { regs := [(0, .one (.own 0)), (1, .one (.data (.int .i64))), (2, .one (.data (.int .i64))), (3, .one (.data (.int .i64))), (4, .one (.fn [.pair (.str) (.pair (.str) (.pair (.str) (.pair (.str) (.pair (.int .i64) (.int .i64))))), .pair (.str) (.pair (.str) (.pair (.str) (.pair (.str) (.pair (.int .i64) (.int .i64)))))] (.int .i64)))], vars := [], arrs := [(0, .arr 28 (.pair (.str) (.pair (.str) (.pair (.str) (.pair (.str) (.pair (.int .i64) (.int .i64)))))))] },
    jo := { regs := [(0, .one (.data (.int .i64))), (1, .one (.data (.bool)))], vars := [], arrs := [(0, .arr 28 (.pair (.str) (.pair (.str) (.pair (.str) (.pair (.str) (.pair (.int .i64) (.int .i64)))))))] },
    tw := fun x => slices_partitionCmpFunc_api_Nomination x.1 x.2.1 x.2.2.1 x.2.2.2.1 x.2.2.2.2 }
noncomputable def cx_slices_partitionCmpFunc_api_Nomination : Cx := { Γ := types, ow := [], fs := [], N := 178 }
theorem ok_slices_partitionCmpFunc_api_Nomination : FunOk Tryz.prog fn_slices_partitionCmpFunc_api_Nomination :=
  FunOk.intro (C := cx_slices_partitionCmpFunc_api_Nomination) (p := (.mk [] none .nil (.mk [] none .nil (.mk [] none .nil (.mk [] none (.mk [] none (.mk [] (some ({ regs := [(0, .one (.own 0)), (1, .one .keep), (4, .one .keep), (12, .one (.data (.int .i64))), (13, .one .keep)], vars := [], arrs := [(0, .arr 28 (.pair (.str) (.pair (.str) (.pair (.str) (.pair (.str) (.pair (.int .i64) (.int .i64)))))))] }, [{ e := .x 0, j := { regs := [(0, .one (.own 0)), (1, .one .keep), (4, .one .keep), (12, .one (.data (.int .i64))), (13, .one .keep)], vars := [], arrs := [(0, .arr 28 (.pair (.str) (.pair (.str) (.pair (.str) (.pair (.str) (.pair (.int .i64) (.int .i64)))))))] } }])) (.mk [] none (.mk [] none (.mk [.join [{ e := .n, j := { regs := [(0, .one (.own 0)), (1, .one .keep), (4, .one .keep), (12, .one .keep), (13, .one .keep), (47, .one (.data (.bool)))], vars := [], arrs := [(0, .arr 28 (.pair (.str) (.pair (.str) (.pair (.str) (.pair (.str) (.pair (.int .i64) (.int .i64)))))))] } }]] none .nil .nil) .nil) .nil) .nil) .nil) (.mk [] none (.mk [] none (.mk [] (some ({ regs := [(0, .one (.own 0)), (1, .one .keep), (4, .one .keep), (12, .one .keep), (13, .one (.data (.int .i64)))], vars := [], arrs := [(0, .arr 28 (.pair (.str) (.pair (.str) (.pair (.str) (.pair (.str) (.pair (.int .i64) (.int .i64)))))))] }, [{ e := .x 2, j := { regs := [(0, .one (.own 0)), (1, .one .keep), (4, .one .keep), (12, .one .keep), (13, .one (.data (.int .i64)))], vars := [], arrs := [(0, .arr 28 (.pair (.str) (.pair (.str) (.pair (.str) (.pair (.str) (.pair (.int .i64) (.int .i64)))))))] } }])) (.mk [] none (.mk [] none (.mk [.join [{ e := .n, j := { regs := [(0, .one (.own 0)), (1, .one .keep), (4, .one .keep), (12, .one .keep), (13, .one .keep), (66, .one (.data (.bool)))], vars := [], arrs := [(0, .arr 28 (.pair (.str) (.pair (.str) (.pair (.str) (.pair (.str) (.pair (.int .i64) (.int .i64)))))))] } }]] none .nil .nil) .nil) .nil) .nil) .nil) (.mk [] none .nil (.mk [] none .nil (.mk [] none .nil (.mk [] none .nil (.mk [] none (.mk [] none (.mk [] (some ({ regs := [(0, .one (.own 0)), (1, .one .keep), (4, .one .keep), (12, .one (.data (.int .i64))), (13, .one (.data (.int .i64)))], vars := [], arrs := [(0, .arr 28 (.pair (.str) (.pair (.str) (.pair (.str) (.pair (.str) (.pair (.int .i64) (.int .i64)))))))] }, [{ e := .x 4, j := { regs := [(0, .one (.own 0)), (1, .one .keep), (13, .one (.data (.int .i64)))], vars := [], arrs := [(0, .arr 28 (.pair (.str) (.pair (.str) (.pair (.str) (.pair (.str) (.pair (.int .i64) (.int .i64)))))))] } }])) (.mk [] none (.mk [] none (.mk [] none (.mk [] (some ({ regs := [(0, .one (.own 0)), (1, .one .keep), (4, .one .keep), (12, .one (.data (.int .i64))), (13, .one .keep)], vars := [], arrs := [(0, .arr 28 (.pair (.str) (.pair (.str) (.pair (.str) (.pair (.str) (.pair (.int .i64) (.int .i64)))))))] }, [{ e := .x 6, j := { regs := [(0, .one (.own 0)), (1, .one .keep), (4, .one .keep), (12, .one (.data (.int .i64))), (13, .one .keep)], vars := [], arrs := [(0, .arr 28 (.pair (.str) (.pair (.str) (.pair (.str) (.pair (.str) (.pair (.int .i64) (.int .i64)))))))] } }])) (.mk [] none (.mk [] none (.mk [.join [{ e := .n, j := { regs := [(0, .one (.own 0)), (1, .one .keep), (4, .one .keep), (12, .one .keep), (13, .one .keep), (120, .one (.data (.bool)))], vars := [], arrs := [(0, .arr 28 (.pair (.str) (.pair (.str) (.pair (.str) (.pair (.str) (.pair (.int .i64) (.int .i64)))))))] } }]] none .nil .nil) .nil) .nil) .nil) .nil) (.mk [] none (.mk [] none (.mk [] (some ({ regs := [(0, .one (.own 0)), (1, .one .keep), (4, .one .keep), (12, .one .keep), (13, .one (.data (.int .i64)))], vars := [], arrs := [(0, .arr 28 (.pair (.str) (.pair (.str) (.pair (.str) (.pair (.str) (.pair (.int .i64) (.int .i64)))))))] }, [{ e := .x 8, j := { regs := [(0, .one (.own 0)), (1, .one .keep), (4, .one .keep), (12, .one .keep), (13, .one (.data (.int .i64)))], vars := [], arrs := [(0, .arr 28 (.pair (.str) (.pair (.str) (.pair (.str) (.pair (.str) (.pair (.int .i64) (.int .i64)))))))] } }])) (.mk [] none (.mk [] none (.mk [.join [{ e := .n, j := { regs := [(0, .one (.own 0)), (1, .one .keep), (4, .one .keep), (12, .one .keep), (13, .one .keep), (139, .one (.data (.bool)))], vars := [], arrs := [(0, .arr 28 (.pair (.str) (.pair (.str) (.pair (.str) (.pair (.str) (.pair (.int .i64) (.int .i64)))))))] } }]] none .nil .nil) .nil) .nil) .nil) .nil) .nil)) .nil) .nil) .nil) .nil)))))))))))
    Tryz.func69 rfl nmr69 rfl rfl rfl rfl types_ok ⟨trivial, trivial⟩ mx (fun x => by kernel_rfl)

noncomputable def slices_pdqsortCmpFunc_api_Nomination_L0 (cmp : (List UInt8 × List UInt8 × List UInt8 × List UInt8 × Int × Int) × (List UInt8 × List UInt8 × List UInt8 × List UInt8 × Int × Int) × Unit → Option Int) (rec : Int → Int → Int → ((List UInt8 × List UInt8 × List UInt8 × List UInt8 × Int × Int) × (List UInt8 × List UInt8 × List UInt8 × List UInt8 × Int × Int) × Unit → Option Int) → List (List UInt8 × List UInt8 × List UInt8 × List UInt8 × Int × Int) → Option (List (List UInt8 × List UInt8 × List UInt8 × List UInt8 × Int × Int))) (a2 : Int) (b2 : Int) (limit2 : Int) (wasBalanced : Bool) (wasPartitioned : Bool) (data2 : List (List UInt8 × List UInt8 × List UInt8 × List UInt8 × Int × Int)) : Option ((Int × Int × Int × Bool × Bool × List (List UInt8 × List UInt8 × List UInt8 × List UInt8 × Int × Int)) ⊕ (List (List UInt8 × List UInt8 × List UInt8 × List UInt8 × Int × Int))) :=
  bif decide (wi64 (b2 - a2) ≤ 12) then (
   (slices_insertionSortCmpFunc_api_Nomination a2 b2 cmp data2).bind fun r =>
   some (.inr r))
  else (
   bif decide (limit2 = 0) then (
    (slices_heapSortCmpFunc_api_Nomination a2 b2 cmp data2).bind fun r2 =>
    some (.inr r2))
   else (
    Option.bind (α := Int × List (List UInt8 × List UInt8 × List UInt8 × List UInt8 × Int × Int)) (
      bif !wasBalanced then (
       (slices_breakPatternsCmpFunc_api_Nomination a2 b2 cmp data2).bind fun r3 =>
       some (wi64 (limit2 - 1), r3))
      else (
       some (limit2, data2))) fun s =>
    (slices_choosePivotCmpFunc_api_Nomination s.2 a2 b2 cmp).bind fun r4 =>
    Option.bind (α := Int × Int × List (List UInt8 × List UInt8 × List UInt8 × List UInt8 × Int × Int)) (
      bif decide (r4.2 = 2) then (
       (slices_reverseRangeCmpFunc_api_Nomination a2 b2 cmp s.2).bind fun r5 =>
       some (wi64 ((wi64 (b2 - 1)) - (wi64 (r4.1 - a2))), 1, r5))
      else (
       some (r4.1, r4.2, s.2))) fun s2 =>
    Option.bind (α := Bool × List (List UInt8 × List UInt8 × List UInt8 × List UInt8 × Int × Int)) (
      bif wasBalanced then (
       bif wasPartitioned then (
        some (decide (s2.2.1 = 1), s2.2.2))
       else (
        some (false, s2.2.2)))
      else (
       some (false, s2.2.2))) fun s3 =>
    Option.bind (α := (List (List UInt8 × List UInt8 × List UInt8 × List UInt8 × Int × Int)) ⊕ (List (List UInt8 × List UInt8 × List UInt8 × List UInt8 × Int × Int))) (
      bif s3.1 then (
       (slices_partialInsertionSortCmpFunc_api_Nomination a2 b2 cmp s3.2).bind fun r6 =>
       bif r6.1 then (
        some (.inr r6.2))
       else (
        some (.inl r6.2)))
      else (
       some (.inl s3.2))) fun s4 =>
    s4.elim (fun s5 =>
     Option.bind (α := Bool × List (List UInt8 × List UInt8 × List UInt8 × List UInt8 × Int × Int)) (
       bif decide (0 < a2) then (
        gd (inB (wi64 (a2 - 1)) s5.length) <|
        gd (inB s2.1 s5.length) <|
        (cmp (s5.getD ((wi64 (a2 - 1)).toNat) ([], ([], ([], ([], (0, 0))))), s5.getD s2.1.toNat ([], ([], ([], ([], (0, 0))))), ())).bind fun r7 =>
        some ((!(decide (r7 < 0))), s5))
       else (
        some (false, s5))) fun s7 =>
     bif s7.1 then (
      (slices_partitionEqualCmpFunc_api_Nomination a2 b2 s2.1 cmp s7.2).bind fun r8 =>
      some (.inl (r8.1, b2, s.1, wasBalanced, wasPartitioned, r8.2)))
     else (
      (slices_partitionCmpFunc_api_Nomination a2 b2 s2.1 cmp s7.2).bind fun r9 =>
      bif decide (wi64 (r9.1 - a2) < wi64 (b2 - r9.1)) then (
       (rec a2 r9.1 s.1 cmp r9.2.2).bind fun r10 =>
       some (.inl (wi64 (r9.1 + 1), b2, s.1, decide (wi64 (Int.tdiv (wi64 (b2 - a2)) 8) ≤ wi64 (r9.1 - a2)), r9.2.1, r10)))
      else (
       (rec (wi64 (r9.1 + 1)) b2 s.1 cmp r9.2.2).bind fun r11 =>
       some (.inl (a2, r9.1, s.1, decide (wi64 (Int.tdiv (wi64 (b2 - a2)) 8) ≤ wi64 (b2 - r9.1)), r9.2.1, r11)))))
    (fun s6 =>
     some (.inr s6))))

noncomputable def slices_pdqsortCmpFunc_api_Nomination_S (rec : Int → Int → Int → ((List UInt8 × List UInt8 × List UInt8 × List UInt8 × Int × Int) × (List UInt8 × List UInt8 × List UInt8 × List UInt8 × Int × Int) × Unit → Option Int) → List (List UInt8 × List UInt8 × List UInt8 × List UInt8 × Int × Int) → Option (List (List UInt8 × List UInt8 × List UInt8 × List UInt8 × Int × Int))) (a : Int) (b : Int) (limit : Int) (cmp : (List UInt8 × List UInt8 × List UInt8 × List UInt8 × Int × Int) × (List UInt8 × List UInt8 × List UInt8 × List UInt8 × Int × Int) × Unit → Option Int) (data : List (List UInt8 × List UInt8 × List UInt8 × List UInt8 × Int × Int)) : Option (List (List UInt8 × List UInt8 × List UInt8 × List UInt8 × Int × Int)) :=
  (iter (fun x => slices_pdqsortCmpFunc_api_Nomination_L0 cmp rec x.1 x.2.1 x.2.2.1 x.2.2.2.1 x.2.2.2.2.1 x.2.2.2.2.2) (a, b, limit, true, true, data)).bind fun s8 =>
  some s8

noncomputable def slices_pdqsortCmpFunc_api_Nomination_F : Nat → Int → Int → Int → ((List UInt8 × List UInt8 × List UInt8 × List UInt8 × Int × Int) × (List UInt8 × List UInt8 × List UInt8 × List UInt8 × Int × Int) × Unit → Option Int) → List (List UInt8 × List UInt8 × List UInt8 × List UInt8 × Int × Int) → Option (List (List UInt8 × List UInt8 × List UInt8 × List UInt8 × Int × Int))
  | 0 => fun _ _ _ _ _ => none
  | n + 1 => slices_pdqsortCmpFunc_api_Nomination_S (slices_pdqsortCmpFunc_api_Nomination_F n)

noncomputable def slices_pdqsortCmpFunc_api_Nomination (a : Int) (b : Int) (limit : Int) (cmp : (List UInt8 × List UInt8 × List UInt8 × List UInt8 × Int × Int) × (List UInt8 × List UInt8 × List UInt8 × List UInt8 × Int × Int) × Unit → Option Int) (data : List (List UInt8 × List UInt8 × List UInt8 × List UInt8 × Int × Int)) : Option (List (List UInt8 × List UInt8 × List UInt8 × List UInt8 × Int × Int)) := slices_pdqsortCmpFunc_api_Nomination_F 18446744073709551616 a b limit cmp data

noncomputable def fn_slices_pdqsortCmpFunc_api_Nomination_F (n : Nat) : Fun :=
  { f := 39, np := 5, nr := 0,
    ji := { regs := [(0, .one (.own 0)), (1, .one (.data (.int .i64))), (2, .one (.data (.int .i64))), (3, .one (.data (.int .i64))), (4, .one (.fn [.pair (.str) (.pair (.str) (.pair (.str) (.pair (.str) (.pair (.int .i64) (.int .i64))))), .pair (.str) (.pair (.str) (.pair (.str) (.pair (.str) (.pair (.int .i64) (.int .i64)))))] (.int .i64)))], vars := [], arrs := [(0, .arr 28 (.pair (.str) (.pair (.str) (.pair (.str) (.pair (.str) (.pair (.int .i64) (.int .i64)))))))] },
    jo := { regs := [], vars := [], arrs := [(0, .arr 28 (.pair (.str) (.pair (.str) (.pair (.str) (.pair (.str) (.pair (.int .i64) (.int .i64)))))))] },
    tw := fun x => slices_pdqsortCmpFunc_api_Nomination_F n x.1 x.2.1 x.2.2.1 x.2.2.2.1 x.2.2.2.2 }
noncomputable def fn_slices_pdqsortCmpFunc_api_Nomination : Fun := fn_slices_pdqsortCmpFunc_api_Nomination_F 18446744073709551616
noncomputable def cx_slices_pdqsortCmpFunc_api_Nomination (n : Nat) : Cx := { Γ := types, ow := [], fs := [fn_slices_insertionSortCmpFunc_api_Nomination, fn_slices_heapSortCmpFunc_api_Nomination, fn_slices_breakPatternsCmpFunc_api_Nomination, fn_slices_choosePivotCmpFunc_api_Nomination, fn_slices_reverseRangeCmpFunc_api_Nomination, fn_slices_partialInsertionSortCmpFunc_api_Nomination, fn_slices_partitionEqualCmpFunc_api_Nomination, fn_slices_partitionCmpFunc_api_Nomination, fn_slices_pdqsortCmpFunc_api_Nomination_F n], N := 148 }
theorem ok_slices_pdqsortCmpFunc_api_Nomination_F : ∀ n : Nat, FunOk Tryz.prog (fn_slices_pdqsortCmpFunc_api_Nomination_F n)
  | 0 => FunOk.nothing Tryz.func39 rfl nmr39 (fun x => rfl)
  | n + 1 => FunOk.intro (C := cx_slices_pdqsortCmpFunc_api_Nomination n) (p := (.mk [] none .nil (.mk [] none .nil (.mk [] none (.mk [] (some ({ regs := [(0, .one (.own 0)), (1, .one (.data (.int .i64))), (2, .one (.data (.int .i64))), (3, .one (.data (.int .i64))), (4, .one .keep), (10, .one (.data (.bool))), (11, .one (.data (.bool)))], vars := [], arrs := [(0, .arr 28 (.pair (.str) (.pair (.str) (.pair (.str) (.pair (.str) (.pair (.int .i64) (.int .i64)))))))] }, [{ e := .r, j := { regs := [], vars := [], arrs := [(0, .arr 28 (.pair (.str) (.pair (.str) (.pair (.str) (.pair (.str) (.pair (.int .i64) (.int .i64)))))))] } }])) (.mk [] none (.mk [] none .nil (.mk [] none .nil (.mk [] none .nil (.mk [] none (.mk [] none .nil (.mk [.join [{ e := .n, j := { regs := [(0, .one (.own 0)), (1, .one .keep), (2, .one .keep), (3, .one (.data (.int .i64))), (4, .one .keep), (10, .one .keep), (11, .one .keep), (12, .one .keep)], vars := [], arrs := [(0, .arr 28 (.pair (.str) (.pair (.str) (.pair (.str) (.pair (.str) (.pair (.int .i64) (.int .i64)))))))] } }]] none .nil .nil)) (.mk [] none .nil (.mk [] none (.mk [] none .nil (.mk [.join [{ e := .n, j := { regs := [(0, .one (.own 0)), (1, .one .keep), (2, .one .keep), (3, .one .keep), (4, .one .keep), (10, .one .keep), (11, .one .keep), (12, .one .keep), (13, .one (.data (.int .i64))), (14, .one (.data (.int .i64)))], vars := [], arrs := [(0, .arr 28 (.pair (.str) (.pair (.str) (.pair (.str) (.pair (.str) (.pair (.int .i64) (.int .i64)))))))] } }]] none .nil .nil)) (.mk [] none (.mk [] none (.mk [.join [{ e := .n, j := { regs := [(0, .one (.own 0)), (1, .one .keep), (2, .one .keep), (3, .one .keep), (4, .one .keep), (10, .one .keep), (11, .one .keep), (12, .one .keep), (13, .one .keep), (75, .one (.data (.bool)))], vars := [], arrs := [(0, .arr 28 (.pair (.str) (.pair (.str) (.pair (.str) (.pair (.str) (.pair (.int .i64) (.int .i64)))))))] } }]] none .nil .nil) (.mk [.join [{ e := .n, j := { regs := [(0, .one (.own 0)), (1, .one .keep), (2, .one .keep), (3, .one .keep), (4, .one .keep), (10, .one .keep), (11, .one .keep), (12, .one .keep), (13, .one .keep)], vars := [], arrs := [(0, .arr 28 (.pair (.str) (.pair (.str) (.pair (.str) (.pair (.str) (.pair (.int .i64) (.int .i64)))))))] } }, { e := .r, j := { regs := [], vars := [], arrs := [(0, .arr 28 (.pair (.str) (.pair (.str) (.pair (.str) (.pair (.str) (.pair (.int .i64) (.int .i64)))))))] } }]] none .nil .nil)) (.mk [] none (.mk [] none (.mk [.join [{ e := .n, j := { regs := [(0, .one (.own 0)), (1, .one .keep), (2, .one .keep), (3, .one .keep), (4, .one .keep), (10, .one .keep), (11, .one .keep), (12, .one .keep), (13, .one .keep), (97, .one (.data (.bool)))], vars := [], arrs := [(0, .arr 28 (.pair (.str) (.pair (.str) (.pair (.str) (.pair (.str) (.pair (.int .i64) (.int .i64)))))))] } }]] none .nil .nil) .nil) .nil)))))))) .nil) .nil) .nil))))
    Tryz.func39 rfl nmr39 rfl rfl rfl rfl types_ok ⟨⟨ok_slices_insertionSortCmpFunc_api_Nomination, ok_slices_heapSortCmpFunc_api_Nomination, ok_slices_breakPatternsCmpFunc_api_Nomination, ok_slices_choosePivotCmpFunc_api_Nomination, ok_slices_reverseRangeCmpFunc_api_Nomination, ok_slices_partialInsertionSortCmpFunc_api_Nomination, ok_slices_partitionEqualCmpFunc_api_Nomination, ok_slices_partitionCmpFunc_api_Nomination, ok_slices_pdqsortCmpFunc_api_Nomination_F n, trivial⟩, trivial⟩ mx (fun x => by kernel_rfl)
theorem ok_slices_pdqsortCmpFunc_api_Nomination : FunOk Tryz.prog fn_slices_pdqsortCmpFunc_api_Nomination := ok_slices_pdqsortCmpFunc_api_Nomination_F 18446744073709551616

noncomputable def slices_SortFunc_api_Nomination_api_Nomination (cmp : (List UInt8 × List UInt8 × List UInt8 × List UInt8 × Int × Int) × (List UInt8 × List UInt8 × List UInt8 × List UInt8 × Int × Int) × Unit → Option Int) (x : List (List UInt8 × List UInt8 × List UInt8 × List UInt8 × Int × Int)) : Option (List (List UInt8 × List UInt8 × List UInt8 × List UInt8 × Int × Int)) :=
  (math_bits_Len (wu64 (x.length : Int))).bind fun r =>
  (slices_pdqsortCmpFunc_api_Nomination 0 (x.length : Int) r cmp x).bind fun r2 =>
  some r2

noncomputable def fn_slices_SortFunc_api_Nomination_api_Nomination : Fun :=
  { f := 23, np := 2, nr := 0,
    ji := { regs := [(0, .one (.own 0)), (1, .one (.fn [.pair (.str) (.pair (.str) (.pair (.str) (.pair (.str) (.pair (.int .i64) (.int .i64))))), .pair (.str) (.pair (.str) (.pair (.str) (.pair (.str) (.pair (.int .i64) (.int .i64)))))] (.int .i64)))], vars := [], arrs := [(0, .arr 28 (.pair (.str) (.pair (.str) (.pair (.str) (.pair (.str) (.pair (.int .i64) (.int .i64)))))))] },
    jo := { regs := [], vars := [], arrs := [(0, .arr 28 (.pair (.str) (.pair (.str) (.pair (.str) (.pair (.str) (.pair (.int .i64) (.int .i64)))))))] },
    tw := fun x => slices_SortFunc_api_Nomination_api_Nomination x.1 x.2 }
noncomputable def cx_slices_SortFunc_api_Nomination_api_Nomination : Cx := { Γ := types, ow := [], fs := [fn_math_bits_Len, fn_slices_pdqsortCmpFunc_api_Nomination], N := 14 }
theorem ok_slices_SortFunc_api_Nomination_api_Nomination : FunOk Tryz.prog fn_slices_SortFunc_api_Nomination_api_Nomination :=
  FunOk.intro (C := cx_slices_SortFunc_api_Nomination_api_Nomination) (p := .nil)
    Tryz.func23 rfl nmr23 rfl rfl rfl rfl types_ok ⟨⟨ok_math_bits_Len, ok_slices_pdqsortCmpFunc_api_Nomination, trivial⟩, trivial⟩ mx (fun x => by kernel_rfl)

noncomputable def cmp_isNaN_int (x : Int) : Option (Bool) :=
  some (!decide (x = x))

noncomputable def fn_cmp_isNaN_int : Fun :=
  { f := 72, np := 1, nr := 1,
    ji := { regs := [(0, .one (.data (.int .i64)))], vars := [], arrs := [] },
    jo := { regs := [(0, .one (.data (.bool)))], vars := [], arrs := [] },
    tw := fun x => cmp_isNaN_int x }
noncomputable def cx_cmp_isNaN_int : Cx := { Γ := types, ow := [], fs := [], N := 6 }
theorem ok_cmp_isNaN_int : FunOk Tryz.prog fn_cmp_isNaN_int :=
  FunOk.intro (C := cx_cmp_isNaN_int) (p := .nil)
    Tryz.func72 rfl nmr72 rfl rfl rfl rfl types_ok ⟨trivial, trivial⟩ mx (fun x => by kernel_rfl)

noncomputable def cmp_Compare_int (x : Int) (y : Int) : Option (Int) :=
  (cmp_isNaN_int x).bind fun r =>
  (cmp_isNaN_int y).bind fun r2 =>
  bif r then (
   bif r2 then (
    some 0)
   else (
    some (-1)))
  else (
   bif r2 then (
    some 1)
   else (
    bif decide (x < y) then (
     some (-1))
    else (
     bif decide (y < x) then (
      some 1)
     else (
      some 0))))

noncomputable def fn_cmp_Compare_int : Fun :=
  { f := 42, np := 2, nr := 1,
    ji := { regs := [(0, .one (.data (.int .i64))), (1, .one (.data (.int .i64)))], vars := [], arrs := [] },
    jo := { regs := [(0, .one (.data (.int .i64)))], vars := [], arrs := [] },
    tw := fun x => cmp_Compare_int x.1 x.2 }
noncomputable def cx_cmp_Compare_int : Cx := { Γ := types, ow := [], fs := [fn_cmp_isNaN_int], N := 20 }
theorem ok_cmp_Compare_int : FunOk Tryz.prog fn_cmp_Compare_int :=
  FunOk.intro (C := cx_cmp_Compare_int) (p := .nil)
    Tryz.func42 rfl nmr42 rfl rfl rfl rfl types_ok ⟨⟨ok_cmp_isNaN_int, trivial⟩, trivial⟩ mx (fun x => by kernel_rfl)

noncomputable def cmp_isNaN_string (x : List UInt8) : Option (Bool) :=
  some (!decide (x = x))

noncomputable def fn_cmp_isNaN_string : Fun :=
  { f := 73, np := 1, nr := 1,
    ji := { regs := [(0, .one (.data (.str)))], vars := [], arrs := [] },
    jo := { regs := [(0, .one (.data (.bool)))], vars := [], arrs := [] },
    tw := fun x => cmp_isNaN_string x }
noncomputable def cx_cmp_isNaN_string : Cx := { Γ := types, ow := [], fs := [], N := 6 }
theorem ok_cmp_isNaN_string : FunOk Tryz.prog fn_cmp_isNaN_string :=
  FunOk.intro (C := cx_cmp_isNaN_string) (p := .nil)
    Tryz.func73 rfl nmr73 rfl rfl rfl rfl types_ok ⟨trivial, trivial⟩ mx (fun x => by kernel_rfl)

noncomputable def cmp_Compare_string (x : List UInt8) (y : List UInt8) : Option (Int) :=
  (cmp_isNaN_string x).bind fun r =>
  (cmp_isNaN_string y).bind fun r2 =>
  bif r then (
   bif r2 then (
    some 0)
   else (
    some (-1)))
  else (
   bif r2 then (
    some 1)
   else (
    bif Op.bytesLess x y then (
     some (-1))
    else (
     bif !(Op.bytesLess x y || decide (x = y)) then (
      some 1)
     else (
      some 0))))

noncomputable def fn_cmp_Compare_string : Fun :=
  { f := 43, np := 2, nr := 1,
    ji := { regs := [(0, .one (.data (.str))), (1, .one (.data (.str)))], vars := [], arrs := [] },
    jo := { regs := [(0, .one (.data (.int .i64)))], vars := [], arrs := [] },
    tw := fun x => cmp_Compare_string x.1 x.2 }
noncomputable def cx_cmp_Compare_string : Cx := { Γ := types, ow := [], fs := [fn_cmp_isNaN_string], N := 20 }
theorem ok_cmp_Compare_string : FunOk Tryz.prog fn_cmp_Compare_string :=
  FunOk.intro (C := cx_cmp_Compare_string) (p := .nil)
    Tryz.func43 rfl nmr43 rfl rfl rfl rfl types_ok ⟨⟨ok_cmp_isNaN_string, trivial⟩, trivial⟩ mx (fun x => by kernel_rfl)

noncomputable def cmp_Or_int_L0 (vals : List Int) (v : Int) : Option (Int ⊕ (Unit ⊕ Int)) :=
  bif decide (v < (vals.length : Int)) then (
   gd (inB v vals.length) <|
   bif !decide (vals.getD v.toNat 0 = 0) then (
    some (.inr (.inr (vals.getD v.toNat 0))))
   else (
    some (.inl (wi64 (v + 1)))))
  else (
   some (.inr (.inl ())))

noncomputable def cmp_Or_int (vals : List Int) : Option (Int) :=
  (iter (fun x => cmp_Or_int_L0 vals x) 0).bind fun s =>
  s.elim (fun s2 =>
   some 0)
  (fun s3 =>
   some s3)

noncomputable def fn_cmp_Or_int : Fun :=
  { f := 41, np := 1, nr := 1,
    ji := { regs := [(0, .one (.data (.sl (.int .i64))))], vars := [], arrs := [] },
    jo := { regs := [(0, .one (.data (.int .i64)))], vars := [], arrs := [] },
    tw := fun x => cmp_Or_int x }
noncomputable def cx_cmp_Or_int : Cx := { Γ := types, ow := [], fs := [], N := 18 }
theorem ok_cmp_Or_int : FunOk Tryz.prog fn_cmp_Or_int :=
  FunOk.intro (C := cx_cmp_Or_int) (p := (.mk [] none .nil (.mk [] none .nil (.mk [] none (.mk [] none .nil (.mk [] none (.mk [] (some ({ regs := [(3, .one .keep), (6, .one .keep), (7, .one .keep), (8, .one (.data (.int .i64)))], vars := [], arrs := [] }, [{ e := .x 0, j := { regs := [(3, .one .keep)], vars := [], arrs := [] } }, { e := .r, j := { regs := [(2, .one (.data (.int .i64)))], vars := [], arrs := [] } }])) .nil .nil) .nil)) .nil))))
    Tryz.func41 rfl nmr41 rfl rfl rfl rfl types_ok ⟨trivial, trivial⟩ mx (fun x => by kernel_rfl)

noncomputable def nomination_compare (a : List UInt8 × List UInt8 × List UInt8 × List UInt8 × Int × Int) (b : List UInt8 × List UInt8 × List UInt8 × List UInt8 × Int × Int) : Option (Int) :=
  (cmp_Compare_int a.2.2.2.2.1 b.2.2.2.2.1).bind fun r =>
  (cmp_Compare_string a.1 b.1).bind fun r2 =>
  (cmp_Compare_string a.2.1 b.2.1).bind fun r3 =>
  (cmp_Compare_string a.2.2.1 b.2.2.1).bind fun r4 =>
  (cmp_Compare_string a.2.2.2.1 b.2.2.2.1).bind fun r5 =>
  (cmp_Or_int [r, r2, r3, r4, r5]).bind fun r6 =>
  some r6

noncomputable def fn_nomination_compare : Fun :=
  { f := 24, np := 2, nr := 1,
    ji := { regs := [(0, .one (.data (.pair (.str) (.pair (.str) (.pair (.str) (.pair (.str) (.pair (.int .i64) (.int .i64)))))))), (1, .one (.data (.pair (.str) (.pair (.str) (.pair (.str) (.pair (.str) (.pair (.int .i64) (.int .i64))))))))], vars := [], arrs := [] },
    jo := { regs := [(0, .one (.data (.int .i64)))], vars := [], arrs := [] },
    tw := fun x => nomination_compare x.1 x.2 }
noncomputable def cx_nomination_compare : Cx := { Γ := types, ow := [], fs := [fn_cmp_Compare_int, fn_cmp_Compare_string, fn_cmp_Or_int], N := 32 }
theorem ok_nomination_compare : FunOk Tryz.prog fn_nomination_compare :=
  FunOk.intro (C := cx_nomination_compare) (p := .nil)
    Tryz.func24 rfl nmr24 rfl rfl rfl rfl types_ok ⟨⟨ok_cmp_Compare_int, ok_cmp_Compare_string, ok_cmp_Or_int, trivial⟩, trivial⟩ mx (fun x => by kernel_rfl)

noncomputable def nomination_Totals_L0 (l : List (List UInt8 × List UInt8 × List UInt8 × List UInt8 × Int × Int)) (v : Int) (sums : List ((List UInt8 × List UInt8 × List UInt8 × List UInt8 × Int × Int) × Int)) : Option ((Int × List ((List UInt8 × List UInt8 × List UInt8 × List UInt8 × Int × Int) × Int)) ⊕ (List ((List UInt8 × List UInt8 × List UInt8 × List UInt8 × Int × Int) × Int))) :=
  bif decide (v < (l.length : Int)) then (
   gd (inB v l.length) <|
   gd (decide (0 ≤ Int.ofNat (midx kO_0 sums ((l.getD v.toNat ([], ([], ([], ([], (0, 0)))))).1, (((l.getD v.toNat ([], ([], ([], ([], (0, 0)))))).2).1, ((((l.getD v.toNat ([], ([], ([], ([], (0, 0)))))).2).2).1, (((((l.getD v.toNat ([], ([], ([], ([], (0, 0)))))).2).2).2).1, ((((((l.getD v.toNat ([], ([], ([], ([], (0, 0)))))).2).2).2).2).1, 0))))))) && Nat.blt (Int.ofNat (midx kO_0 sums ((l.getD v.toNat ([], ([], ([], ([], (0, 0)))))).1, (((l.getD v.toNat ([], ([], ([], ([], (0, 0)))))).2).1, ((((l.getD v.toNat ([], ([], ([], ([], (0, 0)))))).2).2).1, (((((l.getD v.toNat ([], ([], ([], ([], (0, 0)))))).2).2).2).1, ((((((l.getD v.toNat ([], ([], ([], ([], (0, 0)))))).2).2).2).2).1, 0))))))).toNat (ment kO_0 sums ((l.getD v.toNat ([], ([], ([], ([], (0, 0)))))).1, (((l.getD v.toNat ([], ([], ([], ([], (0, 0)))))).2).1, ((((l.getD v.toNat ([], ([], ([], ([], (0, 0)))))).2).2).1, (((((l.getD v.toNat ([], ([], ([], ([], (0, 0)))))).2).2).2).1, ((((((l.getD v.toNat ([], ([], ([], ([], (0, 0)))))).2).2).2).2).1, 0))))) 0).length) <|
   some (.inl (wi64 (v + 1), mset (ment kO_0 sums ((l.getD v.toNat ([], ([], ([], ([], (0, 0)))))).1, (((l.getD v.toNat ([], ([], ([], ([], (0, 0)))))).2).1, ((((l.getD v.toNat ([], ([], ([], ([], (0, 0)))))).2).2).1, (((((l.getD v.toNat ([], ([], ([], ([], (0, 0)))))).2).2).2).1, ((((((l.getD v.toNat ([], ([], ([], ([], (0, 0)))))).2).2).2).2).1, 0))))) 0) (Int.ofNat (midx kO_0 sums ((l.getD v.toNat ([], ([], ([], ([], (0, 0)))))).1, (((l.getD v.toNat ([], ([], ([], ([], (0, 0)))))).2).1, ((((l.getD v.toNat ([], ([], ([], ([], (0, 0)))))).2).2).1, (((((l.getD v.toNat ([], ([], ([], ([], (0, 0)))))).2).2).2).1, ((((((l.getD v.toNat ([], ([], ([], ([], (0, 0)))))).2).2).2).2).1, 0))))))).toNat (wi64 (((mget kO_0 sums ((l.getD v.toNat ([], ([], ([], ([], (0, 0)))))).1, (((l.getD v.toNat ([], ([], ([], ([], (0, 0)))))).2).1, ((((l.getD v.toNat ([], ([], ([], ([], (0, 0)))))).2).2).1, (((((l.getD v.toNat ([], ([], ([], ([], (0, 0)))))).2).2).2).1, ((((((l.getD v.toNat ([], ([], ([], ([], (0, 0)))))).2).2).2).2).1, 0)))))).getD 0) + ((((((l.getD v.toNat ([], ([], ([], ([], (0, 0)))))).2).2).2).2).2))))))
  else (
   some (.inr sums))

noncomputable def nomination_Totals_L1 (out : List (List UInt8 × List UInt8 × List UInt8 × List UInt8 × Int × Int)) (v2 : List ((List UInt8 × List UInt8 × List UInt8 × List UInt8 × Int × Int) × Int)) : List (Option (((List (List UInt8 × List UInt8 × List UInt8 × List UInt8 × Int × Int)) × List ((List UInt8 × List UInt8 × List UInt8 × List UInt8 × Int × Int) × Int)) ⊕ ((List (List UInt8 × List UInt8 × List UInt8 × List UInt8 × Int × Int)) ⊕ ((List (List UInt8 × List UInt8 × List UInt8 × List UInt8 × Int × Int)) × Int)))) :=
  bif isNilL v2.tail then [
   some (.inr (.inl out))]
  else ((List.range v2.tail.length).map fun i =>
   bif decide (1099511627776 < ((pickAt (([], ([], ([], ([], (0, 0))))), 0) v2.tail i).headD (([], ([], ([], ([], (0, 0))))), 0)).2) then (
    some (.inr (.inr ([], 4))))
   else (
    gd (fits (out.length + 1) 80) <|
    some (.inl (out ++ [((((pickAt (([], ([], ([], ([], (0, 0))))), 0) v2.tail i).headD (([], ([], ([], ([], (0, 0))))), 0)).1).1, (((((pickAt (([], ([], ([], ([], (0, 0))))), 0) v2.tail i).headD (([], ([], ([], ([], (0, 0))))), 0)).1).2).1, ((((((pickAt (([], ([], ([], ([], (0, 0))))), 0) v2.tail i).headD (([], ([], ([], ([], (0, 0))))), 0)).1).2).2).1, (((((((pickAt (([], ([], ([], ([], (0, 0))))), 0) v2.tail i).headD (([], ([], ([], ([], (0, 0))))), 0)).1).2).2).2).1, ((((((((pickAt (([], ([], ([], ([], (0, 0))))), 0) v2.tail i).headD (([], ([], ([], ([], (0, 0))))), 0)).1).2).2).2).2).1, ((pickAt (([], ([], ([], ([], (0, 0))))), 0) v2.tail i).headD (([], ([], ([], ([], (0, 0))))), 0)).2)))))], pickAt (([], ([], ([], ([], (0, 0))))), 0) v2.tail i))))

noncomputable def nomination_Totals (l : List (List UInt8 × List UInt8 × List UInt8 × List UInt8 × Int × Int)) : Option ((List (List UInt8 × List UInt8 × List UInt8 × List UInt8 × Int × Int)) × Int) :=
  (nomination_Check l).bind fun r =>
  bif !decide (r = 0) then (
   some ([], r))
  else (
   (iter (fun x => nomination_Totals_L0 l x.1 x.2) (0, [])).bind fun s =>
   iterK (fun x2 => nomination_Totals_L1 x2.1 x2.2) ([], ((([], ([], ([], ([], (0, 0))))), 0) :: s)) fun s2 =>
   s2.elim (fun s3 =>
    (slices_SortFunc_api_Nomination_api_Nomination (fun h => (nomination_compare h.1 h.2.1).bind fun y => some y) s3).bind fun r2 =>
    some (r2, 0))
   (fun s4 =>
    some (s4.1, s4.2)))

noncomputable def fn_nomination_Totals : Fun :=
  { f := 8, np := 1, nr := 2,
    ji := { regs := [(0, .one (.data (.sl (.pair (.str) (.pair (.str) (.pair (.str) (.pair (.str) (.pair (.int .i64) (.int .i64)))))))))], vars := [], arrs := [] },
    jo := { regs := [(0, .one (.data (.sl (.pair (.str) (.pair (.str) (.pair (.str) (.pair (.str) (.pair (.int .i64) (.int .i64))))))))), (1, .one (.data (.int .i64)))], vars := [], arrs := [] },
    tw := fun x => nomination_Totals x }
noncomputable def cx_nomination_Totals : Cx := { Γ := types, ow := [], fs := [fn_nomination_Check, fn_slices_SortFunc_api_Nomination_api_Nomination, fn_nomination_compare], N := 53 }
theorem ok_nomination_Totals : FunOk Tryz.prog fn_nomination_Totals :=
  FunOk.intro (C := cx_nomination_Totals) (p := (.mk [] none .nil (.mk [] none .nil (.mk [] none .nil (.mk [] none (.mk [] none .nil (.mk [] none (.mk [] (some ({ regs := [(5, .one (.own 288)), (18, .one .keep), (19, .one .keep), (20, .one (.data (.int .i64)))], vars := [], arrs := [(288, .map true 1000051 (.pair (.str) (.pair (.str) (.pair (.str) (.pair (.str) (.pair (.int .i64) (.int .i64)))))) (.int .i64))] }, [{ e := .x 0, j := { regs := [(5, .one (.own 288))], vars := [], arrs := [(288, .map true 1000051 (.pair (.str) (.pair (.str) (.pair (.str) (.pair (.str) (.pair (.int .i64) (.int .i64)))))) (.int .i64))] } }])) .nil .nil) .nil)) (.mk [] none .nil (.mk [] none (.mk [] none (.mk [.fz [5]] none .nil .nil) (.mk [] none (.mk [] (some ({ regs := [(9, .one (.own 171)), (36, .one (.own 592))], vars := [], arrs := [(171, .arr 28 (.pair (.str) (.pair (.str) (.pair (.str) (.pair (.str) (.pair (.int .i64) (.int .i64))))))), (592, .iter false (.pair (.str) (.pair (.str) (.pair (.str) (.pair (.str) (.pair (.int .i64) (.int .i64)))))) (.int .i64))] }, [{ e := .x 2, j := { regs := [(9, .one (.own 171))], vars := [], arrs := [(171, .arr 28 (.pair (.str) (.pair (.str) (.pair (.str) (.pair (.str) (.pair (.int .i64) (.int .i64)))))))] } }, { e := .r, j := { regs := [(2, .one (.data (.sl (.pair (.str) (.pair (.str) (.pair (.str) (.pair (.str) (.pair (.int .i64) (.int .i64))))))))), (3, .one (.data (.int .i64)))], vars := [], arrs := [] } }])) .nil .nil) .nil)) .nil)))))))
    Tryz.func8 rfl nmr8 rfl rfl rfl rfl types_ok ⟨⟨ok_nomination_Check, ok_slices_SortFunc_api_Nomination_api_Nomination, ok_nomination_compare, trivial⟩, trivial⟩ mx (fun x => by kernel_rfl)

noncomputable def ref11_Same_L0 (a : List (List UInt8 × List UInt8 × List UInt8 × List UInt8 × Int × Int)) (b : List (List UInt8 × List UInt8 × List UInt8 × List UInt8 × Int × Int)) (v : Int) : Option (Int ⊕ (Unit ⊕ Bool)) :=
  bif decide (v < (a.length : Int)) then (
   gd (inB v a.length) <|
   gd (inB v b.length) <|
   bif !(decide ((a.getD v.toNat ([], ([], ([], ([], (0, 0)))))).1 = (b.getD v.toNat ([], ([], ([], ([], (0, 0)))))).1) && (decide (((a.getD v.toNat ([], ([], ([], ([], (0, 0)))))).2).1 = ((b.getD v.toNat ([], ([], ([], ([], (0, 0)))))).2).1) && (decide ((((a.getD v.toNat ([], ([], ([], ([], (0, 0)))))).2).2).1 = (((b.getD v.toNat ([], ([], ([], ([], (0, 0)))))).2).2).1) && (decide (((((a.getD v.toNat ([], ([], ([], ([], (0, 0)))))).2).2).2).1 = ((((b.getD v.toNat ([], ([], ([], ([], (0, 0)))))).2).2).2).1) && (decide ((((((a.getD v.toNat ([], ([], ([], ([], (0, 0)))))).2).2).2).2).1 = (((((b.getD v.toNat ([], ([], ([], ([], (0, 0)))))).2).2).2).2).1) && decide ((((((a.getD v.toNat ([], ([], ([], ([], (0, 0)))))).2).2).2).2).2 = (((((b.getD v.toNat ([], ([], ([], ([], (0, 0)))))).2).2).2).2).2)))))) then (
    some (.inr (.inr false)))
   else (
    some (.inl (wi64 (v + 1)))))
  else (
   some (.inr (.inl ())))

noncomputable def ref11_Same (a : List (List UInt8 × List UInt8 × List UInt8 × List UInt8 × Int × Int)) (b : List (List UInt8 × List UInt8 × List UInt8 × List UInt8 × Int × Int)) : Option (Bool) :=
  bif !decide ((a.length : Int) = (b.length : Int)) then (
   some false)
  else (
   (iter (fun x => ref11_Same_L0 a b x) 0).bind fun s =>
   s.elim (fun s2 =>
    some true)
   (fun s3 =>
    some s3))

noncomputable def fn_ref11_Same : Fun :=
  { f := 9, np := 2, nr := 1,
    ji := { regs := [(0, .one (.data (.sl (.pair (.str) (.pair (.str) (.pair (.str) (.pair (.str) (.pair (.int .i64) (.int .i64))))))))), (1, .one (.data (.sl (.pair (.str) (.pair (.str) (.pair (.str) (.pair (.str) (.pair (.int .i64) (.int .i64)))))))))], vars := [], arrs := [] },
    jo := { regs := [(0, .one (.data (.bool)))], vars := [], arrs := [] },
    tw := fun x => ref11_Same x.1 x.2 }
noncomputable def cx_ref11_Same : Cx := { Γ := types, ow := [], fs := [], N := 26 }
theorem ok_ref11_Same : FunOk Tryz.prog fn_ref11_Same :=
  FunOk.intro (C := cx_ref11_Same) (p := (.mk [] none .nil (.mk [] none .nil (.mk [] none (.mk [] none .nil (.mk [] none (.mk [] (some ({ regs := [(0, .one .keep), (1, .one .keep), (12, .one .keep), (13, .one (.data (.int .i64)))], vars := [], arrs := [] }, [{ e := .x 0, j := { regs := [], vars := [], arrs := [] } }, { e := .r, j := { regs := [(4, .one (.data (.bool)))], vars := [], arrs := [] } }])) .nil .nil) .nil)) .nil))))
    Tryz.func9 rfl nmr9 rfl rfl rfl rfl types_ok ⟨trivial, trivial⟩ mx (fun x => by kernel_rfl)

noncomputable def ref11_Cmp_L0 (a : List UInt8 × List UInt8 × List UInt8 × List UInt8 × Int × Int) (b : List UInt8 × List UInt8 × List UInt8 × List UInt8 × Int × Int) (v : Int) : Option (Int ⊕ (Unit ⊕ Int)) :=
  bif decide (v < ([a.1, a.2.1, a.2.2.1, a.2.2.2.1].length : Int)) then (
   gd (inB v [a.1, a.2.1, a.2.2.1, a.2.2.2.1].length) <|
   gd (inB v [b.1, b.2.1, b.2.2.1, b.2.2.2.1].length) <|
   bif Op.bytesLess ([a.1, a.2.1, a.2.2.1, a.2.2.2.1].getD v.toNat []) ([b.1, b.2.1, b.2.2.1, b.2.2.2.1].getD v.toNat []) then (
    some (.inr (.inr (-1))))
   else (
    gd (inB v [a.1, a.2.1, a.2.2.1, a.2.2.2.1].length) <|
    gd (inB v [b.1, b.2.1, b.2.2.1, b.2.2.2.1].length) <|
    bif !(Op.bytesLess ([a.1, a.2.1, a.2.2.1, a.2.2.2.1].getD v.toNat []) ([b.1, b.2.1, b.2.2.1, b.2.2.2.1].getD v.toNat []) || decide ([a.1, a.2.1, a.2.2.1, a.2.2.2.1].getD v.toNat [] = [b.1, b.2.1, b.2.2.1, b.2.2.2.1].getD v.toNat [])) then (
     some (.inr (.inr 1)))
    else (
     some (.inl (wi64 (v + 1))))))
  else (
   some (.inr (.inl ())))

noncomputable def ref11_Cmp (a : List UInt8 × List UInt8 × List UInt8 × List UInt8 × Int × Int) (b : List UInt8 × List UInt8 × List UInt8 × List UInt8 × Int × Int) : Option (Int) :=
  bif !decide (a.2.2.2.2.1 = b.2.2.2.2.1) then (
   bif decide (a.2.2.2.2.1 < b.2.2.2.2.1) then (
    some (-1))
   else (
    some 1))
  else (
   (iter (fun x => ref11_Cmp_L0 a b x) 0).bind fun s =>
   s.elim (fun s2 =>
    some 0)
   (fun s3 =>
    some s3))

noncomputable def fn_ref11_Cmp : Fun :=
  { f := 10, np := 2, nr := 1,
    ji := { regs := [(0, .one (.data (.pair (.str) (.pair (.str) (.pair (.str) (.pair (.str) (.pair (.int .i64) (.int .i64)))))))), (1, .one (.data (.pair (.str) (.pair (.str) (.pair (.str) (.pair (.str) (.pair (.int .i64) (.int .i64))))))))], vars := [], arrs := [] },
    jo := { regs := [(0, .one (.data (.int .i64)))], vars := [], arrs := [] },
    tw := fun x => ref11_Cmp x.1 x.2 }
noncomputable def cx_ref11_Cmp : Cx := { Γ := types, ow := [], fs := [], N := 60 }
theorem ok_ref11_Cmp : FunOk Tryz.prog fn_ref11_Cmp :=
  FunOk.intro (C := cx_ref11_Cmp) (p := (.mk [] none .nil (.mk [] none .nil (.mk [] none .nil (.mk [] none (.mk [] none .nil (.mk [] none (.mk [] (some ({ regs := [(5, .one .keep), (6, .one .keep), (37, .one .keep), (38, .one (.data (.int .i64)))], vars := [], arrs := [] }, [{ e := .x 0, j := { regs := [], vars := [], arrs := [] } }, { e := .r, j := { regs := [(4, .one (.data (.int .i64)))], vars := [], arrs := [] } }])) .nil .nil) .nil)) .nil)))))
    Tryz.func10 rfl nmr10 rfl rfl rfl rfl types_ok ⟨trivial, trivial⟩ mx (fun x => by kernel_rfl)

noncomputable def internal_stringslite_IndexByte (s : List UInt8) (c : Int) : Option (Int) :=
  (idxB s c).bind fun r =>
  some r

noncomputable def fn_internal_stringslite_IndexByte : Fun :=
  { f := 109, np := 2, nr := 1,
    ji := { regs := [(0, .one (.data (.str))), (1, .one (.data (.int .u8)))], vars := [], arrs := [] },
    jo := { regs := [(0, .one (.data (.int .i64)))], vars := [], arrs := [] },
    tw := fun x => internal_stringslite_IndexByte x.1 x.2 }
noncomputable def cx_internal_stringslite_IndexByte : Cx := { Γ := types, ow := [], fs := [], xs := [xt122], N := 8 }
theorem ok_internal_stringslite_IndexByte : FunOk Tryz.prog fn_internal_stringslite_IndexByte :=
  FunOk.intro (C := cx_internal_stringslite_IndexByte) (p := .nil)
    Tryz.func109 rfl nmr109 rfl rfl rfl rfl types_ok ⟨trivial, ⟨xk122, trivial⟩⟩ mx (fun x => by kernel_rfl)

noncomputable def internal_stringslite_Index (s : List UInt8) (substr : List UInt8) : Option (Int) :=
  Option.bind (α := Bool) (
    bif decide ((substr.length : Int) = 0) then (
     some true)
    else (
     some (decide (substr = s)))) fun s2 =>
  bif s2 then (
   some 0)
  else (
   bif decide ((substr.length : Int) = 1) then (
    gd (inB 0 substr.length) <|
    (internal_stringslite_IndexByte s (Int.ofNat (substr.getD 0 0).toNat)).bind fun r =>
    some r)
   else (
    bif decide ((s.length : Int) ≤ (substr.length : Int)) then (
     some (-1))
    else (
     none)))

noncomputable def fn_internal_stringslite_Index : Fun :=
  { f := 98, np := 2, nr := 1,
    ji := { regs := [(0, .one (.data (.str))), (1, .one (.data (.str)))], vars := [], arrs := [] },
    jo := { regs := [(0, .one (.data (.int .i64)))], vars := [], arrs := [] },
    tw := fun x => internal_stringslite_Index x.1 x.2 }
noncomputable def cx_internal_stringslite_Index : Cx := { Γ := types, ow := [], fs := [fn_internal_stringslite_IndexByte], N := 143 }
theorem ok_internal_stringslite_Index : FunOk Tryz.prog fn_internal_stringslite_Index :=
  FunOk.intro (C := cx_internal_stringslite_Index) (p := (.mk [] none .nil (.mk [] none .nil (.mk [] none (.mk [] none (.mk [] none (.mk [.join [{ e := .n, j := { regs := [(0, .one .keep), (1, .one .keep), (5, .one .keep), (16, .one (.data (.bool)))], vars := [], arrs := [] } }]] none .nil .nil) .nil) .nil) .nil))))
    Tryz.func98 rfl nmr98 rfl rfl rfl rfl types_ok ⟨⟨ok_internal_stringslite_IndexByte, trivial⟩, trivial⟩ mx (fun x => by kernel_rfl)

noncomputable def strings_Index (s : List UInt8) (substr : List UInt8) : Option (Int) :=
  (internal_stringslite_Index s substr).bind fun r =>
  some r

noncomputable def fn_strings_Index : Fun :=
  { f := 81, np := 2, nr := 1,
    ji := { regs := [(0, .one (.data (.str))), (1, .one (.data (.str)))], vars := [], arrs := [] },
    jo := { regs := [(0, .one (.data (.int .i64)))], vars := [], arrs := [] },
    tw := fun x => strings_Index x.1 x.2 }
noncomputable def cx_strings_Index : Cx := { Γ := types, ow := [], fs := [fn_internal_stringslite_Index], N := 8 }
theorem ok_strings_Index : FunOk Tryz.prog fn_strings_Index :=
  FunOk.intro (C := cx_strings_Index) (p := .nil)
    Tryz.func81 rfl nmr81 rfl rfl rfl rfl types_ok ⟨⟨ok_internal_stringslite_Index, trivial⟩, trivial⟩ mx (fun x => by kernel_rfl)

noncomputable def strings_Count_L0 (substr : List UInt8) (s2 : List UInt8) (n : Int) : Option ((List UInt8 × Int) ⊕ Int) :=
  (strings_Index s2 substr).bind fun r2 =>
  bif decide (r2 = (-1)) then (
   some (.inr n))
  else (
   gd (cutG (some (.i64, wi64 (r2 + (substr.length : Int)))) none s2.length) <|
   some (.inl (s2.drop (wi64 (r2 + (substr.length : Int))).toNat, wi64 (n + 1))))

noncomputable def strings_Count (s : List UInt8) (substr : List UInt8) : Option (Int) :=
  bif decide ((substr.length : Int) = 0) then (
   none)
  else (
   bif decide ((substr.length : Int) = 1) then (
    gd (inB 0 substr.length) <|
    (cntB s (Int.ofNat (substr.getD 0 0).toNat)).bind fun r =>
    some r)
   else (
    (iter (fun x => strings_Count_L0 substr x.1 x.2) (s, 0)).bind fun s3 =>
    some s3))

noncomputable def fn_strings_Count : Fun :=
  { f := 55, np := 2, nr := 1,
    ji := { regs := [(0, .one (.data (.str))), (1, .one (.data (.str)))], vars := [], arrs := [] },
    jo := { regs := [(0, .one (.data (.int .i64)))], vars := [], arrs := [] },
    tw := fun x => strings_Count x.1 x.2 }
noncomputable def cx_strings_Count : Cx := { Γ := types, ow := [], fs := [fn_strings_Index], xs := [xt80], N := 34 }
theorem ok_strings_Count : FunOk Tryz.prog fn_strings_Count :=
  FunOk.intro (C := cx_strings_Count) (p := (.mk [] none .nil (.mk [] none .nil (.mk [] none .nil (.mk [] none .nil (.mk [] none (.mk [] (some ({ regs := [(0, .one (.data (.str))), (1, .one .keep), (5, .one (.data (.int .i64)))], vars := [], arrs := [] }, [{ e := .r, j := { regs := [(4, .one (.data (.int .i64)))], vars := [], arrs := [] } }])) .nil .nil) .nil))))))
    Tryz.func55 rfl nmr55 rfl rfl rfl rfl types_ok ⟨⟨ok_strings_Index, trivial⟩, ⟨xk80, trivial⟩⟩ mx (fun x => by kernel_rfl)

noncomputable def internal_stringslite_HasSuffix (s : List UInt8) (suffix : List UInt8) : Option (Bool) :=
  bif decide ((suffix.length : Int) ≤ (s.length : Int)) then (
   gd (cutG (some (.i64, wi64 ((s.length : Int) - (suffix.length : Int)))) none s.length) <|
   some (decide (s.drop (wi64 ((s.length : Int) - (suffix.length : Int))).toNat = suffix)))
  else (
   some false)

noncomputable def fn_internal_stringslite_HasSuffix : Fun :=
  { f := 82, np := 2, nr := 1,
    ji := { regs := [(0, .one (.data (.str))), (1, .one (.data (.str)))], vars := [], arrs := [] },
    jo := { regs := [(0, .one (.data (.bool)))], vars := [], arrs := [] },
    tw := fun x => internal_stringslite_HasSuffix x.1 x.2 }
noncomputable def cx_internal_stringslite_HasSuffix : Cx := { Γ := types, ow := [], fs := [], N := 21 }
theorem ok_internal_stringslite_HasSuffix : FunOk Tryz.prog fn_internal_stringslite_HasSuffix :=
  FunOk.intro (C := cx_internal_stringslite_HasSuffix) (p := .nil)
    Tryz.func82 rfl nmr82 rfl rfl rfl rfl types_ok ⟨trivial, trivial⟩ mx (fun x => by kernel_rfl)

noncomputable def strings_HasSuffix (s : List UInt8) (suffix : List UInt8) : Option (Bool) :=
  (internal_stringslite_HasSuffix s suffix).bind fun r =>
  some r

noncomputable def fn_strings_HasSuffix : Fun :=
  { f := 56, np := 2, nr := 1,
    ji := { regs := [(0, .one (.data (.str))), (1, .one (.data (.str)))], vars := [], arrs := [] },
    jo := { regs := [(0, .one (.data (.bool)))], vars := [], arrs := [] },
    tw := fun x => strings_HasSuffix x.1 x.2 }
noncomputable def cx_strings_HasSuffix : Cx := { Γ := types, ow := [], fs := [fn_internal_stringslite_HasSuffix], N := 8 }
theorem ok_strings_HasSuffix : FunOk Tryz.prog fn_strings_HasSuffix :=
  FunOk.intro (C := cx_strings_HasSuffix) (p := .nil)
    Tryz.func56 rfl nmr56 rfl rfl rfl rfl types_ok ⟨⟨ok_internal_stringslite_HasSuffix, trivial⟩, trivial⟩ mx (fun x => by kernel_rfl)

noncomputable def internal_stringslite_Cut (s : List UInt8) (sep : List UInt8) : Option (List UInt8 × List UInt8 × Bool) :=
  (internal_stringslite_Index s sep).bind fun r =>
  bif decide (0 ≤ r) then (
   gd (cutG none (some (.i64, r)) s.length) <|
   gd (cutG (some (.i64, wi64 (r + (sep.length : Int)))) none s.length) <|
   some (s.take r.toNat, s.drop (wi64 (r + (sep.length : Int))).toNat, true))
  else (
   some (s, [], false))

noncomputable def fn_internal_stringslite_Cut : Fun :=
  { f := 83, np := 2, nr := 3,
    ji := { regs := [(0, .one (.data (.str))), (1, .one (.data (.str)))], vars := [], arrs := [] },
    jo := { regs := [(0, .one (.data (.str))), (1, .one (.data (.str))), (2, .one (.data (.bool)))], vars := [], arrs := [] },
    tw := fun x => internal_stringslite_Cut x.1 x.2 }
noncomputable def cx_internal_stringslite_Cut : Cx := { Γ := types, ow := [], fs := [fn_internal_stringslite_Index], N := 23 }
theorem ok_internal_stringslite_Cut : FunOk Tryz.prog fn_internal_stringslite_Cut :=
  FunOk.intro (C := cx_internal_stringslite_Cut) (p := .nil)
    Tryz.func83 rfl nmr83 rfl rfl rfl rfl types_ok ⟨⟨ok_internal_stringslite_Index, trivial⟩, trivial⟩ mx (fun x => by kernel_rfl)

noncomputable def strings_Cut (s : List UInt8) (sep : List UInt8) : Option (List UInt8 × List UInt8 × Bool) :=
  (internal_stringslite_Cut s sep).bind fun r =>
  some (r.1, r.2.1, r.2.2)

noncomputable def fn_strings_Cut : Fun :=
  { f := 57, np := 2, nr := 3,
    ji := { regs := [(0, .one (.data (.str))), (1, .one (.data (.str)))], vars := [], arrs := [] },
    jo := { regs := [(0, .one (.data (.str))), (1, .one (.data (.str))), (2, .one (.data (.bool)))], vars := [], arrs := [] },
    tw := fun x => strings_Cut x.1 x.2 }
noncomputable def cx_strings_Cut : Cx := { Γ := types, ow := [], fs := [fn_internal_stringslite_Cut], N := 13 }
theorem ok_strings_Cut : FunOk Tryz.prog fn_strings_Cut :=
  FunOk.intro (C := cx_strings_Cut) (p := .nil)
    Tryz.func57 rfl nmr57 rfl rfl rfl rfl types_ok ⟨⟨ok_internal_stringslite_Cut, trivial⟩, trivial⟩ mx (fun x => by kernel_rfl)

noncomputable def strings_genSplit_L0 (s : List UInt8) (sep : List UInt8) (sepSave : Int) (s2 : Int) (s3 : List UInt8) (i : Int) (a : List (List UInt8)) : Option ((List UInt8 × Int × List (List UInt8)) ⊕ (List UInt8 × Int × List (List UInt8))) :=
  bif decide (i < wi64 ((min s2 (wi64 ((s.length : Int) + 1))) - 1)) then (
   (strings_Index s3 sep).bind fun r2 =>
   bif decide (r2 < 0) then (
    some (.inr (s3, i, a)))
   else (
    gd (cutG none (some (.i64, wi64 (r2 + sepSave))) s3.length) <|
    gd (inB i a.length) <|
    gd (cutG (some (.i64, wi64 (r2 + (sep.length : Int)))) none s3.length) <|
    some (.inl (s3.drop (wi64 (r2 + (sep.length : Int))).toNat, wi64 (i + 1), a.set i.toNat (s3.take (wi64 (r2 + sepSave)).toNat)))))
  else (
   some (.inr (s3, i, a)))

noncomputable def strings_genSplit (s : List UInt8) (sep : List UInt8) (sepSave : Int) (n : Int) : Option (List (List UInt8)) :=
  bif decide (n = 0) then (
   some [])
  else (
   bif decide (sep = []) then (
    none)
   else (
    Option.bind (α := Int) (
      bif decide (n < 0) then (
       (strings_Count s sep).bind fun r =>
       some (wi64 (r + 1)))
      else (
       some n)) fun s2 =>
    gd (makeG 16 (min s2 (wi64 ((s.length : Int) + 1)))) <|
    (iter (fun x => strings_genSplit_L0 s sep sepSave s2 x.1 x.2.1 x.2.2) (s, 0, List.replicate (min s2 (wi64 ((s.length : Int) + 1))).toNat [])).bind fun s4 =>
    gd (inB s4.2.1 s4.2.2.length) <|
    gd (cutG none (some (.i64, wi64 (s4.2.1 + 1))) (s4.2.2.set s4.2.1.toNat s4.1).length) <|
    some ((s4.2.2.set s4.2.1.toNat s4.1).take (wi64 (s4.2.1 + 1)).toNat)))

noncomputable def fn_strings_genSplit : Fun :=
  { f := 84, np := 4, nr := 1,
    ji := { regs := [(0, .one (.data (.str))), (1, .one (.data (.str))), (2, .one (.data (.int .i64))), (3, .one (.data (.int .i64)))], vars := [], arrs := [] },
    jo := { regs := [(0, .one (.data (.sl (.str))))], vars := [], arrs := [] },
    tw := fun x => strings_genSplit x.1 x.2.1 x.2.2.1 x.2.2.2 }
noncomputable def cx_strings_genSplit : Cx := { Γ := types, ow := [], fs := [fn_strings_Count, fn_strings_Index], N := 66 }
theorem ok_strings_genSplit : FunOk Tryz.prog fn_strings_genSplit :=
  FunOk.intro (C := cx_strings_genSplit) (p := (.mk [] none .nil (.mk [] none .nil (.mk [] none .nil (.mk [] none (.mk [] none .nil (.mk [.join [{ e := .n, j := { regs := [(0, .one .keep), (1, .one .keep), (2, .one .keep), (3, .one (.data (.int .i64)))], vars := [], arrs := [] } }]] none .nil .nil)) (.mk [] none .nil (.mk [] none .nil (.mk [] none .nil (.mk [] none .nil (.mk [] none (.mk [] none (.mk [] (some ({ regs := [(0, .one (.data (.str))), (1, .one .keep), (2, .one .keep), (3, .one .keep), (9, .one (.own 512)), (10, .one (.data (.int .i64)))], vars := [], arrs := [(512, .arr 9 (.str))] }, [{ e := .x 0, j := { regs := [(0, .one (.data (.str))), (9, .one (.own 512)), (10, .one (.data (.int .i64)))], vars := [], arrs := [(512, .arr 9 (.str))] } }])) .nil .nil) .nil) (.mk [] none .nil (.mk [] none (.mk [.fz [9]] none .nil .nil) .nil))))))))))))
    Tryz.func84 rfl nmr84 rfl rfl rfl rfl types_ok ⟨⟨ok_strings_Count, ok_strings_Index, trivial⟩, trivial⟩ mx (fun x => by kernel_rfl)

noncomputable def strings_Split (s : List UInt8) (sep : List UInt8) : Option (List (List UInt8)) :=
  (strings_genSplit s sep 0 (-1)).bind fun r =>
  some r

noncomputable def fn_strings_Split : Fun :=
  { f := 58, np := 2, nr := 1,
    ji := { regs := [(0, .one (.data (.str))), (1, .one (.data (.str)))], vars := [], arrs := [] },
    jo := { regs := [(0, .one (.data (.sl (.str))))], vars := [], arrs := [] },
    tw := fun x => strings_Split x.1 x.2 }
noncomputable def cx_strings_Split : Cx := { Γ := types, ow := [], fs := [fn_strings_genSplit], N := 8 }
theorem ok_strings_Split : FunOk Tryz.prog fn_strings_Split :=
  FunOk.intro (C := cx_strings_Split) (p := .nil)
    Tryz.func58 rfl nmr58 rfl rfl rfl rfl types_ok ⟨⟨ok_strings_genSplit, trivial⟩, trivial⟩ mx (fun x => by kernel_rfl)

noncomputable def lines_word_L0 (s : List UInt8) (v : Int) : Option (Int ⊕ (Unit ⊕ Bool)) :=
  bif decide (v < (s.length : Int)) then (
   Option.bind (α := Bool) (
     gd (inB v s.length) <|
     bif decide ((Int.ofNat (s.getD v.toNat 0).toNat) < 33) then (
      some true)
     else (
      gd (inB v s.length) <|
      some (decide (126 < (Int.ofNat (s.getD v.toNat 0).toNat))))) fun s2 =>
   bif s2 then (
    some (.inr (.inr false)))
   else (
    some (.inl (wi64 (v + 1)))))
  else (
   some (.inr (.inl ())))

noncomputable def lines_word (s : List UInt8) : Option (Bool) :=
  (iter (fun x => lines_word_L0 s x) 0).bind fun s3 =>
  s3.elim (fun s4 =>
   some (!decide (s = [])))
  (fun s5 =>
   some s5)

noncomputable def fn_lines_word : Fun :=
  { f := 75, np := 1, nr := 1,
    ji := { regs := [(0, .one (.data (.str)))], vars := [], arrs := [] },
    jo := { regs := [(0, .one (.data (.bool)))], vars := [], arrs := [] },
    tw := fun x => lines_word x }
noncomputable def cx_lines_word : Cx := { Γ := types, ow := [], fs := [], N := 22 }
theorem ok_lines_word : FunOk Tryz.prog fn_lines_word :=
  FunOk.intro (C := cx_lines_word) (p := (.mk [] none .nil (.mk [] none (.mk [] none .nil (.mk [] none (.mk [] (some ({ regs := [(0, .one .keep), (5, .one .keep), (6, .one (.data (.int .i64)))], vars := [], arrs := [] }, [{ e := .x 0, j := { regs := [(0, .one .keep)], vars := [], arrs := [] } }, { e := .r, j := { regs := [(2, .one (.data (.bool)))], vars := [], arrs := [] } }])) (.mk [] none .nil (.mk [] none .nil (.mk [] none (.mk [] none (.mk [] none .nil (.mk [] none (.mk [.join [{ e := .n, j := { regs := [(0, .one .keep), (5, .one .keep), (6, .one .keep), (18, .one (.data (.bool)))], vars := [], arrs := [] } }]] none .nil .nil) .nil)) .nil) .nil))) .nil) .nil)) .nil)))
    Tryz.func75 rfl nmr75 rfl rfl rfl rfl types_ok ⟨trivial, trivial⟩ mx (fun x => by kernel_rfl)

noncomputable def lines_words_L0 (l : List (List UInt8)) (v : Int) : Option (Int ⊕ (Unit ⊕ Bool)) :=
  bif decide (v < (l.length : Int)) then (
   gd (inB v l.length) <|
   (lines_word (l.getD v.toNat [])).bind fun r =>
   bif !r then (
    some (.inr (.inr false)))
   else (
    some (.inl (wi64 (v + 1)))))
  else (
   some (.inr (.inl ())))

noncomputable def lines_words (l : List (List UInt8)) : Option (Bool) :=
  Option.bind (α := Bool) (
    bif decide ((l.length : Int) < 1) then (
     some true)
    else (
     some (decide (16 < (l.length : Int))))) fun s =>
  bif s then (
   some false)
  else (
   (iter (fun x => lines_words_L0 l x) 0).bind fun s2 =>
   s2.elim (fun s3 =>
    gd (inB 0 l.length) <|
    gd (inB 0 (l.getD 0 []).length) <|
    some (!decide ((Int.ofNat ((l.getD 0 []).getD 0 0).toNat) = 35)))
   (fun s4 =>
    some s4))

noncomputable def fn_lines_words : Fun :=
  { f := 45, np := 1, nr := 1,
    ji := { regs := [(0, .one (.data (.sl (.str))))], vars := [], arrs := [] },
    jo := { regs := [(0, .one (.data (.bool)))], vars := [], arrs := [] },
    tw := fun x => lines_words x }
noncomputable def cx_lines_words : Cx := { Γ := types, ow := [], fs := [fn_lines_word], N := 28 }
theorem ok_lines_words : FunOk Tryz.prog fn_lines_words :=
  FunOk.intro (C := cx_lines_words) (p := (.mk [] none .nil (.mk [] none (.mk [] none (.mk [.join [{ e := .n, j := { regs := [(0, .one .keep), (12, .one (.data (.bool)))], vars := [], arrs := [] } }]] none .nil .nil) .nil) (.mk [] none (.mk [] none .nil (.mk [] none (.mk [] (some ({ regs := [(0, .one .keep), (13, .one .keep), (14, .one .keep), (15, .one (.data (.int .i64)))], vars := [], arrs := [] }, [{ e := .x 0, j := { regs := [(0, .one .keep)], vars := [], arrs := [] } }, { e := .r, j := { regs := [(2, .one (.data (.bool)))], vars := [], arrs := [] } }])) .nil .nil) .nil)) .nil))))
    Tryz.func45 rfl nmr45 rfl rfl rfl rfl types_ok ⟨⟨ok_lines_word, trivial⟩, trivial⟩ mx (fun x => by kernel_rfl)

noncomputable def lines_Split_L0 (text2 : List UInt8) (out : List (List (List UInt8))) : Option ((List UInt8 × List (List (List UInt8))) ⊕ ((List (List (List UInt8))) ⊕ (List (List (List UInt8)) × Int))) :=
  bif !decide (text2 = []) then (
   (strings_Cut text2 [10]).bind fun r3 =>
   Option.bind (α := Bool × List (List (List UInt8))) (
     bif decide (r3.1 = []) then (
      some (true, out))
     else (
      gd (inB 0 r3.1.length) <|
      some (decide ((Int.ofNat (r3.1.getD 0 0).toNat) = 35), out))) fun s4 =>
   bif s4.1 then (
    gd (fits (s4.2.length + 1) 24) <|
    some (.inl (r3.2.1, s4.2 ++ [[]])))
   else (
    (strings_Split r3.1 [32]).bind fun r4 =>
    (lines_words r4).bind fun r5 =>
    bif !r5 then (
     some (.inr (.inr ([], 3))))
    else (
     gd (fits (s4.2.length + 1) 24) <|
     some (.inl (r3.2.1, s4.2 ++ [r4])))))
  else (
   some (.inr (.inl out)))

noncomputable def lines_Split (text : List UInt8) : Option (List (List (List UInt8)) × Int) :=
  (strings_Count text [10]).bind fun r =>
  Option.bind (α := Bool) (
    bif !decide (text = []) then (
     (strings_HasSuffix text [10]).bind fun r2 =>
     some (!r2))
    else (
     some false)) fun s =>
  Option.bind (α := Int) (
    bif s then (
     some (wi64 (r + 1)))
    else (
     some r)) fun s2 =>
  Option.bind (α := Bool) (
    bif decide (16384 < (text.length : Int)) then (
     some true)
    else (
     some (decide (400 < s2)))) fun s3 =>
  bif s3 then (
   some ([], 4))
  else (
   gd ((decide (0 ≤ 0) && decide (0 ≤ s2)) && makeG 24 s2) <|
   (iter (fun x => lines_Split_L0 x.1 x.2) (text, List.replicate 0 [])).bind fun s5 =>
   s5.elim (fun s6 =>
    some (s6, 0))
   (fun s7 =>
    some (s7.1, s7.2)))

noncomputable def fn_lines_Split : Fun :=
  { f := 33, np := 1, nr := 2,
    ji := { regs := [(0, .one (.data (.str)))], vars := [], arrs := [] },
    jo := { regs := [(0, .one (.data (.sl (.sl (.str))))), (1, .one (.data (.int .i64)))], vars := [], arrs := [] },
    tw := fun x => lines_Split x }
noncomputable def cx_lines_Split : Cx := { Γ := types, ow := [], fs := [fn_strings_Count, fn_strings_HasSuffix, fn_strings_Cut, fn_strings_Split, fn_lines_words], N := 59 }
theorem ok_lines_Split : FunOk Tryz.prog fn_lines_Split :=
  FunOk.intro (C := cx_lines_Split) (p := (.mk [] none .nil (.mk [] none .nil (.mk [] none (.mk [] none (.mk [.join [{ e := .n, j := { regs := [(0, .one .keep), (4, .one .keep), (18, .one (.data (.bool)))], vars := [], arrs := [] } }]] none .nil .nil) (.mk [.join [{ e := .n, j := { regs := [(0, .one .keep), (4, .one (.data (.int .i64)))], vars := [], arrs := [] } }]] none .nil .nil)) (.mk [] none (.mk [] none (.mk [.join [{ e := .n, j := { regs := [(0, .one .keep), (4, .one .keep), (27, .one (.data (.bool)))], vars := [], arrs := [] } }]] none .nil .nil) .nil) (.mk [] none .nil (.mk [] none (.mk [] none (.mk [] (some ({ regs := [(0, .one (.data (.str))), (5, .one (.own 107))], vars := [], arrs := [(107, .arr 42 (.sl (.str)))] }, [{ e := .x 0, j := { regs := [(5, .one (.own 107))], vars := [], arrs := [(107, .arr 42 (.sl (.str)))] } }, { e := .r, j := { regs := [(2, .one (.data (.sl (.sl (.str))))), (3, .one (.data (.int .i64)))], vars := [], arrs := [] } }])) (.mk [] none .nil (.mk [] none (.mk [] none .nil (.mk [] none .nil (.mk [] none (.mk [] none (.mk [.join [{ e := .n, j := { regs := [(0, .one .keep), (5, .one (.own 107)), (6, .one .keep), (45, .one (.data (.bool)))], vars := [], arrs := [(107, .arr 42 (.sl (.str)))] } }]] none .nil .nil) .nil) .nil))) .nil)) .nil) .nil) .nil)))))))
    Tryz.func33 rfl nmr33 rfl rfl rfl rfl types_ok ⟨⟨ok_strings_Count, ok_strings_HasSuffix, ok_strings_Cut, ok_strings_Split, ok_lines_words, trivial⟩, trivial⟩ mx (fun x => by kernel_rfl)

noncomputable def internal_stringslite_HasPrefix (s : List UInt8) (vprefix : List UInt8) : Option (Bool) :=
  bif decide ((vprefix.length : Int) ≤ (s.length : Int)) then (
   gd (cutG none (some (.i64, (vprefix.length : Int))) s.length) <|
   some (decide (s.take (vprefix.length : Int).toNat = vprefix)))
  else (
   some false)

noncomputable def fn_internal_stringslite_HasPrefix : Fun :=
  { f := 114, np := 2, nr := 1,
    ji := { regs := [(0, .one (.data (.str))), (1, .one (.data (.str)))], vars := [], arrs := [] },
    jo := { regs := [(0, .one (.data (.bool)))], vars := [], arrs := [] },
    tw := fun x => internal_stringslite_HasPrefix x.1 x.2 }
noncomputable def cx_internal_stringslite_HasPrefix : Cx := { Γ := types, ow := [], fs := [], N := 18 }
theorem ok_internal_stringslite_HasPrefix : FunOk Tryz.prog fn_internal_stringslite_HasPrefix :=
  FunOk.intro (C := cx_internal_stringslite_HasPrefix) (p := .nil)
    Tryz.func114 rfl nmr114 rfl rfl rfl rfl types_ok ⟨trivial, trivial⟩ mx (fun x => by kernel_rfl)

noncomputable def internal_stringslite_TrimPrefix (s : List UInt8) (vprefix : List UInt8) : Option (List UInt8) :=
  (internal_stringslite_HasPrefix s vprefix).bind fun r =>
  bif r then (
   gd (cutG (some (.i64, (vprefix.length : Int))) none s.length) <|
   some (s.drop (vprefix.length : Int).toNat))
  else (
   some s)

noncomputable def fn_internal_stringslite_TrimPrefix : Fun :=
  { f := 100, np := 2, nr := 1,
    ji := { regs := [(0, .one (.data (.str))), (1, .one (.data (.str)))], vars := [], arrs := [] },
    jo := { regs := [(0, .one (.data (.str)))], vars := [], arrs := [] },
    tw := fun x => internal_stringslite_TrimPrefix x.1 x.2 }
noncomputable def cx_internal_stringslite_TrimPrefix : Cx := { Γ := types, ow := [], fs := [fn_internal_stringslite_HasPrefix], N := 13 }
theorem ok_internal_stringslite_TrimPrefix : FunOk Tryz.prog fn_internal_stringslite_TrimPrefix :=
  FunOk.intro (C := cx_internal_stringslite_TrimPrefix) (p := .nil)
    Tryz.func100 rfl nmr100 rfl rfl rfl rfl types_ok ⟨⟨ok_internal_stringslite_HasPrefix, trivial⟩, trivial⟩ mx (fun x => by kernel_rfl)

noncomputable def strings_TrimPrefix (s : List UInt8) (vprefix : List UInt8) : Option (List UInt8) :=
  (internal_stringslite_TrimPrefix s vprefix).bind fun r =>
  some r

noncomputable def fn_strings_TrimPrefix : Fun :=
  { f := 85, np := 2, nr := 1,
    ji := { regs := [(0, .one (.data (.str))), (1, .one (.data (.str)))], vars := [], arrs := [] },
    jo := { regs := [(0, .one (.data (.str)))], vars := [], arrs := [] },
    tw := fun x => strings_TrimPrefix x.1 x.2 }
noncomputable def cx_strings_TrimPrefix : Cx := { Γ := types, ow := [], fs := [fn_internal_stringslite_TrimPrefix], N := 8 }
theorem ok_strings_TrimPrefix : FunOk Tryz.prog fn_strings_TrimPrefix :=
  FunOk.intro (C := cx_strings_TrimPrefix) (p := .nil)
    Tryz.func85 rfl nmr85 rfl rfl rfl rfl types_ok ⟨⟨ok_internal_stringslite_TrimPrefix, trivial⟩, trivial⟩ mx (fun x => by kernel_rfl)

noncomputable def fn_strconv_Atoi : Fun := funAtoi 86
theorem ok_strconv_Atoi : FunOk Tryz.prog fn_strconv_Atoi := atoi_ok ⟨_, Tryz.func86, nmr86, rfl⟩ Tryz.strconv_Atoi_ok Tryz.strconv_Atoi_syn Tryz.strconv_Atoi_range (by unfold globs; exact .tail _ (.head _)) (by unfold globs; exact .tail _ (.tail _ (.head _)))

noncomputable def lines_Number_L0 (r : List UInt8) (v : Int) : Option (Int ⊕ (Unit ⊕ (Int × Int))) :=
  bif decide (v < (r.length : Int)) then (
   Option.bind (α := Bool) (
     gd (inB v r.length) <|
     bif decide ((Int.ofNat (r.getD v.toNat 0).toNat) < 48) then (
      some true)
     else (
      gd (inB v r.length) <|
      some (decide (57 < (Int.ofNat (r.getD v.toNat 0).toNat))))) fun s3 =>
   bif s3 then (
    some (.inr (.inr (0, 3))))
   else (
    some (.inl (wi64 (v + 1)))))
  else (
   some (.inr (.inl ())))

noncomputable def lines_Number (s : List UInt8) : Option (Int × Int) :=
  (strings_TrimPrefix s [45]).bind fun r =>
  Option.bind (α := Bool) (
    bif decide (r = []) then (
     some true)
    else (
     gd (inB 0 r.length) <|
     bif decide ((Int.ofNat (r.getD 0 0).toNat) = 48) then (
      some (!decide (s = [48])))
     else (
      some false))) fun s2 =>
  bif s2 then (
   some (0, 3))
  else (
   (iter (fun x => lines_Number_L0 r x) 0).bind fun s4 =>
   s4.elim (fun s5 =>
    (atoiT s).bind fun r2 =>
    Option.bind (α := Bool) (
      bif r2.2 then (
       some true)
      else (
       bif decide (r2.1 < (-9007199254740992)) then (
        some true)
       else (
        some (decide (9007199254740992 < r2.1))))) fun s7 =>
    bif s7 then (
     some (0, 1))
    else (
     some (r2.1, 0)))
   (fun s6 =>
    some (s6.1, s6.2)))

noncomputable def fn_lines_Number : Fun :=
  { f := 59, np := 1, nr := 2,
    ji := { regs := [(0, .one (.data (.str)))], vars := [], arrs := [] },
    jo := { regs := [(0, .one (.data (.int .i64))), (1, .one (.data (.int .i64)))], vars := [], arrs := [] },
    tw := fun x => lines_Number x }
noncomputable def cx_lines_Number : Cx := { Γ := types, ow := [], fs := [fn_strings_TrimPrefix, fn_strconv_Atoi], N := 53 }
theorem ok_lines_Number : FunOk Tryz.prog fn_lines_Number :=
  FunOk.intro (C := cx_lines_Number) (p := (.mk [] none .nil (.mk [] none .nil (.mk [] none (.mk [] none (.mk [.join [{ e := .n, j := { regs := [(0, .one .keep), (4, .one .keep), (20, .one (.data (.bool)))], vars := [], arrs := [] } }]] none .nil .nil) .nil) (.mk [] none (.mk [] none .nil (.mk [] none (.mk [] (some ({ regs := [(0, .one .keep), (4, .one .keep), (22, .one .keep), (23, .one (.data (.int .i64)))], vars := [], arrs := [] }, [{ e := .x 0, j := { regs := [(0, .one .keep)], vars := [], arrs := [] } }, { e := .r, j := { regs := [(2, .one (.data (.int .i64))), (3, .one (.data (.int .i64)))], vars := [], arrs := [] } }])) (.mk [] none .nil (.mk [] none .nil (.mk [] none (.mk [] none (.mk [] none .nil (.mk [] none (.mk [.join [{ e := .n, j := { regs := [(0, .one .keep), (4, .one .keep), (22, .one .keep), (23, .one .keep), (35, .one (.data (.bool)))], vars := [], arrs := [] } }]] none .nil .nil) .nil)) .nil) .nil))) .nil) .nil)) (.mk [] none .nil (.mk [] none (.mk [] none (.mk [.join [{ e := .n, j := { regs := [(6, .one .keep), (51, .one (.data (.bool)))], vars := [], arrs := [] } }]] none .nil .nil) .nil) .nil)))))))
    Tryz.func59 rfl nmr59 rfl rfl rfl rfl types_ok ⟨⟨ok_strings_TrimPrefix, ok_strconv_Atoi, trivial⟩, trivial⟩ mx (fun x => by kernel_rfl)

noncomputable def nomination_read (w : List (List UInt8)) : Option ((List UInt8 × List UInt8 × List UInt8 × List UInt8 × Int × Int) × Int) :=
  Option.bind (α := Bool) (
    bif !decide ((w.length : Int) = 7) then (
     some true)
    else (
     gd (inB 0 w.length) <|
     some (!decide (w.getD 0 [] = [110, 111, 109, 105, 110, 97, 116, 101])))) fun s =>
  bif s then (
   some (([], ([], ([], ([], (0, 0))))), 3))
  else (
   gd (inB 1 w.length) <|
   (lines_Number (w.getD 1 [])).bind fun r =>
   gd (inB 6 w.length) <|
   (lines_Number (w.getD 6 [])).bind fun r2 =>
   Option.bind (α := Bool) (
     bif !decide (r.2 = 0) then (
      some true)
     else (
      some (!decide (r2.2 = 0)))) fun s2 =>
   bif s2 then (
    some (([], ([], ([], ([], (0, 0))))), 3))
   else (
    gd (inB 2 w.length) <|
    gd (inB 3 w.length) <|
    gd (inB 4 w.length) <|
    gd (inB 5 w.length) <|
    (nomination_valid (w.getD 2 [], (w.getD 3 [], (w.getD 4 [], (w.getD 5 [], (r.1, r2.1)))))).bind fun r3 =>
    bif !r3 then (
     some (([], ([], ([], ([], (0, 0))))), 9))
    else (
     some ((w.getD 2 [], (w.getD 3 [], (w.getD 4 [], (w.getD 5 [], (r.1, r2.1))))), 0))))

noncomputable def fn_nomination_read : Fun :=
  { f := 34, np := 1, nr := 2,
    ji := { regs := [(0, .one (.data (.sl (.str))))], vars := [], arrs := [] },
    jo := { regs := [(0, .one (.data (.pair (.str) (.pair (.str) (.pair (.str) (.pair (.str) (.pair (.int .i64) (.int .i64)))))))), (1, .one (.data (.int .i64)))], vars := [], arrs := [] },
    tw := fun x => nomination_read x }
noncomputable def cx_nomination_read : Cx := { Γ := types, ow := [], fs := [fn_lines_Number, fn_nomination_valid], N := 60 }
theorem ok_nomination_read : FunOk Tryz.prog fn_nomination_read :=
  FunOk.intro (C := cx_nomination_read) (p := (.mk [] none .nil (.mk [] none (.mk [] none (.mk [.join [{ e := .n, j := { regs := [(0, .one .keep), (2, .one (.ptr 48 0)), (17, .one (.data (.bool)))], vars := [(48, 28, [.keep, .keep, .keep, .keep, .keep, .keep])], arrs := [] } }]] none .nil .nil) .nil) (.mk [] none .nil (.mk [] none .nil (.mk [] none (.mk [] none (.mk [.join [{ e := .n, j := { regs := [(0, .one .keep), (2, .one (.ptr 48 0)), (4, .one .keep), (6, .one .keep), (38, .one (.data (.bool)))], vars := [(48, 28, [.keep, .keep, .keep, .keep, .keep, .keep])], arrs := [] } }]] none .nil .nil) .nil) .nil))))))
    Tryz.func34 rfl nmr34 rfl rfl rfl rfl types_ok ⟨⟨ok_lines_Number, ok_nomination_valid, trivial⟩, trivial⟩ mx (fun x => by kernel_rfl)

noncomputable def nomination_Parse_L0 (r : List (List (List UInt8)) × Int) (v : Int) (out : List (List UInt8 × List UInt8 × List UInt8 × List UInt8 × Int × Int)) : Option ((Int × List (List UInt8 × List UInt8 × List UInt8 × List UInt8 × Int × Int)) ⊕ ((List (List UInt8 × List UInt8 × List UInt8 × List UInt8 × Int × Int)) ⊕ ((List (List UInt8 × List UInt8 × List UInt8 × List UInt8 × Int × Int)) × Int × Int))) :=
  bif decide (v < (r.1.length : Int)) then (
   Option.bind (α := (List (List UInt8 × List UInt8 × List UInt8 × List UInt8 × Int × Int)) ⊕ ((List (List UInt8 × List UInt8 × List UInt8 × List UInt8 × Int × Int)) × Int × Int)) (
     gd (inB v r.1.length) <|
     bif decide (((r.1.getD v.toNat []).length : Int) = 0) then (
      some (.inl out))
     else (
      (nomination_read (r.1.getD v.toNat [])).bind fun r2 =>
      bif !decide (r2.2 = 0) then (
       some (.inr ([], wi64 (v + 1), r2.2)))
      else (
       gd (fits (out.length + 1) 80) <|
       some (.inl (out ++ [(r2.1.1, (r2.1.2.1, (r2.1.2.2.1, (r2.1.2.2.2.1, (r2.1.2.2.2.2.1, r2.1.2.2.2.2.2)))))]))))) fun s =>
   s.elim (fun s2 =>
    some (.inl (wi64 (v + 1), s2)))
   (fun s3 =>
    some (.inr (.inr (s3.1, s3.2.1, s3.2.2)))))
  else (
   some (.inr (.inl out)))

noncomputable def nomination_Parse (text : List UInt8) : Option ((List (List UInt8 × List UInt8 × List UInt8 × List UInt8 × Int × Int)) × Int × Int) :=
  (lines_Split text).bind fun r =>
  bif !decide (r.2 = 0) then (
   some ([], 0, r.2))
  else (
   (iter (fun x => nomination_Parse_L0 r x.1 x.2) (0, [])).bind fun s4 =>
   s4.elim (fun s5 =>
    some (s5, 0, 0))
   (fun s6 =>
    some (s6.1, s6.2.1, s6.2.2)))

noncomputable def fn_nomination_Parse : Fun :=
  { f := 18, np := 1, nr := 3,
    ji := { regs := [(0, .one (.data (.str)))], vars := [], arrs := [] },
    jo := { regs := [(0, .one (.data (.sl (.pair (.str) (.pair (.str) (.pair (.str) (.pair (.str) (.pair (.int .i64) (.int .i64))))))))), (1, .one (.data (.int .i64))), (2, .one (.data (.int .i64)))], vars := [], arrs := [] },
    tw := fun x => nomination_Parse x }
noncomputable def cx_nomination_Parse : Cx := { Γ := types, ow := [], fs := [fn_lines_Split, fn_nomination_read], N := 46 }
theorem ok_nomination_Parse : FunOk Tryz.prog fn_nomination_Parse :=
  FunOk.intro (C := cx_nomination_Parse) (p := (.mk [] none .nil (.mk [] none .nil (.mk [] none .nil (.mk [] none .nil (.mk [] none (.mk [] none .nil (.mk [] none (.mk [] (some ({ regs := [(7, .one (.own 139)), (20, .one .keep), (21, .one .keep), (22, .one (.data (.int .i64)))], vars := [], arrs := [(139, .arr 28 (.pair (.str) (.pair (.str) (.pair (.str) (.pair (.str) (.pair (.int .i64) (.int .i64)))))))] }, [{ e := .x 0, j := { regs := [(7, .one (.own 139))], vars := [], arrs := [(139, .arr 28 (.pair (.str) (.pair (.str) (.pair (.str) (.pair (.str) (.pair (.int .i64) (.int .i64)))))))] } }, { e := .r, j := { regs := [(2, .one (.data (.sl (.pair (.str) (.pair (.str) (.pair (.str) (.pair (.str) (.pair (.int .i64) (.int .i64))))))))), (3, .one (.data (.int .i64))), (4, .one (.data (.int .i64)))], vars := [], arrs := [] } }])) (.mk [] none .nil (.mk [] none .nil (.mk [] none (.mk [.join [{ e := .n, j := { regs := [(7, .one (.own 139)), (20, .one .keep), (21, .one .keep), (22, .one .keep)], vars := [], arrs := [(139, .arr 28 (.pair (.str) (.pair (.str) (.pair (.str) (.pair (.str) (.pair (.int .i64) (.int .i64)))))))] } }, { e := .r, j := { regs := [(2, .one (.data (.sl (.pair (.str) (.pair (.str) (.pair (.str) (.pair (.str) (.pair (.int .i64) (.int .i64))))))))), (3, .one (.data (.int .i64))), (4, .one (.data (.int .i64)))], vars := [], arrs := [] } }]] none .nil .nil) .nil))) .nil) .nil)) .nil))))))
    Tryz.func18 rfl nmr18 rfl rfl rfl rfl types_ok ⟨⟨ok_lines_Split, ok_nomination_read, trivial⟩, trivial⟩ mx (fun x => by kernel_rfl)

noncomputable def law11_awake : Option (Bool) :=
  (nomination_Parse [110, 111, 109, 105, 110, 97, 116, 101, 32, 51, 32, 97, 99, 109, 101, 32, 100, 105, 101, 115, 101, 108, 32, 112, 111, 114, 116, 97, 32, 112, 111, 114, 116, 98, 32, 53, 48, 48, 48, 48, 10]).bind fun r =>
  (nomination_Parse [110, 111, 109, 105, 110, 97, 116, 101, 32, 51, 32, 97, 99, 109, 101, 32, 100, 105, 101, 115, 101, 108, 32, 112, 111, 114, 116, 97, 32, 112, 111, 114, 116, 98, 32, 48]).bind fun r2 =>
  bif decide (r.2.2 = 0) then (
   bif decide (r.2.1 = 0) then (
    (ref11_Same r.1 [([97, 99, 109, 101], ([100, 105, 101, 115, 101, 108], ([112, 111, 114, 116, 97], ([112, 111, 114, 116, 98], (3, 50000)))))]).bind fun r3 =>
    bif r3 then (
     bif decide (r2.2.1 = 1) then (
      some (decide (r2.2.2 = 9)))
     else (
      some false))
    else (
     some false))
   else (
    some false))
  else (
   some false)

noncomputable def fn_law11_awake : Fun :=
  { f := 11, np := 0, nr := 1,
    ji := { regs := [], vars := [], arrs := [] },
    jo := { regs := [(0, .one (.data (.bool)))], vars := [], arrs := [] },
    tw := fun x => law11_awake }
noncomputable def cx_law11_awake : Cx := { Γ := types, ow := [], fs := [fn_nomination_Parse, fn_ref11_Same], N := 37 }
theorem ok_law11_awake : FunOk Tryz.prog fn_law11_awake :=
  FunOk.intro (C := cx_law11_awake) (p := .nil)
    Tryz.func11 rfl nmr11 rfl rfl rfl rfl types_ok ⟨⟨ok_nomination_Parse, ok_ref11_Same, trivial⟩, trivial⟩ mx (fun x => by kernel_rfl)

noncomputable def law11_NominationTotals_L0 (turn : Int) (r2 : List Int × Int × List (List UInt8 × List UInt8 × List UInt8 × List UInt8 × Int × Int)) (v : Int) (a : List (List UInt8 × List UInt8 × List UInt8 × List UInt8 × Int × Int)) (b : List (List UInt8 × List UInt8 × List UInt8 × List UInt8 × Int × Int)) : Option ((Int × (List (List UInt8 × List UInt8 × List UInt8 × List UInt8 × Int × Int)) × List (List UInt8 × List UInt8 × List UInt8 × List UInt8 × Int × Int)) ⊕ ((List (List UInt8 × List UInt8 × List UInt8 × List UInt8 × Int × Int)) × List (List UInt8 × List UInt8 × List UInt8 × List UInt8 × Int × Int))) :=
  bif decide (v < (r2.2.2.length : Int)) then (
   gd (!decide ((a.length : Int) = 0)) <|
   gd (inB (Int.tmod (wi64 (v + (wi64 turn))) (a.length : Int)) a.length) <|
   gd (fits (b.length + 1) 80) <|
   some (.inl (wi64 (v + 1), a, b ++ [((a.getD ((Int.tmod (wi64 (v + (wi64 turn))) (a.length : Int)).toNat) ([], ([], ([], ([], (0, 0)))))).1, (((a.getD ((Int.tmod (wi64 (v + (wi64 turn))) (a.length : Int)).toNat) ([], ([], ([], ([], (0, 0)))))).2).1, ((((a.getD ((Int.tmod (wi64 (v + (wi64 turn))) (a.length : Int)).toNat) ([], ([], ([], ([], (0, 0)))))).2).2).1, (((((a.getD ((Int.tmod (wi64 (v + (wi64 turn))) (a.length : Int)).toNat) ([], ([], ([], ([], (0, 0)))))).2).2).2).1, ((((((a.getD ((Int.tmod (wi64 (v + (wi64 turn))) (a.length : Int)).toNat) ([], ([], ([], ([], (0, 0)))))).2).2).2).2).1, (((((a.getD ((Int.tmod (wi64 (v + (wi64 turn))) (a.length : Int)).toNat) ([], ([], ([], ([], (0, 0)))))).2).2).2).2).2)))))])))
  else (
   some (.inr (a, b)))

noncomputable def law11_NominationTotals_L1 (r3 : (List (List UInt8 × List UInt8 × List UInt8 × List UInt8 × Int × Int)) × Int) (sum : Int) (v2 : Int) : Option ((Int × Int) ⊕ (Int ⊕ Bool)) :=
  bif decide (v2 < (r3.1.length : Int)) then (
   gd (inB v2 r3.1.length) <|
   Option.bind (α := Bool) (
     bif decide (0 < v2) then (
      gd (inB (wi64 (v2 - 1)) r3.1.length) <|
      gd (inB v2 r3.1.length) <|
      (ref11_Cmp (r3.1.getD (wi64 (v2 - 1)).toNat ([], ([], ([], ([], (0, 0)))))) (r3.1.getD v2.toNat ([], ([], ([], ([], (0, 0))))))).bind fun r8 =>
      some (decide (0 ≤ r8)))
     else (
      some false)) fun s3 =>
   bif s3 then (
    some (.inr (.inr false)))
   else (
    some (.inl (wi64 (sum + ((((((r3.1.getD v2.toNat ([], ([], ([], ([], (0, 0)))))).2).2).2).2).2)), wi64 (v2 + 1)))))
  else (
   some (.inr (.inl sum)))

noncomputable def law11_NominationTotals_L2 (s : (List (List UInt8 × List UInt8 × List UInt8 × List UInt8 × Int × Int)) × List (List UInt8 × List UInt8 × List UInt8 × List UInt8 × Int × Int)) (sum2 : Int) (v3 : Int) : Option ((Int × Int) ⊕ Int) :=
  bif decide (v3 < (s.1.length : Int)) then (
   gd (inB v3 s.1.length) <|
   some (.inl (wi64 (sum2 - ((((((s.1.getD v3.toNat ([], ([], ([], ([], (0, 0)))))).2).2).2).2).2)), wi64 (v3 + 1))))
  else (
   some (.inr sum2))

noncomputable def law11_NominationTotals (l : List Int) (turn : Int) : Option (Bool) :=
  (keep_New l).bind fun r =>
  (law11_made r.1 r.2).bind fun r2 =>
  (iter (fun x => law11_NominationTotals_L0 turn r2 x.1 x.2.1 x.2.2) (0, r2.2.2, [])).bind fun s =>
  (nomination_Totals s.1).bind fun r3 =>
  (nomination_Totals s.2).bind fun r4 =>
  (nomination_Totals r3.1).bind fun r5 =>
  Option.bind (α := Bool) (
    bif !decide (r3.2 = 0) then (
     some true)
    else (
     bif !decide (r4.2 = 0) then (
      some true)
     else (
      bif !decide (r5.2 = 0) then (
       some true)
      else (
       (ref11_Same r3.1 r4.1).bind fun r6 =>
       bif !r6 then (
        some true)
       else (
        (ref11_Same r3.1 r5.1).bind fun r7 =>
        bif !r7 then (
         some true)
        else (
         some (decide ((s.1.length : Int) < (r3.1.length : Int))))))))) fun s2 =>
  bif s2 then (
   some false)
  else (
   (iter (fun x2 => law11_NominationTotals_L1 r3 x2.1 x2.2) (0, 0)).bind fun s4 =>
   s4.elim (fun s5 =>
    (iter (fun x3 => law11_NominationTotals_L2 s x3.1 x3.2) (s5, 0)).bind fun s7 =>
    bif decide (s7 = 0) then (
     (law11_awake).bind fun r9 =>
     some r9)
    else (
     some false))
   (fun s6 =>
    some s6))

noncomputable def fn_law11_NominationTotals : Fun :=
  { f := 3, np := 2, nr := 1,
    ji := { regs := [(0, .one (.data (.sl (.int .i64)))), (1, .one (.data (.int .u8)))], vars := [], arrs := [] },
    jo := { regs := [(0, .one (.data (.bool)))], vars := [], arrs := [] },
    tw := fun x => law11_NominationTotals x.1 x.2 }
noncomputable def cx_law11_NominationTotals : Cx := { Γ := types, ow := [], fs := [fn_keep_New, fn_law11_made, fn_nomination_Totals, fn_ref11_Same, fn_ref11_Cmp, fn_law11_awake], N := 129 }
theorem ok_law11_NominationTotals : FunOk Tryz.prog fn_law11_NominationTotals :=
  FunOk.intro (C := cx_law11_NominationTotals) (p := (.mk [] none .nil (.mk [] none .nil (.mk [] none .nil (.mk [] none (.mk [] none .nil (.mk [] none (.mk [] (some ({ regs := [(1, .one .keep), (5, .one (.own 320)), (6, .one (.own 123)), (21, .one .keep), (22, .one (.data (.int .i64)))], vars := [], arrs := [(320, .arr 28 (.pair (.str) (.pair (.str) (.pair (.str) (.pair (.str) (.pair (.int .i64) (.int .i64))))))), (123, .arr 28 (.pair (.str) (.pair (.str) (.pair (.str) (.pair (.str) (.pair (.int .i64) (.int .i64)))))))] }, [{ e := .x 0, j := { regs := [(5, .one (.own 320)), (6, .one (.own 123))], vars := [], arrs := [(320, .arr 28 (.pair (.str) (.pair (.str) (.pair (.str) (.pair (.str) (.pair (.int .i64) (.int .i64))))))), (123, .arr 28 (.pair (.str) (.pair (.str) (.pair (.str) (.pair (.str) (.pair (.int .i64) (.int .i64)))))))] } }])) .nil .nil) .nil)) (.mk [] none (.mk [.fz [5]] none .nil .nil) (.mk [] none (.mk [.fz [6]] none .nil .nil) (.mk [] none .nil (.mk [] none (.mk [] none (.mk [.join [{ e := .n, j := { regs := [(5, .one .keep), (8, .one .keep), (82, .one (.data (.bool)))], vars := [], arrs := [] } }]] none .nil .nil) .nil) (.mk [] none .nil (.mk [] none (.mk [] none .nil (.mk [] none (.mk [] (some ({ regs := [(5, .one .keep), (8, .one .keep), (14, .one (.data (.int .i64))), (84, .one .keep), (85, .one (.data (.int .i64)))], vars := [], arrs := [] }, [{ e := .x 2, j := { regs := [(5, .one .keep), (14, .one (.data (.int .i64)))], vars := [], arrs := [] } }, { e := .r, j := { regs := [(4, .one (.data (.bool)))], vars := [], arrs := [] } }])) (.mk [] none .nil (.mk [] none .nil (.mk [] none (.mk [] none (.mk [] none .nil (.mk [] none .nil (.mk [] none (.mk [.join [{ e := .n, j := { regs := [(5, .one .keep), (8, .one .keep), (14, .one .keep), (84, .one .keep), (85, .one .keep), (109, .one (.data (.bool)))], vars := [], arrs := [] } }]] none .nil .nil) .nil))) .nil) .nil))) .nil) .nil)) (.mk [] none (.mk [] none .nil (.mk [] none (.mk [] (some ({ regs := [(5, .one .keep), (14, .one (.data (.int .i64))), (112, .one .keep), (113, .one (.data (.int .i64)))], vars := [], arrs := [] }, [{ e := .x 4, j := { regs := [(14, .one (.data (.int .i64)))], vars := [], arrs := [] } }])) .nil .nil) .nil)) .nil))))))))))))
    Tryz.func3 rfl nmr3 rfl rfl rfl rfl types_ok ⟨⟨ok_keep_New, ok_law11_made, ok_nomination_Totals, ok_ref11_Same, ok_ref11_Cmp, ok_law11_awake, trivial⟩, trivial⟩ mx (fun x => by kernel_rfl)

noncomputable def law11_NominationParts (l : List Int) (m : List Int) : Option (Bool) :=
  (keep_New l).bind fun r =>
  (law11_made r.1 r.2).bind fun r2 =>
  (keep_New m).bind fun r3 =>
  (law11_made r3.1 r3.2).bind fun r4 =>
  (nomination_Totals r2.2.2).bind fun r5 =>
  (nomination_Totals r4.2.2).bind fun r6 =>
  gd (fits (0 + r2.2.2.length) 80) <|
  gd (fits (([] ++ r2.2.2).length + r4.2.2.length) 80) <|
  (nomination_Totals (([] ++ r2.2.2) ++ r4.2.2)).bind fun r7 =>
  gd (fits (0 + r5.1.length) 80) <|
  gd (fits (([] ++ r5.1).length + r6.1.length) 80) <|
  (nomination_Totals (([] ++ r5.1) ++ r6.1)).bind fun r8 =>
  bif decide (r5.2 = 0) then (
   bif decide (r6.2 = 0) then (
    bif decide (r7.2 = 0) then (
     bif decide (r8.2 = 0) then (
      (ref11_Same r7.1 r8.1).bind fun r9 =>
      bif r9 then (
       (law11_awake).bind fun r10 =>
       some r10)
      else (
       some false))
     else (
      some false))
    else (
     some false))
   else (
    some false))
  else (
   some false)

noncomputable def fn_law11_NominationParts : Fun :=
  { f := 4, np := 2, nr := 1,
    ji := { regs := [(0, .one (.data (.sl (.int .i64)))), (1, .one (.data (.sl (.int .i64))))], vars := [], arrs := [] },
    jo := { regs := [(0, .one (.data (.bool)))], vars := [], arrs := [] },
    tw := fun x => law11_NominationParts x.1 x.2 }
noncomputable def cx_law11_NominationParts : Cx := { Γ := types, ow := [32, 41], fs := [fn_keep_New, fn_law11_made, fn_nomination_Totals, fn_ref11_Same, fn_law11_awake], N := 71 }
theorem ok_law11_NominationParts : FunOk Tryz.prog fn_law11_NominationParts :=
  FunOk.intro (C := cx_law11_NominationParts) (p := (.mk [] none .nil (.mk [] none .nil (.mk [] none (.mk [.fz [5]] none .nil .nil) (.mk [] none (.mk [.fz [6]] none .nil .nil) .nil)))))
    Tryz.func4 rfl nmr4 rfl rfl rfl rfl types_ok ⟨⟨ok_keep_New, ok_law11_made, ok_nomination_Totals, ok_ref11_Same, ok_law11_awake, trivial⟩, trivial⟩ mx (fun x => by kernel_rfl)

noncomputable def law11_odd (d : List Int) (d2 : Int) (l : List (List UInt8 × List UInt8 × List UInt8 × List UInt8 × Int × Int)) : Option ((List (List UInt8 × List UInt8 × List UInt8 × List UInt8 × Int × Int)) × List Int × Int × List (List UInt8 × List UInt8 × List UInt8 × List UInt8 × Int × Int)) :=
  gd (fits (0 + l.length) 80) <|
  bif decide ((([] ++ l).length : Int) = 0) then (
   some ([([], ([], ([], ([], (0, 0)))))], d, d2, l))
  else (
   (keep_Src_N (([] ++ l).length : Int) d d2).bind fun r =>
   gd (inB r.1 ([] ++ l).length) <|
   (keep_Src_N 5 r.2.1 r.2.2).bind fun r2 =>
   bif decide (r2.1 = 0) then (
    (keep_Src_Text ([[], [65], [97, 32, 98]] : List (List UInt8)) r2.2.1 r2.2.2).bind fun r3 =>
    some (([] ++ l).set r.1.toNat (r3.1, (([] ++ l).getD r.1.toNat ([], ([], ([], ([], (0, 0)))))).2), r3.2.1, r3.2.2, l))
   else (
    bif decide (r2.1 = 1) then (
     some (([] ++ l).set r.1.toNat ((([] ++ l).getD r.1.toNat ([], ([], ([], ([], (0, 0)))))).1, (((([] ++ l).getD r.1.toNat ([], ([], ([], ([], (0, 0)))))).2).1, ((((([] ++ l).getD r.1.toNat ([], ([], ([], ([], (0, 0)))))).2).2).1, ((((([] ++ l).getD r.1.toNat ([], ([], ([], ([], (0, 0)))))).2).2).1, ((((([] ++ l).getD r.1.toNat ([], ([], ([], ([], (0, 0)))))).2).2).2).2)))), r2.2.1, r2.2.2, l))
    else (
     bif decide (r2.1 = 2) then (
      (keep_Src_Pick [(-1), 1000000, 1000001] r2.2.1 r2.2.2).bind fun r4 =>
      some (([] ++ l).set r.1.toNat ((([] ++ l).getD r.1.toNat ([], ([], ([], ([], (0, 0)))))).1, (((([] ++ l).getD r.1.toNat ([], ([], ([], ([], (0, 0)))))).2).1, ((((([] ++ l).getD r.1.toNat ([], ([], ([], ([], (0, 0)))))).2).2).1, (((((([] ++ l).getD r.1.toNat ([], ([], ([], ([], (0, 0)))))).2).2).2).1, (r4.1, (((((([] ++ l).getD r.1.toNat ([], ([], ([], ([], (0, 0)))))).2).2).2).2).2))))), r4.2.1, r4.2.2, l))
     else (
      bif decide (r2.1 = 3) then (
       (keep_Src_Pick [0, (-1), 1099511627776, 1099511627777] r2.2.1 r2.2.2).bind fun r5 =>
       some (([] ++ l).set r.1.toNat ((([] ++ l).getD r.1.toNat ([], ([], ([], ([], (0, 0)))))).1, (((([] ++ l).getD r.1.toNat ([], ([], ([], ([], (0, 0)))))).2).1, ((((([] ++ l).getD r.1.toNat ([], ([], ([], ([], (0, 0)))))).2).2).1, (((((([] ++ l).getD r.1.toNat ([], ([], ([], ([], (0, 0)))))).2).2).2).1, ((((((([] ++ l).getD r.1.toNat ([], ([], ([], ([], (0, 0)))))).2).2).2).2).1, r5.1))))), r5.2.1, r5.2.2, l))
      else (
       some (([] ++ l).set r.1.toNat ((([] ++ l).getD r.1.toNat ([], ([], ([], ([], (0, 0)))))).1, ([120, 45, 49], ((([] ++ l).getD r.1.toNat ([], ([], ([], ([], (0, 0)))))).2).2)), r2.2.1, r2.2.2, l))))))

noncomputable def fn_law11_odd : Fun :=
  { f := 12, np := 2, nr := 1,
    ji := { regs := [(0, .one (.ptr 0 0)), (1, .one (.own 1))], vars := [(0, 50, [.data (.sl (.int .i64)), .data (.int .i64)])], arrs := [(1, .arr 28 (.pair (.str) (.pair (.str) (.pair (.str) (.pair (.str) (.pair (.int .i64) (.int .i64)))))))] },
    jo := { regs := [(0, .one (.data (.sl (.pair (.str) (.pair (.str) (.pair (.str) (.pair (.str) (.pair (.int .i64) (.int .i64)))))))))], vars := [(0, 50, [.data (.sl (.int .i64)), .data (.int .i64)])], arrs := [(1, .arr 28 (.pair (.str) (.pair (.str) (.pair (.str) (.pair (.str) (.pair (.int .i64) (.int .i64)))))))] },
    tw := fun x => law11_odd x.1 x.2.1 x.2.2 }
noncomputable def cx_law11_odd : Cx := { Γ := types, ow := [6], fs := [fn_keep_Src_N, fn_keep_Src_Text, fn_keep_Src_Pick], N := 59 }
theorem ok_law11_odd : FunOk Tryz.prog fn_law11_odd :=
  FunOk.intro (C := cx_law11_odd) (p := .nil)
    Tryz.func12 rfl nmr12 rfl rfl rfl rfl types_ok ⟨⟨ok_keep_Src_N, ok_keep_Src_Text, ok_keep_Src_Pick, trivial⟩, trivial⟩ mx (fun x => by kernel_rfl)

noncomputable def fn_strconv_Itoa : Fun := funItoa 25
theorem ok_strconv_Itoa : FunOk Tryz.prog fn_strconv_Itoa := itoa_ok ⟨_, Tryz.func25, nmr25, rfl⟩ (by kernel_rfl) Tryz.strconv_Itoa (by unfold globs; exact .head _) (by kernel_rfl) (by kernel_rfl)

noncomputable def fn_strings_Join : Fun := funJoin 47
theorem ok_strings_Join : FunOk Tryz.prog fn_strings_Join := join_ok ⟨_, Tryz.func47, nmr47, rfl⟩ Tryz.strings_Join_none Tryz.strings_Join

def ccT (l : List Int) : Option (List Int) := some l
noncomputable def fn_strings_Builder_copyCheck : Fun := funCC 76 76 5
theorem ok_strings_Builder_copyCheck : FunOk Tryz.prog fn_strings_Builder_copyCheck := cc_ok ⟨_, Tryz.func76, nmr76, rfl⟩ Tryz.cc_fresh Tryz.cc_used

noncomputable def strings_Builder_WriteString (s : List UInt8) (b : List Int) : Option (Int × Bool × List Int) :=
  (ccT b).bind fun r =>
  gd (Nat.blt 0 s.length && fits (r.length + s.length) 1) <|
  some ((s.length : Int), false, r ++ ofBytes s)

noncomputable def fn_strings_Builder_WriteString : Fun :=
  { f := 46, np := 2, nr := 2,
    ji := { regs := [(0, .one (.ptr 0 0)), (1, .one (.data (.str)))], vars := [(0, 76, [.nptr 0 0, .own 1])], arrs := [(1, .arr 5 (.int .u8))] },
    jo := { regs := [(0, .one (.data (.int .i64))), (1, .one (.data (.err)))], vars := [(0, 76, [.ptr 0 0, .own 2])], arrs := [(2, .arr 5 (.int .u8))] },
    tw := fun x => strings_Builder_WriteString x.1 x.2 }
noncomputable def cx_strings_Builder_WriteString : Cx := { Γ := types, ow := [], fs := [fn_strings_Builder_copyCheck], N := 19 }
theorem ok_strings_Builder_WriteString : FunOk Tryz.prog fn_strings_Builder_WriteString :=
  FunOk.intro (C := cx_strings_Builder_WriteString) (p := .nil)
    Tryz.func46 rfl nmr46 rfl rfl rfl rfl types_ok ⟨⟨ok_strings_Builder_copyCheck, trivial⟩, trivial⟩ mx (fun x => by kernel_rfl)

noncomputable def strings_Builder_Len (b : List Int) : Option (Int × List Int) :=
  some ((b.length : Int), b)

noncomputable def fn_strings_Builder_Len : Fun :=
  { f := 48, np := 1, nr := 1,
    ji := { regs := [(0, .one (.ptr 0 0))], vars := [(0, 76, [.nptr 0 0, .own 1])], arrs := [(1, .arr 5 (.int .u8))] },
    jo := { regs := [(0, .one (.data (.int .i64)))], vars := [(0, 76, [.nptr 0 0, .own 1])], arrs := [(1, .arr 5 (.int .u8))] },
    tw := fun x => strings_Builder_Len x }
noncomputable def cx_strings_Builder_Len : Cx := { Γ := types, ow := [], fs := [], N := 8 }
theorem ok_strings_Builder_Len : FunOk Tryz.prog fn_strings_Builder_Len :=
  FunOk.intro (C := cx_strings_Builder_Len) (p := .nil)
    Tryz.func48 rfl nmr48 rfl rfl rfl rfl types_ok ⟨trivial, trivial⟩ mx (fun x => by kernel_rfl)

noncomputable def strings_Builder_String (b : List Int) : Option (List UInt8) :=
  gd (Nat.blt 0 b.length) <|
  gd (Nat.blt 0 b.length && (decide ((b.length : Int) = (b.length : Int)) && decide (ofBytes (toBytes b) = b))) <|
  some (toBytes b)

noncomputable def fn_strings_Builder_String : Fun :=
  { f := 49, np := 1, nr := 1,
    ji := { regs := [(0, .one (.ptr 0 0))], vars := [(0, 76, [.nptr 0 0, .own 1])], arrs := [(1, .arr 5 (.int .u8))] },
    jo := { regs := [(0, .one (.data (.str)))], vars := [], arrs := [] },
    tw := fun x => strings_Builder_String x }
noncomputable def cx_strings_Builder_String : Cx := { Γ := types, ow := [], fs := [], N := 14 }
theorem ok_strings_Builder_String : FunOk Tryz.prog fn_strings_Builder_String :=
  FunOk.intro (C := cx_strings_Builder_String) (p := .nil)
    Tryz.func49 rfl nmr49 rfl rfl rfl rfl types_ok ⟨trivial, trivial⟩ mx (fun x => by kernel_rfl)

noncomputable def strings_Builder_String_nil : Option (List UInt8) :=
  gd (decide (0 = 0)) <|
  some []

noncomputable def fn_strings_Builder_String_nil : Fun :=
  { f := 49, np := 1, nr := 1,
    ji := { regs := [(0, .one (.ptr 0 0))], vars := [(0, 76, [.nptr 0 0, .nil])], arrs := [] },
    jo := { regs := [(0, .one (.data (.str)))], vars := [], arrs := [] },
    tw := fun x => strings_Builder_String_nil }
noncomputable def cx_strings_Builder_String_nil : Cx := { Γ := types, ow := [], fs := [], N := 14 }
theorem ok_strings_Builder_String_nil : FunOk Tryz.prog fn_strings_Builder_String_nil :=
  FunOk.intro (C := cx_strings_Builder_String_nil) (p := .nil)
    Tryz.func49 rfl nmr49 rfl rfl rfl rfl types_ok ⟨trivial, trivial⟩ mx (fun x => by kernel_rfl)

noncomputable def strings_Builder_Len_nil : Option (Int) :=
  some 0

noncomputable def fn_strings_Builder_Len_nil : Fun :=
  { f := 48, np := 1, nr := 1,
    ji := { regs := [(0, .one (.ptr 0 0))], vars := [(0, 76, [.nptr 0 0, .nil])], arrs := [] },
    jo := { regs := [(0, .one (.data (.int .i64)))], vars := [(0, 76, [.nptr 0 0, .nil])], arrs := [] },
    tw := fun x => strings_Builder_Len_nil }
noncomputable def cx_strings_Builder_Len_nil : Cx := { Γ := types, ow := [], fs := [], N := 8 }
theorem ok_strings_Builder_Len_nil : FunOk Tryz.prog fn_strings_Builder_Len_nil :=
  FunOk.intro (C := cx_strings_Builder_Len_nil) (p := .nil)
    Tryz.func48 rfl nmr48 rfl rfl rfl rfl types_ok ⟨trivial, trivial⟩ mx (fun x => by kernel_rfl)

noncomputable def lines_JoinE_L1 (l : List (List (List UInt8))) (v : Int) (n2 : Int) (v2 : Int) : Option ((Int × Int) ⊕ Int) :=
  bif decide (v2 < ((l.getD v.toNat []).length : Int)) then (
   gd (inB v2 (l.getD v.toNat []).length) <|
   Option.bind (α := Int) (
     bif decide (32768 < wi64 (n2 + (((l.getD v.toNat []).getD v2.toNat []).length : Int))) then (
      some 32768)
     else (
      some (wi64 (n2 + (((l.getD v.toNat []).getD v2.toNat []).length : Int))))) fun s2 =>
   some (.inl (s2, wi64 (v2 + 1))))
  else (
   some (.inr n2))

noncomputable def lines_JoinE_L0 (l : List (List (List UInt8))) (n : Int) (v : Int) : Option ((Int × Int) ⊕ (Int ⊕ (List UInt8 × Int))) :=
  bif decide (v < (l.length : Int)) then (
   gd (inB v l.length) <|
   Option.bind (α := Bool) (
     bif decide (0 < ((l.getD v.toNat []).length : Int)) then (
      (lines_words (l.getD v.toNat [])).bind fun r =>
      some (!r))
     else (
      some false)) fun s =>
   bif s then (
    some (.inr (.inr ([], 3))))
   else (
    (iter (fun x => lines_JoinE_L1 l v x.1 x.2) (wi64 (n + ((l.getD v.toNat []).length : Int)), 0)).bind fun s3 =>
    some (.inl (s3, wi64 (v + 1)))))
  else (
   some (.inr (.inl n)))

noncomputable def lines_JoinE_L2 (l : List (List (List UInt8))) (s5 : Int) (v3 : Int) : Option (Int ⊕ Unit) :=
  bif decide (v3 < (l.length : Int)) then (
   gd (inB v3 l.length) <|
   Option.bind (α := Unit) (
     bif decide (s5 < 32768) then (
      (joinT (l.getD v3.toNat []) [32]).bind fun r2 =>
      gd (Nat.ble (r2.length + [10].length) 9223372036854775807) <|
      none)
     else (
      some ())) fun s7 =>
   some (.inl (wi64 (v3 + 1))))
  else (
   some (.inr ()))

noncomputable def lines_JoinE (l : List (List (List UInt8))) : Option (List UInt8 × Int) :=
  bif decide (400 < (l.length : Int)) then (
   some ([], 4))
  else (
   (iter (fun x2 => lines_JoinE_L0 l x2.1 x2.2) (0, 0)).bind fun s4 =>
   s4.elim (fun s5 =>
    (iter (fun x3 => lines_JoinE_L2 l s5 x3) 0).bind fun s8 =>
    Option.bind (α := Bool) (
      bif decide (s5 = 32768) then (
       some true)
      else (
       (strings_Builder_Len_nil).bind fun r3 =>
       some (decide (16384 < r3)))) fun s9 =>
    bif s9 then (
     some ([], 4))
    else (
     (strings_Builder_String_nil).bind fun r4 =>
     some (r4, 0)))
   (fun s6 =>
    some (s6.1, s6.2)))

noncomputable def fn_lines_JoinE : Fun :=
  { f := 26, np := 1, nr := 2,
    ji := { regs := [(0, .one (.data (.sl (.sl (.str)))))], vars := [], arrs := [] },
    jo := { regs := [(0, .one (.data (.str))), (1, .one (.data (.int .i64)))], vars := [], arrs := [] },
    tw := fun x => lines_JoinE x }
noncomputable def cx_lines_JoinE : Cx := { Γ := types, ow := [], fs := [fn_lines_words, fn_strings_Join, fn_strings_Builder_Len_nil, fn_strings_Builder_String_nil], N := 67 }
theorem ok_lines_JoinE : FunOk Tryz.prog fn_lines_JoinE :=
  FunOk.intro (C := cx_lines_JoinE) (p := (.mk [] none .nil (.mk [] none .nil (.mk [] none .nil (.mk [] none (.mk [] none .nil (.mk [] none (.mk [] (some ({ regs := [(0, .one .keep), (4, .one (.data (.int .i64))), (15, .one .keep), (16, .one .keep), (17, .one (.data (.int .i64)))], vars := [], arrs := [] }, [{ e := .x 0, j := { regs := [(0, .one .keep), (4, .one (.data (.int .i64)))], vars := [], arrs := [] } }, { e := .r, j := { regs := [(2, .one (.data (.str))), (3, .one (.data (.int .i64)))], vars := [], arrs := [] } }])) (.mk [] none .nil (.mk [] none .nil (.mk [] none (.mk [] none (.mk [] none .nil (.mk [] none (.mk [] none (.mk [.join [{ e := .n, j := { regs := [(0, .one .keep), (4, .one .keep), (6, .one .keep), (15, .one .keep), (16, .one .keep), (17, .one .keep), (28, .one (.data (.bool)))], vars := [], arrs := [] } }]] none .nil .nil) .nil) (.mk [] none .nil (.mk [] none .nil (.mk [] none (.mk [] (some ({ regs := [(0, .one .keep), (4, .one (.data (.int .i64))), (15, .one .keep), (16, .one .keep), (17, .one .keep), (33, .one .keep), (34, .one .keep), (35, .one (.data (.int .i64)))], vars := [], arrs := [] }, [{ e := .x 2, j := { regs := [(0, .one .keep), (4, .one (.data (.int .i64))), (15, .one .keep), (16, .one .keep), (17, .one .keep)], vars := [], arrs := [] } }])) (.mk [] none .nil (.mk [] none .nil (.mk [] none (.mk [] none (.mk [] none .nil (.mk [] none .nil (.mk [] none .nil (.mk [.join [{ e := .n, j := { regs := [(0, .one .keep), (4, .one (.data (.int .i64))), (15, .one .keep), (16, .one .keep), (17, .one .keep), (33, .one .keep), (34, .one .keep), (35, .one .keep)], vars := [], arrs := [] } }]] none .nil .nil)))) .nil) .nil))) .nil) .nil))))) .nil) .nil))) .nil) .nil)) (.mk [] none .nil (.mk [] none (.mk [] none .nil (.mk [] none (.mk [] (some ({ regs := [(4, .one .keep), (9, .one (.ptr 160 0)), (47, .one .keep), (48, .one .keep), (49, .one (.data (.int .i64)))], vars := [(160, 76, [.keep, .nil])], arrs := [] }, [{ e := .x 4, j := { regs := [(4, .one .keep), (9, .one (.ptr 160 0))], vars := [(160, 76, [.keep, .nil])], arrs := [] } }])) (.mk [] none .nil (.mk [] none .nil (.mk [] none (.mk [] none (.mk [] none .nil (.mk [] none .nil (.mk [.join [{ e := .n, j := { regs := [(4, .one .keep), (9, .one (.ptr 160 0)), (47, .one .keep), (48, .one .keep), (49, .one .keep)], vars := [(160, 76, [.keep, .nil])], arrs := [] } }]] none .nil .nil))) .nil) .nil))) .nil) .nil)) (.mk [] none (.mk [] none (.mk [.join [{ e := .n, j := { regs := [(9, .one (.ptr 160 0)), (65, .one (.data (.bool)))], vars := [(160, 76, [.nptr 160 0, .nil])], arrs := [] } }]] none .nil .nil) .nil) .nil))))))))
    Tryz.func26 rfl nmr26 rfl rfl rfl rfl types_ok ⟨⟨ok_lines_words, ok_strings_Join, ok_strings_Builder_Len_nil, ok_strings_Builder_String_nil, trivial⟩, trivial⟩ mx (fun x => by kernel_rfl)

noncomputable def lines_JoinB_L1 (l : List (List (List UInt8))) (v : Int) (n2 : Int) (v2 : Int) : Option ((Int × Int) ⊕ Int) :=
  bif decide (v2 < ((l.getD v.toNat []).length : Int)) then (
   gd (inB v2 (l.getD v.toNat []).length) <|
   Option.bind (α := Int) (
     bif decide (32768 < wi64 (n2 + (((l.getD v.toNat []).getD v2.toNat []).length : Int))) then (
      some 32768)
     else (
      some (wi64 (n2 + (((l.getD v.toNat []).getD v2.toNat []).length : Int))))) fun s2 =>
   some (.inl (s2, wi64 (v2 + 1))))
  else (
   some (.inr n2))

noncomputable def lines_JoinB_L0 (l : List (List (List UInt8))) (n : Int) (v : Int) : Option ((Int × Int) ⊕ (Int ⊕ (List UInt8 × Int))) :=
  bif decide (v < (l.length : Int)) then (
   gd (inB v l.length) <|
   Option.bind (α := Bool) (
     bif decide (0 < ((l.getD v.toNat []).length : Int)) then (
      (lines_words (l.getD v.toNat [])).bind fun r =>
      some (!r))
     else (
      some false)) fun s =>
   bif s then (
    some (.inr (.inr ([], 3))))
   else (
    (iter (fun x => lines_JoinB_L1 l v x.1 x.2) (wi64 (n + ((l.getD v.toNat []).length : Int)), 0)).bind fun s3 =>
    some (.inl (s3, wi64 (v + 1)))))
  else (
   some (.inr (.inl n)))

noncomputable def lines_JoinB_L2 (l : List (List (List UInt8))) (s5 : Int) (v3 : Int) (b : List Int) : Option ((Int × List Int) ⊕ (List Int)) :=
  bif decide (v3 < (l.length : Int)) then (
   gd (inB v3 l.length) <|
   Option.bind (α := List Int) (
     bif decide (s5 < 32768) then (
      (joinT (l.getD v3.toNat []) [32]).bind fun r2 =>
      gd (Nat.ble (r2.length + [10].length) 9223372036854775807) <|
      (strings_Builder_WriteString (r2 ++ [10]) b).bind fun r3 =>
      some r3.2.2)
     else (
      some b)) fun s7 =>
   some (.inl (wi64 (v3 + 1), s7)))
  else (
   some (.inr b))

noncomputable def lines_JoinB (l : List (List (List UInt8))) : Option (List UInt8 × Int) :=
  bif decide (400 < (l.length : Int)) then (
   some ([], 4))
  else (
   (iter (fun x2 => lines_JoinB_L0 l x2.1 x2.2) (0, 0)).bind fun s4 =>
   s4.elim (fun s5 =>
    (iter (fun x3 => lines_JoinB_L2 l s5 x3.1 x3.2) (0, [])).bind fun s8 =>
    Option.bind (α := Bool × List Int) (
      bif decide (s5 = 32768) then (
       some (true, s8))
      else (
       (strings_Builder_Len s8).bind fun r4 =>
       some (decide (16384 < r4.1), r4.2))) fun s9 =>
    bif s9.1 then (
     some ([], 4))
    else (
     (strings_Builder_String s9.2).bind fun r5 =>
     some (r5, 0)))
   (fun s6 =>
    some (s6.1, s6.2)))

noncomputable def fn_lines_JoinB : Fun :=
  { f := 26, np := 1, nr := 2,
    ji := { regs := [(0, .one (.data (.sl (.sl (.str)))))], vars := [], arrs := [] },
    jo := { regs := [(0, .one (.data (.str))), (1, .one (.data (.int .i64)))], vars := [], arrs := [] },
    tw := fun x => lines_JoinB x }
noncomputable def cx_lines_JoinB : Cx := { Γ := types, ow := [], fs := [fn_lines_words, fn_strings_Join, fn_strings_Builder_WriteString, fn_strings_Builder_Len, fn_strings_Builder_String], N := 67 }
theorem ok_lines_JoinB : FunOk Tryz.prog fn_lines_JoinB :=
  FunOk.intro (C := cx_lines_JoinB) (p := (.mk [] none .nil (.mk [] none .nil (.mk [] none .nil (.mk [] none (.mk [] none .nil (.mk [] none (.mk [] (some ({ regs := [(0, .one .keep), (4, .one (.data (.int .i64))), (15, .one .keep), (16, .one .keep), (17, .one (.data (.int .i64)))], vars := [], arrs := [] }, [{ e := .x 0, j := { regs := [(0, .one .keep), (4, .one (.data (.int .i64)))], vars := [], arrs := [] } }, { e := .r, j := { regs := [(2, .one (.data (.str))), (3, .one (.data (.int .i64)))], vars := [], arrs := [] } }])) (.mk [] none .nil (.mk [] none .nil (.mk [] none (.mk [] none (.mk [] none .nil (.mk [] none (.mk [] none (.mk [.join [{ e := .n, j := { regs := [(0, .one .keep), (4, .one .keep), (6, .one .keep), (15, .one .keep), (16, .one .keep), (17, .one .keep), (28, .one (.data (.bool)))], vars := [], arrs := [] } }]] none .nil .nil) .nil) (.mk [] none .nil (.mk [] none .nil (.mk [] none (.mk [] (some ({ regs := [(0, .one .keep), (4, .one (.data (.int .i64))), (15, .one .keep), (16, .one .keep), (17, .one .keep), (33, .one .keep), (34, .one .keep), (35, .one (.data (.int .i64)))], vars := [], arrs := [] }, [{ e := .x 2, j := { regs := [(0, .one .keep), (4, .one (.data (.int .i64))), (15, .one .keep), (16, .one .keep), (17, .one .keep)], vars := [], arrs := [] } }])) (.mk [] none .nil (.mk [] none .nil (.mk [] none (.mk [] none (.mk [] none .nil (.mk [] none .nil (.mk [] none .nil (.mk [.join [{ e := .n, j := { regs := [(0, .one .keep), (4, .one (.data (.int .i64))), (15, .one .keep), (16, .one .keep), (17, .one .keep), (33, .one .keep), (34, .one .keep), (35, .one .keep)], vars := [], arrs := [] } }]] none .nil .nil)))) .nil) .nil))) .nil) .nil))))) .nil) .nil))) .nil) .nil)) (.mk [] none .nil (.mk [] none (.mk [] none .nil (.mk [] none (.mk [] (some ({ regs := [(4, .one .keep), (9, .one (.ptr 160 0)), (47, .one .keep), (48, .one .keep), (49, .one (.data (.int .i64)))], vars := [(160, 76, [.nptr 160 0, .own 2601])], arrs := [(2601, .arr 5 (.int .u8))] }, [{ e := .x 4, j := { regs := [(4, .one .keep), (9, .one (.ptr 160 0))], vars := [(160, 76, [.nptr 160 0, .own 2601])], arrs := [(2601, .arr 5 (.int .u8))] } }])) (.mk [] none .nil (.mk [] none .nil (.mk [] none (.mk [] none (.mk [] none .nil (.mk [] none .nil (.mk [.join [{ e := .n, j := { regs := [(4, .one .keep), (9, .one (.ptr 160 0)), (47, .one .keep), (48, .one .keep), (49, .one .keep)], vars := [(160, 76, [.nptr 160 0, .own 2601])], arrs := [(2601, .arr 5 (.int .u8))] } }]] none .nil .nil))) .nil) .nil))) .nil) .nil)) (.mk [] none (.mk [] none (.mk [.join [{ e := .n, j := { regs := [(9, .one (.ptr 160 0)), (65, .one (.data (.bool)))], vars := [(160, 76, [.nptr 160 0, .own 2601])], arrs := [(2601, .arr 5 (.int .u8))] } }]] none .nil .nil) .nil) .nil))))))))
    Tryz.func26 rfl nmr26 rfl rfl rfl rfl types_ok ⟨⟨ok_lines_words, ok_strings_Join, ok_strings_Builder_WriteString, ok_strings_Builder_Len, ok_strings_Builder_String, trivial⟩, trivial⟩ mx (fun x => by kernel_rfl)

noncomputable def lines_Join (l : List (List (List UInt8))) : Option (List UInt8 × Int) := bif isNilL l then lines_JoinE l else lines_JoinB l
noncomputable def fn_lines_Join : Fun := { f := fn_lines_JoinE.f, np := fn_lines_JoinE.np, nr := fn_lines_JoinE.nr, ji := fn_lines_JoinE.ji, jo := fn_lines_JoinE.jo, tw := fun x => lines_Join x }
theorem ok_lines_Join : FunOk Tryz.prog fn_lines_Join := FunOk.bif (e0 := fn_lines_JoinE) ok_lines_JoinE (c := fun x => isNilL x) (tw := fun x => lines_JoinB x) ok_lines_JoinB

noncomputable def nomination_Format_L0 (l : List (List UInt8 × List UInt8 × List UInt8 × List UInt8 × Int × Int)) (v : Int) (out : List (List (List UInt8))) : Option ((Int × List (List (List UInt8))) ⊕ (List (List (List UInt8)))) :=
  bif decide (v < (l.length : Int)) then (
   gd (inB v l.length) <|
   (itoaT ((((((l.getD v.toNat ([], ([], ([], ([], (0, 0)))))).2).2).2).2).1)).bind fun r2 =>
   (itoaT ((((((l.getD v.toNat ([], ([], ([], ([], (0, 0)))))).2).2).2).2).2)).bind fun r3 =>
   gd (fits (out.length + 1) 24) <|
   some (.inl (wi64 (v + 1), out ++ [[[110, 111, 109, 105, 110, 97, 116, 101], r2, (l.getD v.toNat ([], ([], ([], ([], (0, 0)))))).1, ((l.getD v.toNat ([], ([], ([], ([], (0, 0)))))).2).1, (((l.getD v.toNat ([], ([], ([], ([], (0, 0)))))).2).2).1, ((((l.getD v.toNat ([], ([], ([], ([], (0, 0)))))).2).2).2).1, r3]])))
  else (
   some (.inr out))

noncomputable def nomination_Format (l : List (List UInt8 × List UInt8 × List UInt8 × List UInt8 × Int × Int)) : Option (List UInt8 × Int) :=
  (nomination_Check l).bind fun r =>
  bif !decide (r = 0) then (
   some ([], r))
  else (
   (iter (fun x => nomination_Format_L0 l x.1 x.2) (0, [])).bind fun s =>
   (lines_Join s).bind fun r4 =>
   some (r4.1, r4.2))

noncomputable def fn_nomination_Format : Fun :=
  { f := 13, np := 1, nr := 2,
    ji := { regs := [(0, .one (.data (.sl (.pair (.str) (.pair (.str) (.pair (.str) (.pair (.str) (.pair (.int .i64) (.int .i64)))))))))], vars := [], arrs := [] },
    jo := { regs := [(0, .one (.data (.str))), (1, .one (.data (.int .i64)))], vars := [], arrs := [] },
    tw := fun x => nomination_Format x }
noncomputable def cx_nomination_Format : Cx := { Γ := types, ow := [], fs := [fn_nomination_Check, fn_strconv_Itoa, fn_lines_Join], N := 42 }
theorem ok_nomination_Format : FunOk Tryz.prog fn_nomination_Format :=
  FunOk.intro (C := cx_nomination_Format) (p := (.mk [] none .nil (.mk [] none .nil (.mk [] none .nil (.mk [] none (.mk [] none .nil (.mk [] none (.mk [] (some ({ regs := [(5, .one (.own 107)), (13, .one .keep), (14, .one .keep), (15, .one (.data (.int .i64)))], vars := [], arrs := [(107, .arr 42 (.sl (.str)))] }, [{ e := .x 0, j := { regs := [(5, .one (.own 107))], vars := [], arrs := [(107, .arr 42 (.sl (.str)))] } }])) .nil .nil) .nil)) .nil)))))
    Tryz.func13 rfl nmr13 rfl rfl rfl rfl types_ok ⟨⟨ok_nomination_Check, ok_strconv_Itoa, ok_lines_Join, trivial⟩, trivial⟩ mx (fun x => by kernel_rfl)

noncomputable def ref03_Name_L0 (s : List UInt8) (i : Int) : Option (Int ⊕ (Unit ⊕ Bool)) :=
  bif decide (i < (s.length : Int)) then (
   Option.bind (α := Bool) (
     gd (inB i s.length) <|
     bif decide ((Int.ofNat (s.getD i.toNat 0).toNat) < 97) then (
      gd (inB i s.length) <|
      bif decide ((Int.ofNat (s.getD i.toNat 0).toNat) < 48) then (
       gd (inB i s.length) <|
       some (!decide ((Int.ofNat (s.getD i.toNat 0).toNat) = 45)))
      else (
       gd (inB i s.length) <|
       bif decide (57 < (Int.ofNat (s.getD i.toNat 0).toNat)) then (
        gd (inB i s.length) <|
        some (!decide ((Int.ofNat (s.getD i.toNat 0).toNat) = 45)))
       else (
        some false)))
     else (
      gd (inB i s.length) <|
      bif decide (122 < (Int.ofNat (s.getD i.toNat 0).toNat)) then (
       gd (inB i s.length) <|
       bif decide ((Int.ofNat (s.getD i.toNat 0).toNat) < 48) then (
        gd (inB i s.length) <|
        some (!decide ((Int.ofNat (s.getD i.toNat 0).toNat) = 45)))
       else (
        gd (inB i s.length) <|
        bif decide (57 < (Int.ofNat (s.getD i.toNat 0).toNat)) then (
         gd (inB i s.length) <|
         some (!decide ((Int.ofNat (s.getD i.toNat 0).toNat) = 45)))
        else (
         some false)))
      else (
       some false))) fun s3 =>
   bif s3 then (
    some (.inr (.inr false)))
   else (
    some (.inl (wi64 (i + 1)))))
  else (
   some (.inr (.inl ())))

noncomputable def ref03_Name (s : List UInt8) : Option (Bool) :=
  Option.bind (α := Bool) (
    bif decide ((s.length : Int) < 1) then (
     some true)
    else (
     bif decide (12 < (s.length : Int)) then (
      some true)
     else (
      gd (inB 0 s.length) <|
      bif decide ((Int.ofNat (s.getD 0 0).toNat) < 97) then (
       some true)
      else (
       gd (inB 0 s.length) <|
       some (decide (122 < (Int.ofNat (s.getD 0 0).toNat))))))) fun s2 =>
  bif s2 then (
   some false)
  else (
   (iter (fun x => ref03_Name_L0 s x) 0).bind fun s4 =>
   s4.elim (fun s5 =>
    some true)
   (fun s6 =>
    some s6))

noncomputable def fn_ref03_Name : Fun :=
  { f := 54, np := 1, nr := 1,
    ji := { regs := [(0, .one (.data (.str)))], vars := [], arrs := [] },
    jo := { regs := [(0, .one (.data (.bool)))], vars := [], arrs := [] },
    tw := fun x => ref03_Name x }
noncomputable def cx_ref03_Name : Cx := { Γ := types, ow := [], fs := [], N := 56 }
theorem ok_ref03_Name : FunOk Tryz.prog fn_ref03_Name :=
  FunOk.intro (C := cx_ref03_Name) (p := (.mk [] none .nil (.mk [] none (.mk [] none (.mk [.join [{ e := .n, j := { regs := [(0, .one .keep), (21, .one (.data (.bool)))], vars := [], arrs := [] } }]] none .nil .nil) .nil) (.mk [] none (.mk [] none .nil (.mk [] none (.mk [] (some ({ regs := [(0, .one .keep), (3, .one (.data (.int .i64)))], vars := [], arrs := [] }, [{ e := .x 0, j := { regs := [], vars := [], arrs := [] } }, { e := .r, j := { regs := [(2, .one (.data (.bool)))], vars := [], arrs := [] } }])) (.mk [] none .nil (.mk [] none (.mk [] none (.mk [] none (.mk [.join [{ e := .n, j := { regs := [(0, .one .keep), (3, .one .keep), (55, .one (.data (.bool)))], vars := [], arrs := [] } }]] none .nil .nil) .nil) .nil) .nil)) .nil) .nil)) .nil))))
    Tryz.func54 rfl nmr54 rfl rfl rfl rfl types_ok ⟨trivial, trivial⟩ mx (fun x => by kernel_rfl)

noncomputable def ref11_Valid (n : List UInt8 × List UInt8 × List UInt8 × List UInt8 × Int × Int) : Option (Bool) :=
  (ref03_Name n.1).bind fun r =>
  bif r then (
   (ref03_Name n.2.1).bind fun r2 =>
   bif r2 then (
    (ref03_Name n.2.2.1).bind fun r3 =>
    bif r3 then (
     (ref03_Name n.2.2.2.1).bind fun r4 =>
     bif r4 then (
      bif !decide (n.2.2.1 = n.2.2.2.1) then (
       bif decide (0 ≤ n.2.2.2.2.1) then (
        bif decide (n.2.2.2.2.1 ≤ 1000000) then (
         bif decide (1 ≤ n.2.2.2.2.2) then (
          some (decide (n.2.2.2.2.2 ≤ 1099511627776)))
         else (
          some false))
        else (
         some false))
       else (
        some false))
      else (
       some false))
     else (
      some false))
    else (
     some false))
   else (
    some false))
  else (
   some false)

noncomputable def fn_ref11_Valid : Fun :=
  { f := 32, np := 1, nr := 1,
    ji := { regs := [(0, .one (.data (.pair (.str) (.pair (.str) (.pair (.str) (.pair (.str) (.pair (.int .i64) (.int .i64))))))))], vars := [], arrs := [] },
    jo := { regs := [(0, .one (.data (.bool)))], vars := [], arrs := [] },
    tw := fun x => ref11_Valid x }
noncomputable def cx_ref11_Valid : Cx := { Γ := types, ow := [], fs := [fn_ref03_Name], N := 48 }
theorem ok_ref11_Valid : FunOk Tryz.prog fn_ref11_Valid :=
  FunOk.intro (C := cx_ref11_Valid) (p := .nil)
    Tryz.func32 rfl nmr32 rfl rfl rfl rfl types_ok ⟨⟨ok_ref03_Name, trivial⟩, trivial⟩ mx (fun x => by kernel_rfl)

noncomputable def ref11_Check_L0 (l : List (List UInt8 × List UInt8 × List UInt8 × List UInt8 × Int × Int)) (v : Int) : Option (Int ⊕ (Unit ⊕ Int)) :=
  bif decide (v < (l.length : Int)) then (
   gd (inB v l.length) <|
   (ref11_Valid (l.getD v.toNat ([], ([], ([], ([], (0, 0))))))).bind fun r =>
   bif !r then (
    some (.inr (.inr 9)))
   else (
    some (.inl (wi64 (v + 1)))))
  else (
   some (.inr (.inl ())))

noncomputable def ref11_Check (l : List (List UInt8 × List UInt8 × List UInt8 × List UInt8 × Int × Int)) : Option (Int) :=
  bif decide (400 < (l.length : Int)) then (
   some 4)
  else (
   (iter (fun x => ref11_Check_L0 l x) 0).bind fun s =>
   s.elim (fun s2 =>
    some 0)
   (fun s3 =>
    some s3))

noncomputable def fn_ref11_Check : Fun :=
  { f := 17, np := 1, nr := 1,
    ji := { regs := [(0, .one (.data (.sl (.pair (.str) (.pair (.str) (.pair (.str) (.pair (.str) (.pair (.int .i64) (.int .i64)))))))))], vars := [], arrs := [] },
    jo := { regs := [(0, .one (.data (.int .i64)))], vars := [], arrs := [] },
    tw := fun x => ref11_Check x }
noncomputable def cx_ref11_Check : Cx := { Γ := types, ow := [], fs := [fn_ref11_Valid], N := 19 }
theorem ok_ref11_Check : FunOk Tryz.prog fn_ref11_Check :=
  FunOk.intro (C := cx_ref11_Check) (p := (.mk [] none .nil (.mk [] none .nil (.mk [] none (.mk [] none .nil (.mk [] none (.mk [] (some ({ regs := [(0, .one .keep), (8, .one .keep), (9, .one (.data (.int .i64)))], vars := [], arrs := [] }, [{ e := .x 0, j := { regs := [], vars := [], arrs := [] } }, { e := .r, j := { regs := [(2, .one (.data (.int .i64)))], vars := [], arrs := [] } }])) .nil .nil) .nil)) .nil))))
    Tryz.func17 rfl nmr17 rfl rfl rfl rfl types_ok ⟨⟨ok_ref11_Valid, trivial⟩, trivial⟩ mx (fun x => by kernel_rfl)

noncomputable def ref03_Text_L0 (s : Int × List UInt8) (n2 : Int) (s2 : List UInt8) : Option ((Int × List UInt8) ⊕ (List UInt8)) :=
  gd (Nat.ble ((toBytes [wu8 (wi64 (48 + (Int.tmod n2 10)))]).length + s2.length) 9223372036854775807) <|
  bif decide (wi64 (Int.tdiv n2 10) ≤ 0) then (
   gd (Nat.ble (s.2.length + ((toBytes [wu8 (wi64 (48 + (Int.tmod n2 10)))]) ++ s2).length) 9223372036854775807) <|
   some (.inr (s.2 ++ ((toBytes [wu8 (wi64 (48 + (Int.tmod n2 10)))]) ++ s2))))
  else (
   some (.inl (wi64 (Int.tdiv n2 10), (toBytes [wu8 (wi64 (48 + (Int.tmod n2 10)))]) ++ s2)))

noncomputable def ref03_Text (n : Int) : Option (List UInt8) :=
  Option.bind (α := Int × List UInt8) (
    bif decide (n < 0) then (
     some (wi64 (0 - n), [45]))
    else (
     some (n, []))) fun s =>
  (iter (fun x => ref03_Text_L0 s x.1 x.2) (s.1, [])).bind fun s3 =>
  some s3

noncomputable def fn_ref03_Text : Fun :=
  { f := 27, np := 1, nr := 1,
    ji := { regs := [(0, .one (.data (.int .i64)))], vars := [], arrs := [] },
    jo := { regs := [(0, .one (.data (.str)))], vars := [], arrs := [] },
    tw := fun x => ref03_Text x }
noncomputable def cx_ref03_Text : Cx := { Γ := types, ow := [], fs := [], N := 24 }
theorem ok_ref03_Text : FunOk Tryz.prog fn_ref03_Text :=
  FunOk.intro (C := cx_ref03_Text) (p := (.mk [] none .nil (.mk [] none .nil (.mk [] none (.mk [] none .nil (.mk [.join [{ e := .n, j := { regs := [(0, .one (.data (.int .i64))), (3, .one (.data (.str))), (4, .one .keep)], vars := [], arrs := [] } }]] none .nil .nil)) (.mk [] none (.mk [] (some ({ regs := [(0, .one (.data (.int .i64))), (3, .one .keep), (4, .one (.data (.str)))], vars := [], arrs := [] }, [{ e := .r, j := { regs := [(2, .one (.data (.str)))], vars := [], arrs := [] } }])) .nil .nil) .nil)))))
    Tryz.func27 rfl nmr27 rfl rfl rfl rfl types_ok ⟨trivial, trivial⟩ mx (fun x => by kernel_rfl)

noncomputable def ref03_proper_L1 (w : List (List UInt8)) (v : Int) (k : Int) : Option (Int ⊕ (Unit ⊕ Bool)) :=
  gd (inB v w.length) <|
  bif decide (k < ((w.getD v.toNat []).length : Int)) then (
   Option.bind (α := Bool) (
     gd (inB v w.length) <|
     gd (inB k (w.getD v.toNat []).length) <|
     bif decide ((Int.ofNat ((w.getD v.toNat []).getD k.toNat 0).toNat) < 33) then (
      some true)
     else (
      gd (inB v w.length) <|
      gd (inB k (w.getD v.toNat []).length) <|
      some (decide (126 < (Int.ofNat ((w.getD v.toNat []).getD k.toNat 0).toNat))))) fun s2 =>
   bif s2 then (
    some (.inr (.inr false)))
   else (
    some (.inl (wi64 (k + 1)))))
  else (
   some (.inr (.inl ())))

noncomputable def ref03_proper_L0 (w : List (List UInt8)) (v : Int) : Option (Int ⊕ (Unit ⊕ Bool)) :=
  bif decide (v < (w.length : Int)) then (
   Option.bind (α := Bool) (
     gd (inB v w.length) <|
     bif decide (w.getD v.toNat [] = []) then (
      some true)
     else (
      bif decide (v = 0) then (
       gd (inB v w.length) <|
       gd (inB 0 (w.getD v.toNat []).length) <|
       some (decide ((Int.ofNat ((w.getD v.toNat []).getD 0 0).toNat) = 35)))
      else (
       some false))) fun s =>
   bif s then (
    some (.inr (.inr false)))
   else (
    (iter (fun x => ref03_proper_L1 w v x) 0).bind fun s3 =>
    s3.elim (fun s4 =>
     some (.inl (wi64 (v + 1))))
    (fun s5 =>
     some (.inr (.inr s5)))))
  else (
   some (.inr (.inl ())))

noncomputable def ref03_proper (w : List (List UInt8)) : Option (Bool) :=
  bif decide (16 < (w.length : Int)) then (
   some false)
  else (
   (iter (fun x2 => ref03_proper_L0 w x2) 0).bind fun s6 =>
   s6.elim (fun s7 =>
    some true)
   (fun s8 =>
    some s8))

noncomputable def fn_ref03_proper : Fun :=
  { f := 50, np := 1, nr := 1,
    ji := { regs := [(0, .one (.data (.sl (.str))))], vars := [], arrs := [] },
    jo := { regs := [(0, .one (.data (.bool)))], vars := [], arrs := [] },
    tw := fun x => ref03_proper x }
noncomputable def cx_ref03_proper : Cx := { Γ := types, ow := [], fs := [], N := 56 }
theorem ok_ref03_proper : FunOk Tryz.prog fn_ref03_proper :=
  FunOk.intro (C := cx_ref03_proper) (p := (.mk [] none .nil (.mk [] none .nil (.mk [] none (.mk [] none .nil (.mk [] none (.mk [] (some ({ regs := [(0, .one .keep), (9, .one .keep), (10, .one (.data (.int .i64)))], vars := [], arrs := [] }, [{ e := .x 0, j := { regs := [], vars := [], arrs := [] } }, { e := .r, j := { regs := [(2, .one (.data (.bool)))], vars := [], arrs := [] } }])) (.mk [] none .nil (.mk [] none .nil (.mk [] none (.mk [] none (.mk [] none .nil (.mk [] none (.mk [] none (.mk [.join [{ e := .n, j := { regs := [(0, .one .keep), (3, .one .keep), (9, .one .keep), (10, .one .keep), (29, .one (.data (.bool)))], vars := [], arrs := [] } }]] none .nil .nil) .nil) (.mk [] none .nil (.mk [] none (.mk [] (some ({ regs := [(0, .one .keep), (3, .one .keep), (4, .one (.data (.int .i64))), (9, .one .keep), (10, .one .keep)], vars := [], arrs := [] }, [{ e := .x 2, j := { regs := [(0, .one .keep), (9, .one .keep), (10, .one .keep)], vars := [], arrs := [] } }, { e := .r, j := { regs := [(2, .one (.data (.bool)))], vars := [], arrs := [] } }])) (.mk [] none .nil (.mk [] none (.mk [] none (.mk [] none (.mk [.join [{ e := .n, j := { regs := [(0, .one .keep), (3, .one .keep), (4, .one .keep), (9, .one .keep), (10, .one .keep), (54, .one (.data (.bool)))], vars := [], arrs := [] } }]] none .nil .nil) .nil) .nil) .nil)) .nil) .nil)))) .nil) .nil))) .nil) .nil)) .nil))))
    Tryz.func50 rfl nmr50 rfl rfl rfl rfl types_ok ⟨trivial, trivial⟩ mx (fun x => by kernel_rfl)

noncomputable def ref03_Line_L0 (w : List (List UInt8)) (s : List UInt8) (v : Int) : Option ((List UInt8 × Int) ⊕ (List UInt8)) :=
  bif decide (v < (w.length : Int)) then (
   Option.bind (α := List UInt8) (
     bif decide (0 < v) then (
      gd (Nat.ble (s.length + [32].length) 9223372036854775807) <|
      some (s ++ [32]))
     else (
      some s)) fun s2 =>
   gd (inB v w.length) <|
   gd (Nat.ble (s2.length + (w.getD v.toNat []).length) 9223372036854775807) <|
   some (.inl (s2 ++ (w.getD v.toNat []), wi64 (v + 1))))
  else (
   some (.inr s))

noncomputable def ref03_Line (w : List (List UInt8)) : Option (List UInt8) :=
  (iter (fun x => ref03_Line_L0 w x.1 x.2) ([], 0)).bind fun s3 =>
  some s3

noncomputable def fn_ref03_Line : Fun :=
  { f := 51, np := 1, nr := 1,
    ji := { regs := [(0, .one (.data (.sl (.str))))], vars := [], arrs := [] },
    jo := { regs := [(0, .one (.data (.str)))], vars := [], arrs := [] },
    tw := fun x => ref03_Line x }
noncomputable def cx_ref03_Line : Cx := { Γ := types, ow := [], fs := [], N := 22 }
theorem ok_ref03_Line : FunOk Tryz.prog fn_ref03_Line :=
  FunOk.intro (C := cx_ref03_Line) (p := (.mk [] none .nil (.mk [] none .nil (.mk [] none (.mk [] none .nil (.mk [] none (.mk [] (some ({ regs := [(0, .one .keep), (3, .one (.data (.str))), (6, .one .keep), (7, .one (.data (.int .i64)))], vars := [], arrs := [] }, [{ e := .x 0, j := { regs := [(3, .one (.data (.str)))], vars := [], arrs := [] } }])) (.mk [] none .nil (.mk [] none .nil (.mk [] none (.mk [] none (.mk [] none .nil (.mk [] none (.mk [] none .nil (.mk [.join [{ e := .n, j := { regs := [(0, .one .keep), (3, .one (.data (.str))), (4, .one .keep), (6, .one .keep), (7, .one .keep)], vars := [], arrs := [] } }]] none .nil .nil)) .nil)) .nil) .nil))) .nil) .nil)) .nil))))
    Tryz.func51 rfl nmr51 rfl rfl rfl rfl types_ok ⟨trivial, trivial⟩ mx (fun x => by kernel_rfl)

noncomputable def ref03_Join_L0 (l : List (List (List UInt8))) (v : Int) : Option (Int ⊕ (Unit ⊕ (List UInt8 × Int))) :=
  bif decide (v < (l.length : Int)) then (
   gd (inB v l.length) <|
   (ref03_proper (l.getD v.toNat [])).bind fun r =>
   bif !r then (
    some (.inr (.inr ([], 3))))
   else (
    some (.inl (wi64 (v + 1)))))
  else (
   some (.inr (.inl ())))

noncomputable def ref03_Join_L1 (l : List (List (List UInt8))) (s4 : List UInt8) (v2 : Int) : Option ((List UInt8 × Int) ⊕ ((List UInt8) ⊕ (List UInt8 × Int))) :=
  bif decide (v2 < (l.length : Int)) then (
   gd (inB v2 l.length) <|
   (ref03_Line (l.getD v2.toNat [])).bind fun r2 =>
   gd (Nat.ble (r2.length + [10].length) 9223372036854775807) <|
   gd (Nat.ble (s4.length + (r2 ++ [10]).length) 9223372036854775807) <|
   bif decide (16384 < ((s4 ++ (r2 ++ [10])).length : Int)) then (
    some (.inr (.inr ([], 4))))
   else (
    some (.inl (s4 ++ (r2 ++ [10]), wi64 (v2 + 1)))))
  else (
   some (.inr (.inl s4)))

noncomputable def ref03_Join (l : List (List (List UInt8))) : Option (List UInt8 × Int) :=
  bif decide (400 < (l.length : Int)) then (
   some ([], 4))
  else (
   (iter (fun x => ref03_Join_L0 l x) 0).bind fun s =>
   s.elim (fun s2 =>
    (iter (fun x2 => ref03_Join_L1 l x2.1 x2.2) ([], 0)).bind fun s5 =>
    s5.elim (fun s6 =>
     some (s6, 0))
    (fun s7 =>
     some (s7.1, s7.2)))
   (fun s3 =>
    some (s3.1, s3.2)))

noncomputable def fn_ref03_Join : Fun :=
  { f := 28, np := 1, nr := 2,
    ji := { regs := [(0, .one (.data (.sl (.sl (.str)))))], vars := [], arrs := [] },
    jo := { regs := [(0, .one (.data (.str))), (1, .one (.data (.int .i64)))], vars := [], arrs := [] },
    tw := fun x => ref03_Join x }
noncomputable def cx_ref03_Join : Cx := { Γ := types, ow := [], fs := [fn_ref03_proper, fn_ref03_Line], N := 40 }
theorem ok_ref03_Join : FunOk Tryz.prog fn_ref03_Join :=
  FunOk.intro (C := cx_ref03_Join) (p := (.mk [] none .nil (.mk [] none .nil (.mk [] none .nil (.mk [] none (.mk [] none .nil (.mk [] none (.mk [] (some ({ regs := [(0, .one .keep), (4, .one .keep), (11, .one .keep), (12, .one (.data (.int .i64)))], vars := [], arrs := [] }, [{ e := .x 0, j := { regs := [(0, .one .keep), (4, .one .keep)], vars := [], arrs := [] } }, { e := .r, j := { regs := [(2, .one (.data (.str))), (3, .one (.data (.int .i64)))], vars := [], arrs := [] } }])) .nil .nil) .nil)) (.mk [] none (.mk [] none .nil (.mk [] none (.mk [] (some ({ regs := [(0, .one .keep), (4, .one (.data (.str))), (23, .one .keep), (24, .one (.data (.int .i64)))], vars := [], arrs := [] }, [{ e := .x 2, j := { regs := [(4, .one (.data (.str)))], vars := [], arrs := [] } }, { e := .r, j := { regs := [(2, .one (.data (.str))), (3, .one (.data (.int .i64)))], vars := [], arrs := [] } }])) .nil .nil) .nil)) .nil))))))
    Tryz.func28 rfl nmr28 rfl rfl rfl rfl types_ok ⟨⟨ok_ref03_proper, ok_ref03_Line, trivial⟩, trivial⟩ mx (fun x => by kernel_rfl)

noncomputable def ref11_Format_L0 (l : List (List UInt8 × List UInt8 × List UInt8 × List UInt8 × Int × Int)) (v : Int) (out : List (List (List UInt8))) : Option ((Int × List (List (List UInt8))) ⊕ (List (List (List UInt8)))) :=
  bif decide (v < (l.length : Int)) then (
   gd (inB v l.length) <|
   (ref03_Text ((((((l.getD v.toNat ([], ([], ([], ([], (0, 0)))))).2).2).2).2).1)).bind fun r2 =>
   (ref03_Text ((((((l.getD v.toNat ([], ([], ([], ([], (0, 0)))))).2).2).2).2).2)).bind fun r3 =>
   gd (fits (out.length + 1) 24) <|
   some (.inl (wi64 (v + 1), out ++ [[[110, 111, 109, 105, 110, 97, 116, 101], r2, (l.getD v.toNat ([], ([], ([], ([], (0, 0)))))).1, ((l.getD v.toNat ([], ([], ([], ([], (0, 0)))))).2).1, (((l.getD v.toNat ([], ([], ([], ([], (0, 0)))))).2).2).1, ((((l.getD v.toNat ([], ([], ([], ([], (0, 0)))))).2).2).2).1, r3]])))
  else (
   some (.inr out))

noncomputable def ref11_Format (l : List (List UInt8 × List UInt8 × List UInt8 × List UInt8 × Int × Int)) : Option (List UInt8 × Int) :=
  (ref11_Check l).bind fun r =>
  bif !decide (r = 0) then (
   some ([], r))
  else (
   (iter (fun x => ref11_Format_L0 l x.1 x.2) (0, [])).bind fun s =>
   (ref03_Join s).bind fun r4 =>
   some (r4.1, r4.2))

noncomputable def fn_ref11_Format : Fun :=
  { f := 14, np := 1, nr := 2,
    ji := { regs := [(0, .one (.data (.sl (.pair (.str) (.pair (.str) (.pair (.str) (.pair (.str) (.pair (.int .i64) (.int .i64)))))))))], vars := [], arrs := [] },
    jo := { regs := [(0, .one (.data (.str))), (1, .one (.data (.int .i64)))], vars := [], arrs := [] },
    tw := fun x => ref11_Format x }
noncomputable def cx_ref11_Format : Cx := { Γ := types, ow := [], fs := [fn_ref11_Check, fn_ref03_Text, fn_ref03_Join], N := 42 }
theorem ok_ref11_Format : FunOk Tryz.prog fn_ref11_Format :=
  FunOk.intro (C := cx_ref11_Format) (p := (.mk [] none .nil (.mk [] none .nil (.mk [] none .nil (.mk [] none (.mk [] none .nil (.mk [] none (.mk [] (some ({ regs := [(5, .one (.own 107)), (13, .one .keep), (14, .one .keep), (15, .one (.data (.int .i64)))], vars := [], arrs := [(107, .arr 42 (.sl (.str)))] }, [{ e := .x 0, j := { regs := [(5, .one (.own 107))], vars := [], arrs := [(107, .arr 42 (.sl (.str)))] } }])) .nil .nil) .nil)) .nil)))))
    Tryz.func14 rfl nmr14 rfl rfl rfl rfl types_ok ⟨⟨ok_ref11_Check, ok_ref03_Text, ok_ref03_Join, trivial⟩, trivial⟩ mx (fun x => by kernel_rfl)

noncomputable def ref11_Totals_L1 (l : List (List UInt8 × List UInt8 × List UInt8 × List UInt8 × Int × Int)) (v : Int) (vat : Int) (out2 : List (List UInt8 × List UInt8 × List UInt8 × List UInt8 × Int × Int)) : Option ((Int × List (List UInt8 × List UInt8 × List UInt8 × List UInt8 × Int × Int)) ⊕ (Int × List (List UInt8 × List UInt8 × List UInt8 × List UInt8 × Int × Int))) :=
  Option.bind (α := Bool × List (List UInt8 × List UInt8 × List UInt8 × List UInt8 × Int × Int)) (
    bif decide (vat < (out2.length : Int)) then (
     gd (inB vat out2.length) <|
     (ref11_Cmp (out2.getD vat.toNat ([], ([], ([], ([], (0, 0)))))) ((l.getD v.toNat ([], ([], ([], ([], (0, 0)))))).1, (((l.getD v.toNat ([], ([], ([], ([], (0, 0)))))).2).1, ((((l.getD v.toNat ([], ([], ([], ([], (0, 0)))))).2).2).1, (((((l.getD v.toNat ([], ([], ([], ([], (0, 0)))))).2).2).2).1, ((((((l.getD v.toNat ([], ([], ([], ([], (0, 0)))))).2).2).2).2).1, (((((l.getD v.toNat ([], ([], ([], ([], (0, 0)))))).2).2).2).2).2)))))).bind fun r2 =>
     some (decide (r2 < 0), out2))
    else (
     some (false, out2))) fun s =>
  bif s.1 then (
   some (.inl (wi64 (vat + 1), s.2)))
  else (
   some (.inr (vat, s.2)))

noncomputable def ref11_Totals_L0 (l : List (List UInt8 × List UInt8 × List UInt8 × List UInt8 × Int × Int)) (v : Int) (out : List (List UInt8 × List UInt8 × List UInt8 × List UInt8 × Int × Int)) : Option ((Int × List (List UInt8 × List UInt8 × List UInt8 × List UInt8 × Int × Int)) ⊕ (List (List UInt8 × List UInt8 × List UInt8 × List UInt8 × Int × Int))) :=
  bif decide (v < (l.length : Int)) then (
   Option.bind (α := List (List UInt8 × List UInt8 × List UInt8 × List UInt8 × Int × Int)) (
     gd (inB v l.length) <|
     (iter (fun x => ref11_Totals_L1 l v x.1 x.2) (0, out)).bind fun s2 =>
     Option.bind (α := Bool × List (List UInt8 × List UInt8 × List UInt8 × List UInt8 × Int × Int)) (
       bif decide (s2.1 < (s2.2.length : Int)) then (
        gd (inB s2.1 s2.2.length) <|
        (ref11_Cmp (s2.2.getD s2.1.toNat ([], ([], ([], ([], (0, 0)))))) ((l.getD v.toNat ([], ([], ([], ([], (0, 0)))))).1, (((l.getD v.toNat ([], ([], ([], ([], (0, 0)))))).2).1, ((((l.getD v.toNat ([], ([], ([], ([], (0, 0)))))).2).2).1, (((((l.getD v.toNat ([], ([], ([], ([], (0, 0)))))).2).2).2).1, ((((((l.getD v.toNat ([], ([], ([], ([], (0, 0)))))).2).2).2).2).1, (((((l.getD v.toNat ([], ([], ([], ([], (0, 0)))))).2).2).2).2).2)))))).bind fun r3 =>
        some (decide (r3 = 0), s2.2))
       else (
        some (false, s2.2))) fun s3 =>
     bif s3.1 then (
      gd (inB s2.1 s3.2.length) <|
      gd (inB s2.1 s3.2.length) <|
      some (s3.2.set s2.1.toNat ((s3.2.getD s2.1.toNat ([], ([], ([], ([], (0, 0)))))).1, (((s3.2.getD s2.1.toNat ([], ([], ([], ([], (0, 0)))))).2).1, ((((s3.2.getD s2.1.toNat ([], ([], ([], ([], (0, 0)))))).2).2).1, (((((s3.2.getD s2.1.toNat ([], ([], ([], ([], (0, 0)))))).2).2).2).1, ((((((s3.2.getD s2.1.toNat ([], ([], ([], ([], (0, 0)))))).2).2).2).2).1, wi64 (((((((s3.2.getD s2.1.toNat ([], ([], ([], ([], (0, 0)))))).2).2).2).2).2) + ((((((l.getD v.toNat ([], ([], ([], ([], (0, 0)))))).2).2).2).2).2)))))))))
     else (
      gd (cutG none (some (.i64, s2.1)) s3.2.length) <|
      gd (fits (0 + (s3.2.take s2.1.toNat).length) 80) <|
      gd (fits (([] ++ (s3.2.take s2.1.toNat)).length + 1) 80) <|
      gd (cutG (some (.i64, s2.1)) none s3.2.length) <|
      gd (fits ((([] ++ (s3.2.take s2.1.toNat)) ++ [((l.getD v.toNat ([], ([], ([], ([], (0, 0)))))).1, (((l.getD v.toNat ([], ([], ([], ([], (0, 0)))))).2).1, ((((l.getD v.toNat ([], ([], ([], ([], (0, 0)))))).2).2).1, (((((l.getD v.toNat ([], ([], ([], ([], (0, 0)))))).2).2).2).1, ((((((l.getD v.toNat ([], ([], ([], ([], (0, 0)))))).2).2).2).2).1, (((((l.getD v.toNat ([], ([], ([], ([], (0, 0)))))).2).2).2).2).2)))))]).length + (s3.2.drop s2.1.toNat).length) 80) <|
      some ((([] ++ (s3.2.take s2.1.toNat)) ++ [((l.getD v.toNat ([], ([], ([], ([], (0, 0)))))).1, (((l.getD v.toNat ([], ([], ([], ([], (0, 0)))))).2).1, ((((l.getD v.toNat ([], ([], ([], ([], (0, 0)))))).2).2).1, (((((l.getD v.toNat ([], ([], ([], ([], (0, 0)))))).2).2).2).1, ((((((l.getD v.toNat ([], ([], ([], ([], (0, 0)))))).2).2).2).2).1, (((((l.getD v.toNat ([], ([], ([], ([], (0, 0)))))).2).2).2).2).2)))))]) ++ (s3.2.drop s2.1.toNat)))) fun s4 =>
   some (.inl (wi64 (v + 1), s4)))
  else (
   some (.inr out))

noncomputable def ref11_Totals_L2 (s5 : List (List UInt8 × List UInt8 × List UInt8 × List UInt8 × Int × Int)) (v2 : Int) (out3 : List (List UInt8 × List UInt8 × List UInt8 × List UInt8 × Int × Int)) : Option ((Int × List (List UInt8 × List UInt8 × List UInt8 × List UInt8 × Int × Int)) ⊕ ((List (List UInt8 × List UInt8 × List UInt8 × List UInt8 × Int × Int)) ⊕ ((List (List UInt8 × List UInt8 × List UInt8 × List UInt8 × Int × Int)) × Int))) :=
  bif decide (v2 < (s5.length : Int)) then (
   gd (inB v2 out3.length) <|
   bif decide (1099511627776 < (((((out3.getD v2.toNat ([], ([], ([], ([], (0, 0)))))).2).2).2).2).2) then (
    some (.inr (.inr ([], 4))))
   else (
    some (.inl (wi64 (v2 + 1), out3))))
  else (
   some (.inr (.inl out3)))

noncomputable def ref11_Totals (l : List (List UInt8 × List UInt8 × List UInt8 × List UInt8 × Int × Int)) : Option ((List (List UInt8 × List UInt8 × List UInt8 × List UInt8 × Int × Int)) × Int) :=
  (ref11_Check l).bind fun r =>
  bif !decide (r = 0) then (
   some ([], r))
  else (
   (iter (fun x2 => ref11_Totals_L0 l x2.1 x2.2) (0, [])).bind fun s5 =>
   (iter (fun x3 => ref11_Totals_L2 s5 x3.1 x3.2) (0, s5)).bind fun s6 =>
   s6.elim (fun s7 =>
    some (s7, 0))
   (fun s8 =>
    some (s8.1, s8.2)))

noncomputable def fn_ref11_Totals : Fun :=
  { f := 15, np := 1, nr := 2,
    ji := { regs := [(0, .one (.data (.sl (.pair (.str) (.pair (.str) (.pair (.str) (.pair (.str) (.pair (.int .i64) (.int .i64)))))))))], vars := [], arrs := [] },
    jo := { regs := [(0, .one (.data (.sl (.pair (.str) (.pair (.str) (.pair (.str) (.pair (.str) (.pair (.int .i64) (.int .i64))))))))), (1, .one (.data (.int .i64)))], vars := [], arrs := [] },
    tw := fun x => ref11_Totals x }
noncomputable def cx_ref11_Totals : Cx := { Γ := types, ow := [59], fs := [fn_ref11_Check, fn_ref11_Cmp], N := 85 }
theorem ok_ref11_Totals : FunOk Tryz.prog fn_ref11_Totals :=
  FunOk.intro (C := cx_ref11_Totals) (p := (.mk [] none .nil (.mk [] none .nil (.mk [] none .nil (.mk [] none (.mk [] none .nil (.mk [] none (.mk [] (some ({ regs := [(5, .one (.own 107)), (15, .one .keep), (16, .one .keep), (17, .one (.data (.int .i64)))], vars := [], arrs := [(107, .arr 28 (.pair (.str) (.pair (.str) (.pair (.str) (.pair (.str) (.pair (.int .i64) (.int .i64)))))))] }, [{ e := .x 0, j := { regs := [(5, .one (.own 107))], vars := [], arrs := [(107, .arr 28 (.pair (.str) (.pair (.str) (.pair (.str) (.pair (.str) (.pair (.int .i64) (.int .i64)))))))] } }])) (.mk [] none .nil (.mk [] none .nil (.mk [] none (.mk [.join [{ e := .n, j := { regs := [(5, .one (.own 107)), (15, .one .keep), (16, .one .keep), (17, .one .keep)], vars := [], arrs := [(107, .arr 28 (.pair (.str) (.pair (.str) (.pair (.str) (.pair (.str) (.pair (.int .i64) (.int .i64)))))))] } }]] none (.mk [] none .nil (.mk [] none .nil (.mk [] none (.mk [] none (.mk [] (some ({ regs := [(5, .one (.own 107)), (7, .one (.ptr 128 0)), (8, .one (.data (.int .i64))), (15, .one .keep), (16, .one .keep), (17, .one .keep)], vars := [(128, 28, [.keep, .keep, .keep, .keep, .keep, .keep])], arrs := [(107, .arr 28 (.pair (.str) (.pair (.str) (.pair (.str) (.pair (.str) (.pair (.int .i64) (.int .i64)))))))] }, [{ e := .x 2, j := { regs := [(5, .one (.own 107)), (7, .one (.ptr 128 0)), (8, .one (.data (.int .i64))), (15, .one .keep), (16, .one .keep), (17, .one .keep)], vars := [(128, 28, [.keep, .keep, .keep, .keep, .keep, .keep])], arrs := [(107, .arr 28 (.pair (.str) (.pair (.str) (.pair (.str) (.pair (.str) (.pair (.int .i64) (.int .i64)))))))] } }])) (.mk [] none (.mk [] none (.mk [.join [{ e := .n, j := { regs := [(5, .one (.own 107)), (7, .one (.ptr 128 0)), (8, .one .keep), (15, .one .keep), (16, .one .keep), (17, .one .keep), (33, .one (.data (.bool)))], vars := [(128, 28, [.keep, .keep, .keep, .keep, .keep, .keep])], arrs := [(107, .arr 28 (.pair (.str) (.pair (.str) (.pair (.str) (.pair (.str) (.pair (.int .i64) (.int .i64)))))))] } }]] none .nil .nil) .nil) .nil) .nil) .nil) (.mk [] none (.mk [] none (.mk [.join [{ e := .n, j := { regs := [(5, .one (.own 107)), (7, .one (.ptr 128 0)), (8, .one .keep), (15, .one .keep), (16, .one .keep), (17, .one .keep), (48, .one (.data (.bool)))], vars := [(128, 28, [.keep, .keep, .keep, .keep, .keep, .keep])], arrs := [(107, .arr 28 (.pair (.str) (.pair (.str) (.pair (.str) (.pair (.str) (.pair (.int .i64) (.int .i64)))))))] } }]] none .nil .nil) .nil) (.mk [.fz [5]] none .nil .nil))))) .nil) .nil))) .nil) .nil)) (.mk [] none (.mk [] none .nil (.mk [] none (.mk [] (some ({ regs := [(5, .one (.own 107)), (73, .one .keep), (74, .one (.data (.int .i64)))], vars := [], arrs := [(107, .arr 28 (.pair (.str) (.pair (.str) (.pair (.str) (.pair (.str) (.pair (.int .i64) (.int .i64)))))))] }, [{ e := .x 4, j := { regs := [(5, .one (.own 107))], vars := [], arrs := [(107, .arr 28 (.pair (.str) (.pair (.str) (.pair (.str) (.pair (.str) (.pair (.int .i64) (.int .i64)))))))] } }, { e := .r, j := { regs := [(2, .one (.data (.sl (.pair (.str) (.pair (.str) (.pair (.str) (.pair (.str) (.pair (.int .i64) (.int .i64))))))))), (3, .one (.data (.int .i64)))], vars := [], arrs := [] } }])) .nil .nil) .nil)) .nil))))))
    Tryz.func15 rfl nmr15 rfl rfl rfl rfl types_ok ⟨⟨ok_ref11_Check, ok_ref11_Cmp, trivial⟩, trivial⟩ mx (fun x => by kernel_rfl)

noncomputable def ref03_Lines_L0 (text : List UInt8) (vfrom : Int) (i : Int) (out : List (List UInt8)) : Option ((Int × Int × List (List UInt8)) ⊕ (Int × List (List UInt8))) :=
  bif decide (i < (text.length : Int)) then (
   gd (inB i text.length) <|
   Option.bind (α := Int × List (List UInt8)) (
     bif decide ((Int.ofNat (text.getD i.toNat 0).toNat) = 10) then (
      gd (inR vfrom i text.length) <|
      gd (fits (out.length + 1) 16) <|
      some (wi64 (i + 1), out ++ [(text.take i.toNat).drop vfrom.toNat]))
     else (
      some (vfrom, out))) fun s =>
   some (.inl (s.1, wi64 (i + 1), s.2)))
  else (
   some (.inr (vfrom, out)))

noncomputable def ref03_Lines (text : List UInt8) : Option (List (List UInt8)) :=
  (iter (fun x => ref03_Lines_L0 text x.1 x.2.1 x.2.2) (0, 0, [])).bind fun s2 =>
  bif decide (s2.1 < (text.length : Int)) then (
   gd (cutG (some (.i64, s2.1)) none text.length) <|
   gd (fits (s2.2.length + 1) 16) <|
   some (s2.2 ++ [text.drop s2.1.toNat]))
  else (
   some s2.2)

noncomputable def fn_ref03_Lines : Fun :=
  { f := 60, np := 1, nr := 1,
    ji := { regs := [(0, .one (.data (.str)))], vars := [], arrs := [] },
    jo := { regs := [(0, .one (.own 0))], vars := [], arrs := [(0, .arr 9 (.str))] },
    tw := fun x => ref03_Lines x }
noncomputable def cx_ref03_Lines : Cx := { Γ := types, ow := [], fs := [], N := 36 }
theorem ok_ref03_Lines : FunOk Tryz.prog fn_ref03_Lines :=
  FunOk.intro (C := cx_ref03_Lines) (p := (.mk [] none .nil (.mk [] none .nil (.mk [] none .nil (.mk [] none (.mk [] none .nil (.mk [] none (.mk [] (some ({ regs := [(0, .one .keep), (3, .one (.own 75)), (4, .one (.data (.int .i64))), (5, .one (.data (.int .i64)))], vars := [], arrs := [(75, .arr 9 (.str))] }, [{ e := .x 0, j := { regs := [(0, .one .keep), (3, .one (.own 75)), (4, .one (.data (.int .i64)))], vars := [], arrs := [(75, .arr 9 (.str))] } }])) (.mk [] none .nil (.mk [] none (.mk [] none (.mk [] none .nil (.mk [.join [{ e := .n, j := { regs := [(0, .one .keep), (3, .one (.own 75)), (4, .one (.data (.int .i64))), (5, .one .keep)], vars := [], arrs := [(75, .arr 9 (.str))] } }]] none .nil .nil)) .nil) .nil)) .nil) .nil)) .nil)))))
    Tryz.func60 rfl nmr60 rfl rfl rfl rfl types_ok ⟨trivial, trivial⟩ mx (fun x => by kernel_rfl)

noncomputable def ref03_cut_L0 (s : List UInt8) (vfrom : Int) (i : Int) (out : List (List UInt8)) : Option ((Int × Int × List (List UInt8)) ⊕ (List (List UInt8))) :=
  bif decide (i ≤ (s.length : Int)) then (
   Option.bind (α := Bool × List (List UInt8)) (
     bif decide (i = (s.length : Int)) then (
      some (true, out))
     else (
      gd (inB i s.length) <|
      some (decide ((Int.ofNat (s.getD i.toNat 0).toNat) = 32), out))) fun s2 =>
   Option.bind (α := Int × List (List UInt8)) (
     bif s2.1 then (
      gd (inR vfrom i s.length) <|
      gd (fits (s2.2.length + 1) 16) <|
      some (wi64 (i + 1), s2.2 ++ [(s.take i.toNat).drop vfrom.toNat]))
     else (
      some (vfrom, s2.2))) fun s3 =>
   some (.inl (s3.1, wi64 (i + 1), s3.2)))
  else (
   some (.inr out))

noncomputable def ref03_cut (s : List UInt8) : Option (List (List UInt8)) :=
  (iter (fun x => ref03_cut_L0 s x.1 x.2.1 x.2.2) (0, 0, [])).bind fun s4 =>
  some s4

noncomputable def fn_ref03_cut : Fun :=
  { f := 61, np := 1, nr := 1,
    ji := { regs := [(0, .one (.data (.str)))], vars := [], arrs := [] },
    jo := { regs := [(0, .one (.own 0))], vars := [], arrs := [(0, .arr 9 (.str))] },
    tw := fun x => ref03_cut x }
noncomputable def cx_ref03_cut : Cx := { Γ := types, ow := [], fs := [], N := 32 }
theorem ok_ref03_cut : FunOk Tryz.prog fn_ref03_cut :=
  FunOk.intro (C := cx_ref03_cut) (p := (.mk [] none .nil (.mk [] none .nil (.mk [] none .nil (.mk [] none (.mk [] none .nil (.mk [] none (.mk [] (some ({ regs := [(0, .one .keep), (3, .one (.own 75)), (4, .one (.data (.int .i64))), (5, .one (.data (.int .i64)))], vars := [], arrs := [(75, .arr 9 (.str))] }, [{ e := .x 0, j := { regs := [(3, .one (.own 75))], vars := [], arrs := [(75, .arr 9 (.str))] } }])) (.mk [] none .nil (.mk [] none (.mk [] none (.mk [] none (.mk [.join [{ e := .n, j := { regs := [(0, .one .keep), (3, .one (.own 75)), (4, .one .keep), (5, .one .keep), (21, .one (.data (.bool)))], vars := [], arrs := [(75, .arr 9 (.str))] } }]] none .nil .nil) (.mk [.join [{ e := .n, j := { regs := [(0, .one .keep), (3, .one (.own 75)), (4, .one (.data (.int .i64))), (5, .one .keep)], vars := [], arrs := [(75, .arr 9 (.str))] } }]] none .nil .nil)) .nil) .nil)) .nil) .nil)) .nil)))))
    Tryz.func61 rfl nmr61 rfl rfl rfl rfl types_ok ⟨trivial, trivial⟩ mx (fun x => by kernel_rfl)

noncomputable def ref03_Split_L0 (r : List (List UInt8)) (v : Int) (l : List (List UInt8)) (out : List (List (List UInt8))) : Option ((Int × List (List UInt8) × List (List (List UInt8))) ⊕ ((List (List (List UInt8))) ⊕ (List (List (List UInt8)) × Int))) :=
  bif decide (v < (r.length : Int)) then (
   Option.bind (α := (List (List UInt8) × List (List (List UInt8))) ⊕ (List (List (List UInt8)) × Int)) (
     Option.bind (α := Bool × List (List UInt8) × List (List (List UInt8))) (
       gd (inB v l.length) <|
       bif decide (l.getD v.toNat [] = []) then (
        some (true, l, out))
       else (
        gd (inB v l.length) <|
        gd (inB 0 (l.getD v.toNat []).length) <|
        some (decide ((Int.ofNat ((l.getD v.toNat []).getD 0 0).toNat) = 35), l, out))) fun s =>
     bif s.1 then (
      gd (fits (s.2.2.length + 1) 24) <|
      some (.inl (s.2.1, s.2.2 ++ [[]])))
     else (
      gd (inB v s.2.1.length) <|
      (ref03_cut (s.2.1.getD v.toNat [])).bind fun r2 =>
      (ref03_proper r2).bind fun r3 =>
      bif !r3 then (
       some (.inr ([], 3)))
      else (
       gd (fits (s.2.2.length + 1) 24) <|
       some (.inl (s.2.1, s.2.2 ++ [r2]))))) fun s2 =>
   s2.elim (fun s3 =>
    some (.inl (wi64 (v + 1), s3.1, s3.2)))
   (fun s4 =>
    some (.inr (.inr (s4.1, s4.2)))))
  else (
   some (.inr (.inl out)))

noncomputable def ref03_Split (text : List UInt8) : Option (List (List (List UInt8)) × Int) :=
  bif decide (16384 < (text.length : Int)) then (
   some ([], 4))
  else (
   (ref03_Lines text).bind fun r =>
   bif decide (400 < (r.length : Int)) then (
    some ([], 4))
   else (
    (iter (fun x => ref03_Split_L0 r x.1 x.2.1 x.2.2) (0, r, [])).bind fun s5 =>
    s5.elim (fun s6 =>
     some (s6, 0))
    (fun s7 =>
     some (s7.1, s7.2))))

noncomputable def fn_ref03_Split : Fun :=
  { f := 35, np := 1, nr := 2,
    ji := { regs := [(0, .one (.data (.str)))], vars := [], arrs := [] },
    jo := { regs := [(0, .one (.data (.sl (.sl (.str))))), (1, .one (.data (.int .i64)))], vars := [], arrs := [] },
    tw := fun x => ref03_Split x }
noncomputable def cx_ref03_Split : Cx := { Γ := types, ow := [], fs := [fn_ref03_Lines, fn_ref03_cut, fn_ref03_proper], N := 51 }
theorem ok_ref03_Split : FunOk Tryz.prog fn_ref03_Split :=
  FunOk.intro (C := cx_ref03_Split) (p := (.mk [] none .nil (.mk [] none .nil (.mk [] none .nil (.mk [] none .nil (.mk [] none .nil (.mk [] none (.mk [] none .nil (.mk [] none (.mk [] (some ({ regs := [(4, .one (.own 208)), (5, .one (.own 107)), (17, .one .keep), (18, .one (.data (.int .i64)))], vars := [], arrs := [(208, .arr 9 (.str)), (107, .arr 42 (.sl (.str)))] }, [{ e := .x 0, j := { regs := [(5, .one (.own 107))], vars := [], arrs := [(107, .arr 42 (.sl (.str)))] } }, { e := .r, j := { regs := [(2, .one (.data (.sl (.sl (.str))))), (3, .one (.data (.int .i64)))], vars := [], arrs := [] } }])) (.mk [] none .nil (.mk [] none .nil (.mk [] none (.mk [.join [{ e := .n, j := { regs := [(4, .one (.own 208)), (5, .one (.own 107)), (17, .one .keep), (18, .one .keep)], vars := [], arrs := [(208, .arr 9 (.str)), (107, .arr 42 (.sl (.str)))] } }, { e := .r, j := { regs := [(2, .one (.data (.sl (.sl (.str))))), (3, .one (.data (.int .i64)))], vars := [], arrs := [] } }]] none (.mk [] none .nil (.mk [] none (.mk [] none (.mk [.join [{ e := .n, j := { regs := [(4, .one (.own 208)), (5, .one (.own 107)), (6, .one .keep), (17, .one .keep), (18, .one .keep), (33, .one (.data (.bool)))], vars := [], arrs := [(208, .arr 9 (.str)), (107, .arr 42 (.sl (.str)))] } }]] none .nil .nil) .nil) (.mk [] none .nil (.mk [] none .nil (.mk [.fz [7]] none .nil .nil))))) .nil) .nil))) .nil) .nil)) .nil)))))))
    Tryz.func35 rfl nmr35 rfl rfl rfl rfl types_ok ⟨⟨ok_ref03_Lines, ok_ref03_cut, ok_ref03_proper, trivial⟩, trivial⟩ mx (fun x => by kernel_rfl)

noncomputable def ref03_Number_L0 (s3 : List UInt8) (i : Int) : Option (Int ⊕ (Unit ⊕ (Int × Int))) :=
  bif decide (i < (s3.length : Int)) then (
   Option.bind (α := Bool) (
     gd (inB i s3.length) <|
     bif decide ((Int.ofNat (s3.getD i.toNat 0).toNat) < 48) then (
      some true)
     else (
      gd (inB i s3.length) <|
      some (decide (57 < (Int.ofNat (s3.getD i.toNat 0).toNat))))) fun s5 =>
   bif s5 then (
    some (.inr (.inr (0, 3))))
   else (
    some (.inl (wi64 (i + 1)))))
  else (
   some (.inr (.inl ())))

noncomputable def ref03_Number_L1 (s3 : List UInt8) (n : Int) (i2 : Int) : Option ((Int × Int) ⊕ (Int ⊕ (Int × Int))) :=
  bif decide (i2 < (s3.length : Int)) then (
   gd (inB i2 s3.length) <|
   bif decide (9007199254740992 < wi64 ((wi64 (n * 10)) + (wi64 (wu8 ((Int.ofNat (s3.getD i2.toNat 0).toNat) - 48))))) then (
    some (.inr (.inr (0, 1))))
   else (
    some (.inl (wi64 ((wi64 (n * 10)) + (wi64 (wu8 ((Int.ofNat (s3.getD i2.toNat 0).toNat) - 48)))), wi64 (i2 + 1)))))
  else (
   some (.inr (.inl n)))

noncomputable def ref03_Number (s : List UInt8) : Option (Int × Int) :=
  Option.bind (α := Bool) (
    bif decide (0 < (s.length : Int)) then (
     gd (inB 0 s.length) <|
     some (decide ((Int.ofNat (s.getD 0 0).toNat) = 45)))
    else (
     some false)) fun s2 =>
  Option.bind (α := List UInt8) (
    bif s2 then (
     gd (cutG (some (.i64, 1)) none s.length) <|
     some (s.drop 1))
    else (
     some s)) fun s3 =>
  Option.bind (α := Bool) (
    bif decide (s3 = []) then (
     some true)
    else (
     gd (inB 0 s3.length) <|
     bif decide ((Int.ofNat (s3.getD 0 0).toNat) = 48) then (
      bif decide (1 < (s3.length : Int)) then (
       some true)
      else (
       some s2))
     else (
      some false))) fun s4 =>
  bif s4 then (
   some (0, 3))
  else (
   (iter (fun x => ref03_Number_L0 s3 x) 0).bind fun s6 =>
   s6.elim (fun s7 =>
    (iter (fun x2 => ref03_Number_L1 s3 x2.1 x2.2) (0, 0)).bind fun s9 =>
    s9.elim (fun s10 =>
     Option.bind (α := Int) (
       bif s2 then (
        some (wi64 (0 - s10)))
       else (
        some s10)) fun s12 =>
     some (s12, 0))
    (fun s11 =>
     some (s11.1, s11.2)))
   (fun s8 =>
    some (s8.1, s8.2)))

noncomputable def fn_ref03_Number : Fun :=
  { f := 36, np := 1, nr := 2,
    ji := { regs := [(0, .one (.data (.str)))], vars := [], arrs := [] },
    jo := { regs := [(0, .one (.data (.int .i64))), (1, .one (.data (.int .i64)))], vars := [], arrs := [] },
    tw := fun x => ref03_Number x }
noncomputable def cx_ref03_Number : Cx := { Γ := types, ow := [], fs := [], N := 72 }
theorem ok_ref03_Number : FunOk Tryz.prog fn_ref03_Number :=
  FunOk.intro (C := cx_ref03_Number) (p := (.mk [] none .nil (.mk [] none (.mk [.join [{ e := .n, j := { regs := [(0, .one .keep), (4, .one (.data (.bool)))], vars := [], arrs := [] } }]] none .nil .nil) (.mk [] none .nil (.mk [] none (.mk [] none .nil (.mk [.join [{ e := .n, j := { regs := [(4, .one .keep), (5, .one (.data (.str)))], vars := [], arrs := [] } }]] none .nil .nil)) (.mk [] none (.mk [] none (.mk [.join [{ e := .n, j := { regs := [(4, .one .keep), (5, .one .keep), (35, .one (.data (.bool)))], vars := [], arrs := [] } }]] none .nil .nil) .nil) (.mk [] none (.mk [] none .nil (.mk [] none (.mk [] (some ({ regs := [(4, .one .keep), (5, .one .keep), (6, .one (.data (.int .i64)))], vars := [], arrs := [] }, [{ e := .x 0, j := { regs := [(4, .one .keep), (5, .one .keep)], vars := [], arrs := [] } }, { e := .r, j := { regs := [(2, .one (.data (.int .i64))), (3, .one (.data (.int .i64)))], vars := [], arrs := [] } }])) (.mk [] none .nil (.mk [] none (.mk [] none (.mk [] none (.mk [.join [{ e := .n, j := { regs := [(4, .one .keep), (5, .one .keep), (6, .one .keep), (51, .one (.data (.bool)))], vars := [], arrs := [] } }]] none .nil .nil) .nil) .nil) .nil)) .nil) .nil)) (.mk [] none .nil (.mk [] none (.mk [] none .nil (.mk [] none (.mk [] (some ({ regs := [(4, .one .keep), (5, .one .keep), (7, .one (.data (.int .i64))), (8, .one (.data (.int .i64)))], vars := [], arrs := [] }, [{ e := .x 2, j := { regs := [(4, .one .keep), (7, .one (.data (.int .i64)))], vars := [], arrs := [] } }, { e := .r, j := { regs := [(2, .one (.data (.int .i64))), (3, .one (.data (.int .i64)))], vars := [], arrs := [] } }])) .nil .nil) .nil)) (.mk [] none (.mk [] none .nil (.mk [.join [{ e := .n, j := { regs := [(7, .one (.data (.int .i64)))], vars := [], arrs := [] } }]] none .nil .nil)) .nil))))))))))
    Tryz.func36 rfl nmr36 rfl rfl rfl rfl types_ok ⟨trivial, trivial⟩ mx (fun x => by kernel_rfl)

noncomputable def ref11_Parse_L0 (r : List (List (List UInt8)) × Int) (v : Int) (out : List (List UInt8 × List UInt8 × List UInt8 × List UInt8 × Int × Int)) : Option ((Int × List (List UInt8 × List UInt8 × List UInt8 × List UInt8 × Int × Int)) ⊕ ((List (List UInt8 × List UInt8 × List UInt8 × List UInt8 × Int × Int)) ⊕ ((List (List UInt8 × List UInt8 × List UInt8 × List UInt8 × Int × Int)) × Int × Int))) :=
  bif decide (v < (r.1.length : Int)) then (
   Option.bind (α := (List (List UInt8 × List UInt8 × List UInt8 × List UInt8 × Int × Int)) ⊕ ((List (List UInt8 × List UInt8 × List UInt8 × List UInt8 × Int × Int)) × Int × Int)) (
     gd (inB v r.1.length) <|
     bif decide (((r.1.getD v.toNat []).length : Int) = 0) then (
      some (.inl out))
     else (
      Option.bind (α := Bool × List (List UInt8 × List UInt8 × List UInt8 × List UInt8 × Int × Int)) (
        bif !decide (((r.1.getD v.toNat []).length : Int) = 7) then (
         some (true, out))
        else (
         gd (inB 0 (r.1.getD v.toNat []).length) <|
         some ((!decide ((r.1.getD v.toNat []).getD 0 [] = [110, 111, 109, 105, 110, 97, 116, 101])), out))) fun s =>
      bif s.1 then (
       some (.inr ([], wi64 (v + 1), 3)))
      else (
       gd (inB 1 (r.1.getD v.toNat []).length) <|
       (ref03_Number ((r.1.getD v.toNat []).getD 1 [])).bind fun r2 =>
       gd (inB 6 (r.1.getD v.toNat []).length) <|
       (ref03_Number ((r.1.getD v.toNat []).getD 6 [])).bind fun r3 =>
       Option.bind (α := Bool × List (List UInt8 × List UInt8 × List UInt8 × List UInt8 × Int × Int)) (
         bif !decide (r2.2 = 0) then (
          some (true, s.2))
         else (
          some ((!decide (r3.2 = 0)), s.2))) fun s2 =>
       bif s2.1 then (
        some (.inr ([], wi64 (v + 1), 3)))
       else (
        gd (inB 2 (r.1.getD v.toNat []).length) <|
        gd (inB 3 (r.1.getD v.toNat []).length) <|
        gd (inB 4 (r.1.getD v.toNat []).length) <|
        gd (inB 5 (r.1.getD v.toNat []).length) <|
        (ref11_Valid ((r.1.getD v.toNat []).getD 2 [], ((r.1.getD v.toNat []).getD 3 [], ((r.1.getD v.toNat []).getD 4 [], ((r.1.getD v.toNat []).getD 5 [], (r2.1, r3.1)))))).bind fun r4 =>
        bif !r4 then (
         some (.inr ([], wi64 (v + 1), 9)))
        else (
         gd (fits (s2.2.length + 1) 80) <|
         some (.inl (s2.2 ++ [((r.1.getD v.toNat []).getD 2 [], ((r.1.getD v.toNat []).getD 3 [], ((r.1.getD v.toNat []).getD 4 [], ((r.1.getD v.toNat []).getD 5 [], (r2.1, r3.1)))))]))))))) fun s3 =>
   s3.elim (fun s4 =>
    some (.inl (wi64 (v + 1), s4)))
   (fun s5 =>
    some (.inr (.inr (s5.1, s5.2.1, s5.2.2)))))
  else (
   some (.inr (.inl out)))

noncomputable def ref11_Parse (text : List UInt8) : Option ((List (List UInt8 × List UInt8 × List UInt8 × List UInt8 × Int × Int)) × Int × Int) :=
  (ref03_Split text).bind fun r =>
  bif !decide (r.2 = 0) then (
   some ([], 0, r.2))
  else (
   (iter (fun x => ref11_Parse_L0 r x.1 x.2) (0, [])).bind fun s6 =>
   s6.elim (fun s7 =>
    some (s7, 0, 0))
   (fun s8 =>
    some (s8.1, s8.2.1, s8.2.2)))

noncomputable def fn_ref11_Parse : Fun :=
  { f := 19, np := 1, nr := 3,
    ji := { regs := [(0, .one (.data (.str)))], vars := [], arrs := [] },
    jo := { regs := [(0, .one (.data (.sl (.pair (.str) (.pair (.str) (.pair (.str) (.pair (.str) (.pair (.int .i64) (.int .i64))))))))), (1, .one (.data (.int .i64))), (2, .one (.data (.int .i64)))], vars := [], arrs := [] },
    tw := fun x => ref11_Parse x }
noncomputable def cx_ref11_Parse : Cx := { Γ := types, ow := [], fs := [fn_ref03_Split, fn_ref03_Number, fn_ref11_Valid], N := 92 }
theorem ok_ref11_Parse : FunOk Tryz.prog fn_ref11_Parse :=
  FunOk.intro (C := cx_ref11_Parse) (p := (.mk [] none .nil (.mk [] none .nil (.mk [] none .nil (.mk [] none .nil (.mk [] none (.mk [] none .nil (.mk [] none (.mk [] (some ({ regs := [(7, .one (.own 139)), (23, .one .keep), (24, .one .keep), (25, .one (.data (.int .i64)))], vars := [], arrs := [(139, .arr 28 (.pair (.str) (.pair (.str) (.pair (.str) (.pair (.str) (.pair (.int .i64) (.int .i64)))))))] }, [{ e := .x 0, j := { regs := [(7, .one (.own 139))], vars := [], arrs := [(139, .arr 28 (.pair (.str) (.pair (.str) (.pair (.str) (.pair (.str) (.pair (.int .i64) (.int .i64)))))))] } }, { e := .r, j := { regs := [(2, .one (.data (.sl (.pair (.str) (.pair (.str) (.pair (.str) (.pair (.str) (.pair (.int .i64) (.int .i64))))))))), (3, .one (.data (.int .i64))), (4, .one (.data (.int .i64)))], vars := [], arrs := [] } }])) (.mk [] none .nil (.mk [] none .nil (.mk [] none (.mk [.join [{ e := .n, j := { regs := [(7, .one (.own 139)), (23, .one .keep), (24, .one .keep), (25, .one .keep)], vars := [], arrs := [(139, .arr 28 (.pair (.str) (.pair (.str) (.pair (.str) (.pair (.str) (.pair (.int .i64) (.int .i64)))))))] } }, { e := .r, j := { regs := [(2, .one (.data (.sl (.pair (.str) (.pair (.str) (.pair (.str) (.pair (.str) (.pair (.int .i64) (.int .i64))))))))), (3, .one (.data (.int .i64))), (4, .one (.data (.int .i64)))], vars := [], arrs := [] } }]] none (.mk [] none .nil (.mk [] none .nil (.mk [] none (.mk [] none (.mk [.join [{ e := .n, j := { regs := [(7, .one (.own 139)), (8, .one .keep), (9, .one .keep), (23, .one .keep), (24, .one .keep), (25, .one .keep), (41, .one (.data (.bool)))], vars := [], arrs := [(139, .arr 28 (.pair (.str) (.pair (.str) (.pair (.str) (.pair (.str) (.pair (.int .i64) (.int .i64)))))))] } }]] none .nil .nil) .nil) (.mk [] none .nil (.mk [] none .nil (.mk [] none (.mk [] none (.mk [.join [{ e := .n, j := { regs := [(7, .one (.own 139)), (8, .one .keep), (9, .one .keep), (10, .one .keep), (12, .one .keep), (23, .one .keep), (24, .one .keep), (25, .one .keep), (63, .one (.data (.bool)))], vars := [], arrs := [(139, .arr 28 (.pair (.str) (.pair (.str) (.pair (.str) (.pair (.str) (.pair (.int .i64) (.int .i64)))))))] } }]] none .nil .nil) .nil) .nil)))))) .nil) .nil))) .nil) .nil)) .nil))))))
    Tryz.func19 rfl nmr19 rfl rfl rfl rfl types_ok ⟨⟨ok_ref03_Split, ok_ref03_Number, ok_ref11_Valid, trivial⟩, trivial⟩ mx (fun x => by kernel_rfl)

noncomputable def law11_NominationAnswers_L0 (raw : List (List UInt8 × List UInt8 × List UInt8 × List UInt8 × Int × Int)) (v : Int) : Option (Int ⊕ (Unit ⊕ Bool)) :=
  bif decide (v < (raw.length : Int)) then (
   gd (inB v raw.length) <|
   bif decide (200 < wi64 ((wi64 ((wi64 ((((raw.getD v.toNat ([], ([], ([], ([], (0, 0)))))).1).length : Int) + ((((raw.getD v.toNat ([], ([], ([], ([], (0, 0)))))).2).1).length : Int))) + (((((raw.getD v.toNat ([], ([], ([], ([], (0, 0)))))).2).2).1).length : Int))) + ((((((raw.getD v.toNat ([], ([], ([], ([], (0, 0)))))).2).2).2).1).length : Int))) then (
    (law11_awake).bind fun r2 =>
    some (.inr (.inr r2)))
   else (
    some (.inl (wi64 (v + 1)))))
  else (
   some (.inr (.inl ())))

noncomputable def law11_NominationAnswers_L1 (raw : List (List UInt8 × List UInt8 × List UInt8 × List UInt8 × Int × Int)) (r5 : (List (List UInt8 × List UInt8 × List UInt8 × List UInt8 × Int × Int)) × List Int × Int × List (List UInt8 × List UInt8 × List UInt8 × List UInt8 × Int × Int)) (v2 : Int) : Option (Int ⊕ (Unit ⊕ Bool)) :=
  bif decide (v2 < ([raw, r5.2.2.2, r5.1, r5.2.2.2 ++ r5.2.2.2].length : Int)) then (
   gd (inB v2 [raw, r5.2.2.2, r5.1, r5.2.2.2 ++ r5.2.2.2].length) <|
   (nomination_Format ([raw, r5.2.2.2, r5.1, r5.2.2.2 ++ r5.2.2.2].getD v2.toNat [])).bind fun r6 =>
   (ref11_Format ([raw, r5.2.2.2, r5.1, r5.2.2.2 ++ r5.2.2.2].getD v2.toNat [])).bind fun r7 =>
   (nomination_Totals ([raw, r5.2.2.2, r5.1, r5.2.2.2 ++ r5.2.2.2].getD v2.toNat [])).bind fun r8 =>
   (ref11_Totals ([raw, r5.2.2.2, r5.1, r5.2.2.2 ++ r5.2.2.2].getD v2.toNat [])).bind fun r9 =>
   Option.bind (α := Bool) (
     (nomination_Check ([raw, r5.2.2.2, r5.1, r5.2.2.2 ++ r5.2.2.2].getD v2.toNat [])).bind fun r10 =>
     (ref11_Check ([raw, r5.2.2.2, r5.1, r5.2.2.2 ++ r5.2.2.2].getD v2.toNat [])).bind fun r11 =>
     bif !decide (r10 = r11) then (
      some true)
     else (
      bif !decide (r6.1 = r7.1) then (
       some true)
      else (
       bif !decide (r6.2 = r7.2) then (
        some true)
       else (
        (ref11_Same r8.1 r9.1).bind fun r12 =>
        bif !r12 then (
         some true)
        else (
         some (!decide (r8.2 = r9.2))))))) fun s6 =>
   bif s6 then (
    some (.inr (.inr false)))
   else (
    some (.inl (wi64 (v2 + 1)))))
  else (
   some (.inr (.inl ())))

noncomputable def law11_NominationAnswers_L2 (s : List UInt8) (r13 : List UInt8 × Int) (v3 : Int) : Option (Int ⊕ (Unit ⊕ Bool)) :=
  bif decide (v3 < ([s, r13.1, r13.1 ++ s, (s ++ [10]) ++ r13.1, r13.1 ++ [110, 111, 109, 105, 110, 97, 116, 101, 32, 49, 32, 97, 32, 98, 32, 99, 32, 99, 32, 53], r13.1 ++ [110, 111, 109, 105, 110, 97, 116, 101, 32, 49, 32, 97, 32, 98, 32, 99, 32, 100], r13.1 ++ [110, 111, 109, 105, 110, 97, 116, 101, 32, 120, 32, 97, 32, 98, 32, 99, 32, 100, 32, 53, 10], r13.1 ++ [110, 111, 109, 105, 110, 97, 116, 105, 111, 110, 32, 49, 32, 97, 32, 98, 32, 99, 32, 100, 32, 53, 10], r13.1 ++ [110, 111, 109, 105, 110, 97, 116, 101, 32, 49, 32, 97, 32, 98, 32, 99, 32, 100, 32, 49, 48, 57, 57, 53, 49, 49, 54, 50, 55, 55, 55, 55, 10]].length : Int)) then (
   gd (inB v3 [s, r13.1, r13.1 ++ s, (s ++ [10]) ++ r13.1, r13.1 ++ [110, 111, 109, 105, 110, 97, 116, 101, 32, 49, 32, 97, 32, 98, 32, 99, 32, 99, 32, 53], r13.1 ++ [110, 111, 109, 105, 110, 97, 116, 101, 32, 49, 32, 97, 32, 98, 32, 99, 32, 100], r13.1 ++ [110, 111, 109, 105, 110, 97, 116, 101, 32, 120, 32, 97, 32, 98, 32, 99, 32, 100, 32, 53, 10], r13.1 ++ [110, 111, 109, 105, 110, 97, 116, 105, 111, 110, 32, 49, 32, 97, 32, 98, 32, 99, 32, 100, 32, 53, 10], r13.1 ++ [110, 111, 109, 105, 110, 97, 116, 101, 32, 49, 32, 97, 32, 98, 32, 99, 32, 100, 32, 49, 48, 57, 57, 53, 49, 49, 54, 50, 55, 55, 55, 55, 10]].length) <|
   (nomination_Parse ([s, r13.1, r13.1 ++ s, (s ++ [10]) ++ r13.1, r13.1 ++ [110, 111, 109, 105, 110, 97, 116, 101, 32, 49, 32, 97, 32, 98, 32, 99, 32, 99, 32, 53], r13.1 ++ [110, 111, 109, 105, 110, 97, 116, 101, 32, 49, 32, 97, 32, 98, 32, 99, 32, 100], r13.1 ++ [110, 111, 109, 105, 110, 97, 116, 101, 32, 120, 32, 97, 32, 98, 32, 99, 32, 100, 32, 53, 10], r13.1 ++ [110, 111, 109, 105, 110, 97, 116, 105, 111, 110, 32, 49, 32, 97, 32, 98, 32, 99, 32, 100, 32, 53, 10], r13.1 ++ [110, 111, 109, 105, 110, 97, 116, 101, 32, 49, 32, 97, 32, 98, 32, 99, 32, 100, 32, 49, 48, 57, 57, 53, 49, 49, 54, 50, 55, 55, 55, 55, 10]].getD v3.toNat [])).bind fun r14 =>
   (ref11_Parse ([s, r13.1, r13.1 ++ s, (s ++ [10]) ++ r13.1, r13.1 ++ [110, 111, 109, 105, 110, 97, 116, 101, 32, 49, 32, 97, 32, 98, 32, 99, 32, 99, 32, 53], r13.1 ++ [110, 111, 109, 105, 110, 97, 116, 101, 32, 49, 32, 97, 32, 98, 32, 99, 32, 100], r13.1 ++ [110, 111, 109, 105, 110, 97, 116, 101, 32, 120, 32, 97, 32, 98, 32, 99, 32, 100, 32, 53, 10], r13.1 ++ [110, 111, 109, 105, 110, 97, 116, 105, 111, 110, 32, 49, 32, 97, 32, 98, 32, 99, 32, 100, 32, 53, 10], r13.1 ++ [110, 111, 109, 105, 110, 97, 116, 101, 32, 49, 32, 97, 32, 98, 32, 99, 32, 100, 32, 49, 48, 57, 57, 53, 49, 49, 54, 50, 55, 55, 55, 55, 10]].getD v3.toNat [])).bind fun r15 =>
   Option.bind (α := Bool) (
     (ref11_Same r14.1 r15.1).bind fun r16 =>
     bif !r16 then (
      some true)
     else (
      bif !decide (r14.2.1 = r15.2.1) then (
       some true)
      else (
       some (!decide (r14.2.2 = r15.2.2))))) fun s10 =>
   bif s10 then (
    some (.inr (.inr false)))
   else (
    some (.inl (wi64 (v3 + 1)))))
  else (
   some (.inr (.inl ())))

noncomputable def law11_NominationAnswers (raw : List (List UInt8 × List UInt8 × List UInt8 × List UInt8 × Int × Int)) (s : List UInt8) (l : List Int) : Option (Bool) :=
  Option.bind (α := Bool) (
    bif decide (60 < (raw.length : Int)) then (
     some true)
    else (
     some (decide (1000 < (s.length : Int))))) fun s2 =>
  bif s2 then (
   (law11_awake).bind fun r =>
   some r)
  else (
   (iter (fun x => law11_NominationAnswers_L0 raw x) 0).bind fun s3 =>
   s3.elim (fun s4 =>
    (keep_New l).bind fun r3 =>
    (law11_made r3.1 r3.2).bind fun r4 =>
    (law11_odd r4.1 r4.2.1 r4.2.2).bind fun r5 =>
    gd (fits (r5.2.2.2.length + r5.2.2.2.length) 80) <|
    (iter (fun x2 => law11_NominationAnswers_L1 raw r5 x2) 0).bind fun s7 =>
    s7.elim (fun s8 =>
     (ref11_Format r5.2.2.2).bind fun r13 =>
     gd (Nat.ble (r13.1.length + s.length) 9223372036854775807) <|
     gd (Nat.ble (s.length + [10].length) 9223372036854775807) <|
     gd (Nat.ble ((s ++ [10]).length + r13.1.length) 9223372036854775807) <|
     gd (Nat.ble (r13.1.length + [110, 111, 109, 105, 110, 97, 116, 101, 32, 49, 32, 97, 32, 98, 32, 99, 32, 99, 32, 53].length) 9223372036854775807) <|
     gd (Nat.ble (r13.1.length + [110, 111, 109, 105, 110, 97, 116, 101, 32, 49, 32, 97, 32, 98, 32, 99, 32, 100].length) 9223372036854775807) <|
     gd (Nat.ble (r13.1.length + [110, 111, 109, 105, 110, 97, 116, 101, 32, 120, 32, 97, 32, 98, 32, 99, 32, 100, 32, 53, 10].length) 9223372036854775807) <|
     gd (Nat.ble (r13.1.length + [110, 111, 109, 105, 110, 97, 116, 105, 111, 110, 32, 49, 32, 97, 32, 98, 32, 99, 32, 100, 32, 53, 10].length) 9223372036854775807) <|
     gd (Nat.ble (r13.1.length + [110, 111, 109, 105, 110, 97, 116, 101, 32, 49, 32, 97, 32, 98, 32, 99, 32, 100, 32, 49, 48, 57, 57, 53, 49, 49, 54, 50, 55, 55, 55, 55, 10].length) 9223372036854775807) <|
     (iter (fun x3 => law11_NominationAnswers_L2 s r13 x3) 0).bind fun s11 =>
     s11.elim (fun s12 =>
      (law11_awake).bind fun r17 =>
      some r17)
     (fun s13 =>
      some s13))
    (fun s9 =>
     some s9))
   (fun s5 =>
    some s5))

noncomputable def fn_law11_NominationAnswers : Fun :=
  { f := 5, np := 3, nr := 1,
    ji := { regs := [(0, .one (.data (.sl (.pair (.str) (.pair (.str) (.pair (.str) (.pair (.str) (.pair (.int .i64) (.int .i64))))))))), (1, .one (.data (.str))), (2, .one (.data (.sl (.int .i64))))], vars := [], arrs := [] },
    jo := { regs := [(0, .one (.data (.bool)))], vars := [], arrs := [] },
    tw := fun x => law11_NominationAnswers x.1 x.2.1 x.2.2 }
noncomputable def cx_law11_NominationAnswers : Cx := { Γ := types, ow := [75, 2000076], fs := [fn_law11_awake, fn_keep_New, fn_law11_made, fn_law11_odd, fn_nomination_Format, fn_ref11_Format, fn_nomination_Totals, fn_ref11_Totals, fn_nomination_Check, fn_ref11_Check, fn_ref11_Same, fn_nomination_Parse, fn_ref11_Parse], N := 187 }
theorem ok_law11_NominationAnswers : FunOk Tryz.prog fn_law11_NominationAnswers :=
  FunOk.intro (C := cx_law11_NominationAnswers) (p := (.mk [] none .nil (.mk [] none (.mk [] none (.mk [.join [{ e := .n, j := { regs := [(0, .one .keep), (1, .one .keep), (2, .one .keep), (38, .one (.data (.bool)))], vars := [], arrs := [] } }]] none .nil .nil) .nil) (.mk [] none (.mk [] none .nil (.mk [] none (.mk [] (some ({ regs := [(0, .one .keep), (1, .one .keep), (2, .one .keep), (40, .one .keep), (41, .one .keep), (42, .one (.data (.int .i64)))], vars := [], arrs := [] }, [{ e := .x 0, j := { regs := [(0, .one .keep), (1, .one .keep), (2, .one .keep)], vars := [], arrs := [] } }, { e := .r, j := { regs := [(6, .one (.data (.bool)))], vars := [], arrs := [] } }])) .nil .nil) .nil)) (.mk [] none .nil (.mk [] none .nil (.mk [] none (.mk [] none .nil (.mk [] none (.mk [] (some ({ regs := [(1, .one .keep), (10, .one .keep), (76, .one .keep), (77, .one .keep), (78, .one (.data (.int .i64)))], vars := [], arrs := [] }, [{ e := .x 2, j := { regs := [(1, .one .keep), (10, .one .keep)], vars := [], arrs := [] } }, { e := .r, j := { regs := [(6, .one (.data (.bool)))], vars := [], arrs := [] } }])) (.mk [] none .nil (.mk [] none .nil (.mk [] none (.mk [] none (.mk [] none .nil (.mk [] none .nil (.mk [] none .nil (.mk [] none .nil (.mk [] none .nil (.mk [] none (.mk [.join [{ e := .n, j := { regs := [(1, .one .keep), (10, .one .keep), (76, .one .keep), (77, .one .keep), (78, .one .keep), (127, .one (.data (.bool)))], vars := [], arrs := [] } }]] none .nil .nil) .nil)))))) .nil) .nil))) .nil) .nil)) (.mk [] none .nil (.mk [] none (.mk [] none .nil (.mk [] none (.mk [] (some ({ regs := [(153, .one .keep), (154, .one .keep), (155, .one (.data (.int .i64)))], vars := [], arrs := [] }, [{ e := .x 4, j := { regs := [], vars := [], arrs := [] } }, { e := .r, j := { regs := [(6, .one (.data (.bool)))], vars := [], arrs := [] } }])) (.mk [] none .nil (.mk [] none .nil (.mk [] none (.mk [] none (.mk [] none .nil (.mk [] none .nil (.mk [] none .nil (.mk [] none (.mk [.join [{ e := .n, j := { regs := [(153, .one .keep), (154, .one .keep), (155, .one .keep), (184, .one (.data (.bool)))], vars := [], arrs := [] } }]] none .nil .nil) .nil)))) .nil) .nil))) .nil) .nil)) .nil)))))))))
    Tryz.func5 rfl nmr5 rfl rfl rfl rfl types_ok ⟨⟨ok_law11_awake, ok_keep_New, ok_law11_made, ok_law11_odd, ok_nomination_Format, ok_ref11_Format, ok_nomination_Totals, ok_ref11_Totals, ok_nomination_Check, ok_ref11_Check, ok_ref11_Same, ok_nomination_Parse, ok_ref11_Parse, trivial⟩, trivial⟩ mx (fun x => by kernel_rfl)


end Go.Proofs.YtnilkkggnffklaaGreatDoor
