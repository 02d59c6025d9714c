/- Functions, evaluated. No condition. -/
import Derived.Test.YtnilkkggnffklaaDoorProg
import Derived.Test.YtnilkkggnffklaaDoorSqLB
import Derived.Test.YtnilkkggnffklaaDoorLx
import Derived.Test.YtnilkkggnffklaaDoorLc
namespace Go.Proofs.YtnilkkggnffklaaDoor
open Go Go.Sq
def ti3 : TI := { t := 3, desc := .int .i64, size := 1, bytes := 8, zero := .int .i64 0, τ := .int .i64, eq := false }
theorem tk3 : ti3.ok Tryd.prog := ⟨Tryd.underlying3, by kernel_rfl, fun h => by cases h⟩
def ti5 : TI := { t := 5, desc := .int .u8, size := 1, bytes := 1, zero := .int .u8 0, τ := .int .u8, eq := false }
theorem tk5 : ti5.ok Tryd.prog := ⟨Tryd.underlying5, by kernel_rfl, fun h => by cases h⟩
def ti9 : TI := { t := 9, desc := .string, size := 1, bytes := 16, zero := .string ⟨#[]⟩, τ := .str, eq := false }
theorem tk9 : ti9.ok Tryd.prog := ⟨Tryd.underlying9, by kernel_rfl, fun h => by cases h⟩
def ti22 : TI := { t := 22, desc := .slice 3, size := 1, bytes := 24, zero := .slice none 0 0, τ := .sl (.int .i64), eq := false }
theorem tk22 : ti22.ok Tryd.prog := ⟨Tryd.underlying22, by kernel_rfl, fun h => by cases h⟩
def ti23 : TI := { t := 23, desc := .slice 42, size := 1, bytes := 24, zero := .slice none 0 0, τ := .sl (.pair (.str) (.pair (.str) (.pair (.str) (.pair (.str) (.pair (.int .i64) (.int .i64)))))), eq := false }
theorem tk23 : ti23.ok Tryd.prog := ⟨Tryd.underlying23, by kernel_rfl, fun h => by cases h⟩
def ti27 : TI := { t := 27, desc := .int .i64, size := 1, bytes := 8, zero := .int .i64 0, τ := .int .i64, eq := false }
theorem tk27 : ti27.ok Tryd.prog := ⟨Tryd.underlying27, by kernel_rfl, fun h => by cases h⟩
def ti35 : TI := { t := 35, desc := .slice 9, size := 1, bytes := 24, zero := .slice none 0 0, τ := .sl (.str), eq := false }
theorem tk35 : ti35.ok Tryd.prog := ⟨Tryd.underlying35, by kernel_rfl, fun h => by cases h⟩
def ti36 : TI := { t := 36, desc := .slice 27, size := 1, bytes := 24, zero := .slice none 0 0, τ := .sl (.int .i64), eq := false }
theorem tk36 : ti36.ok Tryd.prog := ⟨Tryd.underlying36, by kernel_rfl, fun h => by cases h⟩
def ti38 : TI := { t := 38, desc := .slice 43, size := 1, bytes := 24, zero := .slice none 0 0, τ := .sl (.int .u16), eq := false }
theorem tk38 : ti38.ok Tryd.prog := ⟨Tryd.underlying38, by kernel_rfl, fun h => by cases h⟩
def ti42 : TI := { t := 42, desc := .struct #[{ name := "Shipper", type := 9, offset := 0, embedded := false, tag := "", pkgPath := "", byteOffset := 0 }, { name := "Product", type := 9, offset := 1, embedded := false, tag := "", pkgPath := "", byteOffset := 16 }, { name := "From", type := 9, offset := 2, embedded := false, tag := "", pkgPath := "", byteOffset := 32 }, { name := "To", type := 9, offset := 3, embedded := false, tag := "", pkgPath := "", byteOffset := 48 }, { name := "Cycle", type := 3, offset := 4, embedded := false, tag := "", pkgPath := "", byteOffset := 64 }, { name := "Volume", type := 3, offset := 5, embedded := false, tag := "", pkgPath := "", byteOffset := 72 }], size := 6, bytes := 80, zero := .agg #[.string ⟨#[]⟩, .string ⟨#[]⟩, .string ⟨#[]⟩, .string ⟨#[]⟩, .int .i64 0, .int .i64 0], τ := .pair (.str) (.pair (.str) (.pair (.str) (.pair (.str) (.pair (.int .i64) (.int .i64))))), eq := true }
theorem tk42 : ti42.ok Tryd.prog := ⟨Tryd.underlying42, by kernel_rfl, fun _ => ⟨Tryd.eqGuardType42, Tryd.stoodInHeld42⟩⟩
def ti43 : TI := { t := 43, desc := .int .u16, size := 1, bytes := 2, zero := .int .u16 0, τ := .int .u16, eq := false }
theorem tk43 : ti43.ok Tryd.prog := ⟨Tryd.underlying43, by kernel_rfl, fun h => by cases h⟩
def ti49 : TI := { t := 49, desc := .struct #[{ name := "L", type := 22, offset := 0, embedded := false, tag := "", pkgPath := "", byteOffset := 0 }, { name := "At", type := 3, offset := 1, embedded := false, tag := "", pkgPath := "", byteOffset := 24 }], size := 2, bytes := 32, zero := .agg #[.slice none 0 0, .int .i64 0], τ := .pair (.sl (.int .i64)) (.int .i64), eq := true }
theorem tk49 : ti49.ok Tryd.prog := ⟨Tryd.underlying49, by kernel_rfl, fun _ => ⟨Tryd.eqGuardType49, Tryd.stoodInHeld49⟩⟩
def ti51 : TI := { t := 51, desc := .slice 35, size := 1, bytes := 24, zero := .slice none 0 0, τ := .sl (.sl (.str)), eq := false }
theorem tk51 : ti51.ok Tryd.prog := ⟨Tryd.underlying51, by kernel_rfl, fun h => by cases h⟩
def ti60 : TI := { t := 60, desc := .map 42 3, size := 1, bytes := 8, zero := .map none, τ := .map (.pair (.str) (.pair (.str) (.pair (.str) (.pair (.str) (.pair (.int .i64) (.int .i64)))))) (.int .i64), eq := false }
theorem tk60 : ti60.ok Tryd.prog := ⟨Tryd.underlying60, by kernel_rfl, fun h => by cases h⟩
def ti66 : TI := { t := 66, desc := .pointer 69, size := 1, bytes := 8, zero := .pointer none, τ := .unit, eq := false }
theorem tk66 : ti66.ok Tryd.prog := ⟨Tryd.underlying66, by kernel_rfl, fun h => by cases h⟩
def ti67 : TI := { t := 67, desc := .slice 5, size := 1, bytes := 24, zero := .slice none 0 0, τ := .sl (.int .u8), eq := false }
theorem tk67 : ti67.ok Tryd.prog := ⟨Tryd.underlying67, by kernel_rfl, fun h => by cases h⟩
def ti69 : TI := { t := 69, desc := .struct #[{ name := "addr", type := 66, offset := 0, embedded := false, tag := "", pkgPath := "strings", byteOffset := 0 }, { name := "buf", type := 67, offset := 1, embedded := false, tag := "", pkgPath := "strings", byteOffset := 8 }], size := 2, bytes := 32, zero := .agg #[.pointer none, .slice none 0 0], τ := .unit, eq := true }
theorem tk69 : ti69.ok Tryd.prog := ⟨Tryd.underlying69, by kernel_rfl, fun _ => ⟨Tryd.eqGuardType69, Tryd.stoodInHeld69⟩⟩
def ti71 : TI := { t := 71, desc := .interface #[("Error", 75)], size := 1, bytes := 16, zero := .nilIface, τ := .err, eq := false }
theorem tk71 : ti71.ok Tryd.prog := ⟨Tryd.underlying71, by kernel_rfl, fun h => by cases h⟩
def ti85 : TI := { t := 85, desc := .int .u64, size := 1, bytes := 8, zero := .int .u64 0, τ := .int .u64, eq := false }
theorem tk85 : ti85.ok Tryd.prog := ⟨Tryd.underlying85, by kernel_rfl, fun h => by cases h⟩
def ti91 : TI := { t := 91, desc := .pointer 5, size := 1, bytes := 8, zero := .pointer none, τ := .unit, eq := false }
theorem tk91 : ti91.ok Tryd.prog := ⟨Tryd.underlying91, by kernel_rfl, fun h => by cases h⟩
def ti105 : TI := { t := 105, desc := .int .u32, size := 1, bytes := 4, zero := .int .u32 0, τ := .int .u32, eq := false }
theorem tk105 : ti105.ok Tryd.prog := ⟨Tryd.underlying105, by kernel_rfl, fun h => by cases h⟩
def ti107 : TI := { t := 107, desc := .int .u64, size := 1, bytes := 8, zero := .int .u64 0, τ := .int .u64, eq := false }
theorem tk107 : ti107.ok Tryd.prog := ⟨Tryd.underlying107, by kernel_rfl, fun h => by cases h⟩
def ti118 : TI := { t := 118, desc := .int .u64, size := 1, bytes := 8, zero := .int .u64 0, τ := .int .u64, eq := false }
theorem tk118 : ti118.ok Tryd.prog := ⟨Tryd.underlying118, by kernel_rfl, fun h => by cases h⟩
def types : List TI := [ti3, ti5, ti9, ti22, ti23, ti27, ti35, ti36, ti38, ti42, ti43, ti49, ti51, ti60, ti66, ti67, ti69, ti71, ti85, ti91, ti105, ti107, ti118]
theorem types_ok : Tys Tryd.prog types := ⟨tk3, tk5, tk9, tk22, tk23, tk27, tk35, tk36, tk38, tk42, tk43, tk49, tk51, tk60, tk66, tk67, tk69, tk71, tk85, tk91, tk105, tk107, tk118, trivial⟩
def xt51 : Ext := extCnt 51
theorem xk51 : ExtOk Tryd.prog xt51 := extCnt_ok Tryd.func51 (by kernel_rfl) (by kernel_rfl) (by kernel_rfl) (by kernel_rfl)
def xt106 : Ext := extIdx 106
theorem xk106 : ExtOk Tryd.prog xt106 := extIdx_ok Tryd.func106 (by kernel_rfl) (by kernel_rfl) (by kernel_rfl) (by kernel_rfl)
abbrev str_0 : List UInt8 := [0, 1, 2, 2, 3, 3, 3, 3, 4, 4, 4, 4, 4, 4, 4, 4, 5, 5, 5, 5, 5, 5, 5, 5, 5, 5, 5, 5, 5, 5, 5, 5, 6, 6, 6, 6, 6, 6, 6, 6, 6, 6, 6, 6, 6, 6, 6, 6, 6, 6, 6, 6, 6, 6, 6, 6, 6, 6, 6, 6, 6, 6, 6, 6, 7, 7, 7, 7, 7, 7, 7, 7, 7, 7, 7, 7, 7, 7, 7, 7, 7, 7, 7, 7, 7, 7, 7, 7, 7, 7, 7, 7, 7, 7, 7, 7, 7, 7, 7, 7, 7, 7, 7, 7, 7, 7, 7, 7, 7, 7, 7, 7, 7, 7, 7, 7, 7, 7, 7, 7, 7, 7, 7, 7, 7, 7, 7, 7, 8, 8, 8, 8, 8, 8, 8, 8, 8, 8, 8, 8, 8, 8, 8, 8, 8, 8, 8, 8, 8, 8, 8, 8, 8, 8, 8, 8, 8, 8, 8, 8, 8, 8, 8, 8, 8, 8, 8, 8, 8, 8, 8, 8, 8, 8, 8, 8, 8, 8, 8, 8, 8, 8, 8, 8, 8, 8, 8, 8, 8, 8, 8, 8, 8, 8, 8, 8, 8, 8, 8, 8, 8, 8, 8, 8, 8, 8, 8, 8, 8, 8, 8, 8, 8, 8, 8, 8, 8, 8, 8, 8, 8, 8, 8, 8, 8, 8, 8, 8, 8, 8, 8, 8, 8, 8, 8, 8, 8, 8, 8, 8, 8, 8, 8, 8, 8, 8, 8, 8, 8, 8, 8, 8, 8, 8, 8, 8]
abbrev kO_0 : KO (List UInt8 × List UInt8 × List UInt8 × List UInt8 × Int × Int) := keyO (.pair (.str) (.pair (.str) (.pair (.str) (.pair (.str) (.pair (.int .i64) (.int .i64))))))
theorem mx : Tryd.prog.follows .mixedOrders = true := by kernel_rfl
theorem nmr7 : (Tryd.f7.name == "runtime.NumGoroutine") = false := by kernel_rfl
theorem nmr22 : (Tryd.f22.name == "runtime.NumGoroutine") = false := by kernel_rfl
theorem nmr21 : (Tryd.f21.name == "runtime.NumGoroutine") = false := by kernel_rfl
theorem nmr13 : (Tryd.f13.name == "runtime.NumGoroutine") = false := by kernel_rfl
theorem nmr12 : (Tryd.f12.name == "runtime.NumGoroutine") = false := by kernel_rfl
theorem nmr15 : (Tryd.f15.name == "runtime.NumGoroutine") = false := by kernel_rfl
theorem nmr6 : (Tryd.f6.name == "runtime.NumGoroutine") = false := by kernel_rfl
theorem nmr44 : (Tryd.f44.name == "runtime.NumGoroutine") = false := by kernel_rfl
theorem nmr25 : (Tryd.f25.name == "runtime.NumGoroutine") = false := by kernel_rfl
theorem nmr70 : (Tryd.f70.name == "runtime.NumGoroutine") = false := by kernel_rfl
theorem nmr45 : (Tryd.f45.name == "runtime.NumGoroutine") = false := by kernel_rfl
theorem nmr27 : (Tryd.f27.name == "runtime.NumGoroutine") = false := by kernel_rfl
theorem nmr26 : (Tryd.f26.name == "runtime.NumGoroutine") = false := by kernel_rfl
theorem nmr16 : (Tryd.f16.name == "runtime.NumGoroutine") = false := by kernel_rfl
theorem nmr17 : (Tryd.f17.name == "runtime.NumGoroutine") = false := by kernel_rfl
theorem nmr47 : (Tryd.f47.name == "runtime.NumGoroutine") = false := by kernel_rfl
theorem nmr29 : (Tryd.f29.name == "runtime.NumGoroutine") = false := by kernel_rfl
theorem nmr31 : (Tryd.f31.name == "runtime.NumGoroutine") = false := by kernel_rfl
theorem nmr48 : (Tryd.f48.name == "runtime.NumGoroutine") = false := by kernel_rfl
theorem nmr30 : (Tryd.f30.name == "runtime.NumGoroutine") = false := by kernel_rfl
theorem nmr32 : (Tryd.f32.name == "runtime.NumGoroutine") = false := by kernel_rfl
theorem nmr33 : (Tryd.f33.name == "runtime.NumGoroutine") = false := by kernel_rfl
theorem nmr18 : (Tryd.f18.name == "runtime.NumGoroutine") = false := by kernel_rfl
theorem nmr8 : (Tryd.f8.name == "runtime.NumGoroutine") = false := by kernel_rfl
theorem nmr92 : (Tryd.f92.name == "runtime.NumGoroutine") = false := by kernel_rfl
theorem nmr77 : (Tryd.f77.name == "runtime.NumGoroutine") = false := by kernel_rfl
theorem nmr52 : (Tryd.f52.name == "runtime.NumGoroutine") = false := by kernel_rfl
theorem nmr34 : (Tryd.f34.name == "runtime.NumGoroutine") = false := by kernel_rfl
theorem nmr53 : (Tryd.f53.name == "runtime.NumGoroutine") = false := by kernel_rfl
theorem nmr35 : (Tryd.f35.name == "runtime.NumGoroutine") = false := by kernel_rfl
theorem nmr54 : (Tryd.f54.name == "runtime.NumGoroutine") = false := by kernel_rfl
theorem nmr36 : (Tryd.f36.name == "runtime.NumGoroutine") = false := by kernel_rfl
theorem nmr55 : (Tryd.f55.name == "runtime.NumGoroutine") = false := by kernel_rfl
theorem nmr37 : (Tryd.f37.name == "runtime.NumGoroutine") = false := by kernel_rfl
theorem nmr19 : (Tryd.f19.name == "runtime.NumGoroutine") = false := by kernel_rfl
theorem nmr97 : (Tryd.f97.name == "runtime.NumGoroutine") = false := by kernel_rfl
theorem nmr79 : (Tryd.f79.name == "runtime.NumGoroutine") = false := by kernel_rfl
theorem nmr56 : (Tryd.f56.name == "runtime.NumGoroutine") = false := by kernel_rfl
theorem nmr57 : (Tryd.f57.name == "runtime.NumGoroutine") = false := by kernel_rfl
theorem nmr38 : (Tryd.f38.name == "runtime.NumGoroutine") = false := by kernel_rfl
theorem nmr20 : (Tryd.f20.name == "runtime.NumGoroutine") = false := by kernel_rfl
theorem nmr9 : (Tryd.f9.name == "runtime.NumGoroutine") = false := by kernel_rfl
theorem nmr10 : (Tryd.f10.name == "runtime.NumGoroutine") = false := by kernel_rfl
theorem nmr11 : (Tryd.f11.name == "runtime.NumGoroutine") = false := by kernel_rfl
theorem nmr3 : (Tryd.f3.name == "runtime.NumGoroutine") = false := by kernel_rfl
theorem nmr4 : (Tryd.f4.name == "runtime.NumGoroutine") = false := by kernel_rfl
theorem nmr66 : (Tryd.f66.name == "runtime.NumGoroutine") = false := by kernel_rfl
theorem nmr67 : (Tryd.f67.name == "runtime.NumGoroutine") = false := by kernel_rfl
theorem nmr40 : (Tryd.f40.name == "runtime.NumGoroutine") = false := by kernel_rfl
theorem nmr58 : (Tryd.f58.name == "runtime.NumGoroutine") = false := by kernel_rfl
theorem nmr82 : (Tryd.f82.name == "runtime.NumGoroutine") = false := by kernel_rfl
theorem nmr59 : (Tryd.f59.name == "runtime.NumGoroutine") = false := by kernel_rfl
theorem nmr83 : (Tryd.f83.name == "runtime.NumGoroutine") = false := by kernel_rfl
theorem nmr84 : (Tryd.f84.name == "runtime.NumGoroutine") = false := by kernel_rfl
theorem nmr60 : (Tryd.f60.name == "runtime.NumGoroutine") = false := by kernel_rfl
theorem nmr103 : (Tryd.f103.name == "runtime.NumGoroutine") = false := by kernel_rfl
theorem nmr86 : (Tryd.f86.name == "runtime.NumGoroutine") = false := by kernel_rfl
theorem nmr85 : (Tryd.f85.name == "runtime.NumGoroutine") = false := by kernel_rfl
theorem nmr61 : (Tryd.f61.name == "runtime.NumGoroutine") = false := by kernel_rfl
theorem nmr62 : (Tryd.f62.name == "runtime.NumGoroutine") = false := by kernel_rfl
theorem nmr63 : (Tryd.f63.name == "runtime.NumGoroutine") = false := by kernel_rfl
theorem nmr64 : (Tryd.f64.name == "runtime.NumGoroutine") = false := by kernel_rfl
theorem nmr65 : (Tryd.f65.name == "runtime.NumGoroutine") = false := by kernel_rfl
theorem nmr39 : (Tryd.f39.name == "runtime.NumGoroutine") = false := by kernel_rfl
theorem nmr23 : (Tryd.f23.name == "runtime.NumGoroutine") = false := by kernel_rfl
theorem nmr68 : (Tryd.f68.name == "runtime.NumGoroutine") = false := by kernel_rfl
theorem nmr42 : (Tryd.f42.name == "runtime.NumGoroutine") = false := by kernel_rfl
theorem nmr69 : (Tryd.f69.name == "runtime.NumGoroutine") = false := by kernel_rfl
theorem nmr43 : (Tryd.f43.name == "runtime.NumGoroutine") = false := by kernel_rfl
theorem nmr41 : (Tryd.f41.name == "runtime.NumGoroutine") = false := by kernel_rfl
theorem nmr24 : (Tryd.f24.name == "runtime.NumGoroutine") = false := by kernel_rfl
theorem nmr14 : (Tryd.f14.name == "runtime.NumGoroutine") = false := by kernel_rfl
theorem nmr5 : (Tryd.f5.name == "runtime.NumGoroutine") = false := by kernel_rfl

noncomputable def keep_New (l : List Int) : Option (List Int × Int) :=
  gd (cutG none (some (.i64, min (l.length : Int) 2000)) l.length) <|
  some (l.take (min (l.length : Int) 2000).toNat, 0)

noncomputable def fn_keep_New : Fun :=
  { f := 7, np := 1, nr := 1,
    ji := { regs := [(0, .one (.data (.sl (.int .i64))))], vars := [], arrs := [] },
    jo := { regs := [(0, .one (.ptr 0 0))], vars := [(0, 49, [.data (.sl (.int .i64)), .data (.int .i64)])], arrs := [] },
    tw := fun x => keep_New x }
noncomputable def cx_keep_New : Cx := { Γ := types, ow := [], fs := [], N := 10 }
theorem ok_keep_New : FunOk Tryd.prog fn_keep_New :=
  FunOk.intro (C := cx_keep_New) (p := .nil)
    Tryd.func7 rfl nmr7 rfl rfl rfl rfl types_ok ⟨trivial, trivial⟩ mx (fun x => by kernel_rfl)

noncomputable def keep_Src_Raw (s : List Int) (s2 : Int) : Option (Int × List Int × Int) :=
  bif decide ((s.length : Int) ≤ s2) then (
   some (0, s, s2))
  else (
   gd (inB (wi64 ((wi64 (s2 + 1)) - 1)) s.length) <|
   some (s.getD (wi64 ((wi64 (s2 + 1)) - 1)).toNat 0, s, wi64 (s2 + 1)))

noncomputable def fn_keep_Src_Raw : Fun :=
  { f := 22, np := 1, nr := 1,
    ji := { regs := [(0, .one (.ptr 0 0))], vars := [(0, 49, [.data (.sl (.int .i64)), .data (.int .i64)])], arrs := [] },
    jo := { regs := [(0, .one (.data (.int .i64)))], vars := [(0, 49, [.data (.sl (.int .i64)), .data (.int .i64)])], arrs := [] },
    tw := fun x => keep_Src_Raw x.1 x.2 }
noncomputable def cx_keep_Src_Raw : Cx := { Γ := types, ow := [], fs := [], N := 31 }
theorem ok_keep_Src_Raw : FunOk Tryd.prog fn_keep_Src_Raw :=
  FunOk.intro (C := cx_keep_Src_Raw) (p := .nil)
    Tryd.func22 rfl nmr22 rfl rfl rfl rfl types_ok ⟨trivial, trivial⟩ mx (fun x => by kernel_rfl)

noncomputable def keep_Mod (x : Int) (n : Int) : Option (Int) :=
  bif decide (n < 1) then (
   some 0)
  else (
   gd (!decide (n = 0)) <|
   bif decide (Int.tmod x n < 0) then (
    some (wi64 ((Int.tmod x n) + n)))
   else (
    some (Int.tmod x n)))

noncomputable def fn_keep_Mod : Fun :=
  { f := 21, np := 2, nr := 1,
    ji := { regs := [(0, .one (.data (.int .i64))), (1, .one (.data (.int .i64)))], vars := [], arrs := [] },
    jo := { regs := [(0, .one (.data (.int .i64)))], vars := [], arrs := [] },
    tw := fun x => keep_Mod x.1 x.2 }
noncomputable def cx_keep_Mod : Cx := { Γ := types, ow := [], fs := [], N := 16 }
theorem ok_keep_Mod : FunOk Tryd.prog fn_keep_Mod :=
  FunOk.intro (C := cx_keep_Mod) (p := .nil)
    Tryd.func21 rfl nmr21 rfl rfl rfl rfl types_ok ⟨trivial, trivial⟩ mx (fun x => by kernel_rfl)

noncomputable def keep_Src_N (n : Int) (s : List Int) (s2 : Int) : Option (Int × List Int × Int) :=
  (keep_Src_Raw s s2).bind fun r =>
  (keep_Mod r.1 n).bind fun r2 =>
  some (r2, r.2.1, r.2.2)

noncomputable def fn_keep_Src_N : Fun :=
  { f := 13, np := 2, nr := 1,
    ji := { regs := [(0, .one (.ptr 0 0)), (1, .one (.data (.int .i64)))], vars := [(0, 49, [.data (.sl (.int .i64)), .data (.int .i64)])], arrs := [] },
    jo := { regs := [(0, .one (.data (.int .i64)))], vars := [(0, 49, [.data (.sl (.int .i64)), .data (.int .i64)])], arrs := [] },
    tw := fun x => keep_Src_N x.1 x.2.1 x.2.2 }
noncomputable def cx_keep_Src_N : Cx := { Γ := types, ow := [], fs := [fn_keep_Src_Raw, fn_keep_Mod], N := 9 }
theorem ok_keep_Src_N : FunOk Tryd.prog fn_keep_Src_N :=
  FunOk.intro (C := cx_keep_Src_N) (p := .nil)
    Tryd.func13 rfl nmr13 rfl rfl rfl rfl types_ok ⟨⟨ok_keep_Src_Raw, ok_keep_Mod, trivial⟩, trivial⟩ mx (fun x => by kernel_rfl)

noncomputable def keep_Src_Text (l : List (List UInt8)) (s : List Int) (s2 : Int) : Option (List UInt8 × List Int × Int) :=
  (keep_Src_N (l.length : Int) s s2).bind fun r =>
  gd (inB r.1 l.length) <|
  some (l.getD r.1.toNat [], r.2.1, r.2.2)

noncomputable def fn_keep_Src_Text : Fun :=
  { f := 12, np := 2, nr := 1,
    ji := { regs := [(0, .one (.ptr 0 0)), (1, .one (.data (.sl (.str))))], vars := [(0, 49, [.data (.sl (.int .i64)), .data (.int .i64)])], arrs := [] },
    jo := { regs := [(0, .one (.data (.str)))], vars := [(0, 49, [.data (.sl (.int .i64)), .data (.int .i64)])], arrs := [] },
    tw := fun x => keep_Src_Text x.1 x.2.1 x.2.2 }
noncomputable def cx_keep_Src_Text : Cx := { Γ := types, ow := [], fs := [fn_keep_Src_N], N := 12 }
theorem ok_keep_Src_Text : FunOk Tryd.prog fn_keep_Src_Text :=
  FunOk.intro (C := cx_keep_Src_Text) (p := .nil)
    Tryd.func12 rfl nmr12 rfl rfl rfl rfl types_ok ⟨⟨ok_keep_Src_N, trivial⟩, trivial⟩ mx (fun x => by kernel_rfl)

noncomputable def keep_Src_Pick (l : List Int) (s : List Int) (s2 : Int) : Option (Int × List Int × Int) :=
  (keep_Src_N (l.length : Int) s s2).bind fun r =>
  gd (inB r.1 l.length) <|
  some (l.getD r.1.toNat 0, r.2.1, r.2.2)

noncomputable def fn_keep_Src_Pick : Fun :=
  { f := 15, np := 2, nr := 1,
    ji := { regs := [(0, .one (.ptr 0 0)), (1, .one (.data (.sl (.int .i64))))], vars := [(0, 49, [.data (.sl (.int .i64)), .data (.int .i64)])], arrs := [] },
    jo := { regs := [(0, .one (.data (.int .i64)))], vars := [(0, 49, [.data (.sl (.int .i64)), .data (.int .i64)])], arrs := [] },
    tw := fun x => keep_Src_Pick x.1 x.2.1 x.2.2 }
noncomputable def cx_keep_Src_Pick : Cx := { Γ := types, ow := [], fs := [fn_keep_Src_N], N := 12 }
theorem ok_keep_Src_Pick : FunOk Tryd.prog fn_keep_Src_Pick :=
  FunOk.intro (C := cx_keep_Src_Pick) (p := .nil)
    Tryd.func15 rfl nmr15 rfl rfl rfl rfl types_ok ⟨⟨ok_keep_Src_N, trivial⟩, trivial⟩ mx (fun x => by kernel_rfl)

noncomputable def law11_made_L0 (i : Int) (d3 : List Int) (d4 : Int) (out : List (List UInt8 × List UInt8 × List UInt8 × List UInt8 × Int × Int)) : Option ((Int × List Int × Int × List (List UInt8 × List UInt8 × List UInt8 × List UInt8 × Int × Int)) ⊕ (List Int × Int × List (List UInt8 × List UInt8 × List UInt8 × List UInt8 × Int × Int))) :=
  bif decide (0 < i) then (
   (keep_Src_Text ([[97, 99, 109, 101], [98, 111, 108, 116]] : List (List UInt8)) d3 d4).bind fun r2 =>
   (keep_Src_Text ([[100, 105, 101, 115, 101, 108], [106, 101, 116]] : List (List UInt8)) r2.2.1 r2.2.2).bind fun r3 =>
   (keep_Src_Text ([[112, 111, 114, 116, 97], [112, 111, 114, 116, 98]] : List (List UInt8)) r3.2.1 r3.2.2).bind fun r4 =>
   (keep_Src_Text ([[112, 111, 114, 116, 99], [112, 111, 114, 116, 100]] : List (List UInt8)) r4.2.1 r4.2.2).bind fun r5 =>
   (keep_Src_N 3 r5.2.1 r5.2.2).bind fun r6 =>
   (keep_Src_Pick [1, 1000, 1073741824] r6.2.1 r6.2.2).bind fun r7 =>
   (keep_Src_N r7.1 r7.2.1 r7.2.2).bind fun r8 =>
   gd (fits (out.length + 1) 80) <|
   some (.inl (wi64 (i - 1), r8.2.1, r8.2.2, out ++ [(r2.1, (r3.1, (r4.1, (r5.1, (r6.1, wi64 (1 + r8.1))))))])))
  else (
   some (.inr (d3, d4, out)))

noncomputable def law11_made (d : List Int) (d2 : Int) : Option (List Int × Int × List (List UInt8 × List UInt8 × List UInt8 × List UInt8 × Int × Int)) :=
  (keep_Src_N 12 d d2).bind fun r =>
  (iter (fun x => law11_made_L0 x.1 x.2.1 x.2.2.1 x.2.2.2) (r.1, r.2.1, r.2.2, [])).bind fun s =>
  some (s.1, s.2.1, s.2.2)

noncomputable def fn_law11_made : Fun :=
  { f := 6, np := 1, nr := 1,
    ji := { regs := [(0, .one (.ptr 0 0))], vars := [(0, 49, [.data (.sl (.int .i64)), .data (.int .i64)])], arrs := [] },
    jo := { regs := [(0, .one (.own 1))], vars := [(0, 49, [.data (.sl (.int .i64)), .data (.int .i64)])], arrs := [(1, .arr 42 (.pair (.str) (.pair (.str) (.pair (.str) (.pair (.str) (.pair (.int .i64) (.int .i64)))))))] },
    tw := fun x => law11_made x.1 x.2 }
noncomputable def cx_law11_made : Cx := { Γ := types, ow := [], fs := [fn_keep_Src_N, fn_keep_Src_Text, fn_keep_Src_Pick], N := 36 }
theorem ok_law11_made : FunOk Tryd.prog fn_law11_made :=
  FunOk.intro (C := cx_law11_made) (p := (.mk [] none .nil (.mk [] none .nil (.mk [] none (.mk [] none .nil (.mk [] none (.mk [] (some ({ regs := [(0, .one (.ptr 0 0)), (3, .one (.own 75)), (4, .one (.data (.int .i64)))], vars := [(0, 49, [.data (.sl (.int .i64)), .data (.int .i64)])], arrs := [(75, .arr 42 (.pair (.str) (.pair (.str) (.pair (.str) (.pair (.str) (.pair (.int .i64) (.int .i64)))))))] }, [{ e := .x 0, j := { regs := [(3, .one (.own 75))], vars := [(0, 49, [.data (.sl (.int .i64)), .data (.int .i64)])], arrs := [(75, .arr 42 (.pair (.str) (.pair (.str) (.pair (.str) (.pair (.str) (.pair (.int .i64) (.int .i64)))))))] } }])) .nil .nil) .nil)) .nil))))
    Tryd.func6 rfl nmr6 rfl rfl rfl rfl types_ok ⟨⟨ok_keep_Src_N, ok_keep_Src_Text, ok_keep_Src_Pick, trivial⟩, trivial⟩ mx (fun x => by kernel_rfl)

noncomputable def slices_IndexFunc_api_Nomination_api_Nomination_L0 (s : List (List UInt8 × List UInt8 × List UInt8 × List UInt8 × Int × Int)) (f : (List UInt8 × List UInt8 × List UInt8 × List UInt8 × Int × Int) × Unit → Option Bool) (v : Int) : Option (Int ⊕ (Unit ⊕ Int)) :=
  bif decide (v < (s.length : Int)) then (
   gd (inB v s.length) <|
   (f (s.getD v.toNat ([], ([], ([], ([], (0, 0))))), ())).bind fun r =>
   bif r then (
    some (.inr (.inr v)))
   else (
    some (.inl (wi64 (v + 1)))))
  else (
   some (.inr (.inl ())))

noncomputable def slices_IndexFunc_api_Nomination_api_Nomination (s : List (List UInt8 × List UInt8 × List UInt8 × List UInt8 × Int × Int)) (f : (List UInt8 × List UInt8 × List UInt8 × List UInt8 × Int × Int) × Unit → Option Bool) : Option (Int) :=
  (iter (fun x => slices_IndexFunc_api_Nomination_api_Nomination_L0 s f x) 0).bind fun s2 =>
  s2.elim (fun s3 =>
   some (-1))
  (fun s4 =>
   some s4)

noncomputable def fn_slices_IndexFunc_api_Nomination_api_Nomination : Fun :=
  { f := 44, np := 2, nr := 1,
    ji := { regs := [(0, .one (.data (.sl (.pair (.str) (.pair (.str) (.pair (.str) (.pair (.str) (.pair (.int .i64) (.int .i64))))))))), (1, .one (.fn [.pair (.str) (.pair (.str) (.pair (.str) (.pair (.str) (.pair (.int .i64) (.int .i64)))))] (.bool)))], vars := [], arrs := [] },
    jo := { regs := [(0, .one (.data (.int .i64)))], vars := [], arrs := [] },
    tw := fun x => slices_IndexFunc_api_Nomination_api_Nomination x.1 x.2 }
noncomputable def cx_slices_IndexFunc_api_Nomination_api_Nomination : Cx := { Γ := types, ow := [], fs := [], N := 19 }
theorem ok_slices_IndexFunc_api_Nomination_api_Nomination : FunOk Tryd.prog fn_slices_IndexFunc_api_Nomination_api_Nomination :=
  FunOk.intro (C := cx_slices_IndexFunc_api_Nomination_api_Nomination) (p := (.mk [] none .nil (.mk [] none (.mk [] none .nil (.mk [] none (.mk [] (some ({ regs := [(0, .one .keep), (1, .one .keep), (7, .one .keep), (8, .one (.data (.int .i64)))], vars := [], arrs := [] }, [{ e := .x 0, j := { regs := [], vars := [], arrs := [] } }, { e := .r, j := { regs := [(4, .one (.data (.int .i64)))], vars := [], arrs := [] } }])) .nil .nil) .nil)) .nil)))
    Tryd.func44 rfl nmr44 rfl rfl rfl rfl types_ok ⟨trivial, trivial⟩ mx (fun x => by kernel_rfl)

noncomputable def slices_ContainsFunc_api_Nomination_api_Nomination (s : List (List UInt8 × List UInt8 × List UInt8 × List UInt8 × Int × Int)) (f : (List UInt8 × List UInt8 × List UInt8 × List UInt8 × Int × Int) × Unit → Option Bool) : Option (Bool) :=
  (slices_IndexFunc_api_Nomination_api_Nomination s f).bind fun r =>
  some (decide (0 ≤ r))

noncomputable def fn_slices_ContainsFunc_api_Nomination_api_Nomination : Fun :=
  { f := 25, np := 2, nr := 1,
    ji := { regs := [(0, .one (.data (.sl (.pair (.str) (.pair (.str) (.pair (.str) (.pair (.str) (.pair (.int .i64) (.int .i64))))))))), (1, .one (.fn [.pair (.str) (.pair (.str) (.pair (.str) (.pair (.str) (.pair (.int .i64) (.int .i64)))))] (.bool)))], vars := [], arrs := [] },
    jo := { regs := [(0, .one (.data (.bool)))], vars := [], arrs := [] },
    tw := fun x => slices_ContainsFunc_api_Nomination_api_Nomination x.1 x.2 }
noncomputable def cx_slices_ContainsFunc_api_Nomination_api_Nomination : Cx := { Γ := types, ow := [], fs := [fn_slices_IndexFunc_api_Nomination_api_Nomination], N := 9 }
theorem ok_slices_ContainsFunc_api_Nomination_api_Nomination : FunOk Tryd.prog fn_slices_ContainsFunc_api_Nomination_api_Nomination :=
  FunOk.intro (C := cx_slices_ContainsFunc_api_Nomination_api_Nomination) (p := .nil)
    Tryd.func25 rfl nmr25 rfl rfl rfl rfl types_ok ⟨⟨ok_slices_IndexFunc_api_Nomination_api_Nomination, trivial⟩, trivial⟩ mx (fun x => by kernel_rfl)

noncomputable def lines_place (c : Int) : Option (Int) :=
  Option.bind (α := Unit ⊕ Unit ⊕ Int) (
    Option.bind (α := Bool) (
      bif decide (97 ≤ c) then (
       some (decide (c ≤ 122)))
      else (
       some false)) fun s =>
    bif s then (
     some (.inr (.inr 1)))
    else (
     Option.bind (α := Bool) (
       bif decide (48 ≤ c) then (
        some (decide (c ≤ 57)))
       else (
        some false)) fun s2 =>
     bif s2 then (
      some (.inl ()))
     else (
      bif decide (c = 45) then (
       some (.inl ()))
      else (
       some (.inr (.inl ())))))) fun s3 =>
  s3.elim (fun s4 =>
   some 2)
  (fun s5 =>
   s5.elim (fun s6 =>
    some 0)
   (fun s7 =>
    some s7))

noncomputable def fn_lines_place : Fun :=
  { f := 70, np := 1, nr := 1,
    ji := { regs := [(0, .one (.data (.int .u8)))], vars := [], arrs := [] },
    jo := { regs := [(0, .one (.data (.int .i64)))], vars := [], arrs := [] },
    tw := fun x => lines_place x }
noncomputable def cx_lines_place : Cx := { Γ := types, ow := [], fs := [], N := 20 }
theorem ok_lines_place : FunOk Tryd.prog fn_lines_place :=
  FunOk.intro (C := cx_lines_place) (p := (.mk [] none .nil (.mk [] none (.mk [] none (.mk [] none (.mk [.join [{ e := .n, j := { regs := [], vars := [], arrs := [] } }, { e := .x 0, j := { regs := [], vars := [], arrs := [] } }, { e := .r, j := { regs := [(2, .one (.data (.int .i64)))], vars := [], arrs := [] } }]] none (.mk [] none (.mk [] none (.mk [] none (.mk [] none (.mk [] none (.mk [] none (.mk [.join [{ e := .n, j := { regs := [(0, .one .keep), (3, .one (.data (.bool)))], vars := [], arrs := [] } }]] none .nil .nil) .nil) (.mk [] none (.mk [] none (.mk [.join [{ e := .n, j := { regs := [(0, .one .keep), (10, .one (.data (.bool)))], vars := [], arrs := [] } }]] none .nil .nil) .nil) .nil)) .nil) .nil) .nil) .nil) .nil) .nil) .nil) .nil)))
    Tryd.func70 rfl nmr70 rfl rfl rfl rfl types_ok ⟨trivial, trivial⟩ mx (fun x => by kernel_rfl)

noncomputable def lines_Name_L0 (s : List UInt8) (v : Int) : Option (Int ⊕ (Unit ⊕ Bool)) :=
  bif decide (v < (s.length : Int)) then (
   gd (inB v s.length) <|
   (lines_place (Int.ofNat (s.getD v.toNat 0).toNat)).bind fun r2 =>
   bif decide (r2 = 0) then (
    some (.inr (.inr false)))
   else (
    some (.inl (wi64 (v + 1)))))
  else (
   some (.inr (.inl ())))

noncomputable def lines_Name (s : List UInt8) : Option (Bool) :=
  Option.bind (α := Bool) (
    bif decide ((s.length : Int) < 1) then (
     some true)
    else (
     bif decide (12 < (s.length : Int)) then (
      some true)
     else (
      gd (inB 0 s.length) <|
      (lines_place (Int.ofNat (s.getD 0 0).toNat)).bind fun r =>
      some (!decide (r = 1))))) fun s2 =>
  bif s2 then (
   some false)
  else (
   (iter (fun x => lines_Name_L0 s x) 0).bind fun s3 =>
   s3.elim (fun s4 =>
    some true)
   (fun s5 =>
    some s5))

noncomputable def fn_lines_Name : Fun :=
  { f := 45, np := 1, nr := 1,
    ji := { regs := [(0, .one (.data (.str)))], vars := [], arrs := [] },
    jo := { regs := [(0, .one (.data (.bool)))], vars := [], arrs := [] },
    tw := fun x => lines_Name x }
noncomputable def cx_lines_Name : Cx := { Γ := types, ow := [], fs := [fn_lines_place], N := 29 }
theorem ok_lines_Name : FunOk Tryd.prog fn_lines_Name :=
  FunOk.intro (C := cx_lines_Name) (p := (.mk [] none .nil (.mk [] none (.mk [] none (.mk [.join [{ e := .n, j := { regs := [(0, .one .keep), (17, .one (.data (.bool)))], vars := [], arrs := [] } }]] none .nil .nil) .nil) (.mk [] none (.mk [] none .nil (.mk [] none (.mk [] (some ({ regs := [(0, .one .keep), (19, .one .keep), (20, .one (.data (.int .i64)))], vars := [], arrs := [] }, [{ e := .x 0, j := { regs := [], vars := [], arrs := [] } }, { e := .r, j := { regs := [(2, .one (.data (.bool)))], vars := [], arrs := [] } }])) .nil .nil) .nil)) .nil))))
    Tryd.func45 rfl nmr45 rfl rfl rfl rfl types_ok ⟨⟨ok_lines_place, trivial⟩, trivial⟩ mx (fun x => by kernel_rfl)

noncomputable def nomination_valid_L0 (n : List UInt8 × List UInt8 × List UInt8 × List UInt8 × Int × Int) (v : Int) : Option (Int ⊕ (Unit ⊕ Bool)) :=
  bif decide (v < ([n.1, n.2.1, n.2.2.1, n.2.2.2.1].length : Int)) then (
   gd (inB v [n.1, n.2.1, n.2.2.1, n.2.2.2.1].length) <|
   (lines_Name ([n.1, n.2.1, n.2.2.1, n.2.2.2.1].getD v.toNat [])).bind fun r =>
   bif !r then (
    some (.inr (.inr false)))
   else (
    some (.inl (wi64 (v + 1)))))
  else (
   some (.inr (.inl ())))

noncomputable def nomination_valid (n : List UInt8 × List UInt8 × List UInt8 × List UInt8 × Int × Int) : Option (Bool) :=
  (iter (fun x => nomination_valid_L0 n x) 0).bind fun s =>
  s.elim (fun s2 =>
   bif !decide (n.2.2.1 = n.2.2.2.1) then (
    bif decide (0 ≤ n.2.2.2.2.1) then (
     bif decide (n.2.2.2.2.1 ≤ 1000000) then (
      bif decide (1 ≤ n.2.2.2.2.2) then (
       some (decide (n.2.2.2.2.2 ≤ 1099511627776)))
      else (
       some false))
     else (
      some false))
    else (
     some false))
   else (
    some false))
  (fun s3 =>
   some s3)

noncomputable def fn_nomination_valid : Fun :=
  { f := 27, np := 1, nr := 1,
    ji := { regs := [(0, .one (.data (.pair (.str) (.pair (.str) (.pair (.str) (.pair (.str) (.pair (.int .i64) (.int .i64))))))))], vars := [], arrs := [] },
    jo := { regs := [(0, .one (.data (.bool)))], vars := [], arrs := [] },
    tw := fun x => nomination_valid x }
noncomputable def cx_nomination_valid : Cx := { Γ := types, ow := [], fs := [fn_lines_Name], N := 48 }
theorem ok_nomination_valid : FunOk Tryd.prog fn_nomination_valid :=
  FunOk.intro (C := cx_nomination_valid) (p := (.mk [] none .nil (.mk [] none (.mk [] none .nil (.mk [] none (.mk [] (some ({ regs := [(1, .one (.ptr 32 0)), (13, .one .keep), (14, .one .keep), (15, .one (.data (.int .i64)))], vars := [(32, 42, [.keep, .keep, .keep, .keep, .keep, .keep])], arrs := [] }, [{ e := .x 0, j := { regs := [(1, .one (.ptr 32 0))], vars := [(32, 42, [.keep, .keep, .keep, .keep, .keep, .keep])], arrs := [] } }, { e := .r, j := { regs := [(2, .one (.data (.bool)))], vars := [], arrs := [] } }])) .nil .nil) .nil)) .nil)))
    Tryd.func27 rfl nmr27 rfl rfl rfl rfl types_ok ⟨⟨ok_lines_Name, trivial⟩, trivial⟩ mx (fun x => by kernel_rfl)

noncomputable def nomination_Check_1 (n : List UInt8 × List UInt8 × List UInt8 × List UInt8 × Int × Int) : Option (Bool) :=
  (nomination_valid (n.1, (n.2.1, (n.2.2.1, (n.2.2.2.1, (n.2.2.2.2.1, n.2.2.2.2.2)))))).bind fun r =>
  some (!r)

noncomputable def fn_nomination_Check_1 : Fun :=
  { f := 26, np := 1, nr := 1,
    ji := { regs := [(0, .one (.data (.pair (.str) (.pair (.str) (.pair (.str) (.pair (.str) (.pair (.int .i64) (.int .i64))))))))], vars := [], arrs := [] },
    jo := { regs := [(0, .one (.data (.bool)))], vars := [], arrs := [] },
    tw := fun x => nomination_Check_1 x }
noncomputable def cx_nomination_Check_1 : Cx := { Γ := types, ow := [], fs := [fn_nomination_valid], N := 6 }
theorem ok_nomination_Check_1 : FunOk Tryd.prog fn_nomination_Check_1 :=
  FunOk.intro (C := cx_nomination_Check_1) (p := .nil)
    Tryd.func26 rfl nmr26 rfl rfl rfl rfl types_ok ⟨⟨ok_nomination_valid, trivial⟩, trivial⟩ mx (fun x => by kernel_rfl)

noncomputable def nomination_Check (l : List (List UInt8 × List UInt8 × List UInt8 × List UInt8 × Int × Int)) : Option (Int) :=
  bif decide (400 < (l.length : Int)) then (
   some 4)
  else (
   (slices_ContainsFunc_api_Nomination_api_Nomination l (fun h => (nomination_Check_1 h.1).bind fun y => some y)).bind fun r =>
   bif r then (
    some 9)
   else (
    some 0))

noncomputable def fn_nomination_Check : Fun :=
  { f := 16, np := 1, nr := 1,
    ji := { regs := [(0, .one (.data (.sl (.pair (.str) (.pair (.str) (.pair (.str) (.pair (.str) (.pair (.int .i64) (.int .i64)))))))))], vars := [], arrs := [] },
    jo := { regs := [(0, .one (.data (.int .i64)))], vars := [], arrs := [] },
    tw := fun x => nomination_Check x }
noncomputable def cx_nomination_Check : Cx := { Γ := types, ow := [], fs := [fn_slices_ContainsFunc_api_Nomination_api_Nomination, fn_nomination_Check_1], N := 8 }
theorem ok_nomination_Check : FunOk Tryd.prog fn_nomination_Check :=
  FunOk.intro (C := cx_nomination_Check) (p := .nil)
    Tryd.func16 rfl nmr16 rfl rfl rfl rfl types_ok ⟨⟨ok_slices_ContainsFunc_api_Nomination_api_Nomination, ok_nomination_Check_1, trivial⟩, trivial⟩ mx (fun x => by kernel_rfl)

noncomputable def fn_strconv_Itoa : Fun := funItoa 17
theorem ok_strconv_Itoa : FunOk Tryd.prog fn_strconv_Itoa := itoa_ok ⟨_, Tryd.func17, nmr17, rfl⟩ (by kernel_rfl) Tryd.strconv_Itoa (by unfold globs; exact .head _) (by kernel_rfl) (by kernel_rfl)

noncomputable def lines_word_L0 (s : List UInt8) (v : Int) : Option (Int ⊕ (Unit ⊕ Bool)) :=
  bif decide (v < (s.length : Int)) then (
   Option.bind (α := Bool) (
     gd (inB v s.length) <|
     bif decide ((Int.ofNat (s.getD v.toNat 0).toNat) < 33) then (
      some true)
     else (
      gd (inB v s.length) <|
      some (decide (126 < (Int.ofNat (s.getD v.toNat 0).toNat))))) fun s2 =>
   bif s2 then (
    some (.inr (.inr false)))
   else (
    some (.inl (wi64 (v + 1)))))
  else (
   some (.inr (.inl ())))

noncomputable def lines_word (s : List UInt8) : Option (Bool) :=
  (iter (fun x => lines_word_L0 s x) 0).bind fun s3 =>
  s3.elim (fun s4 =>
   some (!decide (s = [])))
  (fun s5 =>
   some s5)

noncomputable def fn_lines_word : Fun :=
  { f := 47, np := 1, nr := 1,
    ji := { regs := [(0, .one (.data (.str)))], vars := [], arrs := [] },
    jo := { regs := [(0, .one (.data (.bool)))], vars := [], arrs := [] },
    tw := fun x => lines_word x }
noncomputable def cx_lines_word : Cx := { Γ := types, ow := [], fs := [], N := 22 }
theorem ok_lines_word : FunOk Tryd.prog fn_lines_word :=
  FunOk.intro (C := cx_lines_word) (p := (.mk [] none .nil (.mk [] none (.mk [] none .nil (.mk [] none (.mk [] (some ({ regs := [(0, .one .keep), (5, .one .keep), (6, .one (.data (.int .i64)))], vars := [], arrs := [] }, [{ e := .x 0, j := { regs := [(0, .one .keep)], vars := [], arrs := [] } }, { e := .r, j := { regs := [(2, .one (.data (.bool)))], vars := [], arrs := [] } }])) (.mk [] none .nil (.mk [] none .nil (.mk [] none (.mk [] none (.mk [] none .nil (.mk [] none (.mk [.join [{ e := .n, j := { regs := [(0, .one .keep), (5, .one .keep), (6, .one .keep), (18, .one (.data (.bool)))], vars := [], arrs := [] } }]] none .nil .nil) .nil)) .nil) .nil))) .nil) .nil)) .nil)))
    Tryd.func47 rfl nmr47 rfl rfl rfl rfl types_ok ⟨trivial, trivial⟩ mx (fun x => by kernel_rfl)

noncomputable def lines_words_L0 (l : List (List UInt8)) (v : Int) : Option (Int ⊕ (Unit ⊕ Bool)) :=
  bif decide (v < (l.length : Int)) then (
   gd (inB v l.length) <|
   (lines_word (l.getD v.toNat [])).bind fun r =>
   bif !r then (
    some (.inr (.inr false)))
   else (
    some (.inl (wi64 (v + 1)))))
  else (
   some (.inr (.inl ())))

noncomputable def lines_words (l : List (List UInt8)) : Option (Bool) :=
  Option.bind (α := Bool) (
    bif decide ((l.length : Int) < 1) then (
     some true)
    else (
     some (decide (16 < (l.length : Int))))) fun s =>
  bif s then (
   some false)
  else (
   (iter (fun x => lines_words_L0 l x) 0).bind fun s2 =>
   s2.elim (fun s3 =>
    gd (inB 0 l.length) <|
    gd (inB 0 (l.getD 0 []).length) <|
    some (!decide ((Int.ofNat ((l.getD 0 []).getD 0 0).toNat) = 35)))
   (fun s4 =>
    some s4))

noncomputable def fn_lines_words : Fun :=
  { f := 29, np := 1, nr := 1,
    ji := { regs := [(0, .one (.data (.sl (.str))))], vars := [], arrs := [] },
    jo := { regs := [(0, .one (.data (.bool)))], vars := [], arrs := [] },
    tw := fun x => lines_words x }
noncomputable def cx_lines_words : Cx := { Γ := types, ow := [], fs := [fn_lines_word], N := 28 }
theorem ok_lines_words : FunOk Tryd.prog fn_lines_words :=
  FunOk.intro (C := cx_lines_words) (p := (.mk [] none .nil (.mk [] none (.mk [] none (.mk [.join [{ e := .n, j := { regs := [(0, .one .keep), (12, .one (.data (.bool)))], vars := [], arrs := [] } }]] none .nil .nil) .nil) (.mk [] none (.mk [] none .nil (.mk [] none (.mk [] (some ({ regs := [(0, .one .keep), (13, .one .keep), (14, .one .keep), (15, .one (.data (.int .i64)))], vars := [], arrs := [] }, [{ e := .x 0, j := { regs := [(0, .one .keep)], vars := [], arrs := [] } }, { e := .r, j := { regs := [(2, .one (.data (.bool)))], vars := [], arrs := [] } }])) .nil .nil) .nil)) .nil))))
    Tryd.func29 rfl nmr29 rfl rfl rfl rfl types_ok ⟨⟨ok_lines_word, trivial⟩, trivial⟩ mx (fun x => by kernel_rfl)

noncomputable def fn_strings_Join : Fun := funJoin 31
theorem ok_strings_Join : FunOk Tryd.prog fn_strings_Join := join_ok ⟨_, Tryd.func31, nmr31, rfl⟩ Tryd.strings_Join_none Tryd.strings_Join

def ccT (l : List Int) : Option (List Int) := some l
noncomputable def fn_strings_Builder_copyCheck : Fun := funCC 48 69 5
theorem ok_strings_Builder_copyCheck : FunOk Tryd.prog fn_strings_Builder_copyCheck := cc_ok ⟨_, Tryd.func48, nmr48, rfl⟩ Tryd.cc_fresh Tryd.cc_used

noncomputable def strings_Builder_WriteString (s : List UInt8) (b : List Int) : Option (Int × Bool × List Int) :=
  (ccT b).bind fun r =>
  gd (Nat.blt 0 s.length && fits (r.length + s.length) 1) <|
  some ((s.length : Int), false, r ++ ofBytes s)

noncomputable def fn_strings_Builder_WriteString : Fun :=
  { f := 30, np := 2, nr := 2,
    ji := { regs := [(0, .one (.ptr 0 0)), (1, .one (.data (.str)))], vars := [(0, 69, [.nptr 0 0, .own 1])], arrs := [(1, .arr 5 (.int .u8))] },
    jo := { regs := [(0, .one (.data (.int .i64))), (1, .one (.data (.err)))], vars := [(0, 69, [.ptr 0 0, .own 2])], arrs := [(2, .arr 5 (.int .u8))] },
    tw := fun x => strings_Builder_WriteString x.1 x.2 }
noncomputable def cx_strings_Builder_WriteString : Cx := { Γ := types, ow := [], fs := [fn_strings_Builder_copyCheck], N := 19 }
theorem ok_strings_Builder_WriteString : FunOk Tryd.prog fn_strings_Builder_WriteString :=
  FunOk.intro (C := cx_strings_Builder_WriteString) (p := .nil)
    Tryd.func30 rfl nmr30 rfl rfl rfl rfl types_ok ⟨⟨ok_strings_Builder_copyCheck, trivial⟩, trivial⟩ mx (fun x => by kernel_rfl)

noncomputable def strings_Builder_Len (b : List Int) : Option (Int × List Int) :=
  some ((b.length : Int), b)

noncomputable def fn_strings_Builder_Len : Fun :=
  { f := 32, np := 1, nr := 1,
    ji := { regs := [(0, .one (.ptr 0 0))], vars := [(0, 69, [.nptr 0 0, .own 1])], arrs := [(1, .arr 5 (.int .u8))] },
    jo := { regs := [(0, .one (.data (.int .i64)))], vars := [(0, 69, [.nptr 0 0, .own 1])], arrs := [(1, .arr 5 (.int .u8))] },
    tw := fun x => strings_Builder_Len x }
noncomputable def cx_strings_Builder_Len : Cx := { Γ := types, ow := [], fs := [], N := 8 }
theorem ok_strings_Builder_Len : FunOk Tryd.prog fn_strings_Builder_Len :=
  FunOk.intro (C := cx_strings_Builder_Len) (p := .nil)
    Tryd.func32 rfl nmr32 rfl rfl rfl rfl types_ok ⟨trivial, trivial⟩ mx (fun x => by kernel_rfl)

noncomputable def strings_Builder_String (b : List Int) : Option (List UInt8) :=
  gd (Nat.blt 0 b.length) <|
  gd (Nat.blt 0 b.length && (decide ((b.length : Int) = (b.length : Int)) && decide (ofBytes (toBytes b) = b))) <|
  some (toBytes b)

noncomputable def fn_strings_Builder_String : Fun :=
  { f := 33, np := 1, nr := 1,
    ji := { regs := [(0, .one (.ptr 0 0))], vars := [(0, 69, [.nptr 0 0, .own 1])], arrs := [(1, .arr 5 (.int .u8))] },
    jo := { regs := [(0, .one (.data (.str)))], vars := [], arrs := [] },
    tw := fun x => strings_Builder_String x }
noncomputable def cx_strings_Builder_String : Cx := { Γ := types, ow := [], fs := [], N := 14 }
theorem ok_strings_Builder_String : FunOk Tryd.prog fn_strings_Builder_String :=
  FunOk.intro (C := cx_strings_Builder_String) (p := .nil)
    Tryd.func33 rfl nmr33 rfl rfl rfl rfl types_ok ⟨trivial, trivial⟩ mx (fun x => by kernel_rfl)

noncomputable def strings_Builder_String_nil : Option (List UInt8) :=
  gd (decide (0 = 0)) <|
  some []

noncomputable def fn_strings_Builder_String_nil : Fun :=
  { f := 33, np := 1, nr := 1,
    ji := { regs := [(0, .one (.ptr 0 0))], vars := [(0, 69, [.nptr 0 0, .nil])], arrs := [] },
    jo := { regs := [(0, .one (.data (.str)))], vars := [], arrs := [] },
    tw := fun x => strings_Builder_String_nil }
noncomputable def cx_strings_Builder_String_nil : Cx := { Γ := types, ow := [], fs := [], N := 14 }
theorem ok_strings_Builder_String_nil : FunOk Tryd.prog fn_strings_Builder_String_nil :=
  FunOk.intro (C := cx_strings_Builder_String_nil) (p := .nil)
    Tryd.func33 rfl nmr33 rfl rfl rfl rfl types_ok ⟨trivial, trivial⟩ mx (fun x => by kernel_rfl)

noncomputable def strings_Builder_Len_nil : Option (Int) :=
  some 0

noncomputable def fn_strings_Builder_Len_nil : Fun :=
  { f := 32, np := 1, nr := 1,
    ji := { regs := [(0, .one (.ptr 0 0))], vars := [(0, 69, [.nptr 0 0, .nil])], arrs := [] },
    jo := { regs := [(0, .one (.data (.int .i64)))], vars := [(0, 69, [.nptr 0 0, .nil])], arrs := [] },
    tw := fun x => strings_Builder_Len_nil }
noncomputable def cx_strings_Builder_Len_nil : Cx := { Γ := types, ow := [], fs := [], N := 8 }
theorem ok_strings_Builder_Len_nil : FunOk Tryd.prog fn_strings_Builder_Len_nil :=
  FunOk.intro (C := cx_strings_Builder_Len_nil) (p := .nil)
    Tryd.func32 rfl nmr32 rfl rfl rfl rfl types_ok ⟨trivial, trivial⟩ mx (fun x => by kernel_rfl)

noncomputable def lines_JoinE_L1 (l : List (List (List UInt8))) (v : Int) (n2 : Int) (v2 : Int) : Option ((Int × Int) ⊕ Int) :=
  bif decide (v2 < ((l.getD v.toNat []).length : Int)) then (
   gd (inB v2 (l.getD v.toNat []).length) <|
   Option.bind (α := Int) (
     bif decide (32768 < wi64 (n2 + (((l.getD v.toNat []).getD v2.toNat []).length : Int))) then (
      some 32768)
     else (
      some (wi64 (n2 + (((l.getD v.toNat []).getD v2.toNat []).length : Int))))) fun s2 =>
   some (.inl (s2, wi64 (v2 + 1))))
  else (
   some (.inr n2))

noncomputable def lines_JoinE_L0 (l : List (List (List UInt8))) (n : Int) (v : Int) : Option ((Int × Int) ⊕ (Int ⊕ (List UInt8 × Int))) :=
  bif decide (v < (l.length : Int)) then (
   gd (inB v l.length) <|
   Option.bind (α := Bool) (
     bif decide (0 < ((l.getD v.toNat []).length : Int)) then (
      (lines_words (l.getD v.toNat [])).bind fun r =>
      some (!r))
     else (
      some false)) fun s =>
   bif s then (
    some (.inr (.inr ([], 3))))
   else (
    (iter (fun x => lines_JoinE_L1 l v x.1 x.2) (wi64 (n + ((l.getD v.toNat []).length : Int)), 0)).bind fun s3 =>
    some (.inl (s3, wi64 (v + 1)))))
  else (
   some (.inr (.inl n)))

noncomputable def lines_JoinE_L2 (l : List (List (List UInt8))) (s5 : Int) (v3 : Int) : Option (Int ⊕ Unit) :=
  bif decide (v3 < (l.length : Int)) then (
   gd (inB v3 l.length) <|
   Option.bind (α := Unit) (
     bif decide (s5 < 32768) then (
      (joinT (l.getD v3.toNat []) [32]).bind fun r2 =>
      gd (Nat.ble (r2.length + [10].length) 9223372036854775807) <|
      none)
     else (
      some ())) fun s7 =>
   some (.inl (wi64 (v3 + 1))))
  else (
   some (.inr ()))

noncomputable def lines_JoinE (l : List (List (List UInt8))) : Option (List UInt8 × Int) :=
  bif decide (400 < (l.length : Int)) then (
   some ([], 4))
  else (
   (iter (fun x2 => lines_JoinE_L0 l x2.1 x2.2) (0, 0)).bind fun s4 =>
   s4.elim (fun s5 =>
    (iter (fun x3 => lines_JoinE_L2 l s5 x3) 0).bind fun s8 =>
    Option.bind (α := Bool) (
      bif decide (s5 = 32768) then (
       some true)
      else (
       (strings_Builder_Len_nil).bind fun r3 =>
       some (decide (16384 < r3)))) fun s9 =>
    bif s9 then (
     some ([], 4))
    else (
     (strings_Builder_String_nil).bind fun r4 =>
     some (r4, 0)))
   (fun s6 =>
    some (s6.1, s6.2)))

noncomputable def fn_lines_JoinE : Fun :=
  { f := 18, np := 1, nr := 2,
    ji := { regs := [(0, .one (.data (.sl (.sl (.str)))))], vars := [], arrs := [] },
    jo := { regs := [(0, .one (.data (.str))), (1, .one (.data (.int .i64)))], vars := [], arrs := [] },
    tw := fun x => lines_JoinE x }
noncomputable def cx_lines_JoinE : Cx := { Γ := types, ow := [], fs := [fn_lines_words, fn_strings_Join, fn_strings_Builder_Len_nil, fn_strings_Builder_String_nil], N := 67 }
theorem ok_lines_JoinE : FunOk Tryd.prog fn_lines_JoinE :=
  FunOk.intro (C := cx_lines_JoinE) (p := (.mk [] none .nil (.mk [] none .nil (.mk [] none .nil (.mk [] none (.mk [] none .nil (.mk [] none (.mk [] (some ({ regs := [(0, .one .keep), (4, .one (.data (.int .i64))), (15, .one .keep), (16, .one .keep), (17, .one (.data (.int .i64)))], vars := [], arrs := [] }, [{ e := .x 0, j := { regs := [(0, .one .keep), (4, .one (.data (.int .i64)))], vars := [], arrs := [] } }, { e := .r, j := { regs := [(2, .one (.data (.str))), (3, .one (.data (.int .i64)))], vars := [], arrs := [] } }])) (.mk [] none .nil (.mk [] none .nil (.mk [] none (.mk [] none (.mk [] none .nil (.mk [] none (.mk [] none (.mk [.join [{ e := .n, j := { regs := [(0, .one .keep), (4, .one .keep), (6, .one .keep), (15, .one .keep), (16, .one .keep), (17, .one .keep), (28, .one (.data (.bool)))], vars := [], arrs := [] } }]] none .nil .nil) .nil) (.mk [] none .nil (.mk [] none .nil (.mk [] none (.mk [] (some ({ regs := [(0, .one .keep), (4, .one (.data (.int .i64))), (15, .one .keep), (16, .one .keep), (17, .one .keep), (33, .one .keep), (34, .one .keep), (35, .one (.data (.int .i64)))], vars := [], arrs := [] }, [{ e := .x 2, j := { regs := [(0, .one .keep), (4, .one (.data (.int .i64))), (15, .one .keep), (16, .one .keep), (17, .one .keep)], vars := [], arrs := [] } }])) (.mk [] none .nil (.mk [] none .nil (.mk [] none (.mk [] none (.mk [] none .nil (.mk [] none .nil (.mk [] none .nil (.mk [.join [{ e := .n, j := { regs := [(0, .one .keep), (4, .one (.data (.int .i64))), (15, .one .keep), (16, .one .keep), (17, .one .keep), (33, .one .keep), (34, .one .keep), (35, .one .keep)], vars := [], arrs := [] } }]] none .nil .nil)))) .nil) .nil))) .nil) .nil))))) .nil) .nil))) .nil) .nil)) (.mk [] none .nil (.mk [] none (.mk [] none .nil (.mk [] none (.mk [] (some ({ regs := [(4, .one .keep), (9, .one (.ptr 160 0)), (47, .one .keep), (48, .one .keep), (49, .one (.data (.int .i64)))], vars := [(160, 69, [.keep, .nil])], arrs := [] }, [{ e := .x 4, j := { regs := [(4, .one .keep), (9, .one (.ptr 160 0))], vars := [(160, 69, [.keep, .nil])], arrs := [] } }])) (.mk [] none .nil (.mk [] none .nil (.mk [] none (.mk [] none (.mk [] none .nil (.mk [] none .nil (.mk [.join [{ e := .n, j := { regs := [(4, .one .keep), (9, .one (.ptr 160 0)), (47, .one .keep), (48, .one .keep), (49, .one .keep)], vars := [(160, 69, [.keep, .nil])], arrs := [] } }]] none .nil .nil))) .nil) .nil))) .nil) .nil)) (.mk [] none (.mk [] none (.mk [.join [{ e := .n, j := { regs := [(9, .one (.ptr 160 0)), (65, .one (.data (.bool)))], vars := [(160, 69, [.nptr 160 0, .nil])], arrs := [] } }]] none .nil .nil) .nil) .nil))))))))
    Tryd.func18 rfl nmr18 rfl rfl rfl rfl types_ok ⟨⟨ok_lines_words, ok_strings_Join, ok_strings_Builder_Len_nil, ok_strings_Builder_String_nil, trivial⟩, trivial⟩ mx (fun x => by kernel_rfl)

noncomputable def lines_JoinB_L1 (l : List (List (List UInt8))) (v : Int) (n2 : Int) (v2 : Int) : Option ((Int × Int) ⊕ Int) :=
  bif decide (v2 < ((l.getD v.toNat []).length : Int)) then (
   gd (inB v2 (l.getD v.toNat []).length) <|
   Option.bind (α := Int) (
     bif decide (32768 < wi64 (n2 + (((l.getD v.toNat []).getD v2.toNat []).length : Int))) then (
      some 32768)
     else (
      some (wi64 (n2 + (((l.getD v.toNat []).getD v2.toNat []).length : Int))))) fun s2 =>
   some (.inl (s2, wi64 (v2 + 1))))
  else (
   some (.inr n2))

noncomputable def lines_JoinB_L0 (l : List (List (List UInt8))) (n : Int) (v : Int) : Option ((Int × Int) ⊕ (Int ⊕ (List UInt8 × Int))) :=
  bif decide (v < (l.length : Int)) then (
   gd (inB v l.length) <|
   Option.bind (α := Bool) (
     bif decide (0 < ((l.getD v.toNat []).length : Int)) then (
      (lines_words (l.getD v.toNat [])).bind fun r =>
      some (!r))
     else (
      some false)) fun s =>
   bif s then (
    some (.inr (.inr ([], 3))))
   else (
    (iter (fun x => lines_JoinB_L1 l v x.1 x.2) (wi64 (n + ((l.getD v.toNat []).length : Int)), 0)).bind fun s3 =>
    some (.inl (s3, wi64 (v + 1)))))
  else (
   some (.inr (.inl n)))

noncomputable def lines_JoinB_L2 (l : List (List (List UInt8))) (s5 : Int) (v3 : Int) (b : List Int) : Option ((Int × List Int) ⊕ (List Int)) :=
  bif decide (v3 < (l.length : Int)) then (
   gd (inB v3 l.length) <|
   Option.bind (α := List Int) (
     bif decide (s5 < 32768) then (
      (joinT (l.getD v3.toNat []) [32]).bind fun r2 =>
      gd (Nat.ble (r2.length + [10].length) 9223372036854775807) <|
      (strings_Builder_WriteString (r2 ++ [10]) b).bind fun r3 =>
      some r3.2.2)
     else (
      some b)) fun s7 =>
   some (.inl (wi64 (v3 + 1), s7)))
  else (
   some (.inr b))

noncomputable def lines_JoinB (l : List (List (List UInt8))) : Option (List UInt8 × Int) :=
  bif decide (400 < (l.length : Int)) then (
   some ([], 4))
  else (
   (iter (fun x2 => lines_JoinB_L0 l x2.1 x2.2) (0, 0)).bind fun s4 =>
   s4.elim (fun s5 =>
    (iter (fun x3 => lines_JoinB_L2 l s5 x3.1 x3.2) (0, [])).bind fun s8 =>
    Option.bind (α := Bool × List Int) (
      bif decide (s5 = 32768) then (
       some (true, s8))
      else (
       (strings_Builder_Len s8).bind fun r4 =>
       some (decide (16384 < r4.1), r4.2))) fun s9 =>
    bif s9.1 then (
     some ([], 4))
    else (
     (strings_Builder_String s9.2).bind fun r5 =>
     some (r5, 0)))
   (fun s6 =>
    some (s6.1, s6.2)))

noncomputable def fn_lines_JoinB : Fun :=
  { f := 18, np := 1, nr := 2,
    ji := { regs := [(0, .one (.data (.sl (.sl (.str)))))], vars := [], arrs := [] },
    jo := { regs := [(0, .one (.data (.str))), (1, .one (.data (.int .i64)))], vars := [], arrs := [] },
    tw := fun x => lines_JoinB x }
noncomputable def cx_lines_JoinB : Cx := { Γ := types, ow := [], fs := [fn_lines_words, fn_strings_Join, fn_strings_Builder_WriteString, fn_strings_Builder_Len, fn_strings_Builder_String], N := 67 }
theorem ok_lines_JoinB : FunOk Tryd.prog fn_lines_JoinB :=
  FunOk.intro (C := cx_lines_JoinB) (p := (.mk [] none .nil (.mk [] none .nil (.mk [] none .nil (.mk [] none (.mk [] none .nil (.mk [] none (.mk [] (some ({ regs := [(0, .one .keep), (4, .one (.data (.int .i64))), (15, .one .keep), (16, .one .keep), (17, .one (.data (.int .i64)))], vars := [], arrs := [] }, [{ e := .x 0, j := { regs := [(0, .one .keep), (4, .one (.data (.int .i64)))], vars := [], arrs := [] } }, { e := .r, j := { regs := [(2, .one (.data (.str))), (3, .one (.data (.int .i64)))], vars := [], arrs := [] } }])) (.mk [] none .nil (.mk [] none .nil (.mk [] none (.mk [] none (.mk [] none .nil (.mk [] none (.mk [] none (.mk [.join [{ e := .n, j := { regs := [(0, .one .keep), (4, .one .keep), (6, .one .keep), (15, .one .keep), (16, .one .keep), (17, .one .keep), (28, .one (.data (.bool)))], vars := [], arrs := [] } }]] none .nil .nil) .nil) (.mk [] none .nil (.mk [] none .nil (.mk [] none (.mk [] (some ({ regs := [(0, .one .keep), (4, .one (.data (.int .i64))), (15, .one .keep), (16, .one .keep), (17, .one .keep), (33, .one .keep), (34, .one .keep), (35, .one (.data (.int .i64)))], vars := [], arrs := [] }, [{ e := .x 2, j := { regs := [(0, .one .keep), (4, .one (.data (.int .i64))), (15, .one .keep), (16, .one .keep), (17, .one .keep)], vars := [], arrs := [] } }])) (.mk [] none .nil (.mk [] none .nil (.mk [] none (.mk [] none (.mk [] none .nil (.mk [] none .nil (.mk [] none .nil (.mk [.join [{ e := .n, j := { regs := [(0, .one .keep), (4, .one (.data (.int .i64))), (15, .one .keep), (16, .one .keep), (17, .one .keep), (33, .one .keep), (34, .one .keep), (35, .one .keep)], vars := [], arrs := [] } }]] none .nil .nil)))) .nil) .nil))) .nil) .nil))))) .nil) .nil))) .nil) .nil)) (.mk [] none .nil (.mk [] none (.mk [] none .nil (.mk [] none (.mk [] (some ({ regs := [(4, .one .keep), (9, .one (.ptr 160 0)), (47, .one .keep), (48, .one .keep), (49, .one (.data (.int .i64)))], vars := [(160, 69, [.nptr 160 0, .own 2601])], arrs := [(2601, .arr 5 (.int .u8))] }, [{ e := .x 4, j := { regs := [(4, .one .keep), (9, .one (.ptr 160 0))], vars := [(160, 69, [.nptr 160 0, .own 2601])], arrs := [(2601, .arr 5 (.int .u8))] } }])) (.mk [] none .nil (.mk [] none .nil (.mk [] none (.mk [] none (.mk [] none .nil (.mk [] none .nil (.mk [.join [{ e := .n, j := { regs := [(4, .one .keep), (9, .one (.ptr 160 0)), (47, .one .keep), (48, .one .keep), (49, .one .keep)], vars := [(160, 69, [.nptr 160 0, .own 2601])], arrs := [(2601, .arr 5 (.int .u8))] } }]] none .nil .nil))) .nil) .nil))) .nil) .nil)) (.mk [] none (.mk [] none (.mk [.join [{ e := .n, j := { regs := [(9, .one (.ptr 160 0)), (65, .one (.data (.bool)))], vars := [(160, 69, [.nptr 160 0, .own 2601])], arrs := [(2601, .arr 5 (.int .u8))] } }]] none .nil .nil) .nil) .nil))))))))
    Tryd.func18 rfl nmr18 rfl rfl rfl rfl types_ok ⟨⟨ok_lines_words, ok_strings_Join, ok_strings_Builder_WriteString, ok_strings_Builder_Len, ok_strings_Builder_String, trivial⟩, trivial⟩ mx (fun x => by kernel_rfl)

noncomputable def lines_Join (l : List (List (List UInt8))) : Option (List UInt8 × Int) := bif isNilL l then lines_JoinE l else lines_JoinB l
noncomputable def fn_lines_Join : Fun := { f := fn_lines_JoinE.f, np := fn_lines_JoinE.np, nr := fn_lines_JoinE.nr, ji := fn_lines_JoinE.ji, jo := fn_lines_JoinE.jo, tw := fun x => lines_Join x }
theorem ok_lines_Join : FunOk Tryd.prog fn_lines_Join := FunOk.bif (e0 := fn_lines_JoinE) ok_lines_JoinE (c := fun x => isNilL x) (tw := fun x => lines_JoinB x) ok_lines_JoinB

noncomputable def nomination_Format_L0 (l : List (List UInt8 × List UInt8 × List UInt8 × List UInt8 × Int × Int)) (v : Int) (out : List (List (List UInt8))) : Option ((Int × List (List (List UInt8))) ⊕ (List (List (List UInt8)))) :=
  bif decide (v < (l.length : Int)) then (
   gd (inB v l.length) <|
   (itoaT ((((((l.getD v.toNat ([], ([], ([], ([], (0, 0)))))).2).2).2).2).1)).bind fun r2 =>
   (itoaT ((((((l.getD v.toNat ([], ([], ([], ([], (0, 0)))))).2).2).2).2).2)).bind fun r3 =>
   gd (fits (out.length + 1) 24) <|
   some (.inl (wi64 (v + 1), out ++ [[[110, 111, 109, 105, 110, 97, 116, 101], r2, (l.getD v.toNat ([], ([], ([], ([], (0, 0)))))).1, ((l.getD v.toNat ([], ([], ([], ([], (0, 0)))))).2).1, (((l.getD v.toNat ([], ([], ([], ([], (0, 0)))))).2).2).1, ((((l.getD v.toNat ([], ([], ([], ([], (0, 0)))))).2).2).2).1, r3]])))
  else (
   some (.inr out))

noncomputable def nomination_Format (l : List (List UInt8 × List UInt8 × List UInt8 × List UInt8 × Int × Int)) : Option (List UInt8 × Int) :=
  (nomination_Check l).bind fun r =>
  bif !decide (r = 0) then (
   some ([], r))
  else (
   (iter (fun x => nomination_Format_L0 l x.1 x.2) (0, [])).bind fun s =>
   (lines_Join s).bind fun r4 =>
   some (r4.1, r4.2))

noncomputable def fn_nomination_Format : Fun :=
  { f := 8, np := 1, nr := 2,
    ji := { regs := [(0, .one (.data (.sl (.pair (.str) (.pair (.str) (.pair (.str) (.pair (.str) (.pair (.int .i64) (.int .i64)))))))))], vars := [], arrs := [] },
    jo := { regs := [(0, .one (.data (.str))), (1, .one (.data (.int .i64)))], vars := [], arrs := [] },
    tw := fun x => nomination_Format x }
noncomputable def cx_nomination_Format : Cx := { Γ := types, ow := [], fs := [fn_nomination_Check, fn_strconv_Itoa, fn_lines_Join], N := 42 }
theorem ok_nomination_Format : FunOk Tryd.prog fn_nomination_Format :=
  FunOk.intro (C := cx_nomination_Format) (p := (.mk [] none .nil (.mk [] none .nil (.mk [] none .nil (.mk [] none (.mk [] none .nil (.mk [] none (.mk [] (some ({ regs := [(5, .one (.own 107)), (13, .one .keep), (14, .one .keep), (15, .one (.data (.int .i64)))], vars := [], arrs := [(107, .arr 35 (.sl (.str)))] }, [{ e := .x 0, j := { regs := [(5, .one (.own 107))], vars := [], arrs := [(107, .arr 35 (.sl (.str)))] } }])) .nil .nil) .nil)) .nil)))))
    Tryd.func8 rfl nmr8 rfl rfl rfl rfl types_ok ⟨⟨ok_nomination_Check, ok_strconv_Itoa, ok_lines_Join, trivial⟩, trivial⟩ mx (fun x => by kernel_rfl)

noncomputable def internal_stringslite_IndexByte (s : List UInt8) (c : Int) : Option (Int) :=
  (idxB s c).bind fun r =>
  some r

noncomputable def fn_internal_stringslite_IndexByte : Fun :=
  { f := 92, np := 2, nr := 1,
    ji := { regs := [(0, .one (.data (.str))), (1, .one (.data (.int .u8)))], vars := [], arrs := [] },
    jo := { regs := [(0, .one (.data (.int .i64)))], vars := [], arrs := [] },
    tw := fun x => internal_stringslite_IndexByte x.1 x.2 }
noncomputable def cx_internal_stringslite_IndexByte : Cx := { Γ := types, ow := [], fs := [], xs := [xt106], N := 8 }
theorem ok_internal_stringslite_IndexByte : FunOk Tryd.prog fn_internal_stringslite_IndexByte :=
  FunOk.intro (C := cx_internal_stringslite_IndexByte) (p := .nil)
    Tryd.func92 rfl nmr92 rfl rfl rfl rfl types_ok ⟨trivial, ⟨xk106, trivial⟩⟩ mx (fun x => by kernel_rfl)

noncomputable def internal_stringslite_Index (s : List UInt8) (substr : List UInt8) : Option (Int) :=
  Option.bind (α := Bool) (
    bif decide ((substr.length : Int) = 0) then (
     some true)
    else (
     some (decide (substr = s)))) fun s2 =>
  bif s2 then (
   some 0)
  else (
   bif decide ((substr.length : Int) = 1) then (
    gd (inB 0 substr.length) <|
    (internal_stringslite_IndexByte s (Int.ofNat (substr.getD 0 0).toNat)).bind fun r =>
    some r)
   else (
    bif decide ((s.length : Int) ≤ (substr.length : Int)) then (
     some (-1))
    else (
     none)))

noncomputable def fn_internal_stringslite_Index : Fun :=
  { f := 77, np := 2, nr := 1,
    ji := { regs := [(0, .one (.data (.str))), (1, .one (.data (.str)))], vars := [], arrs := [] },
    jo := { regs := [(0, .one (.data (.int .i64)))], vars := [], arrs := [] },
    tw := fun x => internal_stringslite_Index x.1 x.2 }
noncomputable def cx_internal_stringslite_Index : Cx := { Γ := types, ow := [], fs := [fn_internal_stringslite_IndexByte], N := 143 }
theorem ok_internal_stringslite_Index : FunOk Tryd.prog fn_internal_stringslite_Index :=
  FunOk.intro (C := cx_internal_stringslite_Index) (p := (.mk [] none .nil (.mk [] none .nil (.mk [] none (.mk [] none (.mk [] none (.mk [.join [{ e := .n, j := { regs := [(0, .one .keep), (1, .one .keep), (5, .one .keep), (16, .one (.data (.bool)))], vars := [], arrs := [] } }]] none .nil .nil) .nil) .nil) .nil))))
    Tryd.func77 rfl nmr77 rfl rfl rfl rfl types_ok ⟨⟨ok_internal_stringslite_IndexByte, trivial⟩, trivial⟩ mx (fun x => by kernel_rfl)

noncomputable def strings_Index (s : List UInt8) (substr : List UInt8) : Option (Int) :=
  (internal_stringslite_Index s substr).bind fun r =>
  some r

noncomputable def fn_strings_Index : Fun :=
  { f := 52, np := 2, nr := 1,
    ji := { regs := [(0, .one (.data (.str))), (1, .one (.data (.str)))], vars := [], arrs := [] },
    jo := { regs := [(0, .one (.data (.int .i64)))], vars := [], arrs := [] },
    tw := fun x => strings_Index x.1 x.2 }
noncomputable def cx_strings_Index : Cx := { Γ := types, ow := [], fs := [fn_internal_stringslite_Index], N := 8 }
theorem ok_strings_Index : FunOk Tryd.prog fn_strings_Index :=
  FunOk.intro (C := cx_strings_Index) (p := .nil)
    Tryd.func52 rfl nmr52 rfl rfl rfl rfl types_ok ⟨⟨ok_internal_stringslite_Index, trivial⟩, trivial⟩ mx (fun x => by kernel_rfl)

noncomputable def strings_Count_L0 (substr : List UInt8) (s2 : List UInt8) (n : Int) : Option ((List UInt8 × Int) ⊕ Int) :=
  (strings_Index s2 substr).bind fun r2 =>
  bif decide (r2 = (-1)) then (
   some (.inr n))
  else (
   gd (cutG (some (.i64, wi64 (r2 + (substr.length : Int)))) none s2.length) <|
   some (.inl (s2.drop (wi64 (r2 + (substr.length : Int))).toNat, wi64 (n + 1))))

noncomputable def strings_Count (s : List UInt8) (substr : List UInt8) : Option (Int) :=
  bif decide ((substr.length : Int) = 0) then (
   none)
  else (
   bif decide ((substr.length : Int) = 1) then (
    gd (inB 0 substr.length) <|
    (cntB s (Int.ofNat (substr.getD 0 0).toNat)).bind fun r =>
    some r)
   else (
    (iter (fun x => strings_Count_L0 substr x.1 x.2) (s, 0)).bind fun s3 =>
    some s3))

noncomputable def fn_strings_Count : Fun :=
  { f := 34, np := 2, nr := 1,
    ji := { regs := [(0, .one (.data (.str))), (1, .one (.data (.str)))], vars := [], arrs := [] },
    jo := { regs := [(0, .one (.data (.int .i64)))], vars := [], arrs := [] },
    tw := fun x => strings_Count x.1 x.2 }
noncomputable def cx_strings_Count : Cx := { Γ := types, ow := [], fs := [fn_strings_Index], xs := [xt51], N := 34 }
theorem ok_strings_Count : FunOk Tryd.prog fn_strings_Count :=
  FunOk.intro (C := cx_strings_Count) (p := (.mk [] none .nil (.mk [] none .nil (.mk [] none .nil (.mk [] none .nil (.mk [] none (.mk [] (some ({ regs := [(0, .one (.data (.str))), (1, .one .keep), (5, .one (.data (.int .i64)))], vars := [], arrs := [] }, [{ e := .r, j := { regs := [(4, .one (.data (.int .i64)))], vars := [], arrs := [] } }])) .nil .nil) .nil))))))
    Tryd.func34 rfl nmr34 rfl rfl rfl rfl types_ok ⟨⟨ok_strings_Index, trivial⟩, ⟨xk51, trivial⟩⟩ mx (fun x => by kernel_rfl)

noncomputable def internal_stringslite_HasSuffix (s : List UInt8) (suffix : List UInt8) : Option (Bool) :=
  bif decide ((suffix.length : Int) ≤ (s.length : Int)) then (
   gd (cutG (some (.i64, wi64 ((s.length : Int) - (suffix.length : Int)))) none s.length) <|
   some (decide (s.drop (wi64 ((s.length : Int) - (suffix.length : Int))).toNat = suffix)))
  else (
   some false)

noncomputable def fn_internal_stringslite_HasSuffix : Fun :=
  { f := 53, np := 2, nr := 1,
    ji := { regs := [(0, .one (.data (.str))), (1, .one (.data (.str)))], vars := [], arrs := [] },
    jo := { regs := [(0, .one (.data (.bool)))], vars := [], arrs := [] },
    tw := fun x => internal_stringslite_HasSuffix x.1 x.2 }
noncomputable def cx_internal_stringslite_HasSuffix : Cx := { Γ := types, ow := [], fs := [], N := 21 }
theorem ok_internal_stringslite_HasSuffix : FunOk Tryd.prog fn_internal_stringslite_HasSuffix :=
  FunOk.intro (C := cx_internal_stringslite_HasSuffix) (p := .nil)
    Tryd.func53 rfl nmr53 rfl rfl rfl rfl types_ok ⟨trivial, trivial⟩ mx (fun x => by kernel_rfl)

noncomputable def strings_HasSuffix (s : List UInt8) (suffix : List UInt8) : Option (Bool) :=
  (internal_stringslite_HasSuffix s suffix).bind fun r =>
  some r

noncomputable def fn_strings_HasSuffix : Fun :=
  { f := 35, np := 2, nr := 1,
    ji := { regs := [(0, .one (.data (.str))), (1, .one (.data (.str)))], vars := [], arrs := [] },
    jo := { regs := [(0, .one (.data (.bool)))], vars := [], arrs := [] },
    tw := fun x => strings_HasSuffix x.1 x.2 }
noncomputable def cx_strings_HasSuffix : Cx := { Γ := types, ow := [], fs := [fn_internal_stringslite_HasSuffix], N := 8 }
theorem ok_strings_HasSuffix : FunOk Tryd.prog fn_strings_HasSuffix :=
  FunOk.intro (C := cx_strings_HasSuffix) (p := .nil)
    Tryd.func35 rfl nmr35 rfl rfl rfl rfl types_ok ⟨⟨ok_internal_stringslite_HasSuffix, trivial⟩, trivial⟩ mx (fun x => by kernel_rfl)

noncomputable def internal_stringslite_Cut (s : List UInt8) (sep : List UInt8) : Option (List UInt8 × List UInt8 × Bool) :=
  (internal_stringslite_Index s sep).bind fun r =>
  bif decide (0 ≤ r) then (
   gd (cutG none (some (.i64, r)) s.length) <|
   gd (cutG (some (.i64, wi64 (r + (sep.length : Int)))) none s.length) <|
   some (s.take r.toNat, s.drop (wi64 (r + (sep.length : Int))).toNat, true))
  else (
   some (s, [], false))

noncomputable def fn_internal_stringslite_Cut : Fun :=
  { f := 54, np := 2, nr := 3,
    ji := { regs := [(0, .one (.data (.str))), (1, .one (.data (.str)))], vars := [], arrs := [] },
    jo := { regs := [(0, .one (.data (.str))), (1, .one (.data (.str))), (2, .one (.data (.bool)))], vars := [], arrs := [] },
    tw := fun x => internal_stringslite_Cut x.1 x.2 }
noncomputable def cx_internal_stringslite_Cut : Cx := { Γ := types, ow := [], fs := [fn_internal_stringslite_Index], N := 23 }
theorem ok_internal_stringslite_Cut : FunOk Tryd.prog fn_internal_stringslite_Cut :=
  FunOk.intro (C := cx_internal_stringslite_Cut) (p := .nil)
    Tryd.func54 rfl nmr54 rfl rfl rfl rfl types_ok ⟨⟨ok_internal_stringslite_Index, trivial⟩, trivial⟩ mx (fun x => by kernel_rfl)

noncomputable def strings_Cut (s : List UInt8) (sep : List UInt8) : Option (List UInt8 × List UInt8 × Bool) :=
  (internal_stringslite_Cut s sep).bind fun r =>
  some (r.1, r.2.1, r.2.2)

noncomputable def fn_strings_Cut : Fun :=
  { f := 36, np := 2, nr := 3,
    ji := { regs := [(0, .one (.data (.str))), (1, .one (.data (.str)))], vars := [], arrs := [] },
    jo := { regs := [(0, .one (.data (.str))), (1, .one (.data (.str))), (2, .one (.data (.bool)))], vars := [], arrs := [] },
    tw := fun x => strings_Cut x.1 x.2 }
noncomputable def cx_strings_Cut : Cx := { Γ := types, ow := [], fs := [fn_internal_stringslite_Cut], N := 13 }
theorem ok_strings_Cut : FunOk Tryd.prog fn_strings_Cut :=
  FunOk.intro (C := cx_strings_Cut) (p := .nil)
    Tryd.func36 rfl nmr36 rfl rfl rfl rfl types_ok ⟨⟨ok_internal_stringslite_Cut, trivial⟩, trivial⟩ mx (fun x => by kernel_rfl)

noncomputable def strings_genSplit_L0 (s : List UInt8) (sep : List UInt8) (sepSave : Int) (s2 : Int) (s3 : List UInt8) (i : Int) (a : List (List UInt8)) : Option ((List UInt8 × Int × List (List UInt8)) ⊕ (List UInt8 × Int × List (List UInt8))) :=
  bif decide (i < wi64 ((min s2 (wi64 ((s.length : Int) + 1))) - 1)) then (
   (strings_Index s3 sep).bind fun r2 =>
   bif decide (r2 < 0) then (
    some (.inr (s3, i, a)))
   else (
    gd (cutG none (some (.i64, wi64 (r2 + sepSave))) s3.length) <|
    gd (inB i a.length) <|
    gd (cutG (some (.i64, wi64 (r2 + (sep.length : Int)))) none s3.length) <|
    some (.inl (s3.drop (wi64 (r2 + (sep.length : Int))).toNat, wi64 (i + 1), a.set i.toNat (s3.take (wi64 (r2 + sepSave)).toNat)))))
  else (
   some (.inr (s3, i, a)))

noncomputable def strings_genSplit (s : List UInt8) (sep : List UInt8) (sepSave : Int) (n : Int) : Option (List (List UInt8)) :=
  bif decide (n = 0) then (
   some [])
  else (
   bif decide (sep = []) then (
    none)
   else (
    Option.bind (α := Int) (
      bif decide (n < 0) then (
       (strings_Count s sep).bind fun r =>
       some (wi64 (r + 1)))
      else (
       some n)) fun s2 =>
    gd (makeG 16 (min s2 (wi64 ((s.length : Int) + 1)))) <|
    (iter (fun x => strings_genSplit_L0 s sep sepSave s2 x.1 x.2.1 x.2.2) (s, 0, List.replicate (min s2 (wi64 ((s.length : Int) + 1))).toNat [])).bind fun s4 =>
    gd (inB s4.2.1 s4.2.2.length) <|
    gd (cutG none (some (.i64, wi64 (s4.2.1 + 1))) (s4.2.2.set s4.2.1.toNat s4.1).length) <|
    some ((s4.2.2.set s4.2.1.toNat s4.1).take (wi64 (s4.2.1 + 1)).toNat)))

noncomputable def fn_strings_genSplit : Fun :=
  { f := 55, np := 4, nr := 1,
    ji := { regs := [(0, .one (.data (.str))), (1, .one (.data (.str))), (2, .one (.data (.int .i64))), (3, .one (.data (.int .i64)))], vars := [], arrs := [] },
    jo := { regs := [(0, .one (.data (.sl (.str))))], vars := [], arrs := [] },
    tw := fun x => strings_genSplit x.1 x.2.1 x.2.2.1 x.2.2.2 }
noncomputable def cx_strings_genSplit : Cx := { Γ := types, ow := [], fs := [fn_strings_Count, fn_strings_Index], N := 66 }
theorem ok_strings_genSplit : FunOk Tryd.prog fn_strings_genSplit :=
  FunOk.intro (C := cx_strings_genSplit) (p := (.mk [] none .nil (.mk [] none .nil (.mk [] none .nil (.mk [] none (.mk [] none .nil (.mk [.join [{ e := .n, j := { regs := [(0, .one .keep), (1, .one .keep), (2, .one .keep), (3, .one (.data (.int .i64)))], vars := [], arrs := [] } }]] none .nil .nil)) (.mk [] none .nil (.mk [] none .nil (.mk [] none .nil (.mk [] none .nil (.mk [] none (.mk [] none (.mk [] (some ({ regs := [(0, .one (.data (.str))), (1, .one .keep), (2, .one .keep), (3, .one .keep), (9, .one (.own 512)), (10, .one (.data (.int .i64)))], vars := [], arrs := [(512, .arr 9 (.str))] }, [{ e := .x 0, j := { regs := [(0, .one (.data (.str))), (9, .one (.own 512)), (10, .one (.data (.int .i64)))], vars := [], arrs := [(512, .arr 9 (.str))] } }])) .nil .nil) .nil) (.mk [] none .nil (.mk [] none (.mk [.fz [9]] none .nil .nil) .nil))))))))))))
    Tryd.func55 rfl nmr55 rfl rfl rfl rfl types_ok ⟨⟨ok_strings_Count, ok_strings_Index, trivial⟩, trivial⟩ mx (fun x => by kernel_rfl)

noncomputable def strings_Split (s : List UInt8) (sep : List UInt8) : Option (List (List UInt8)) :=
  (strings_genSplit s sep 0 (-1)).bind fun r =>
  some r

noncomputable def fn_strings_Split : Fun :=
  { f := 37, np := 2, nr := 1,
    ji := { regs := [(0, .one (.data (.str))), (1, .one (.data (.str)))], vars := [], arrs := [] },
    jo := { regs := [(0, .one (.data (.sl (.str))))], vars := [], arrs := [] },
    tw := fun x => strings_Split x.1 x.2 }
noncomputable def cx_strings_Split : Cx := { Γ := types, ow := [], fs := [fn_strings_genSplit], N := 8 }
theorem ok_strings_Split : FunOk Tryd.prog fn_strings_Split :=
  FunOk.intro (C := cx_strings_Split) (p := .nil)
    Tryd.func37 rfl nmr37 rfl rfl rfl rfl types_ok ⟨⟨ok_strings_genSplit, trivial⟩, trivial⟩ mx (fun x => by kernel_rfl)

noncomputable def lines_Split_L0 (text2 : List UInt8) (out : List (List (List UInt8))) : Option ((List UInt8 × List (List (List UInt8))) ⊕ ((List (List (List UInt8))) ⊕ (List (List (List UInt8)) × Int))) :=
  bif !decide (text2 = []) then (
   (strings_Cut text2 [10]).bind fun r3 =>
   Option.bind (α := Bool × List (List (List UInt8))) (
     bif decide (r3.1 = []) then (
      some (true, out))
     else (
      gd (inB 0 r3.1.length) <|
      some (decide ((Int.ofNat (r3.1.getD 0 0).toNat) = 35), out))) fun s4 =>
   bif s4.1 then (
    gd (fits (s4.2.length + 1) 24) <|
    some (.inl (r3.2.1, s4.2 ++ [[]])))
   else (
    (strings_Split r3.1 [32]).bind fun r4 =>
    (lines_words r4).bind fun r5 =>
    bif !r5 then (
     some (.inr (.inr ([], 3))))
    else (
     gd (fits (s4.2.length + 1) 24) <|
     some (.inl (r3.2.1, s4.2 ++ [r4])))))
  else (
   some (.inr (.inl out)))

noncomputable def lines_Split (text : List UInt8) : Option (List (List (List UInt8)) × Int) :=
  (strings_Count text [10]).bind fun r =>
  Option.bind (α := Bool) (
    bif !decide (text = []) then (
     (strings_HasSuffix text [10]).bind fun r2 =>
     some (!r2))
    else (
     some false)) fun s =>
  Option.bind (α := Int) (
    bif s then (
     some (wi64 (r + 1)))
    else (
     some r)) fun s2 =>
  Option.bind (α := Bool) (
    bif decide (16384 < (text.length : Int)) then (
     some true)
    else (
     some (decide (400 < s2)))) fun s3 =>
  bif s3 then (
   some ([], 4))
  else (
   gd ((decide (0 ≤ 0) && decide (0 ≤ s2)) && makeG 24 s2) <|
   (iter (fun x => lines_Split_L0 x.1 x.2) (text, List.replicate 0 [])).bind fun s5 =>
   s5.elim (fun s6 =>
    some (s6, 0))
   (fun s7 =>
    some (s7.1, s7.2)))

noncomputable def fn_lines_Split : Fun :=
  { f := 19, np := 1, nr := 2,
    ji := { regs := [(0, .one (.data (.str)))], vars := [], arrs := [] },
    jo := { regs := [(0, .one (.data (.sl (.sl (.str))))), (1, .one (.data (.int .i64)))], vars := [], arrs := [] },
    tw := fun x => lines_Split x }
noncomputable def cx_lines_Split : Cx := { Γ := types, ow := [], fs := [fn_strings_Count, fn_strings_HasSuffix, fn_strings_Cut, fn_strings_Split, fn_lines_words], N := 59 }
theorem ok_lines_Split : FunOk Tryd.prog fn_lines_Split :=
  FunOk.intro (C := cx_lines_Split) (p := (.mk [] none .nil (.mk [] none .nil (.mk [] none (.mk [] none (.mk [.join [{ e := .n, j := { regs := [(0, .one .keep), (4, .one .keep), (18, .one (.data (.bool)))], vars := [], arrs := [] } }]] none .nil .nil) (.mk [.join [{ e := .n, j := { regs := [(0, .one .keep), (4, .one (.data (.int .i64)))], vars := [], arrs := [] } }]] none .nil .nil)) (.mk [] none (.mk [] none (.mk [.join [{ e := .n, j := { regs := [(0, .one .keep), (4, .one .keep), (27, .one (.data (.bool)))], vars := [], arrs := [] } }]] none .nil .nil) .nil) (.mk [] none .nil (.mk [] none (.mk [] none (.mk [] (some ({ regs := [(0, .one (.data (.str))), (5, .one (.own 107))], vars := [], arrs := [(107, .arr 35 (.sl (.str)))] }, [{ e := .x 0, j := { regs := [(5, .one (.own 107))], vars := [], arrs := [(107, .arr 35 (.sl (.str)))] } }, { e := .r, j := { regs := [(2, .one (.data (.sl (.sl (.str))))), (3, .one (.data (.int .i64)))], vars := [], arrs := [] } }])) (.mk [] none .nil (.mk [] none (.mk [] none .nil (.mk [] none .nil (.mk [] none (.mk [] none (.mk [.join [{ e := .n, j := { regs := [(0, .one .keep), (5, .one (.own 107)), (6, .one .keep), (45, .one (.data (.bool)))], vars := [], arrs := [(107, .arr 35 (.sl (.str)))] } }]] none .nil .nil) .nil) .nil))) .nil)) .nil) .nil) .nil)))))))
    Tryd.func19 rfl nmr19 rfl rfl rfl rfl types_ok ⟨⟨ok_strings_Count, ok_strings_HasSuffix, ok_strings_Cut, ok_strings_Split, ok_lines_words, trivial⟩, trivial⟩ mx (fun x => by kernel_rfl)

noncomputable def internal_stringslite_HasPrefix (s : List UInt8) (vprefix : List UInt8) : Option (Bool) :=
  bif decide ((vprefix.length : Int) ≤ (s.length : Int)) then (
   gd (cutG none (some (.i64, (vprefix.length : Int))) s.length) <|
   some (decide (s.take (vprefix.length : Int).toNat = vprefix)))
  else (
   some false)

noncomputable def fn_internal_stringslite_HasPrefix : Fun :=
  { f := 97, np := 2, nr := 1,
    ji := { regs := [(0, .one (.data (.str))), (1, .one (.data (.str)))], vars := [], arrs := [] },
    jo := { regs := [(0, .one (.data (.bool)))], vars := [], arrs := [] },
    tw := fun x => internal_stringslite_HasPrefix x.1 x.2 }
noncomputable def cx_internal_stringslite_HasPrefix : Cx := { Γ := types, ow := [], fs := [], N := 18 }
theorem ok_internal_stringslite_HasPrefix : FunOk Tryd.prog fn_internal_stringslite_HasPrefix :=
  FunOk.intro (C := cx_internal_stringslite_HasPrefix) (p := .nil)
    Tryd.func97 rfl nmr97 rfl rfl rfl rfl types_ok ⟨trivial, trivial⟩ mx (fun x => by kernel_rfl)

noncomputable def internal_stringslite_TrimPrefix (s : List UInt8) (vprefix : List UInt8) : Option (List UInt8) :=
  (internal_stringslite_HasPrefix s vprefix).bind fun r =>
  bif r then (
   gd (cutG (some (.i64, (vprefix.length : Int))) none s.length) <|
   some (s.drop (vprefix.length : Int).toNat))
  else (
   some s)

noncomputable def fn_internal_stringslite_TrimPrefix : Fun :=
  { f := 79, np := 2, nr := 1,
    ji := { regs := [(0, .one (.data (.str))), (1, .one (.data (.str)))], vars := [], arrs := [] },
    jo := { regs := [(0, .one (.data (.str)))], vars := [], arrs := [] },
    tw := fun x => internal_stringslite_TrimPrefix x.1 x.2 }
noncomputable def cx_internal_stringslite_TrimPrefix : Cx := { Γ := types, ow := [], fs := [fn_internal_stringslite_HasPrefix], N := 13 }
theorem ok_internal_stringslite_TrimPrefix : FunOk Tryd.prog fn_internal_stringslite_TrimPrefix :=
  FunOk.intro (C := cx_internal_stringslite_TrimPrefix) (p := .nil)
    Tryd.func79 rfl nmr79 rfl rfl rfl rfl types_ok ⟨⟨ok_internal_stringslite_HasPrefix, trivial⟩, trivial⟩ mx (fun x => by kernel_rfl)

noncomputable def strings_TrimPrefix (s : List UInt8) (vprefix : List UInt8) : Option (List UInt8) :=
  (internal_stringslite_TrimPrefix s vprefix).bind fun r =>
  some r

noncomputable def fn_strings_TrimPrefix : Fun :=
  { f := 56, np := 2, nr := 1,
    ji := { regs := [(0, .one (.data (.str))), (1, .one (.data (.str)))], vars := [], arrs := [] },
    jo := { regs := [(0, .one (.data (.str)))], vars := [], arrs := [] },
    tw := fun x => strings_TrimPrefix x.1 x.2 }
noncomputable def cx_strings_TrimPrefix : Cx := { Γ := types, ow := [], fs := [fn_internal_stringslite_TrimPrefix], N := 8 }
theorem ok_strings_TrimPrefix : FunOk Tryd.prog fn_strings_TrimPrefix :=
  FunOk.intro (C := cx_strings_TrimPrefix) (p := .nil)
    Tryd.func56 rfl nmr56 rfl rfl rfl rfl types_ok ⟨⟨ok_internal_stringslite_TrimPrefix, trivial⟩, trivial⟩ mx (fun x => by kernel_rfl)

noncomputable def fn_strconv_Atoi : Fun := funAtoi 57
theorem ok_strconv_Atoi : FunOk Tryd.prog fn_strconv_Atoi := atoi_ok ⟨_, Tryd.func57, nmr57, rfl⟩ Tryd.strconv_Atoi_ok Tryd.strconv_Atoi_syn Tryd.strconv_Atoi_range (by unfold globs; exact .tail _ (.head _)) (by unfold globs; exact .tail _ (.tail _ (.head _)))

noncomputable def lines_Number_L0 (r : List UInt8) (v : Int) : Option (Int ⊕ (Unit ⊕ (Int × Int))) :=
  bif decide (v < (r.length : Int)) then (
   Option.bind (α := Bool) (
     gd (inB v r.length) <|
     bif decide ((Int.ofNat (r.getD v.toNat 0).toNat) < 48) then (
      some true)
     else (
      gd (inB v r.length) <|
      some (decide (57 < (Int.ofNat (r.getD v.toNat 0).toNat))))) fun s3 =>
   bif s3 then (
    some (.inr (.inr (0, 3))))
   else (
    some (.inl (wi64 (v + 1)))))
  else (
   some (.inr (.inl ())))

noncomputable def lines_Number (s : List UInt8) : Option (Int × Int) :=
  (strings_TrimPrefix s [45]).bind fun r =>
  Option.bind (α := Bool) (
    bif decide (r = []) then (
     some true)
    else (
     gd (inB 0 r.length) <|
     bif decide ((Int.ofNat (r.getD 0 0).toNat) = 48) then (
      some (!decide (s = [48])))
     else (
      some false))) fun s2 =>
  bif s2 then (
   some (0, 3))
  else (
   (iter (fun x => lines_Number_L0 r x) 0).bind fun s4 =>
   s4.elim (fun s5 =>
    (atoiT s).bind fun r2 =>
    Option.bind (α := Bool) (
      bif r2.2 then (
       some true)
      else (
       bif decide (r2.1 < (-9007199254740992)) then (
        some true)
       else (
        some (decide (9007199254740992 < r2.1))))) fun s7 =>
    bif s7 then (
     some (0, 1))
    else (
     some (r2.1, 0)))
   (fun s6 =>
    some (s6.1, s6.2)))

noncomputable def fn_lines_Number : Fun :=
  { f := 38, np := 1, nr := 2,
    ji := { regs := [(0, .one (.data (.str)))], vars := [], arrs := [] },
    jo := { regs := [(0, .one (.data (.int .i64))), (1, .one (.data (.int .i64)))], vars := [], arrs := [] },
    tw := fun x => lines_Number x }
noncomputable def cx_lines_Number : Cx := { Γ := types, ow := [], fs := [fn_strings_TrimPrefix, fn_strconv_Atoi], N := 53 }
theorem ok_lines_Number : FunOk Tryd.prog fn_lines_Number :=
  FunOk.intro (C := cx_lines_Number) (p := (.mk [] none .nil (.mk [] none .nil (.mk [] none (.mk [] none (.mk [.join [{ e := .n, j := { regs := [(0, .one .keep), (4, .one .keep), (20, .one (.data (.bool)))], vars := [], arrs := [] } }]] none .nil .nil) .nil) (.mk [] none (.mk [] none .nil (.mk [] none (.mk [] (some ({ regs := [(0, .one .keep), (4, .one .keep), (22, .one .keep), (23, .one (.data (.int .i64)))], vars := [], arrs := [] }, [{ e := .x 0, j := { regs := [(0, .one .keep)], vars := [], arrs := [] } }, { e := .r, j := { regs := [(2, .one (.data (.int .i64))), (3, .one (.data (.int .i64)))], vars := [], arrs := [] } }])) (.mk [] none .nil (.mk [] none .nil (.mk [] none (.mk [] none (.mk [] none .nil (.mk [] none (.mk [.join [{ e := .n, j := { regs := [(0, .one .keep), (4, .one .keep), (22, .one .keep), (23, .one .keep), (35, .one (.data (.bool)))], vars := [], arrs := [] } }]] none .nil .nil) .nil)) .nil) .nil))) .nil) .nil)) (.mk [] none .nil (.mk [] none (.mk [] none (.mk [.join [{ e := .n, j := { regs := [(6, .one .keep), (51, .one (.data (.bool)))], vars := [], arrs := [] } }]] none .nil .nil) .nil) .nil)))))))
    Tryd.func38 rfl nmr38 rfl rfl rfl rfl types_ok ⟨⟨ok_strings_TrimPrefix, ok_strconv_Atoi, trivial⟩, trivial⟩ mx (fun x => by kernel_rfl)

noncomputable def nomination_read (w : List (List UInt8)) : Option ((List UInt8 × List UInt8 × List UInt8 × List UInt8 × Int × Int) × Int) :=
  Option.bind (α := Bool) (
    bif !decide ((w.length : Int) = 7) then (
     some true)
    else (
     gd (inB 0 w.length) <|
     some (!decide (w.getD 0 [] = [110, 111, 109, 105, 110, 97, 116, 101])))) fun s =>
  bif s then (
   some (([], ([], ([], ([], (0, 0))))), 3))
  else (
   gd (inB 1 w.length) <|
   (lines_Number (w.getD 1 [])).bind fun r =>
   gd (inB 6 w.length) <|
   (lines_Number (w.getD 6 [])).bind fun r2 =>
   Option.bind (α := Bool) (
     bif !decide (r.2 = 0) then (
      some true)
     else (
      some (!decide (r2.2 = 0)))) fun s2 =>
   bif s2 then (
    some (([], ([], ([], ([], (0, 0))))), 3))
   else (
    gd (inB 2 w.length) <|
    gd (inB 3 w.length) <|
    gd (inB 4 w.length) <|
    gd (inB 5 w.length) <|
    (nomination_valid (w.getD 2 [], (w.getD 3 [], (w.getD 4 [], (w.getD 5 [], (r.1, r2.1)))))).bind fun r3 =>
    bif !r3 then (
     some (([], ([], ([], ([], (0, 0))))), 9))
    else (
     some ((w.getD 2 [], (w.getD 3 [], (w.getD 4 [], (w.getD 5 [], (r.1, r2.1))))), 0))))

noncomputable def fn_nomination_read : Fun :=
  { f := 20, np := 1, nr := 2,
    ji := { regs := [(0, .one (.data (.sl (.str))))], vars := [], arrs := [] },
    jo := { regs := [(0, .one (.data (.pair (.str) (.pair (.str) (.pair (.str) (.pair (.str) (.pair (.int .i64) (.int .i64)))))))), (1, .one (.data (.int .i64)))], vars := [], arrs := [] },
    tw := fun x => nomination_read x }
noncomputable def cx_nomination_read : Cx := { Γ := types, ow := [], fs := [fn_lines_Number, fn_nomination_valid], N := 60 }
theorem ok_nomination_read : FunOk Tryd.prog fn_nomination_read :=
  FunOk.intro (C := cx_nomination_read) (p := (.mk [] none .nil (.mk [] none (.mk [] none (.mk [.join [{ e := .n, j := { regs := [(0, .one .keep), (2, .one (.ptr 48 0)), (17, .one (.data (.bool)))], vars := [(48, 42, [.keep, .keep, .keep, .keep, .keep, .keep])], arrs := [] } }]] none .nil .nil) .nil) (.mk [] none .nil (.mk [] none .nil (.mk [] none (.mk [] none (.mk [.join [{ e := .n, j := { regs := [(0, .one .keep), (2, .one (.ptr 48 0)), (4, .one .keep), (6, .one .keep), (38, .one (.data (.bool)))], vars := [(48, 42, [.keep, .keep, .keep, .keep, .keep, .keep])], arrs := [] } }]] none .nil .nil) .nil) .nil))))))
    Tryd.func20 rfl nmr20 rfl rfl rfl rfl types_ok ⟨⟨ok_lines_Number, ok_nomination_valid, trivial⟩, trivial⟩ mx (fun x => by kernel_rfl)

noncomputable def nomination_Parse_L0 (r : List (List (List UInt8)) × Int) (v : Int) (out : List (List UInt8 × List UInt8 × List UInt8 × List UInt8 × Int × Int)) : Option ((Int × List (List UInt8 × List UInt8 × List UInt8 × List UInt8 × Int × Int)) ⊕ ((List (List UInt8 × List UInt8 × List UInt8 × List UInt8 × Int × Int)) ⊕ ((List (List UInt8 × List UInt8 × List UInt8 × List UInt8 × Int × Int)) × Int × Int))) :=
  bif decide (v < (r.1.length : Int)) then (
   Option.bind (α := (List (List UInt8 × List UInt8 × List UInt8 × List UInt8 × Int × Int)) ⊕ ((List (List UInt8 × List UInt8 × List UInt8 × List UInt8 × Int × Int)) × Int × Int)) (
     gd (inB v r.1.length) <|
     bif decide (((r.1.getD v.toNat []).length : Int) = 0) then (
      some (.inl out))
     else (
      (nomination_read (r.1.getD v.toNat [])).bind fun r2 =>
      bif !decide (r2.2 = 0) then (
       some (.inr ([], wi64 (v + 1), r2.2)))
      else (
       gd (fits (out.length + 1) 80) <|
       some (.inl (out ++ [(r2.1.1, (r2.1.2.1, (r2.1.2.2.1, (r2.1.2.2.2.1, (r2.1.2.2.2.2.1, r2.1.2.2.2.2.2)))))]))))) fun s =>
   s.elim (fun s2 =>
    some (.inl (wi64 (v + 1), s2)))
   (fun s3 =>
    some (.inr (.inr (s3.1, s3.2.1, s3.2.2)))))
  else (
   some (.inr (.inl out)))

noncomputable def nomination_Parse (text : List UInt8) : Option ((List (List UInt8 × List UInt8 × List UInt8 × List UInt8 × Int × Int)) × Int × Int) :=
  (lines_Split text).bind fun r =>
  bif !decide (r.2 = 0) then (
   some ([], 0, r.2))
  else (
   (iter (fun x => nomination_Parse_L0 r x.1 x.2) (0, [])).bind fun s4 =>
   s4.elim (fun s5 =>
    some (s5, 0, 0))
   (fun s6 =>
    some (s6.1, s6.2.1, s6.2.2)))

noncomputable def fn_nomination_Parse : Fun :=
  { f := 9, np := 1, nr := 3,
    ji := { regs := [(0, .one (.data (.str)))], vars := [], arrs := [] },
    jo := { regs := [(0, .one (.data (.sl (.pair (.str) (.pair (.str) (.pair (.str) (.pair (.str) (.pair (.int .i64) (.int .i64))))))))), (1, .one (.data (.int .i64))), (2, .one (.data (.int .i64)))], vars := [], arrs := [] },
    tw := fun x => nomination_Parse x }
noncomputable def cx_nomination_Parse : Cx := { Γ := types, ow := [], fs := [fn_lines_Split, fn_nomination_read], N := 46 }
theorem ok_nomination_Parse : FunOk Tryd.prog fn_nomination_Parse :=
  FunOk.intro (C := cx_nomination_Parse) (p := (.mk [] none .nil (.mk [] none .nil (.mk [] none .nil (.mk [] none .nil (.mk [] none (.mk [] none .nil (.mk [] none (.mk [] (some ({ regs := [(7, .one (.own 139)), (20, .one .keep), (21, .one .keep), (22, .one (.data (.int .i64)))], vars := [], arrs := [(139, .arr 42 (.pair (.str) (.pair (.str) (.pair (.str) (.pair (.str) (.pair (.int .i64) (.int .i64)))))))] }, [{ e := .x 0, j := { regs := [(7, .one (.own 139))], vars := [], arrs := [(139, .arr 42 (.pair (.str) (.pair (.str) (.pair (.str) (.pair (.str) (.pair (.int .i64) (.int .i64)))))))] } }, { e := .r, j := { regs := [(2, .one (.data (.sl (.pair (.str) (.pair (.str) (.pair (.str) (.pair (.str) (.pair (.int .i64) (.int .i64))))))))), (3, .one (.data (.int .i64))), (4, .one (.data (.int .i64)))], vars := [], arrs := [] } }])) (.mk [] none .nil (.mk [] none .nil (.mk [] none (.mk [.join [{ e := .n, j := { regs := [(7, .one (.own 139)), (20, .one .keep), (21, .one .keep), (22, .one .keep)], vars := [], arrs := [(139, .arr 42 (.pair (.str) (.pair (.str) (.pair (.str) (.pair (.str) (.pair (.int .i64) (.int .i64)))))))] } }, { e := .r, j := { regs := [(2, .one (.data (.sl (.pair (.str) (.pair (.str) (.pair (.str) (.pair (.str) (.pair (.int .i64) (.int .i64))))))))), (3, .one (.data (.int .i64))), (4, .one (.data (.int .i64)))], vars := [], arrs := [] } }]] none .nil .nil) .nil))) .nil) .nil)) .nil))))))
    Tryd.func9 rfl nmr9 rfl rfl rfl rfl types_ok ⟨⟨ok_lines_Split, ok_nomination_read, trivial⟩, trivial⟩ mx (fun x => by kernel_rfl)

noncomputable def ref11_Same_L0 (a : List (List UInt8 × List UInt8 × List UInt8 × List UInt8 × Int × Int)) (b : List (List UInt8 × List UInt8 × List UInt8 × List UInt8 × Int × Int)) (v : Int) : Option (Int ⊕ (Unit ⊕ Bool)) :=
  bif decide (v < (a.length : Int)) then (
   gd (inB v a.length) <|
   gd (inB v b.length) <|
   bif !(decide ((a.getD v.toNat ([], ([], ([], ([], (0, 0)))))).1 = (b.getD v.toNat ([], ([], ([], ([], (0, 0)))))).1) && (decide (((a.getD v.toNat ([], ([], ([], ([], (0, 0)))))).2).1 = ((b.getD v.toNat ([], ([], ([], ([], (0, 0)))))).2).1) && (decide ((((a.getD v.toNat ([], ([], ([], ([], (0, 0)))))).2).2).1 = (((b.getD v.toNat ([], ([], ([], ([], (0, 0)))))).2).2).1) && (decide (((((a.getD v.toNat ([], ([], ([], ([], (0, 0)))))).2).2).2).1 = ((((b.getD v.toNat ([], ([], ([], ([], (0, 0)))))).2).2).2).1) && (decide ((((((a.getD v.toNat ([], ([], ([], ([], (0, 0)))))).2).2).2).2).1 = (((((b.getD v.toNat ([], ([], ([], ([], (0, 0)))))).2).2).2).2).1) && decide ((((((a.getD v.toNat ([], ([], ([], ([], (0, 0)))))).2).2).2).2).2 = (((((b.getD v.toNat ([], ([], ([], ([], (0, 0)))))).2).2).2).2).2)))))) then (
    some (.inr (.inr false)))
   else (
    some (.inl (wi64 (v + 1)))))
  else (
   some (.inr (.inl ())))

noncomputable def ref11_Same (a : List (List UInt8 × List UInt8 × List UInt8 × List UInt8 × Int × Int)) (b : List (List UInt8 × List UInt8 × List UInt8 × List UInt8 × Int × Int)) : Option (Bool) :=
  bif !decide ((a.length : Int) = (b.length : Int)) then (
   some false)
  else (
   (iter (fun x => ref11_Same_L0 a b x) 0).bind fun s =>
   s.elim (fun s2 =>
    some true)
   (fun s3 =>
    some s3))

noncomputable def fn_ref11_Same : Fun :=
  { f := 10, np := 2, nr := 1,
    ji := { regs := [(0, .one (.data (.sl (.pair (.str) (.pair (.str) (.pair (.str) (.pair (.str) (.pair (.int .i64) (.int .i64))))))))), (1, .one (.data (.sl (.pair (.str) (.pair (.str) (.pair (.str) (.pair (.str) (.pair (.int .i64) (.int .i64)))))))))], vars := [], arrs := [] },
    jo := { regs := [(0, .one (.data (.bool)))], vars := [], arrs := [] },
    tw := fun x => ref11_Same x.1 x.2 }
noncomputable def cx_ref11_Same : Cx := { Γ := types, ow := [], fs := [], N := 26 }
theorem ok_ref11_Same : FunOk Tryd.prog fn_ref11_Same :=
  FunOk.intro (C := cx_ref11_Same) (p := (.mk [] none .nil (.mk [] none .nil (.mk [] none (.mk [] none .nil (.mk [] none (.mk [] (some ({ regs := [(0, .one .keep), (1, .one .keep), (12, .one .keep), (13, .one (.data (.int .i64)))], vars := [], arrs := [] }, [{ e := .x 0, j := { regs := [], vars := [], arrs := [] } }, { e := .r, j := { regs := [(4, .one (.data (.bool)))], vars := [], arrs := [] } }])) .nil .nil) .nil)) .nil))))
    Tryd.func10 rfl nmr10 rfl rfl rfl rfl types_ok ⟨trivial, trivial⟩ mx (fun x => by kernel_rfl)

noncomputable def law11_awake : Option (Bool) :=
  (nomination_Parse [110, 111, 109, 105, 110, 97, 116, 101, 32, 51, 32, 97, 99, 109, 101, 32, 100, 105, 101, 115, 101, 108, 32, 112, 111, 114, 116, 97, 32, 112, 111, 114, 116, 98, 32, 53, 48, 48, 48, 48, 10]).bind fun r =>
  (nomination_Parse [110, 111, 109, 105, 110, 97, 116, 101, 32, 51, 32, 97, 99, 109, 101, 32, 100, 105, 101, 115, 101, 108, 32, 112, 111, 114, 116, 97, 32, 112, 111, 114, 116, 98, 32, 48]).bind fun r2 =>
  bif decide (r.2.2 = 0) then (
   bif decide (r.2.1 = 0) then (
    (ref11_Same r.1 [([97, 99, 109, 101], ([100, 105, 101, 115, 101, 108], ([112, 111, 114, 116, 97], ([112, 111, 114, 116, 98], (3, 50000)))))]).bind fun r3 =>
    bif r3 then (
     bif decide (r2.2.1 = 1) then (
      some (decide (r2.2.2 = 9)))
     else (
      some false))
    else (
     some false))
   else (
    some false))
  else (
   some false)

noncomputable def fn_law11_awake : Fun :=
  { f := 11, np := 0, nr := 1,
    ji := { regs := [], vars := [], arrs := [] },
    jo := { regs := [(0, .one (.data (.bool)))], vars := [], arrs := [] },
    tw := fun x => law11_awake }
noncomputable def cx_law11_awake : Cx := { Γ := types, ow := [], fs := [fn_nomination_Parse, fn_ref11_Same], N := 37 }
theorem ok_law11_awake : FunOk Tryd.prog fn_law11_awake :=
  FunOk.intro (C := cx_law11_awake) (p := .nil)
    Tryd.func11 rfl nmr11 rfl rfl rfl rfl types_ok ⟨⟨ok_nomination_Parse, ok_ref11_Same, trivial⟩, trivial⟩ mx (fun x => by kernel_rfl)

noncomputable def law11_NominationBack (l : List Int) : Option (Bool) :=
  (keep_New l).bind fun r =>
  (law11_made r.1 r.2).bind fun r2 =>
  (nomination_Format r2.2.2).bind fun r3 =>
  gd (Nat.ble ([35, 32, 99, 121, 99, 108, 101, 10].length + r3.1.length) 9223372036854775807) <|
  (nomination_Parse ([35, 32, 99, 121, 99, 108, 101, 10] ++ r3.1)).bind fun r4 =>
  bif decide (r3.2 = 0) then (
   bif decide (r4.2.2 = 0) then (
    bif decide (r4.2.1 = 0) then (
     (ref11_Same r2.2.2 r4.1).bind fun r5 =>
     bif r5 then (
      (law11_awake).bind fun r6 =>
      some r6)
     else (
      some false))
    else (
     some false))
   else (
    some false))
  else (
   some false)

noncomputable def fn_law11_NominationBack : Fun :=
  { f := 3, np := 1, nr := 1,
    ji := { regs := [(0, .one (.data (.sl (.int .i64))))], vars := [], arrs := [] },
    jo := { regs := [(0, .one (.data (.bool)))], vars := [], arrs := [] },
    tw := fun x => law11_NominationBack x }
noncomputable def cx_law11_NominationBack : Cx := { Γ := types, ow := [], fs := [fn_keep_New, fn_law11_made, fn_nomination_Format, fn_nomination_Parse, fn_ref11_Same, fn_law11_awake], N := 42 }
theorem ok_law11_NominationBack : FunOk Tryd.prog fn_law11_NominationBack :=
  FunOk.intro (C := cx_law11_NominationBack) (p := .nil)
    Tryd.func3 rfl nmr3 rfl rfl rfl rfl types_ok ⟨⟨ok_keep_New, ok_law11_made, ok_nomination_Format, ok_nomination_Parse, ok_ref11_Same, ok_law11_awake, trivial⟩, trivial⟩ mx (fun x => by kernel_rfl)

noncomputable def law11_NominationLines (l : List Int) (which : Int) : Option (Bool) :=
  (keep_New l).bind fun r =>
  (law11_made r.1 r.2).bind fun r2 =>
  (nomination_Format r2.2.2).bind fun r3 =>
  gd (inB (Int.tmod (wi64 which) 3) ([[110, 111, 109, 105, 110, 97, 116, 101, 32, 49, 32, 97, 32, 98, 32, 99, 32, 100], [110, 111, 109, 105, 110, 97, 116, 101, 32, 49, 32, 97, 32, 98, 32, 99, 32, 99, 32, 53], [110, 111, 109, 105, 110, 97, 116, 101, 32, 48, 49, 32, 97, 32, 98, 32, 99, 32, 100, 32, 53]] : List (List UInt8)).length) <|
  gd (inB (Int.tmod (wi64 which) 3) [3, 9, 3].length) <|
  gd (Nat.ble (r3.1.length + (([[110, 111, 109, 105, 110, 97, 116, 101, 32, 49, 32, 97, 32, 98, 32, 99, 32, 100], [110, 111, 109, 105, 110, 97, 116, 101, 32, 49, 32, 97, 32, 98, 32, 99, 32, 99, 32, 53], [110, 111, 109, 105, 110, 97, 116, 101, 32, 48, 49, 32, 97, 32, 98, 32, 99, 32, 100, 32, 53]] : List (List UInt8)).getD (Int.tmod (wi64 which) 3).toNat []).length) 9223372036854775807) <|
  gd (Nat.ble ((r3.1 ++ (([[110, 111, 109, 105, 110, 97, 116, 101, 32, 49, 32, 97, 32, 98, 32, 99, 32, 100], [110, 111, 109, 105, 110, 97, 116, 101, 32, 49, 32, 97, 32, 98, 32, 99, 32, 99, 32, 53], [110, 111, 109, 105, 110, 97, 116, 101, 32, 48, 49, 32, 97, 32, 98, 32, 99, 32, 100, 32, 53]] : List (List UInt8)).getD (Int.tmod (wi64 which) 3).toNat [])).length + [10, 110, 111, 109, 105, 110, 97, 116, 101].length) 9223372036854775807) <|
  (nomination_Parse ((r3.1 ++ (([[110, 111, 109, 105, 110, 97, 116, 101, 32, 49, 32, 97, 32, 98, 32, 99, 32, 100], [110, 111, 109, 105, 110, 97, 116, 101, 32, 49, 32, 97, 32, 98, 32, 99, 32, 99, 32, 53], [110, 111, 109, 105, 110, 97, 116, 101, 32, 48, 49, 32, 97, 32, 98, 32, 99, 32, 100, 32, 53]] : List (List UInt8)).getD (Int.tmod (wi64 which) 3).toNat [])) ++ [10, 110, 111, 109, 105, 110, 97, 116, 101])).bind fun r4 =>
  bif decide (r3.2 = 0) then (
   bif decide ((r4.1.length : Int) = 0) then (
    bif decide (r4.2.1 = wi64 ((r2.2.2.length : Int) + 1)) then (
     bif decide (r4.2.2 = [3, 9, 3].getD (Int.tmod (wi64 which) 3).toNat 0) then (
      (law11_awake).bind fun r5 =>
      some r5)
     else (
      some false))
    else (
     some false))
   else (
    some false))
  else (
   some false)

noncomputable def fn_law11_NominationLines : Fun :=
  { f := 4, np := 2, nr := 1,
    ji := { regs := [(0, .one (.data (.sl (.int .i64)))), (1, .one (.data (.int .u8)))], vars := [], arrs := [] },
    jo := { regs := [(0, .one (.data (.bool)))], vars := [], arrs := [] },
    tw := fun x => law11_NominationLines x.1 x.2 }
noncomputable def cx_law11_NominationLines : Cx := { Γ := types, ow := [], fs := [fn_keep_New, fn_law11_made, fn_nomination_Format, fn_nomination_Parse, fn_law11_awake], N := 64 }
theorem ok_law11_NominationLines : FunOk Tryd.prog fn_law11_NominationLines :=
  FunOk.intro (C := cx_law11_NominationLines) (p := .nil)
    Tryd.func4 rfl nmr4 rfl rfl rfl rfl types_ok ⟨⟨ok_keep_New, ok_law11_made, ok_nomination_Format, ok_nomination_Parse, ok_law11_awake, trivial⟩, trivial⟩ mx (fun x => by kernel_rfl)

noncomputable def math_bits_Len32 (x : Int) : Option (Int) :=
  Option.bind (α := Int × Int) (
    bif decide (65536 ≤ x) then (
     some (Int.fdiv x (2 ^ shAmt .u32 16), 16))
    else (
     some (x, 0))) fun s =>
  Option.bind (α := Int × Int) (
    bif decide (256 ≤ s.1) then (
     some (Int.fdiv s.1 (2 ^ shAmt .u32 8), wi64 (s.2 + 8)))
    else (
     some (s.1, s.2))) fun s2 =>
  gd (inB (wu8 s2.1) str_0.length) <|
  some (wi64 (s2.2 + (wi64 (Int.ofNat (str_0.getD (wu8 s2.1).toNat 0).toNat))))

noncomputable def fn_math_bits_Len32 : Fun :=
  { f := 66, np := 1, nr := 1,
    ji := { regs := [(0, .one (.data (.int .u32)))], vars := [], arrs := [] },
    jo := { regs := [(0, .one (.data (.int .i64)))], vars := [], arrs := [] },
    tw := fun x => math_bits_Len32 x }
noncomputable def cx_math_bits_Len32 : Cx := { Γ := types, ow := [], fs := [], N := 19 }
set_option maxRecDepth 100000 in
theorem ok_math_bits_Len32 : FunOk Tryd.prog fn_math_bits_Len32 :=
  FunOk.intro (C := cx_math_bits_Len32) (p := (.mk [] none .nil (.mk [] none (.mk [] none .nil (.mk [.join [{ e := .n, j := { regs := [(0, .one (.data (.int .u32))), (2, .one (.data (.int .i64)))], vars := [], arrs := [] } }]] none .nil .nil)) (.mk [] none (.mk [] none .nil (.mk [.join [{ e := .n, j := { regs := [(0, .one (.data (.int .u32))), (2, .one (.data (.int .i64)))], vars := [], arrs := [] } }]] none .nil .nil)) .nil))))
    Tryd.func66 rfl nmr66 rfl rfl rfl rfl types_ok ⟨trivial, trivial⟩ mx (fun x => by kernel_rfl)

noncomputable def math_bits_Len64 (x : Int) : Option (Int) :=
  Option.bind (α := Int × Int) (
    bif decide (4294967296 ≤ x) then (
     some (Int.fdiv x (2 ^ shAmt .u64 32), 32))
    else (
     some (x, 0))) fun s =>
  Option.bind (α := Int × Int) (
    bif decide (65536 ≤ s.1) then (
     some (Int.fdiv s.1 (2 ^ shAmt .u64 16), wi64 (s.2 + 16)))
    else (
     some (s.1, s.2))) fun s2 =>
  Option.bind (α := Int × Int) (
    bif decide (256 ≤ s2.1) then (
     some (Int.fdiv s2.1 (2 ^ shAmt .u64 8), wi64 (s2.2 + 8)))
    else (
     some (s2.1, s2.2))) fun s3 =>
  gd (inB (wu8 s3.1) str_0.length) <|
  some (wi64 (s3.2 + (wi64 (Int.ofNat (str_0.getD (wu8 s3.1).toNat 0).toNat))))

noncomputable def fn_math_bits_Len64 : Fun :=
  { f := 67, np := 1, nr := 1,
    ji := { regs := [(0, .one (.data (.int .u64)))], vars := [], arrs := [] },
    jo := { regs := [(0, .one (.data (.int .i64)))], vars := [], arrs := [] },
    tw := fun x => math_bits_Len64 x }
noncomputable def cx_math_bits_Len64 : Cx := { Γ := types, ow := [], fs := [], N := 25 }
set_option maxRecDepth 100000 in
theorem ok_math_bits_Len64 : FunOk Tryd.prog fn_math_bits_Len64 :=
  FunOk.intro (C := cx_math_bits_Len64) (p := (.mk [] none .nil (.mk [] none (.mk [] none .nil (.mk [.join [{ e := .n, j := { regs := [(0, .one (.data (.int .u64))), (2, .one (.data (.int .i64)))], vars := [], arrs := [] } }]] none .nil .nil)) (.mk [] none (.mk [] none .nil (.mk [.join [{ e := .n, j := { regs := [(0, .one (.data (.int .u64))), (2, .one (.data (.int .i64)))], vars := [], arrs := [] } }]] none .nil .nil)) (.mk [] none (.mk [] none .nil (.mk [.join [{ e := .n, j := { regs := [(0, .one (.data (.int .u64))), (2, .one (.data (.int .i64)))], vars := [], arrs := [] } }]] none .nil .nil)) .nil)))))
    Tryd.func67 rfl nmr67 rfl rfl rfl rfl types_ok ⟨trivial, trivial⟩ mx (fun x => by kernel_rfl)

noncomputable def math_bits_Len (x : Int) : Option (Int) :=
  (math_bits_Len64 x).bind fun r =>
  some r

noncomputable def fn_math_bits_Len : Fun :=
  { f := 40, np := 1, nr := 1,
    ji := { regs := [(0, .one (.data (.int .u64)))], vars := [], arrs := [] },
    jo := { regs := [(0, .one (.data (.int .i64)))], vars := [], arrs := [] },
    tw := fun x => math_bits_Len x }
noncomputable def cx_math_bits_Len : Cx := { Γ := types, ow := [], fs := [fn_math_bits_Len64], N := 8 }
theorem ok_math_bits_Len : FunOk Tryd.prog fn_math_bits_Len :=
  FunOk.intro (C := cx_math_bits_Len) (p := .nil)
    Tryd.func40 rfl nmr40 rfl rfl rfl rfl types_ok ⟨⟨ok_math_bits_Len64, trivial⟩, trivial⟩ mx (fun x => by kernel_rfl)

noncomputable def slices_insertionSortCmpFunc_api_Nomination_L1 (a : Int) (cmp : (List UInt8 × List UInt8 × List UInt8 × List UInt8 × Int × Int) × (List UInt8 × List UInt8 × List UInt8 × List UInt8 × Int × Int) × Unit → Option Int) (j : Int) (data3 : List (List UInt8 × List UInt8 × List UInt8 × List UInt8 × Int × Int)) : Option ((Int × List (List UInt8 × List UInt8 × List UInt8 × List UInt8 × Int × Int)) ⊕ (List (List UInt8 × List UInt8 × List UInt8 × List UInt8 × Int × Int))) :=
  Option.bind (α := Bool × List (List UInt8 × List UInt8 × List UInt8 × List UInt8 × Int × Int)) (
    bif decide (a < j) then (
     gd (inB j data3.length) <|
     gd (inB (wi64 (j - 1)) data3.length) <|
     (cmp (data3.getD j.toNat ([], ([], ([], ([], (0, 0))))), data3.getD ((wi64 (j - 1)).toNat) ([], ([], ([], ([], (0, 0))))), ())).bind fun r =>
     some (decide (r < 0), data3))
    else (
     some (false, data3))) fun s =>
  bif s.1 then (
   gd (inB (wi64 (j - 1)) s.2.length) <|
   gd (inB j s.2.length) <|
   gd (inB j s.2.length) <|
   gd (inB (wi64 (j - 1)) (s.2.set j.toNat (s.2.getD ((wi64 (j - 1)).toNat) ([], ([], ([], ([], (0, 0))))))).length) <|
   some (.inl (wi64 (j - 1), (s.2.set j.toNat (s.2.getD ((wi64 (j - 1)).toNat) ([], ([], ([], ([], (0, 0))))))).set ((wi64 (j - 1)).toNat) (s.2.getD j.toNat ([], ([], ([], ([], (0, 0)))))))))
  else (
   some (.inr s.2))

noncomputable def slices_insertionSortCmpFunc_api_Nomination_L0 (a : Int) (b : Int) (cmp : (List UInt8 × List UInt8 × List UInt8 × List UInt8 × Int × Int) × (List UInt8 × List UInt8 × List UInt8 × List UInt8 × Int × Int) × Unit → Option Int) (i : Int) (data2 : List (List UInt8 × List UInt8 × List UInt8 × List UInt8 × Int × Int)) : Option ((Int × List (List UInt8 × List UInt8 × List UInt8 × List UInt8 × Int × Int)) ⊕ (List (List UInt8 × List UInt8 × List UInt8 × List UInt8 × Int × Int))) :=
  bif decide (i < b) then (
   (iter (fun x => slices_insertionSortCmpFunc_api_Nomination_L1 a cmp x.1 x.2) (i, data2)).bind fun s2 =>
   some (.inl (wi64 (i + 1), s2)))
  else (
   some (.inr data2))

noncomputable def slices_insertionSortCmpFunc_api_Nomination (a : Int) (b : Int) (cmp : (List UInt8 × List UInt8 × List UInt8 × List UInt8 × Int × Int) × (List UInt8 × List UInt8 × List UInt8 × List UInt8 × Int × Int) × Unit → Option Int) (data : List (List UInt8 × List UInt8 × List UInt8 × List UInt8 × Int × Int)) : Option (List (List UInt8 × List UInt8 × List UInt8 × List UInt8 × Int × Int)) :=
  (iter (fun x2 => slices_insertionSortCmpFunc_api_Nomination_L0 a b cmp x2.1 x2.2) (wi64 (a + 1), data)).bind fun s3 =>
  some s3

noncomputable def fn_slices_insertionSortCmpFunc_api_Nomination : Fun :=
  { f := 58, np := 4, nr := 0,
    ji := { regs := [(0, .one (.own 0)), (1, .one (.data (.int .i64))), (2, .one (.data (.int .i64))), (3, .one (.fn [.pair (.str) (.pair (.str) (.pair (.str) (.pair (.str) (.pair (.int .i64) (.int .i64))))), .pair (.str) (.pair (.str) (.pair (.str) (.pair (.str) (.pair (.int .i64) (.int .i64)))))] (.int .i64)))], vars := [], arrs := [(0, .arr 42 (.pair (.str) (.pair (.str) (.pair (.str) (.pair (.str) (.pair (.int .i64) (.int .i64)))))))] },
    jo := { regs := [], vars := [], arrs := [(0, .arr 42 (.pair (.str) (.pair (.str) (.pair (.str) (.pair (.str) (.pair (.int .i64) (.int .i64)))))))] },
    tw := fun x => slices_insertionSortCmpFunc_api_Nomination x.1 x.2.1 x.2.2.1 x.2.2.2 }
noncomputable def cx_slices_insertionSortCmpFunc_api_Nomination : Cx := { Γ := types, ow := [], fs := [], N := 53 }
theorem ok_slices_insertionSortCmpFunc_api_Nomination : FunOk Tryd.prog fn_slices_insertionSortCmpFunc_api_Nomination :=
  FunOk.intro (C := cx_slices_insertionSortCmpFunc_api_Nomination) (p := (.mk [] none .nil (.mk [] none (.mk [] (some ({ regs := [(0, .one (.own 0)), (1, .one .keep), (2, .one .keep), (3, .one .keep), (8, .one (.data (.int .i64)))], vars := [], arrs := [(0, .arr 42 (.pair (.str) (.pair (.str) (.pair (.str) (.pair (.str) (.pair (.int .i64) (.int .i64)))))))] }, [{ e := .x 0, j := { regs := [], vars := [], arrs := [(0, .arr 42 (.pair (.str) (.pair (.str) (.pair (.str) (.pair (.str) (.pair (.int .i64) (.int .i64)))))))] } }])) (.mk [] none .nil (.mk [] none (.mk [] none (.mk [] none .nil (.mk [] none (.mk [] (some ({ regs := [(0, .one (.own 0)), (1, .one .keep), (2, .one .keep), (3, .one .keep), (8, .one .keep), (9, .one (.data (.int .i64)))], vars := [], arrs := [(0, .arr 42 (.pair (.str) (.pair (.str) (.pair (.str) (.pair (.str) (.pair (.int .i64) (.int .i64)))))))] }, [{ e := .x 2, j := { regs := [(0, .one (.own 0)), (1, .one .keep), (2, .one .keep), (3, .one .keep), (8, .one .keep)], vars := [], arrs := [(0, .arr 42 (.pair (.str) (.pair (.str) (.pair (.str) (.pair (.str) (.pair (.int .i64) (.int .i64)))))))] } }])) (.mk [] none (.mk [] none (.mk [.join [{ e := .n, j := { regs := [(0, .one (.own 0)), (1, .one .keep), (2, .one .keep), (3, .one .keep), (8, .one .keep), (9, .one .keep), (34, .one (.data (.bool)))], vars := [], arrs := [(0, .arr 42 (.pair (.str) (.pair (.str) (.pair (.str) (.pair (.str) (.pair (.int .i64) (.int .i64)))))))] } }]] none .nil .nil) .nil) .nil) .nil) .nil)) .nil) .nil)) .nil) .nil)))
    Tryd.func58 rfl nmr58 rfl rfl rfl rfl types_ok ⟨trivial, trivial⟩ mx (fun x => by kernel_rfl)

noncomputable def slices_siftDownCmpFunc_api_Nomination_L0 (hi : Int) (first : Int) (cmp : (List UInt8 × List UInt8 × List UInt8 × List UInt8 × Int × Int) × (List UInt8 × List UInt8 × List UInt8 × List UInt8 × Int × Int) × Unit → Option Int) (root : Int) (data2 : List (List UInt8 × List UInt8 × List UInt8 × List UInt8 × Int × Int)) : Option ((Int × List (List UInt8 × List UInt8 × List UInt8 × List UInt8 × Int × Int)) ⊕ ((List (List UInt8 × List UInt8 × List UInt8 × List UInt8 × Int × Int)) ⊕ (List (List UInt8 × List UInt8 × List UInt8 × List UInt8 × Int × Int)))) :=
  bif decide (hi ≤ wi64 ((wi64 (2 * root)) + 1)) then (
   some (.inr (.inl data2)))
  else (
   Option.bind (α := Bool × List (List UInt8 × List UInt8 × List UInt8 × List UInt8 × Int × Int)) (
     bif decide (wi64 ((wi64 ((wi64 (2 * root)) + 1)) + 1) < hi) then (
      gd (inB (wi64 (first + (wi64 ((wi64 (2 * root)) + 1)))) data2.length) <|
      gd (inB (wi64 ((wi64 (first + (wi64 ((wi64 (2 * root)) + 1)))) + 1)) data2.length) <|
      (cmp (data2.getD ((wi64 (first + (wi64 ((wi64 (2 * root)) + 1)))).toNat) ([], ([], ([], ([], (0, 0))))), data2.getD ((wi64 ((wi64 (first + (wi64 ((wi64 (2 * root)) + 1)))) + 1)).toNat) ([], ([], ([], ([], (0, 0))))), ())).bind fun r =>
      some (decide (r < 0), data2))
     else (
      some (false, data2))) fun s =>
   Option.bind (α := Int × List (List UInt8 × List UInt8 × List UInt8 × List UInt8 × Int × Int)) (
     bif s.1 then (
      some (wi64 ((wi64 ((wi64 (2 * root)) + 1)) + 1), s.2))
     else (
      some (wi64 ((wi64 (2 * root)) + 1), s.2))) fun s2 =>
   gd (inB (wi64 (first + root)) s2.2.length) <|
   gd (inB (wi64 (first + s2.1)) s2.2.length) <|
   (cmp (s2.2.getD ((wi64 (first + root)).toNat) ([], ([], ([], ([], (0, 0))))), s2.2.getD ((wi64 (first + s2.1)).toNat) ([], ([], ([], ([], (0, 0))))), ())).bind fun r2 =>
   bif !(decide (r2 < 0)) then (
    some (.inr (.inr s2.2)))
   else (
    gd (inB (wi64 (first + s2.1)) s2.2.length) <|
    gd (inB (wi64 (first + root)) s2.2.length) <|
    gd (inB (wi64 (first + root)) s2.2.length) <|
    gd (inB (wi64 (first + s2.1)) (s2.2.set ((wi64 (first + root)).toNat) (s2.2.getD ((wi64 (first + s2.1)).toNat) ([], ([], ([], ([], (0, 0))))))).length) <|
    some (.inl (s2.1, (s2.2.set ((wi64 (first + root)).toNat) (s2.2.getD ((wi64 (first + s2.1)).toNat) ([], ([], ([], ([], (0, 0))))))).set ((wi64 (first + s2.1)).toNat) (s2.2.getD ((wi64 (first + root)).toNat) ([], ([], ([], ([], (0, 0))))))))))

noncomputable def slices_siftDownCmpFunc_api_Nomination (lo : Int) (hi : Int) (first : Int) (cmp : (List UInt8 × List UInt8 × List UInt8 × List UInt8 × Int × Int) × (List UInt8 × List UInt8 × List UInt8 × List UInt8 × Int × Int) × Unit → Option Int) (data : List (List UInt8 × List UInt8 × List UInt8 × List UInt8 × Int × Int)) : Option (List (List UInt8 × List UInt8 × List UInt8 × List UInt8 × Int × Int)) :=
  (iter (fun x => slices_siftDownCmpFunc_api_Nomination_L0 hi first cmp x.1 x.2) (lo, data)).bind fun s3 =>
  s3.elim (fun s4 =>
   some s4)
  (fun s5 =>
   some s5)

noncomputable def fn_slices_siftDownCmpFunc_api_Nomination : Fun :=
  { f := 82, np := 5, nr := 0,
    ji := { regs := [(0, .one (.own 0)), (1, .one (.data (.int .i64))), (2, .one (.data (.int .i64))), (3, .one (.data (.int .i64))), (4, .one (.fn [.pair (.str) (.pair (.str) (.pair (.str) (.pair (.str) (.pair (.int .i64) (.int .i64))))), .pair (.str) (.pair (.str) (.pair (.str) (.pair (.str) (.pair (.int .i64) (.int .i64)))))] (.int .i64)))], vars := [], arrs := [(0, .arr 42 (.pair (.str) (.pair (.str) (.pair (.str) (.pair (.str) (.pair (.int .i64) (.int .i64)))))))] },
    jo := { regs := [], vars := [], arrs := [(0, .arr 42 (.pair (.str) (.pair (.str) (.pair (.str) (.pair (.str) (.pair (.int .i64) (.int .i64)))))))] },
    tw := fun x => slices_siftDownCmpFunc_api_Nomination x.1 x.2.1 x.2.2.1 x.2.2.2.1 x.2.2.2.2 }
noncomputable def cx_slices_siftDownCmpFunc_api_Nomination : Cx := { Γ := types, ow := [], fs := [], N := 82 }
theorem ok_slices_siftDownCmpFunc_api_Nomination : FunOk Tryd.prog fn_slices_siftDownCmpFunc_api_Nomination :=
  FunOk.intro (C := cx_slices_siftDownCmpFunc_api_Nomination) (p := (.mk [] none .nil (.mk [] none (.mk [] (some ({ regs := [(0, .one (.own 0)), (2, .one .keep), (3, .one .keep), (4, .one .keep), (10, .one (.data (.int .i64)))], vars := [], arrs := [(0, .arr 42 (.pair (.str) (.pair (.str) (.pair (.str) (.pair (.str) (.pair (.int .i64) (.int .i64)))))))] }, [{ e := .x 0, j := { regs := [], vars := [], arrs := [(0, .arr 42 (.pair (.str) (.pair (.str) (.pair (.str) (.pair (.str) (.pair (.int .i64) (.int .i64)))))))] } }, { e := .r, j := { regs := [], vars := [], arrs := [(0, .arr 42 (.pair (.str) (.pair (.str) (.pair (.str) (.pair (.str) (.pair (.int .i64) (.int .i64)))))))] } }])) (.mk [] none (.mk [] none .nil (.mk [] none .nil (.mk [] none (.mk [] none (.mk [.join [{ e := .n, j := { regs := [(0, .one (.own 0)), (2, .one .keep), (3, .one .keep), (4, .one .keep), (10, .one .keep), (11, .one .keep), (40, .one (.data (.bool)))], vars := [], arrs := [(0, .arr 42 (.pair (.str) (.pair (.str) (.pair (.str) (.pair (.str) (.pair (.int .i64) (.int .i64)))))))] } }]] none .nil .nil) (.mk [.join [{ e := .n, j := { regs := [(0, .one (.own 0)), (2, .one .keep), (3, .one .keep), (4, .one .keep), (10, .one .keep), (11, .one (.data (.int .i64)))], vars := [], arrs := [(0, .arr 42 (.pair (.str) (.pair (.str) (.pair (.str) (.pair (.str) (.pair (.int .i64) (.int .i64)))))))] } }]] none .nil .nil)) .nil))) .nil) .nil) .nil)))
    Tryd.func82 rfl nmr82 rfl rfl rfl rfl types_ok ⟨trivial, trivial⟩ mx (fun x => by kernel_rfl)

noncomputable def slices_heapSortCmpFunc_api_Nomination_L0 (a : Int) (b : Int) (cmp : (List UInt8 × List UInt8 × List UInt8 × List UInt8 × Int × Int) × (List UInt8 × List UInt8 × List UInt8 × List UInt8 × Int × Int) × Unit → Option Int) (i : Int) (data2 : List (List UInt8 × List UInt8 × List UInt8 × List UInt8 × Int × Int)) : Option ((Int × List (List UInt8 × List UInt8 × List UInt8 × List UInt8 × Int × Int)) ⊕ (List (List UInt8 × List UInt8 × List UInt8 × List UInt8 × Int × Int))) :=
  bif decide (0 ≤ i) then (
   (slices_siftDownCmpFunc_api_Nomination i (wi64 (b - a)) a cmp data2).bind fun r =>
   some (.inl (wi64 (i - 1), r)))
  else (
   some (.inr data2))

noncomputable def slices_heapSortCmpFunc_api_Nomination_L1 (a : Int) (cmp : (List UInt8 × List UInt8 × List UInt8 × List UInt8 × Int × Int) × (List UInt8 × List UInt8 × List UInt8 × List UInt8 × Int × Int) × Unit → Option Int) (i2 : Int) (data3 : List (List UInt8 × List UInt8 × List UInt8 × List UInt8 × Int × Int)) : Option ((Int × List (List UInt8 × List UInt8 × List UInt8 × List UInt8 × Int × Int)) ⊕ (List (List UInt8 × List UInt8 × List UInt8 × List UInt8 × Int × Int))) :=
  bif decide (0 ≤ i2) then (
   gd (inB (wi64 (a + i2)) data3.length) <|
   gd (inB a data3.length) <|
   gd (inB a data3.length) <|
   gd (inB (wi64 (a + i2)) (data3.set a.toNat (data3.getD ((wi64 (a + i2)).toNat) ([], ([], ([], ([], (0, 0))))))).length) <|
   (slices_siftDownCmpFunc_api_Nomination 0 i2 a cmp ((data3.set a.toNat (data3.getD ((wi64 (a + i2)).toNat) ([], ([], ([], ([], (0, 0))))))).set ((wi64 (a + i2)).toNat) (data3.getD a.toNat ([], ([], ([], ([], (0, 0)))))))).bind fun r2 =>
   some (.inl (wi64 (i2 - 1), r2)))
  else (
   some (.inr data3))

noncomputable def slices_heapSortCmpFunc_api_Nomination (a : Int) (b : Int) (cmp : (List UInt8 × List UInt8 × List UInt8 × List UInt8 × Int × Int) × (List UInt8 × List UInt8 × List UInt8 × List UInt8 × Int × Int) × Unit → Option Int) (data : List (List UInt8 × List UInt8 × List UInt8 × List UInt8 × Int × Int)) : Option (List (List UInt8 × List UInt8 × List UInt8 × List UInt8 × Int × Int)) :=
  (iter (fun x => slices_heapSortCmpFunc_api_Nomination_L0 a b cmp x.1 x.2) (wi64 (Int.tdiv (wi64 ((wi64 (b - a)) - 1)) 2), data)).bind fun s =>
  (iter (fun x2 => slices_heapSortCmpFunc_api_Nomination_L1 a cmp x2.1 x2.2) (wi64 ((wi64 (b - a)) - 1), s)).bind fun s2 =>
  some s2

noncomputable def fn_slices_heapSortCmpFunc_api_Nomination : Fun :=
  { f := 59, np := 4, nr := 0,
    ji := { regs := [(0, .one (.own 0)), (1, .one (.data (.int .i64))), (2, .one (.data (.int .i64))), (3, .one (.fn [.pair (.str) (.pair (.str) (.pair (.str) (.pair (.str) (.pair (.int .i64) (.int .i64))))), .pair (.str) (.pair (.str) (.pair (.str) (.pair (.str) (.pair (.int .i64) (.int .i64)))))] (.int .i64)))], vars := [], arrs := [(0, .arr 42 (.pair (.str) (.pair (.str) (.pair (.str) (.pair (.str) (.pair (.int .i64) (.int .i64)))))))] },
    jo := { regs := [], vars := [], arrs := [(0, .arr 42 (.pair (.str) (.pair (.str) (.pair (.str) (.pair (.str) (.pair (.int .i64) (.int .i64)))))))] },
    tw := fun x => slices_heapSortCmpFunc_api_Nomination x.1 x.2.1 x.2.2.1 x.2.2.2 }
noncomputable def cx_slices_heapSortCmpFunc_api_Nomination : Cx := { Γ := types, ow := [], fs := [fn_slices_siftDownCmpFunc_api_Nomination], N := 60 }
theorem ok_slices_heapSortCmpFunc_api_Nomination : FunOk Tryd.prog fn_slices_heapSortCmpFunc_api_Nomination :=
  FunOk.intro (C := cx_slices_heapSortCmpFunc_api_Nomination) (p := (.mk [] none .nil (.mk [] none .nil (.mk [] none .nil (.mk [] none (.mk [] none .nil (.mk [] none (.mk [] (some ({ regs := [(0, .one (.own 0)), (3, .one .keep), (8, .one .keep), (9, .one .keep), (10, .one .keep), (11, .one (.data (.int .i64)))], vars := [], arrs := [(0, .arr 42 (.pair (.str) (.pair (.str) (.pair (.str) (.pair (.str) (.pair (.int .i64) (.int .i64)))))))] }, [{ e := .x 0, j := { regs := [(0, .one (.own 0)), (3, .one .keep), (8, .one .keep), (9, .one .keep), (10, .one .keep)], vars := [], arrs := [(0, .arr 42 (.pair (.str) (.pair (.str) (.pair (.str) (.pair (.str) (.pair (.int .i64) (.int .i64)))))))] } }])) .nil .nil) .nil)) (.mk [] none .nil (.mk [] none (.mk [] (some ({ regs := [(0, .one (.own 0)), (3, .one .keep), (8, .one .keep), (9, .one .keep), (12, .one (.data (.int .i64)))], vars := [], arrs := [(0, .arr 42 (.pair (.str) (.pair (.str) (.pair (.str) (.pair (.str) (.pair (.int .i64) (.int .i64)))))))] }, [{ e := .x 2, j := { regs := [], vars := [], arrs := [(0, .arr 42 (.pair (.str) (.pair (.str) (.pair (.str) (.pair (.str) (.pair (.int .i64) (.int .i64)))))))] } }])) .nil .nil) .nil)))))))
    Tryd.func59 rfl nmr59 rfl rfl rfl rfl types_ok ⟨⟨ok_slices_siftDownCmpFunc_api_Nomination, trivial⟩, trivial⟩ mx (fun x => by kernel_rfl)

noncomputable def slices_nextPowerOfTwo (length : Int) : Option (Int) :=
  (math_bits_Len (wu64 length)).bind fun r =>
  gd (!decide (r < 0)) <|
  some (wu64 (1 * 2 ^ shAmt .u64 r))

noncomputable def fn_slices_nextPowerOfTwo : Fun :=
  { f := 83, np := 1, nr := 1,
    ji := { regs := [(0, .one (.data (.int .i64)))], vars := [], arrs := [] },
    jo := { regs := [(0, .one (.data (.int .u64)))], vars := [], arrs := [] },
    tw := fun x => slices_nextPowerOfTwo x }
noncomputable def cx_slices_nextPowerOfTwo : Cx := { Γ := types, ow := [], fs := [fn_math_bits_Len], N := 7 }
theorem ok_slices_nextPowerOfTwo : FunOk Tryd.prog fn_slices_nextPowerOfTwo :=
  FunOk.intro (C := cx_slices_nextPowerOfTwo) (p := .nil)
    Tryd.func83 rfl nmr83 rfl rfl rfl rfl types_ok ⟨⟨ok_math_bits_Len, trivial⟩, trivial⟩ mx (fun x => by kernel_rfl)

noncomputable def slices_xorshift_Next (r : Int) : Option (Int × Int) :=
  some (bitXor .u64 (bitXor .u64 (bitXor .u64 r (wu64 (r * 2 ^ shAmt .u64 13))) (Int.fdiv (bitXor .u64 r (wu64 (r * 2 ^ shAmt .u64 13))) (2 ^ shAmt .u64 7))) (wu64 ((bitXor .u64 (bitXor .u64 r (wu64 (r * 2 ^ shAmt .u64 13))) (Int.fdiv (bitXor .u64 r (wu64 (r * 2 ^ shAmt .u64 13))) (2 ^ shAmt .u64 7))) * 2 ^ shAmt .u64 17)), bitXor .u64 (bitXor .u64 (bitXor .u64 r (wu64 (r * 2 ^ shAmt .u64 13))) (Int.fdiv (bitXor .u64 r (wu64 (r * 2 ^ shAmt .u64 13))) (2 ^ shAmt .u64 7))) (wu64 ((bitXor .u64 (bitXor .u64 r (wu64 (r * 2 ^ shAmt .u64 13))) (Int.fdiv (bitXor .u64 r (wu64 (r * 2 ^ shAmt .u64 13))) (2 ^ shAmt .u64 7))) * 2 ^ shAmt .u64 17)))

noncomputable def fn_slices_xorshift_Next : Fun :=
  { f := 84, np := 1, nr := 1,
    ji := { regs := [(0, .one (.ptr 0 0))], vars := [(0, 118, [.data (.int .u64)])], arrs := [] },
    jo := { regs := [(0, .one (.data (.int .u64)))], vars := [(0, 118, [.data (.int .u64)])], arrs := [] },
    tw := fun x => slices_xorshift_Next x }
noncomputable def cx_slices_xorshift_Next : Cx := { Γ := types, ow := [], fs := [], N := 33 }
theorem ok_slices_xorshift_Next : FunOk Tryd.prog fn_slices_xorshift_Next :=
  FunOk.intro (C := cx_slices_xorshift_Next) (p := .nil)
    Tryd.func84 rfl nmr84 rfl rfl rfl rfl types_ok ⟨trivial, trivial⟩ mx (fun x => by kernel_rfl)

noncomputable def slices_breakPatternsCmpFunc_api_Nomination_L0 (a : Int) (b : Int) (r : Int) (idx : Int) (random : Int) (data2 : List (List UInt8 × List UInt8 × List UInt8 × List UInt8 × Int × Int)) : Option ((Int × Int × List (List UInt8 × List UInt8 × List UInt8 × List UInt8 × Int × Int)) ⊕ (List (List UInt8 × List UInt8 × List UInt8 × List UInt8 × Int × Int))) :=
  bif decide (idx ≤ wi64 ((wi64 (a + (wi64 ((wi64 (Int.tdiv (wi64 (b - a)) 4)) * 2)))) + 1)) then (
   (slices_xorshift_Next random).bind fun r2 =>
   Option.bind (α := Int × List (List UInt8 × List UInt8 × List UInt8 × List UInt8 × Int × Int)) (
     bif decide (wi64 (b - a) ≤ wi64 (bitAnd .u64 r2.1 (wu64 (r - 1)))) then (
      some (wi64 ((wi64 (bitAnd .u64 r2.1 (wu64 (r - 1)))) - (wi64 (b - a))), data2))
     else (
      some (wi64 (bitAnd .u64 r2.1 (wu64 (r - 1))), data2))) fun s =>
   gd (inB (wi64 (a + s.1)) s.2.length) <|
   gd (inB idx s.2.length) <|
   gd (inB idx s.2.length) <|
   gd (inB (wi64 (a + s.1)) (s.2.set idx.toNat (s.2.getD ((wi64 (a + s.1)).toNat) ([], ([], ([], ([], (0, 0))))))).length) <|
   some (.inl (wi64 (idx + 1), r2.2, (s.2.set idx.toNat (s.2.getD ((wi64 (a + s.1)).toNat) ([], ([], ([], ([], (0, 0))))))).set ((wi64 (a + s.1)).toNat) (s.2.getD idx.toNat ([], ([], ([], ([], (0, 0)))))))))
  else (
   some (.inr data2))

noncomputable def slices_breakPatternsCmpFunc_api_Nomination (a : Int) (b : Int) (cmp : (List UInt8 × List UInt8 × List UInt8 × List UInt8 × Int × Int) × (List UInt8 × List UInt8 × List UInt8 × List UInt8 × Int × Int) × Unit → Option Int) (data : List (List UInt8 × List UInt8 × List UInt8 × List UInt8 × Int × Int)) : Option (List (List UInt8 × List UInt8 × List UInt8 × List UInt8 × Int × Int)) :=
  bif decide (8 ≤ wi64 (b - a)) then (
   (slices_nextPowerOfTwo (wi64 (b - a))).bind fun r =>
   (iter (fun x => slices_breakPatternsCmpFunc_api_Nomination_L0 a b r x.1 x.2.1 x.2.2) (wi64 ((wi64 (a + (wi64 ((wi64 (Int.tdiv (wi64 (b - a)) 4)) * 2)))) - 1), wu64 (wi64 (b - a)), data)).bind fun s2 =>
   some s2)
  else (
   some data)

noncomputable def fn_slices_breakPatternsCmpFunc_api_Nomination : Fun :=
  { f := 60, np := 4, nr := 0,
    ji := { regs := [(0, .one (.own 0)), (1, .one (.data (.int .i64))), (2, .one (.data (.int .i64))), (3, .one (.fn [.pair (.str) (.pair (.str) (.pair (.str) (.pair (.str) (.pair (.int .i64) (.int .i64))))), .pair (.str) (.pair (.str) (.pair (.str) (.pair (.str) (.pair (.int .i64) (.int .i64)))))] (.int .i64)))], vars := [], arrs := [(0, .arr 42 (.pair (.str) (.pair (.str) (.pair (.str) (.pair (.str) (.pair (.int .i64) (.int .i64)))))))] },
    jo := { regs := [], vars := [], arrs := [(0, .arr 42 (.pair (.str) (.pair (.str) (.pair (.str) (.pair (.str) (.pair (.int .i64) (.int .i64)))))))] },
    tw := fun x => slices_breakPatternsCmpFunc_api_Nomination x.1 x.2.1 x.2.2.1 x.2.2.2 }
noncomputable def cx_slices_breakPatternsCmpFunc_api_Nomination : Cx := { Γ := types, ow := [], fs := [fn_slices_nextPowerOfTwo, fn_slices_xorshift_Next], N := 67 }
theorem ok_slices_breakPatternsCmpFunc_api_Nomination : FunOk Tryd.prog fn_slices_breakPatternsCmpFunc_api_Nomination :=
  FunOk.intro (C := cx_slices_breakPatternsCmpFunc_api_Nomination) (p := (.mk [] none .nil (.mk [] none .nil (.mk [] none (.mk [] none .nil (.mk [] none .nil (.mk [] none .nil (.mk [] none (.mk [] (some ({ regs := [(0, .one (.own 0)), (1, .one .keep), (8, .one .keep), (9, .one (.ptr 160 0)), (10, .one .keep), (11, .one (.data (.int .i64)))], vars := [(160, 118, [.data (.int .u64)])], arrs := [(0, .arr 42 (.pair (.str) (.pair (.str) (.pair (.str) (.pair (.str) (.pair (.int .i64) (.int .i64)))))))] }, [{ e := .x 0, j := { regs := [], vars := [], arrs := [(0, .arr 42 (.pair (.str) (.pair (.str) (.pair (.str) (.pair (.str) (.pair (.int .i64) (.int .i64)))))))] } }])) (.mk [] none .nil (.mk [] none (.mk [] none (.mk [] none .nil (.mk [] none (.mk [] none .nil (.mk [.join [{ e := .n, j := { regs := [(0, .one (.own 0)), (1, .one .keep), (8, .one .keep), (9, .one (.ptr 160 0)), (10, .one .keep), (11, .one .keep), (12, .one (.data (.int .i64)))], vars := [(160, 118, [.keep])], arrs := [(0, .arr 42 (.pair (.str) (.pair (.str) (.pair (.str) (.pair (.str) (.pair (.int .i64) (.int .i64)))))))] } }]] none .nil .nil)) .nil)) .nil) .nil)) .nil) .nil)))) .nil))))
    Tryd.func60 rfl nmr60 rfl rfl rfl rfl types_ok ⟨⟨ok_slices_nextPowerOfTwo, ok_slices_xorshift_Next, trivial⟩, trivial⟩ mx (fun x => by kernel_rfl)

noncomputable def slices_order2CmpFunc_api_Nomination (data : List (List UInt8 × List UInt8 × List UInt8 × List UInt8 × Int × Int)) (a : Int) (b : Int) (cmp : (List UInt8 × List UInt8 × List UInt8 × List UInt8 × Int × Int) × (List UInt8 × List UInt8 × List UInt8 × List UInt8 × Int × Int) × Unit → Option Int) (swaps : Int) : Option (Int × Int × Int) :=
  gd (inB b data.length) <|
  gd (inB a data.length) <|
  (cmp (data.getD b.toNat ([], ([], ([], ([], (0, 0))))), data.getD a.toNat ([], ([], ([], ([], (0, 0))))), ())).bind fun r =>
  bif decide (r < 0) then (
   some (b, a, wi64 (swaps + 1)))
  else (
   some (a, b, swaps))

noncomputable def fn_slices_order2CmpFunc_api_Nomination : Fun :=
  { f := 103, np := 5, nr := 2,
    ji := { regs := [(0, .one (.data (.sl (.pair (.str) (.pair (.str) (.pair (.str) (.pair (.str) (.pair (.int .i64) (.int .i64))))))))), (1, .one (.data (.int .i64))), (2, .one (.data (.int .i64))), (3, .one (.ptr 0 0)), (4, .one (.fn [.pair (.str) (.pair (.str) (.pair (.str) (.pair (.str) (.pair (.int .i64) (.int .i64))))), .pair (.str) (.pair (.str) (.pair (.str) (.pair (.str) (.pair (.int .i64) (.int .i64)))))] (.int .i64)))], vars := [(0, 3, [.data (.int .i64)])], arrs := [] },
    jo := { regs := [(0, .one (.data (.int .i64))), (1, .one (.data (.int .i64)))], vars := [(0, 3, [.data (.int .i64)])], arrs := [] },
    tw := fun x => slices_order2CmpFunc_api_Nomination x.1 x.2.1 x.2.2.1 x.2.2.2.1 x.2.2.2.2 }
noncomputable def cx_slices_order2CmpFunc_api_Nomination : Cx := { Γ := types, ow := [], fs := [], N := 32 }
theorem ok_slices_order2CmpFunc_api_Nomination : FunOk Tryd.prog fn_slices_order2CmpFunc_api_Nomination :=
  FunOk.intro (C := cx_slices_order2CmpFunc_api_Nomination) (p := .nil)
    Tryd.func103 rfl nmr103 rfl rfl rfl rfl types_ok ⟨trivial, trivial⟩ mx (fun x => by kernel_rfl)

noncomputable def slices_medianCmpFunc_api_Nomination (data : List (List UInt8 × List UInt8 × List UInt8 × List UInt8 × Int × Int)) (a : Int) (b : Int) (c : Int) (cmp : (List UInt8 × List UInt8 × List UInt8 × List UInt8 × Int × Int) × (List UInt8 × List UInt8 × List UInt8 × List UInt8 × Int × Int) × Unit → Option Int) (swaps : Int) : Option (Int × Int) :=
  (slices_order2CmpFunc_api_Nomination data a b cmp swaps).bind fun r =>
  (slices_order2CmpFunc_api_Nomination data r.2.1 c cmp r.2.2).bind fun r2 =>
  (slices_order2CmpFunc_api_Nomination data r.1 r2.1 cmp r2.2.2).bind fun r3 =>
  some (r3.2.1, r3.2.2)

noncomputable def fn_slices_medianCmpFunc_api_Nomination : Fun :=
  { f := 86, np := 6, nr := 1,
    ji := { regs := [(0, .one (.data (.sl (.pair (.str) (.pair (.str) (.pair (.str) (.pair (.str) (.pair (.int .i64) (.int .i64))))))))), (1, .one (.data (.int .i64))), (2, .one (.data (.int .i64))), (3, .one (.data (.int .i64))), (4, .one (.ptr 0 0)), (5, .one (.fn [.pair (.str) (.pair (.str) (.pair (.str) (.pair (.str) (.pair (.int .i64) (.int .i64))))), .pair (.str) (.pair (.str) (.pair (.str) (.pair (.str) (.pair (.int .i64) (.int .i64)))))] (.int .i64)))], vars := [(0, 3, [.data (.int .i64)])], arrs := [] },
    jo := { regs := [(0, .one (.data (.int .i64)))], vars := [(0, 3, [.data (.int .i64)])], arrs := [] },
    tw := fun x => slices_medianCmpFunc_api_Nomination x.1 x.2.1 x.2.2.1 x.2.2.2.1 x.2.2.2.2.1 x.2.2.2.2.2 }
noncomputable def cx_slices_medianCmpFunc_api_Nomination : Cx := { Γ := types, ow := [], fs := [fn_slices_order2CmpFunc_api_Nomination], N := 41 }
theorem ok_slices_medianCmpFunc_api_Nomination : FunOk Tryd.prog fn_slices_medianCmpFunc_api_Nomination :=
  FunOk.intro (C := cx_slices_medianCmpFunc_api_Nomination) (p := .nil)
    Tryd.func86 rfl nmr86 rfl rfl rfl rfl types_ok ⟨⟨ok_slices_order2CmpFunc_api_Nomination, trivial⟩, trivial⟩ mx (fun x => by kernel_rfl)

noncomputable def slices_medianAdjacentCmpFunc_api_Nomination (data : List (List UInt8 × List UInt8 × List UInt8 × List UInt8 × Int × Int)) (a : Int) (cmp : (List UInt8 × List UInt8 × List UInt8 × List UInt8 × Int × Int) × (List UInt8 × List UInt8 × List UInt8 × List UInt8 × Int × Int) × Unit → Option Int) (swaps : Int) : Option (Int × Int) :=
  (slices_medianCmpFunc_api_Nomination data (wi64 (a - 1)) a (wi64 (a + 1)) cmp swaps).bind fun r =>
  some (r.1, r.2)

noncomputable def fn_slices_medianAdjacentCmpFunc_api_Nomination : Fun :=
  { f := 85, np := 4, nr := 1,
    ji := { regs := [(0, .one (.data (.sl (.pair (.str) (.pair (.str) (.pair (.str) (.pair (.str) (.pair (.int .i64) (.int .i64))))))))), (1, .one (.data (.int .i64))), (2, .one (.ptr 0 0)), (3, .one (.fn [.pair (.str) (.pair (.str) (.pair (.str) (.pair (.str) (.pair (.int .i64) (.int .i64))))), .pair (.str) (.pair (.str) (.pair (.str) (.pair (.str) (.pair (.int .i64) (.int .i64)))))] (.int .i64)))], vars := [(0, 3, [.data (.int .i64)])], arrs := [] },
    jo := { regs := [(0, .one (.data (.int .i64)))], vars := [(0, 3, [.data (.int .i64)])], arrs := [] },
    tw := fun x => slices_medianAdjacentCmpFunc_api_Nomination x.1 x.2.1 x.2.2.1 x.2.2.2 }
noncomputable def cx_slices_medianAdjacentCmpFunc_api_Nomination : Cx := { Γ := types, ow := [], fs := [fn_slices_medianCmpFunc_api_Nomination], N := 18 }
theorem ok_slices_medianAdjacentCmpFunc_api_Nomination : FunOk Tryd.prog fn_slices_medianAdjacentCmpFunc_api_Nomination :=
  FunOk.intro (C := cx_slices_medianAdjacentCmpFunc_api_Nomination) (p := .nil)
    Tryd.func85 rfl nmr85 rfl rfl rfl rfl types_ok ⟨⟨ok_slices_medianCmpFunc_api_Nomination, trivial⟩, trivial⟩ mx (fun x => by kernel_rfl)

noncomputable def slices_choosePivotCmpFunc_api_Nomination (data : List (List UInt8 × List UInt8 × List UInt8 × List UInt8 × Int × Int)) (a : Int) (b : Int) (cmp : (List UInt8 × List UInt8 × List UInt8 × List UInt8 × Int × Int) × (List UInt8 × List UInt8 × List UInt8 × List UInt8 × Int × Int) × Unit → Option Int) : Option (Int × Int) :=
  Option.bind (α := Int × Int) (
    bif decide (8 ≤ wi64 (b - a)) then (
     Option.bind (α := Int × Int × Int × Int) (
       bif decide (50 ≤ wi64 (b - a)) then (
        (slices_medianAdjacentCmpFunc_api_Nomination data (wi64 (a + (wi64 ((wi64 (Int.tdiv (wi64 (b - a)) 4)) * 1)))) cmp 0).bind fun r =>
        (slices_medianAdjacentCmpFunc_api_Nomination data (wi64 (a + (wi64 ((wi64 (Int.tdiv (wi64 (b - a)) 4)) * 2)))) cmp r.2).bind fun r2 =>
        (slices_medianAdjacentCmpFunc_api_Nomination data (wi64 (a + (wi64 ((wi64 (Int.tdiv (wi64 (b - a)) 4)) * 3)))) cmp r2.2).bind fun r3 =>
        some (r.1, r2.1, r3.1, r3.2))
       else (
        some (wi64 (a + (wi64 ((wi64 (Int.tdiv (wi64 (b - a)) 4)) * 1))), wi64 (a + (wi64 ((wi64 (Int.tdiv (wi64 (b - a)) 4)) * 2))), wi64 (a + (wi64 ((wi64 (Int.tdiv (wi64 (b - a)) 4)) * 3))), 0))) fun s =>
     (slices_medianCmpFunc_api_Nomination data s.1 s.2.1 s.2.2.1 cmp s.2.2.2).bind fun r4 =>
     some (r4.1, r4.2))
    else (
     some (wi64 (a + (wi64 ((wi64 (Int.tdiv (wi64 (b - a)) 4)) * 2))), 0))) fun s2 =>
  bif decide (s2.2 = 0) then (
   some (s2.1, 1))
  else (
   bif decide (s2.2 = 12) then (
    some (s2.1, 2))
   else (
    some (s2.1, 0)))

noncomputable def fn_slices_choosePivotCmpFunc_api_Nomination : Fun :=
  { f := 61, np := 4, nr := 2,
    ji := { regs := [(0, .one (.data (.sl (.pair (.str) (.pair (.str) (.pair (.str) (.pair (.str) (.pair (.int .i64) (.int .i64))))))))), (1, .one (.data (.int .i64))), (2, .one (.data (.int .i64))), (3, .one (.fn [.pair (.str) (.pair (.str) (.pair (.str) (.pair (.str) (.pair (.int .i64) (.int .i64))))), .pair (.str) (.pair (.str) (.pair (.str) (.pair (.str) (.pair (.int .i64) (.int .i64)))))] (.int .i64)))], vars := [], arrs := [] },
    jo := { regs := [(0, .one (.data (.int .i64))), (1, .one (.data (.int .i64)))], vars := [], arrs := [] },
    tw := fun x => slices_choosePivotCmpFunc_api_Nomination x.1 x.2.1 x.2.2.1 x.2.2.2 }
noncomputable def cx_slices_choosePivotCmpFunc_api_Nomination : Cx := { Γ := types, ow := [], fs := [fn_slices_medianAdjacentCmpFunc_api_Nomination, fn_slices_medianCmpFunc_api_Nomination], N := 63 }
theorem ok_slices_choosePivotCmpFunc_api_Nomination : FunOk Tryd.prog fn_slices_choosePivotCmpFunc_api_Nomination :=
  FunOk.intro (C := cx_slices_choosePivotCmpFunc_api_Nomination) (p := (.mk [] none .nil (.mk [] none .nil (.mk [] none .nil (.mk [] none .nil (.mk [] none .nil (.mk [] none .nil (.mk [] none (.mk [] none .nil (.mk [.join [{ e := .n, j := { regs := [(11, .one (.ptr 192 0)), (13, .one (.data (.int .i64)))], vars := [(192, 3, [.data (.int .i64)])], arrs := [] } }]] none (.mk [] none (.mk [] none .nil (.mk [.join [{ e := .n, j := { regs := [(0, .one .keep), (3, .one .keep), (11, .one (.ptr 192 0)), (12, .one (.data (.int .i64))), (13, .one (.data (.int .i64))), (14, .one (.data (.int .i64)))], vars := [(192, 3, [.data (.int .i64)])], arrs := [] } }]] none .nil .nil)) .nil) .nil)) .nil))))))))
    Tryd.func61 rfl nmr61 rfl rfl rfl rfl types_ok ⟨⟨ok_slices_medianAdjacentCmpFunc_api_Nomination, ok_slices_medianCmpFunc_api_Nomination, trivial⟩, trivial⟩ mx (fun x => by kernel_rfl)

noncomputable def slices_reverseRangeCmpFunc_api_Nomination_L0 (i : Int) (j : Int) (data2 : List (List UInt8 × List UInt8 × List UInt8 × List UInt8 × Int × Int)) : Option ((Int × Int × List (List UInt8 × List UInt8 × List UInt8 × List UInt8 × Int × Int)) ⊕ (List (List UInt8 × List UInt8 × List UInt8 × List UInt8 × Int × Int))) :=
  bif decide (i < j) then (
   gd (inB j data2.length) <|
   gd (inB i data2.length) <|
   gd (inB i data2.length) <|
   gd (inB j (data2.set i.toNat (data2.getD j.toNat ([], ([], ([], ([], (0, 0))))))).length) <|
   some (.inl (wi64 (i + 1), wi64 (j - 1), (data2.set i.toNat (data2.getD j.toNat ([], ([], ([], ([], (0, 0))))))).set j.toNat (data2.getD i.toNat ([], ([], ([], ([], (0, 0)))))))))
  else (
   some (.inr data2))

noncomputable def slices_reverseRangeCmpFunc_api_Nomination (a : Int) (b : Int) (cmp : (List UInt8 × List UInt8 × List UInt8 × List UInt8 × Int × Int) × (List UInt8 × List UInt8 × List UInt8 × List UInt8 × Int × Int) × Unit → Option Int) (data : List (List UInt8 × List UInt8 × List UInt8 × List UInt8 × Int × Int)) : Option (List (List UInt8 × List UInt8 × List UInt8 × List UInt8 × Int × Int)) :=
  (iter (fun x => slices_reverseRangeCmpFunc_api_Nomination_L0 x.1 x.2.1 x.2.2) (a, wi64 (b - 1), data)).bind fun s =>
  some s

noncomputable def fn_slices_reverseRangeCmpFunc_api_Nomination : Fun :=
  { f := 62, np := 4, nr := 0,
    ji := { regs := [(0, .one (.own 0)), (1, .one (.data (.int .i64))), (2, .one (.data (.int .i64))), (3, .one (.fn [.pair (.str) (.pair (.str) (.pair (.str) (.pair (.str) (.pair (.int .i64) (.int .i64))))), .pair (.str) (.pair (.str) (.pair (.str) (.pair (.str) (.pair (.int .i64) (.int .i64)))))] (.int .i64)))], vars := [], arrs := [(0, .arr 42 (.pair (.str) (.pair (.str) (.pair (.str) (.pair (.str) (.pair (.int .i64) (.int .i64)))))))] },
    jo := { regs := [], vars := [], arrs := [(0, .arr 42 (.pair (.str) (.pair (.str) (.pair (.str) (.pair (.str) (.pair (.int .i64) (.int .i64)))))))] },
    tw := fun x => slices_reverseRangeCmpFunc_api_Nomination x.1 x.2.1 x.2.2.1 x.2.2.2 }
noncomputable def cx_slices_reverseRangeCmpFunc_api_Nomination : Cx := { Γ := types, ow := [], fs := [], N := 34 }
theorem ok_slices_reverseRangeCmpFunc_api_Nomination : FunOk Tryd.prog fn_slices_reverseRangeCmpFunc_api_Nomination :=
  FunOk.intro (C := cx_slices_reverseRangeCmpFunc_api_Nomination) (p := (.mk [] none .nil (.mk [] none .nil (.mk [] none (.mk [] (some ({ regs := [(0, .one (.own 0)), (8, .one (.data (.int .i64))), (9, .one (.data (.int .i64)))], vars := [], arrs := [(0, .arr 42 (.pair (.str) (.pair (.str) (.pair (.str) (.pair (.str) (.pair (.int .i64) (.int .i64)))))))] }, [{ e := .x 0, j := { regs := [], vars := [], arrs := [(0, .arr 42 (.pair (.str) (.pair (.str) (.pair (.str) (.pair (.str) (.pair (.int .i64) (.int .i64)))))))] } }])) .nil .nil) .nil))))
    Tryd.func62 rfl nmr62 rfl rfl rfl rfl types_ok ⟨trivial, trivial⟩ mx (fun x => by kernel_rfl)

noncomputable def slices_partialInsertionSortCmpFunc_api_Nomination_L1 (b : Int) (cmp : (List UInt8 × List UInt8 × List UInt8 × List UInt8 × Int × Int) × (List UInt8 × List UInt8 × List UInt8 × List UInt8 × Int × Int) × Unit → Option Int) (i2 : Int) (data3 : List (List UInt8 × List UInt8 × List UInt8 × List UInt8 × Int × Int)) : Option ((Int × List (List UInt8 × List UInt8 × List UInt8 × List UInt8 × Int × Int)) ⊕ (Int × List (List UInt8 × List UInt8 × List UInt8 × List UInt8 × Int × Int))) :=
  Option.bind (α := Bool × List (List UInt8 × List UInt8 × List UInt8 × List UInt8 × Int × Int)) (
    bif decide (i2 < b) then (
     gd (inB i2 data3.length) <|
     gd (inB (wi64 (i2 - 1)) data3.length) <|
     (cmp (data3.getD i2.toNat ([], ([], ([], ([], (0, 0))))), data3.getD ((wi64 (i2 - 1)).toNat) ([], ([], ([], ([], (0, 0))))), ())).bind fun r =>
     some ((!(decide (r < 0))), data3))
    else (
     some (false, data3))) fun s =>
  bif s.1 then (
   some (.inl (wi64 (i2 + 1), s.2)))
  else (
   some (.inr (i2, s.2)))

noncomputable def slices_partialInsertionSortCmpFunc_api_Nomination_L2 (cmp : (List UInt8 × List UInt8 × List UInt8 × List UInt8 × Int × Int) × (List UInt8 × List UInt8 × List UInt8 × List UInt8 × Int × Int) × Unit → Option Int) (j2 : Int) (data4 : List (List UInt8 × List UInt8 × List UInt8 × List UInt8 × Int × Int)) : Option ((Int × List (List UInt8 × List UInt8 × List UInt8 × List UInt8 × Int × Int)) ⊕ (List (List UInt8 × List UInt8 × List UInt8 × List UInt8 × Int × Int))) :=
  bif decide (1 ≤ j2) then (
   gd (inB j2 data4.length) <|
   gd (inB (wi64 (j2 - 1)) data4.length) <|
   (cmp (data4.getD j2.toNat ([], ([], ([], ([], (0, 0))))), data4.getD ((wi64 (j2 - 1)).toNat) ([], ([], ([], ([], (0, 0))))), ())).bind fun r2 =>
   bif !(decide (r2 < 0)) then (
    some (.inr data4))
   else (
    gd (inB (wi64 (j2 - 1)) data4.length) <|
    gd (inB j2 data4.length) <|
    gd (inB j2 data4.length) <|
    gd (inB (wi64 (j2 - 1)) (data4.set j2.toNat (data4.getD ((wi64 (j2 - 1)).toNat) ([], ([], ([], ([], (0, 0))))))).length) <|
    some (.inl (wi64 (j2 - 1), (data4.set j2.toNat (data4.getD ((wi64 (j2 - 1)).toNat) ([], ([], ([], ([], (0, 0))))))).set ((wi64 (j2 - 1)).toNat) (data4.getD j2.toNat ([], ([], ([], ([], (0, 0))))))))))
  else (
   some (.inr data4))

noncomputable def slices_partialInsertionSortCmpFunc_api_Nomination_L3 (b : Int) (cmp : (List UInt8 × List UInt8 × List UInt8 × List UInt8 × Int × Int) × (List UInt8 × List UInt8 × List UInt8 × List UInt8 × Int × Int) × Unit → Option Int) (j3 : Int) (data5 : List (List UInt8 × List UInt8 × List UInt8 × List UInt8 × Int × Int)) : Option ((Int × List (List UInt8 × List UInt8 × List UInt8 × List UInt8 × Int × Int)) ⊕ (List (List UInt8 × List UInt8 × List UInt8 × List UInt8 × Int × Int))) :=
  bif decide (j3 < b) then (
   gd (inB j3 data5.length) <|
   gd (inB (wi64 (j3 - 1)) data5.length) <|
   (cmp (data5.getD j3.toNat ([], ([], ([], ([], (0, 0))))), data5.getD ((wi64 (j3 - 1)).toNat) ([], ([], ([], ([], (0, 0))))), ())).bind fun r3 =>
   bif !(decide (r3 < 0)) then (
    some (.inr data5))
   else (
    gd (inB (wi64 (j3 - 1)) data5.length) <|
    gd (inB j3 data5.length) <|
    gd (inB j3 data5.length) <|
    gd (inB (wi64 (j3 - 1)) (data5.set j3.toNat (data5.getD ((wi64 (j3 - 1)).toNat) ([], ([], ([], ([], (0, 0))))))).length) <|
    some (.inl (wi64 (j3 + 1), (data5.set j3.toNat (data5.getD ((wi64 (j3 - 1)).toNat) ([], ([], ([], ([], (0, 0))))))).set ((wi64 (j3 - 1)).toNat) (data5.getD j3.toNat ([], ([], ([], ([], (0, 0))))))))))
  else (
   some (.inr data5))

noncomputable def slices_partialInsertionSortCmpFunc_api_Nomination_L0 (a : Int) (b : Int) (cmp : (List UInt8 × List UInt8 × List UInt8 × List UInt8 × Int × Int) × (List UInt8 × List UInt8 × List UInt8 × List UInt8 × Int × Int) × Unit → Option Int) (i : Int) (j : Int) (data2 : List (List UInt8 × List UInt8 × List UInt8 × List UInt8 × Int × Int)) : Option ((Int × Int × List (List UInt8 × List UInt8 × List UInt8 × List UInt8 × Int × Int)) ⊕ ((List (List UInt8 × List UInt8 × List UInt8 × List UInt8 × Int × Int)) ⊕ (Bool × List (List UInt8 × List UInt8 × List UInt8 × List UInt8 × Int × Int)))) :=
  bif decide (j < 5) then (
   (iter (fun x => slices_partialInsertionSortCmpFunc_api_Nomination_L1 b cmp x.1 x.2) (i, data2)).bind fun s2 =>
   bif decide (s2.1 = b) then (
    some (.inr (.inr (true, s2.2))))
   else (
    bif decide (wi64 (b - a) < 50) then (
     some (.inr (.inr (false, s2.2))))
    else (
     gd (inB (wi64 (s2.1 - 1)) s2.2.length) <|
     gd (inB s2.1 s2.2.length) <|
     gd (inB s2.1 s2.2.length) <|
     gd (inB (wi64 (s2.1 - 1)) (s2.2.set s2.1.toNat (s2.2.getD ((wi64 (s2.1 - 1)).toNat) ([], ([], ([], ([], (0, 0))))))).length) <|
     Option.bind (α := List (List UInt8 × List UInt8 × List UInt8 × List UInt8 × Int × Int)) (
       bif decide (2 ≤ wi64 (s2.1 - a)) then (
        (iter (fun x2 => slices_partialInsertionSortCmpFunc_api_Nomination_L2 cmp x2.1 x2.2) (wi64 (s2.1 - 1), (s2.2.set s2.1.toNat (s2.2.getD ((wi64 (s2.1 - 1)).toNat) ([], ([], ([], ([], (0, 0))))))).set ((wi64 (s2.1 - 1)).toNat) (s2.2.getD s2.1.toNat ([], ([], ([], ([], (0, 0)))))))).bind fun s3 =>
        some s3)
       else (
        some ((s2.2.set s2.1.toNat (s2.2.getD ((wi64 (s2.1 - 1)).toNat) ([], ([], ([], ([], (0, 0))))))).set ((wi64 (s2.1 - 1)).toNat) (s2.2.getD s2.1.toNat ([], ([], ([], ([], (0, 0))))))))) fun s4 =>
     Option.bind (α := List (List UInt8 × List UInt8 × List UInt8 × List UInt8 × Int × Int)) (
       bif decide (2 ≤ wi64 (b - s2.1)) then (
        (iter (fun x3 => slices_partialInsertionSortCmpFunc_api_Nomination_L3 b cmp x3.1 x3.2) (wi64 (s2.1 + 1), s4)).bind fun s5 =>
        some s5)
       else (
        some s4)) fun s6 =>
     some (.inl (s2.1, wi64 (j + 1), s6)))))
  else (
   some (.inr (.inl data2)))

noncomputable def slices_partialInsertionSortCmpFunc_api_Nomination (a : Int) (b : Int) (cmp : (List UInt8 × List UInt8 × List UInt8 × List UInt8 × Int × Int) × (List UInt8 × List UInt8 × List UInt8 × List UInt8 × Int × Int) × Unit → Option Int) (data : List (List UInt8 × List UInt8 × List UInt8 × List UInt8 × Int × Int)) : Option (Bool × List (List UInt8 × List UInt8 × List UInt8 × List UInt8 × Int × Int)) :=
  (iter (fun x4 => slices_partialInsertionSortCmpFunc_api_Nomination_L0 a b cmp x4.1 x4.2.1 x4.2.2) (wi64 (a + 1), 0, data)).bind fun s7 =>
  s7.elim (fun s8 =>
   some (false, s8))
  (fun s9 =>
   some (s9.1, s9.2))

noncomputable def fn_slices_partialInsertionSortCmpFunc_api_Nomination : Fun :=
  { f := 63, np := 4, nr := 1,
    ji := { regs := [(0, .one (.own 0)), (1, .one (.data (.int .i64))), (2, .one (.data (.int .i64))), (3, .one (.fn [.pair (.str) (.pair (.str) (.pair (.str) (.pair (.str) (.pair (.int .i64) (.int .i64))))), .pair (.str) (.pair (.str) (.pair (.str) (.pair (.str) (.pair (.int .i64) (.int .i64)))))] (.int .i64)))], vars := [], arrs := [(0, .arr 42 (.pair (.str) (.pair (.str) (.pair (.str) (.pair (.str) (.pair (.int .i64) (.int .i64)))))))] },
    jo := { regs := [(0, .one (.data (.bool)))], vars := [], arrs := [(0, .arr 42 (.pair (.str) (.pair (.str) (.pair (.str) (.pair (.str) (.pair (.int .i64) (.int .i64)))))))] },
    tw := fun x => slices_partialInsertionSortCmpFunc_api_Nomination x.1 x.2.1 x.2.2.1 x.2.2.2 }
noncomputable def cx_slices_partialInsertionSortCmpFunc_api_Nomination : Cx := { Γ := types, ow := [], fs := [], N := 141 }
theorem ok_slices_partialInsertionSortCmpFunc_api_Nomination : FunOk Tryd.prog fn_slices_partialInsertionSortCmpFunc_api_Nomination :=
  FunOk.intro (C := cx_slices_partialInsertionSortCmpFunc_api_Nomination) (p := (.mk [] none .nil (.mk [] none .nil (.mk [] none (.mk [] none .nil (.mk [] none (.mk [] (some ({ regs := [(0, .one (.own 0)), (1, .one .keep), (2, .one .keep), (3, .one .keep), (9, .one (.data (.int .i64))), (10, .one (.data (.int .i64)))], vars := [], arrs := [(0, .arr 42 (.pair (.str) (.pair (.str) (.pair (.str) (.pair (.str) (.pair (.int .i64) (.int .i64)))))))] }, [{ e := .x 0, j := { regs := [], vars := [], arrs := [(0, .arr 42 (.pair (.str) (.pair (.str) (.pair (.str) (.pair (.str) (.pair (.int .i64) (.int .i64)))))))] } }, { e := .r, j := { regs := [(8, .one (.data (.bool)))], vars := [], arrs := [(0, .arr 42 (.pair (.str) (.pair (.str) (.pair (.str) (.pair (.str) (.pair (.int .i64) (.int .i64)))))))] } }])) (.mk [] none .nil (.mk [] none (.mk [] none (.mk [] none (.mk [] none (.mk [] (some ({ regs := [(0, .one (.own 0)), (1, .one .keep), (2, .one .keep), (3, .one .keep), (9, .one (.data (.int .i64))), (10, .one .keep)], vars := [], arrs := [(0, .arr 42 (.pair (.str) (.pair (.str) (.pair (.str) (.pair (.str) (.pair (.int .i64) (.int .i64)))))))] }, [{ e := .x 2, j := { regs := [(0, .one (.own 0)), (1, .one .keep), (2, .one .keep), (3, .one .keep), (9, .one (.data (.int .i64))), (10, .one .keep)], vars := [], arrs := [(0, .arr 42 (.pair (.str) (.pair (.str) (.pair (.str) (.pair (.str) (.pair (.int .i64) (.int .i64)))))))] } }])) (.mk [] none (.mk [] none (.mk [.join [{ e := .n, j := { regs := [(0, .one (.own 0)), (1, .one .keep), (2, .one .keep), (3, .one .keep), (9, .one .keep), (10, .one .keep), (36, .one (.data (.bool)))], vars := [], arrs := [(0, .arr 42 (.pair (.str) (.pair (.str) (.pair (.str) (.pair (.str) (.pair (.int .i64) (.int .i64)))))))] } }]] none .nil .nil) .nil) .nil) .nil) .nil) (.mk [] none .nil (.mk [] none .nil (.mk [] none .nil (.mk [] none (.mk [] none .nil (.mk [.join [{ e := .n, j := { regs := [(0, .one (.own 0)), (1, .one .keep), (2, .one .keep), (3, .one .keep), (9, .one .keep), (10, .one .keep)], vars := [], arrs := [(0, .arr 42 (.pair (.str) (.pair (.str) (.pair (.str) (.pair (.str) (.pair (.int .i64) (.int .i64)))))))] } }]] none (.mk [] none .nil (.mk [] none (.mk [] (some ({ regs := [(0, .one (.own 0)), (1, .one .keep), (2, .one .keep), (3, .one .keep), (9, .one .keep), (10, .one .keep), (11, .one (.data (.int .i64)))], vars := [], arrs := [(0, .arr 42 (.pair (.str) (.pair (.str) (.pair (.str) (.pair (.str) (.pair (.int .i64) (.int .i64)))))))] }, [{ e := .x 4, j := { regs := [(0, .one (.own 0)), (1, .one .keep), (2, .one .keep), (3, .one .keep), (9, .one .keep), (10, .one .keep)], vars := [], arrs := [(0, .arr 42 (.pair (.str) (.pair (.str) (.pair (.str) (.pair (.str) (.pair (.int .i64) (.int .i64)))))))] } }])) .nil .nil) .nil)) .nil)) (.mk [] none .nil (.mk [.join [{ e := .n, j := { regs := [(0, .one (.own 0)), (1, .one .keep), (2, .one .keep), (3, .one .keep), (9, .one .keep), (10, .one .keep)], vars := [], arrs := [(0, .arr 42 (.pair (.str) (.pair (.str) (.pair (.str) (.pair (.str) (.pair (.int .i64) (.int .i64)))))))] } }]] none (.mk [] none .nil (.mk [] none (.mk [] (some ({ regs := [(0, .one (.own 0)), (1, .one .keep), (2, .one .keep), (3, .one .keep), (9, .one .keep), (10, .one .keep), (12, .one (.data (.int .i64)))], vars := [], arrs := [(0, .arr 42 (.pair (.str) (.pair (.str) (.pair (.str) (.pair (.str) (.pair (.int .i64) (.int .i64)))))))] }, [{ e := .x 6, j := { regs := [(0, .one (.own 0)), (1, .one .keep), (2, .one .keep), (3, .one .keep), (9, .one .keep), (10, .one .keep)], vars := [], arrs := [(0, .arr 42 (.pair (.str) (.pair (.str) (.pair (.str) (.pair (.str) (.pair (.int .i64) (.int .i64)))))))] } }])) .nil .nil) .nil)) .nil))))))) .nil) .nil)) .nil) .nil)) .nil))))
    Tryd.func63 rfl nmr63 rfl rfl rfl rfl types_ok ⟨trivial, trivial⟩ mx (fun x => by kernel_rfl)

noncomputable def slices_partitionEqualCmpFunc_api_Nomination_L1 (a : Int) (cmp : (List UInt8 × List UInt8 × List UInt8 × List UInt8 × Int × Int) × (List UInt8 × List UInt8 × List UInt8 × List UInt8 × Int × Int) × Unit → Option Int) (j : Int) (i2 : Int) (data3 : List (List UInt8 × List UInt8 × List UInt8 × List UInt8 × Int × Int)) : Option ((Int × List (List UInt8 × List UInt8 × List UInt8 × List UInt8 × Int × Int)) ⊕ (Int × List (List UInt8 × List UInt8 × List UInt8 × List UInt8 × Int × Int))) :=
  Option.bind (α := Bool × List (List UInt8 × List UInt8 × List UInt8 × List UInt8 × Int × Int)) (
    bif decide (i2 ≤ j) then (
     gd (inB a data3.length) <|
     gd (inB i2 data3.length) <|
     (cmp (data3.getD a.toNat ([], ([], ([], ([], (0, 0))))), data3.getD i2.toNat ([], ([], ([], ([], (0, 0))))), ())).bind fun r =>
     some ((!(decide (r < 0))), data3))
    else (
     some (false, data3))) fun s =>
  bif s.1 then (
   some (.inl (wi64 (i2 + 1), s.2)))
  else (
   some (.inr (i2, s.2)))

noncomputable def slices_partitionEqualCmpFunc_api_Nomination_L2 (a : Int) (cmp : (List UInt8 × List UInt8 × List UInt8 × List UInt8 × Int × Int) × (List UInt8 × List UInt8 × List UInt8 × List UInt8 × Int × Int) × Unit → Option Int) (s2 : Int × List (List UInt8 × List UInt8 × List UInt8 × List UInt8 × Int × Int)) (j2 : Int) (data4 : List (List UInt8 × List UInt8 × List UInt8 × List UInt8 × Int × Int)) : Option ((Int × List (List UInt8 × List UInt8 × List UInt8 × List UInt8 × Int × Int)) ⊕ (Int × List (List UInt8 × List UInt8 × List UInt8 × List UInt8 × Int × Int))) :=
  Option.bind (α := Bool × List (List UInt8 × List UInt8 × List UInt8 × List UInt8 × Int × Int)) (
    bif decide (s2.1 ≤ j2) then (
     gd (inB a data4.length) <|
     gd (inB j2 data4.length) <|
     (cmp (data4.getD a.toNat ([], ([], ([], ([], (0, 0))))), data4.getD j2.toNat ([], ([], ([], ([], (0, 0))))), ())).bind fun r2 =>
     some (decide (r2 < 0), data4))
    else (
     some (false, data4))) fun s3 =>
  bif s3.1 then (
   some (.inl (wi64 (j2 - 1), s3.2)))
  else (
   some (.inr (j2, s3.2)))

noncomputable def slices_partitionEqualCmpFunc_api_Nomination_L0 (a : Int) (cmp : (List UInt8 × List UInt8 × List UInt8 × List UInt8 × Int × Int) × (List UInt8 × List UInt8 × List UInt8 × List UInt8 × Int × Int) × Unit → Option Int) (i : Int) (j : Int) (data2 : List (List UInt8 × List UInt8 × List UInt8 × List UInt8 × Int × Int)) : Option ((Int × Int × List (List UInt8 × List UInt8 × List UInt8 × List UInt8 × Int × Int)) ⊕ (Int × List (List UInt8 × List UInt8 × List UInt8 × List UInt8 × Int × Int))) :=
  (iter (fun x => slices_partitionEqualCmpFunc_api_Nomination_L1 a cmp j x.1 x.2) (i, data2)).bind fun s2 =>
  (iter (fun x2 => slices_partitionEqualCmpFunc_api_Nomination_L2 a cmp s2 x2.1 x2.2) (j, s2.2)).bind fun s4 =>
  bif decide (s4.1 < s2.1) then (
   some (.inr (s2.1, s4.2)))
  else (
   gd (inB s4.1 s4.2.length) <|
   gd (inB s2.1 s4.2.length) <|
   gd (inB s2.1 s4.2.length) <|
   gd (inB s4.1 (s4.2.set s2.1.toNat (s4.2.getD s4.1.toNat ([], ([], ([], ([], (0, 0))))))).length) <|
   some (.inl (wi64 (s2.1 + 1), wi64 (s4.1 - 1), (s4.2.set s2.1.toNat (s4.2.getD s4.1.toNat ([], ([], ([], ([], (0, 0))))))).set s4.1.toNat (s4.2.getD s2.1.toNat ([], ([], ([], ([], (0, 0)))))))))

noncomputable def slices_partitionEqualCmpFunc_api_Nomination (a : Int) (b : Int) (pivot : Int) (cmp : (List UInt8 × List UInt8 × List UInt8 × List UInt8 × Int × Int) × (List UInt8 × List UInt8 × List UInt8 × List UInt8 × Int × Int) × Unit → Option Int) (data : List (List UInt8 × List UInt8 × List UInt8 × List UInt8 × Int × Int)) : Option (Int × List (List UInt8 × List UInt8 × List UInt8 × List UInt8 × Int × Int)) :=
  gd (inB pivot data.length) <|
  gd (inB a data.length) <|
  gd (inB a data.length) <|
  gd (inB pivot (data.set a.toNat (data.getD pivot.toNat ([], ([], ([], ([], (0, 0))))))).length) <|
  (iter (fun x3 => slices_partitionEqualCmpFunc_api_Nomination_L0 a cmp x3.1 x3.2.1 x3.2.2) (wi64 (a + 1), wi64 (b - 1), (data.set a.toNat (data.getD pivot.toNat ([], ([], ([], ([], (0, 0))))))).set pivot.toNat (data.getD a.toNat ([], ([], ([], ([], (0, 0)))))))).bind fun s5 =>
  some (s5.1, s5.2)

noncomputable def fn_slices_partitionEqualCmpFunc_api_Nomination : Fun :=
  { f := 64, np := 5, nr := 1,
    ji := { regs := [(0, .one (.own 0)), (1, .one (.data (.int .i64))), (2, .one (.data (.int .i64))), (3, .one (.data (.int .i64))), (4, .one (.fn [.pair (.str) (.pair (.str) (.pair (.str) (.pair (.str) (.pair (.int .i64) (.int .i64))))), .pair (.str) (.pair (.str) (.pair (.str) (.pair (.str) (.pair (.int .i64) (.int .i64)))))] (.int .i64)))], vars := [], arrs := [(0, .arr 42 (.pair (.str) (.pair (.str) (.pair (.str) (.pair (.str) (.pair (.int .i64) (.int .i64)))))))] },
    jo := { regs := [(0, .one (.data (.int .i64)))], vars := [], arrs := [(0, .arr 42 (.pair (.str) (.pair (.str) (.pair (.str) (.pair (.str) (.pair (.int .i64) (.int .i64)))))))] },
    tw := fun x => slices_partitionEqualCmpFunc_api_Nomination x.1 x.2.1 x.2.2.1 x.2.2.2.1 x.2.2.2.2 }
noncomputable def cx_slices_partitionEqualCmpFunc_api_Nomination : Cx := { Γ := types, ow := [], fs := [], N := 90 }
theorem ok_slices_partitionEqualCmpFunc_api_Nomination : FunOk Tryd.prog fn_slices_partitionEqualCmpFunc_api_Nomination :=
  FunOk.intro (C := cx_slices_partitionEqualCmpFunc_api_Nomination) (p := (.mk [] none .nil (.mk [] none .nil (.mk [] none .nil (.mk [] none (.mk [] none (.mk [] (some ({ regs := [(0, .one (.own 0)), (1, .one .keep), (4, .one .keep), (11, .one (.data (.int .i64))), (12, .one (.data (.int .i64)))], vars := [], arrs := [(0, .arr 42 (.pair (.str) (.pair (.str) (.pair (.str) (.pair (.str) (.pair (.int .i64) (.int .i64)))))))] }, [{ e := .x 0, j := { regs := [(11, .one (.data (.int .i64)))], vars := [], arrs := [(0, .arr 42 (.pair (.str) (.pair (.str) (.pair (.str) (.pair (.str) (.pair (.int .i64) (.int .i64)))))))] } }])) (.mk [] none (.mk [] none (.mk [] none (.mk [] (some ({ regs := [(0, .one (.own 0)), (1, .one .keep), (4, .one .keep), (11, .one (.data (.int .i64))), (12, .one .keep)], vars := [], arrs := [(0, .arr 42 (.pair (.str) (.pair (.str) (.pair (.str) (.pair (.str) (.pair (.int .i64) (.int .i64)))))))] }, [{ e := .x 2, j := { regs := [(0, .one (.own 0)), (1, .one .keep), (4, .one .keep), (11, .one (.data (.int .i64))), (12, .one .keep)], vars := [], arrs := [(0, .arr 42 (.pair (.str) (.pair (.str) (.pair (.str) (.pair (.str) (.pair (.int .i64) (.int .i64)))))))] } }])) (.mk [] none (.mk [] none (.mk [.join [{ e := .n, j := { regs := [(0, .one (.own 0)), (1, .one .keep), (4, .one .keep), (11, .one .keep), (12, .one .keep), (47, .one (.data (.bool)))], vars := [], arrs := [(0, .arr 42 (.pair (.str) (.pair (.str) (.pair (.str) (.pair (.str) (.pair (.int .i64) (.int .i64)))))))] } }]] none .nil .nil) .nil) .nil) .nil) .nil) (.mk [] none (.mk [] none (.mk [] (some ({ regs := [(0, .one (.own 0)), (1, .one .keep), (4, .one .keep), (11, .one .keep), (12, .one (.data (.int .i64)))], vars := [], arrs := [(0, .arr 42 (.pair (.str) (.pair (.str) (.pair (.str) (.pair (.str) (.pair (.int .i64) (.int .i64)))))))] }, [{ e := .x 4, j := { regs := [(0, .one (.own 0)), (1, .one .keep), (4, .one .keep), (11, .one .keep), (12, .one (.data (.int .i64)))], vars := [], arrs := [(0, .arr 42 (.pair (.str) (.pair (.str) (.pair (.str) (.pair (.str) (.pair (.int .i64) (.int .i64)))))))] } }])) (.mk [] none (.mk [] none (.mk [.join [{ e := .n, j := { regs := [(0, .one (.own 0)), (1, .one .keep), (4, .one .keep), (11, .one .keep), (12, .one .keep), (65, .one (.data (.bool)))], vars := [], arrs := [(0, .arr 42 (.pair (.str) (.pair (.str) (.pair (.str) (.pair (.str) (.pair (.int .i64) (.int .i64)))))))] } }]] none .nil .nil) .nil) .nil) .nil) .nil) .nil)) .nil) .nil) .nil) .nil)))))
    Tryd.func64 rfl nmr64 rfl rfl rfl rfl types_ok ⟨trivial, trivial⟩ mx (fun x => by kernel_rfl)

noncomputable def slices_partitionCmpFunc_api_Nomination_L0 (a : Int) (b : Int) (cmp : (List UInt8 × List UInt8 × List UInt8 × List UInt8 × Int × Int) × (List UInt8 × List UInt8 × List UInt8 × List UInt8 × Int × Int) × Unit → Option Int) (i : Int) (data2 : List (List UInt8 × List UInt8 × List UInt8 × List UInt8 × Int × Int)) : Option ((Int × List (List UInt8 × List UInt8 × List UInt8 × List UInt8 × Int × Int)) ⊕ (Int × List (List UInt8 × List UInt8 × List UInt8 × List UInt8 × Int × Int))) :=
  Option.bind (α := Bool × List (List UInt8 × List UInt8 × List UInt8 × List UInt8 × Int × Int)) (
    bif decide (i ≤ wi64 (b - 1)) then (
     gd (inB i data2.length) <|
     gd (inB a data2.length) <|
     (cmp (data2.getD i.toNat ([], ([], ([], ([], (0, 0))))), data2.getD a.toNat ([], ([], ([], ([], (0, 0))))), ())).bind fun r =>
     some (decide (r < 0), data2))
    else (
     some (false, data2))) fun s =>
  bif s.1 then (
   some (.inl (wi64 (i + 1), s.2)))
  else (
   some (.inr (i, s.2)))

noncomputable def slices_partitionCmpFunc_api_Nomination_L1 (a : Int) (cmp : (List UInt8 × List UInt8 × List UInt8 × List UInt8 × Int × Int) × (List UInt8 × List UInt8 × List UInt8 × List UInt8 × Int × Int) × Unit → Option Int) (s2 : Int × List (List UInt8 × List UInt8 × List UInt8 × List UInt8 × Int × Int)) (j : Int) (data3 : List (List UInt8 × List UInt8 × List UInt8 × List UInt8 × Int × Int)) : Option ((Int × List (List UInt8 × List UInt8 × List UInt8 × List UInt8 × Int × Int)) ⊕ (Int × List (List UInt8 × List UInt8 × List UInt8 × List UInt8 × Int × Int))) :=
  Option.bind (α := Bool × List (List UInt8 × List UInt8 × List UInt8 × List UInt8 × Int × Int)) (
    bif decide (s2.1 ≤ j) then (
     gd (inB j data3.length) <|
     gd (inB a data3.length) <|
     (cmp (data3.getD j.toNat ([], ([], ([], ([], (0, 0))))), data3.getD a.toNat ([], ([], ([], ([], (0, 0))))), ())).bind fun r2 =>
     some ((!(decide (r2 < 0))), data3))
    else (
     some (false, data3))) fun s3 =>
  bif s3.1 then (
   some (.inl (wi64 (j - 1), s3.2)))
  else (
   some (.inr (j, s3.2)))

noncomputable def slices_partitionCmpFunc_api_Nomination_L3 (a : Int) (cmp : (List UInt8 × List UInt8 × List UInt8 × List UInt8 × Int × Int) × (List UInt8 × List UInt8 × List UInt8 × List UInt8 × Int × Int) × Unit → Option Int) (j2 : Int) (i3 : Int) (data5 : List (List UInt8 × List UInt8 × List UInt8 × List UInt8 × Int × Int)) : Option ((Int × List (List UInt8 × List UInt8 × List UInt8 × List UInt8 × Int × Int)) ⊕ (Int × List (List UInt8 × List UInt8 × List UInt8 × List UInt8 × Int × Int))) :=
  Option.bind (α := Bool × List (List UInt8 × List UInt8 × List UInt8 × List UInt8 × Int × Int)) (
    bif decide (i3 ≤ j2) then (
     gd (inB i3 data5.length) <|
     gd (inB a data5.length) <|
     (cmp (data5.getD i3.toNat ([], ([], ([], ([], (0, 0))))), data5.getD a.toNat ([], ([], ([], ([], (0, 0))))), ())).bind fun r3 =>
     some (decide (r3 < 0), data5))
    else (
     some (false, data5))) fun s5 =>
  bif s5.1 then (
   some (.inl (wi64 (i3 + 1), s5.2)))
  else (
   some (.inr (i3, s5.2)))

noncomputable def slices_partitionCmpFunc_api_Nomination_L4 (a : Int) (cmp : (List UInt8 × List UInt8 × List UInt8 × List UInt8 × Int × Int) × (List UInt8 × List UInt8 × List UInt8 × List UInt8 × Int × Int) × Unit → Option Int) (s6 : Int × List (List UInt8 × List UInt8 × List UInt8 × List UInt8 × Int × Int)) (j3 : Int) (data6 : List (List UInt8 × List UInt8 × List UInt8 × List UInt8 × Int × Int)) : Option ((Int × List (List UInt8 × List UInt8 × List UInt8 × List UInt8 × Int × Int)) ⊕ (Int × List (List UInt8 × List UInt8 × List UInt8 × List UInt8 × Int × Int))) :=
  Option.bind (α := Bool × List (List UInt8 × List UInt8 × List UInt8 × List UInt8 × Int × Int)) (
    bif decide (s6.1 ≤ j3) then (
     gd (inB j3 data6.length) <|
     gd (inB a data6.length) <|
     (cmp (data6.getD j3.toNat ([], ([], ([], ([], (0, 0))))), data6.getD a.toNat ([], ([], ([], ([], (0, 0))))), ())).bind fun r4 =>
     some ((!(decide (r4 < 0))), data6))
    else (
     some (false, data6))) fun s7 =>
  bif s7.1 then (
   some (.inl (wi64 (j3 - 1), s7.2)))
  else (
   some (.inr (j3, s7.2)))

noncomputable def slices_partitionCmpFunc_api_Nomination_L2 (a : Int) (cmp : (List UInt8 × List UInt8 × List UInt8 × List UInt8 × Int × Int) × (List UInt8 × List UInt8 × List UInt8 × List UInt8 × Int × Int) × Unit → Option Int) (i2 : Int) (j2 : Int) (data4 : List (List UInt8 × List UInt8 × List UInt8 × List UInt8 × Int × Int)) : Option ((Int × Int × List (List UInt8 × List UInt8 × List UInt8 × List UInt8 × Int × Int)) ⊕ (Int × List (List UInt8 × List UInt8 × List UInt8 × List UInt8 × Int × Int))) :=
  (iter (fun x3 => slices_partitionCmpFunc_api_Nomination_L3 a cmp j2 x3.1 x3.2) (i2, data4)).bind fun s6 =>
  (iter (fun x4 => slices_partitionCmpFunc_api_Nomination_L4 a cmp s6 x4.1 x4.2) (j2, s6.2)).bind fun s8 =>
  bif decide (s8.1 < s6.1) then (
   some (.inr (s8.1, s8.2)))
  else (
   gd (inB s8.1 s8.2.length) <|
   gd (inB s6.1 s8.2.length) <|
   gd (inB s6.1 s8.2.length) <|
   gd (inB s8.1 (s8.2.set s6.1.toNat (s8.2.getD s8.1.toNat ([], ([], ([], ([], (0, 0))))))).length) <|
   some (.inl (wi64 (s6.1 + 1), wi64 (s8.1 - 1), (s8.2.set s6.1.toNat (s8.2.getD s8.1.toNat ([], ([], ([], ([], (0, 0))))))).set s8.1.toNat (s8.2.getD s6.1.toNat ([], ([], ([], ([], (0, 0)))))))))

noncomputable def slices_partitionCmpFunc_api_Nomination (a : Int) (b : Int) (pivot : Int) (cmp : (List UInt8 × List UInt8 × List UInt8 × List UInt8 × Int × Int) × (List UInt8 × List UInt8 × List UInt8 × List UInt8 × Int × Int) × Unit → Option Int) (data : List (List UInt8 × List UInt8 × List UInt8 × List UInt8 × Int × Int)) : Option (Int × Bool × List (List UInt8 × List UInt8 × List UInt8 × List UInt8 × Int × Int)) :=
  gd (inB pivot data.length) <|
  gd (inB a data.length) <|
  gd (inB a data.length) <|
  gd (inB pivot (data.set a.toNat (data.getD pivot.toNat ([], ([], ([], ([], (0, 0))))))).length) <|
  (iter (fun x => slices_partitionCmpFunc_api_Nomination_L0 a b cmp x.1 x.2) (wi64 (a + 1), (data.set a.toNat (data.getD pivot.toNat ([], ([], ([], ([], (0, 0))))))).set pivot.toNat (data.getD a.toNat ([], ([], ([], ([], (0, 0)))))))).bind fun s2 =>
  (iter (fun x2 => slices_partitionCmpFunc_api_Nomination_L1 a cmp s2 x2.1 x2.2) (wi64 (b - 1), s2.2)).bind fun s4 =>
  bif decide (s4.1 < s2.1) then (
   gd (inB a s4.2.length) <|
   gd (inB s4.1 s4.2.length) <|
   gd (inB s4.1 s4.2.length) <|
   gd (inB a (s4.2.set s4.1.toNat (s4.2.getD a.toNat ([], ([], ([], ([], (0, 0))))))).length) <|
   some (s4.1, true, (s4.2.set s4.1.toNat (s4.2.getD a.toNat ([], ([], ([], ([], (0, 0))))))).set a.toNat (s4.2.getD s4.1.toNat ([], ([], ([], ([], (0, 0))))))))
  else (
   gd (inB s4.1 s4.2.length) <|
   gd (inB s2.1 s4.2.length) <|
   gd (inB s2.1 s4.2.length) <|
   gd (inB s4.1 (s4.2.set s2.1.toNat (s4.2.getD s4.1.toNat ([], ([], ([], ([], (0, 0))))))).length) <|
   (iter (fun x5 => slices_partitionCmpFunc_api_Nomination_L2 a cmp x5.1 x5.2.1 x5.2.2) (wi64 (s2.1 + 1), wi64 (s4.1 - 1), (s4.2.set s2.1.toNat (s4.2.getD s4.1.toNat ([], ([], ([], ([], (0, 0))))))).set s4.1.toNat (s4.2.getD s2.1.toNat ([], ([], ([], ([], (0, 0)))))))).bind fun s9 =>
   gd (inB a s9.2.length) <|
   gd (inB s9.1 s9.2.length) <|
   gd (inB s9.1 s9.2.length) <|
   gd (inB a (s9.2.set s9.1.toNat (s9.2.getD a.toNat ([], ([], ([], ([], (0, 0))))))).length) <|
   some (s9.1, false, (s9.2.set s9.1.toNat (s9.2.getD a.toNat ([], ([], ([], ([], (0, 0))))))).set a.toNat (s9.2.getD s9.1.toNat ([], ([], ([], ([], (0, 0))))))))

noncomputable def fn_slices_partitionCmpFunc_api_Nomination : Fun :=
  { f := 65, np := 5, nr := 2,
    ji := { regs := [(0, .one (.own 0)), (1, .one (.data (.int .i64))), (2, .one (.data (.int .i64))), (3, .one (.data (.int .i64))), (4, .one (.fn [.pair (.str) (.pair (.str) (.pair (.str) (.pair (.str) (.pair (.int .i64) (.int .i64))))), .pair (.str) (.pair (.str) (.pair (.str) (.pair (.str) (.pair (.int .i64) (.int .i64)))))] (.int .i64)))], vars := [], arrs := [(0, .arr 42 (.pair (.str) (.pair (.str) (.pair (.str) (.pair (.str) (.pair (.int .i64) (.int .i64)))))))] },
    jo := { regs := [(0, .one (.data (.int .i64))), (1, .one (.data (.bool)))], vars := [], arrs := [(0, .arr 42 (.pair (.str) (.pair (.str) (.pair (.str) (.pair (.str) (.pair (.int .i64) (.int .i64)))))))] },
    tw := fun x => slices_partitionCmpFunc_api_Nomination x.1 x.2.1 x.2.2.1 x.2.2.2.1 x.2.2.2.2 }
noncomputable def cx_slices_partitionCmpFunc_api_Nomination : Cx := { Γ := types, ow := [], fs := [], N := 178 }
theorem ok_slices_partitionCmpFunc_api_Nomination : FunOk Tryd.prog fn_slices_partitionCmpFunc_api_Nomination :=
  FunOk.intro (C := cx_slices_partitionCmpFunc_api_Nomination) (p := (.mk [] none .nil (.mk [] none .nil (.mk [] none .nil (.mk [] none (.mk [] none (.mk [] (some ({ regs := [(0, .one (.own 0)), (1, .one .keep), (4, .one .keep), (12, .one (.data (.int .i64))), (13, .one .keep)], vars := [], arrs := [(0, .arr 42 (.pair (.str) (.pair (.str) (.pair (.str) (.pair (.str) (.pair (.int .i64) (.int .i64)))))))] }, [{ e := .x 0, j := { regs := [(0, .one (.own 0)), (1, .one .keep), (4, .one .keep), (12, .one (.data (.int .i64))), (13, .one .keep)], vars := [], arrs := [(0, .arr 42 (.pair (.str) (.pair (.str) (.pair (.str) (.pair (.str) (.pair (.int .i64) (.int .i64)))))))] } }])) (.mk [] none (.mk [] none (.mk [.join [{ e := .n, j := { regs := [(0, .one (.own 0)), (1, .one .keep), (4, .one .keep), (12, .one .keep), (13, .one .keep), (47, .one (.data (.bool)))], vars := [], arrs := [(0, .arr 42 (.pair (.str) (.pair (.str) (.pair (.str) (.pair (.str) (.pair (.int .i64) (.int .i64)))))))] } }]] none .nil .nil) .nil) .nil) .nil) .nil) (.mk [] none (.mk [] none (.mk [] (some ({ regs := [(0, .one (.own 0)), (1, .one .keep), (4, .one .keep), (12, .one .keep), (13, .one (.data (.int .i64)))], vars := [], arrs := [(0, .arr 42 (.pair (.str) (.pair (.str) (.pair (.str) (.pair (.str) (.pair (.int .i64) (.int .i64)))))))] }, [{ e := .x 2, j := { regs := [(0, .one (.own 0)), (1, .one .keep), (4, .one .keep), (12, .one .keep), (13, .one (.data (.int .i64)))], vars := [], arrs := [(0, .arr 42 (.pair (.str) (.pair (.str) (.pair (.str) (.pair (.str) (.pair (.int .i64) (.int .i64)))))))] } }])) (.mk [] none (.mk [] none (.mk [.join [{ e := .n, j := { regs := [(0, .one (.own 0)), (1, .one .keep), (4, .one .keep), (12, .one .keep), (13, .one .keep), (66, .one (.data (.bool)))], vars := [], arrs := [(0, .arr 42 (.pair (.str) (.pair (.str) (.pair (.str) (.pair (.str) (.pair (.int .i64) (.int .i64)))))))] } }]] none .nil .nil) .nil) .nil) .nil) .nil) (.mk [] none .nil (.mk [] none .nil (.mk [] none .nil (.mk [] none .nil (.mk [] none (.mk [] none (.mk [] (some ({ regs := [(0, .one (.own 0)), (1, .one .keep), (4, .one .keep), (12, .one (.data (.int .i64))), (13, .one (.data (.int .i64)))], vars := [], arrs := [(0, .arr 42 (.pair (.str) (.pair (.str) (.pair (.str) (.pair (.str) (.pair (.int .i64) (.int .i64)))))))] }, [{ e := .x 4, j := { regs := [(0, .one (.own 0)), (1, .one .keep), (13, .one (.data (.int .i64)))], vars := [], arrs := [(0, .arr 42 (.pair (.str) (.pair (.str) (.pair (.str) (.pair (.str) (.pair (.int .i64) (.int .i64)))))))] } }])) (.mk [] none (.mk [] none (.mk [] none (.mk [] (some ({ regs := [(0, .one (.own 0)), (1, .one .keep), (4, .one .keep), (12, .one (.data (.int .i64))), (13, .one .keep)], vars := [], arrs := [(0, .arr 42 (.pair (.str) (.pair (.str) (.pair (.str) (.pair (.str) (.pair (.int .i64) (.int .i64)))))))] }, [{ e := .x 6, j := { regs := [(0, .one (.own 0)), (1, .one .keep), (4, .one .keep), (12, .one (.data (.int .i64))), (13, .one .keep)], vars := [], arrs := [(0, .arr 42 (.pair (.str) (.pair (.str) (.pair (.str) (.pair (.str) (.pair (.int .i64) (.int .i64)))))))] } }])) (.mk [] none (.mk [] none (.mk [.join [{ e := .n, j := { regs := [(0, .one (.own 0)), (1, .one .keep), (4, .one .keep), (12, .one .keep), (13, .one .keep), (120, .one (.data (.bool)))], vars := [], arrs := [(0, .arr 42 (.pair (.str) (.pair (.str) (.pair (.str) (.pair (.str) (.pair (.int .i64) (.int .i64)))))))] } }]] none .nil .nil) .nil) .nil) .nil) .nil) (.mk [] none (.mk [] none (.mk [] (some ({ regs := [(0, .one (.own 0)), (1, .one .keep), (4, .one .keep), (12, .one .keep), (13, .one (.data (.int .i64)))], vars := [], arrs := [(0, .arr 42 (.pair (.str) (.pair (.str) (.pair (.str) (.pair (.str) (.pair (.int .i64) (.int .i64)))))))] }, [{ e := .x 8, j := { regs := [(0, .one (.own 0)), (1, .one .keep), (4, .one .keep), (12, .one .keep), (13, .one (.data (.int .i64)))], vars := [], arrs := [(0, .arr 42 (.pair (.str) (.pair (.str) (.pair (.str) (.pair (.str) (.pair (.int .i64) (.int .i64)))))))] } }])) (.mk [] none (.mk [] none (.mk [.join [{ e := .n, j := { regs := [(0, .one (.own 0)), (1, .one .keep), (4, .one .keep), (12, .one .keep), (13, .one .keep), (139, .one (.data (.bool)))], vars := [], arrs := [(0, .arr 42 (.pair (.str) (.pair (.str) (.pair (.str) (.pair (.str) (.pair (.int .i64) (.int .i64)))))))] } }]] none .nil .nil) .nil) .nil) .nil) .nil) .nil)) .nil) .nil) .nil) .nil)))))))))))
    Tryd.func65 rfl nmr65 rfl rfl rfl rfl types_ok ⟨trivial, trivial⟩ mx (fun x => by kernel_rfl)

noncomputable def slices_pdqsortCmpFunc_api_Nomination_L0 (cmp : (List UInt8 × List UInt8 × List UInt8 × List UInt8 × Int × Int) × (List UInt8 × List UInt8 × List UInt8 × List UInt8 × Int × Int) × Unit → Option Int) (rec : Int → Int → Int → ((List UInt8 × List UInt8 × List UInt8 × List UInt8 × Int × Int) × (List UInt8 × List UInt8 × List UInt8 × List UInt8 × Int × Int) × Unit → Option Int) → List (List UInt8 × List UInt8 × List UInt8 × List UInt8 × Int × Int) → Option (List (List UInt8 × List UInt8 × List UInt8 × List UInt8 × Int × Int))) (a2 : Int) (b2 : Int) (limit2 : Int) (wasBalanced : Bool) (wasPartitioned : Bool) (data2 : List (List UInt8 × List UInt8 × List UInt8 × List UInt8 × Int × Int)) : Option ((Int × Int × Int × Bool × Bool × List (List UInt8 × List UInt8 × List UInt8 × List UInt8 × Int × Int)) ⊕ (List (List UInt8 × List UInt8 × List UInt8 × List UInt8 × Int × Int))) :=
  bif decide (wi64 (b2 - a2) ≤ 12) then (
   (slices_insertionSortCmpFunc_api_Nomination a2 b2 cmp data2).bind fun r =>
   some (.inr r))
  else (
   bif decide (limit2 = 0) then (
    (slices_heapSortCmpFunc_api_Nomination a2 b2 cmp data2).bind fun r2 =>
    some (.inr r2))
   else (
    Option.bind (α := Int × List (List UInt8 × List UInt8 × List UInt8 × List UInt8 × Int × Int)) (
      bif !wasBalanced then (
       (slices_breakPatternsCmpFunc_api_Nomination a2 b2 cmp data2).bind fun r3 =>
       some (wi64 (limit2 - 1), r3))
      else (
       some (limit2, data2))) fun s =>
    (slices_choosePivotCmpFunc_api_Nomination s.2 a2 b2 cmp).bind fun r4 =>
    Option.bind (α := Int × Int × List (List UInt8 × List UInt8 × List UInt8 × List UInt8 × Int × Int)) (
      bif decide (r4.2 = 2) then (
       (slices_reverseRangeCmpFunc_api_Nomination a2 b2 cmp s.2).bind fun r5 =>
       some (wi64 ((wi64 (b2 - 1)) - (wi64 (r4.1 - a2))), 1, r5))
      else (
       some (r4.1, r4.2, s.2))) fun s2 =>
    Option.bind (α := Bool × List (List UInt8 × List UInt8 × List UInt8 × List UInt8 × Int × Int)) (
      bif wasBalanced then (
       bif wasPartitioned then (
        some (decide (s2.2.1 = 1), s2.2.2))
       else (
        some (false, s2.2.2)))
      else (
       some (false, s2.2.2))) fun s3 =>
    Option.bind (α := (List (List UInt8 × List UInt8 × List UInt8 × List UInt8 × Int × Int)) ⊕ (List (List UInt8 × List UInt8 × List UInt8 × List UInt8 × Int × Int))) (
      bif s3.1 then (
       (slices_partialInsertionSortCmpFunc_api_Nomination a2 b2 cmp s3.2).bind fun r6 =>
       bif r6.1 then (
        some (.inr r6.2))
       else (
        some (.inl r6.2)))
      else (
       some (.inl s3.2))) fun s4 =>
    s4.elim (fun s5 =>
     Option.bind (α := Bool × List (List UInt8 × List UInt8 × List UInt8 × List UInt8 × Int × Int)) (
       bif decide (0 < a2) then (
        gd (inB (wi64 (a2 - 1)) s5.length) <|
        gd (inB s2.1 s5.length) <|
        (cmp (s5.getD ((wi64 (a2 - 1)).toNat) ([], ([], ([], ([], (0, 0))))), s5.getD s2.1.toNat ([], ([], ([], ([], (0, 0))))), ())).bind fun r7 =>
        some ((!(decide (r7 < 0))), s5))
       else (
        some (false, s5))) fun s7 =>
     bif s7.1 then (
      (slices_partitionEqualCmpFunc_api_Nomination a2 b2 s2.1 cmp s7.2).bind fun r8 =>
      some (.inl (r8.1, b2, s.1, wasBalanced, wasPartitioned, r8.2)))
     else (
      (slices_partitionCmpFunc_api_Nomination a2 b2 s2.1 cmp s7.2).bind fun r9 =>
      bif decide (wi64 (r9.1 - a2) < wi64 (b2 - r9.1)) then (
       (rec a2 r9.1 s.1 cmp r9.2.2).bind fun r10 =>
       some (.inl (wi64 (r9.1 + 1), b2, s.1, decide (wi64 (Int.tdiv (wi64 (b2 - a2)) 8) ≤ wi64 (r9.1 - a2)), r9.2.1, r10)))
      else (
       (rec (wi64 (r9.1 + 1)) b2 s.1 cmp r9.2.2).bind fun r11 =>
       some (.inl (a2, r9.1, s.1, decide (wi64 (Int.tdiv (wi64 (b2 - a2)) 8) ≤ wi64 (b2 - r9.1)), r9.2.1, r11)))))
    (fun s6 =>
     some (.inr s6))))

noncomputable def slices_pdqsortCmpFunc_api_Nomination_S (rec : Int → Int → Int → ((List UInt8 × List UInt8 × List UInt8 × List UInt8 × Int × Int) × (List UInt8 × List UInt8 × List UInt8 × List UInt8 × Int × Int) × Unit → Option Int) → List (List UInt8 × List UInt8 × List UInt8 × List UInt8 × Int × Int) → Option (List (List UInt8 × List UInt8 × List UInt8 × List UInt8 × Int × Int))) (a : Int) (b : Int) (limit : Int) (cmp : (List UInt8 × List UInt8 × List UInt8 × List UInt8 × Int × Int) × (List UInt8 × List UInt8 × List UInt8 × List UInt8 × Int × Int) × Unit → Option Int) (data : List (List UInt8 × List UInt8 × List UInt8 × List UInt8 × Int × Int)) : Option (List (List UInt8 × List UInt8 × List UInt8 × List UInt8 × Int × Int)) :=
  (iter (fun x => slices_pdqsortCmpFunc_api_Nomination_L0 cmp rec x.1 x.2.1 x.2.2.1 x.2.2.2.1 x.2.2.2.2.1 x.2.2.2.2.2) (a, b, limit, true, true, data)).bind fun s8 =>
  some s8

noncomputable def slices_pdqsortCmpFunc_api_Nomination_F : Nat → Int → Int → Int → ((List UInt8 × List UInt8 × List UInt8 × List UInt8 × Int × Int) × (List UInt8 × List UInt8 × List UInt8 × List UInt8 × Int × Int) × Unit → Option Int) → List (List UInt8 × List UInt8 × List UInt8 × List UInt8 × Int × Int) → Option (List (List UInt8 × List UInt8 × List UInt8 × List UInt8 × Int × Int))
  | 0 => fun _ _ _ _ _ => none
  | n + 1 => slices_pdqsortCmpFunc_api_Nomination_S (slices_pdqsortCmpFunc_api_Nomination_F n)

noncomputable def slices_pdqsortCmpFunc_api_Nomination (a : Int) (b : Int) (limit : Int) (cmp : (List UInt8 × List UInt8 × List UInt8 × List UInt8 × Int × Int) × (List UInt8 × List UInt8 × List UInt8 × List UInt8 × Int × Int) × Unit → Option Int) (data : List (List UInt8 × List UInt8 × List UInt8 × List UInt8 × Int × Int)) : Option (List (List UInt8 × List UInt8 × List UInt8 × List UInt8 × Int × Int)) := slices_pdqsortCmpFunc_api_Nomination_F 18446744073709551616 a b limit cmp data

noncomputable def fn_slices_pdqsortCmpFunc_api_Nomination_F (n : Nat) : Fun :=
  { f := 39, np := 5, nr := 0,
    ji := { regs := [(0, .one (.own 0)), (1, .one (.data (.int .i64))), (2, .one (.data (.int .i64))), (3, .one (.data (.int .i64))), (4, .one (.fn [.pair (.str) (.pair (.str) (.pair (.str) (.pair (.str) (.pair (.int .i64) (.int .i64))))), .pair (.str) (.pair (.str) (.pair (.str) (.pair (.str) (.pair (.int .i64) (.int .i64)))))] (.int .i64)))], vars := [], arrs := [(0, .arr 42 (.pair (.str) (.pair (.str) (.pair (.str) (.pair (.str) (.pair (.int .i64) (.int .i64)))))))] },
    jo := { regs := [], vars := [], arrs := [(0, .arr 42 (.pair (.str) (.pair (.str) (.pair (.str) (.pair (.str) (.pair (.int .i64) (.int .i64)))))))] },
    tw := fun x => slices_pdqsortCmpFunc_api_Nomination_F n x.1 x.2.1 x.2.2.1 x.2.2.2.1 x.2.2.2.2 }
noncomputable def fn_slices_pdqsortCmpFunc_api_Nomination : Fun := fn_slices_pdqsortCmpFunc_api_Nomination_F 18446744073709551616
noncomputable def cx_slices_pdqsortCmpFunc_api_Nomination (n : Nat) : Cx := { Γ := types, ow := [], fs := [fn_slices_insertionSortCmpFunc_api_Nomination, fn_slices_heapSortCmpFunc_api_Nomination, fn_slices_breakPatternsCmpFunc_api_Nomination, fn_slices_choosePivotCmpFunc_api_Nomination, fn_slices_reverseRangeCmpFunc_api_Nomination, fn_slices_partialInsertionSortCmpFunc_api_Nomination, fn_slices_partitionEqualCmpFunc_api_Nomination, fn_slices_partitionCmpFunc_api_Nomination, fn_slices_pdqsortCmpFunc_api_Nomination_F n], N := 148 }
theorem ok_slices_pdqsortCmpFunc_api_Nomination_F : ∀ n : Nat, FunOk Tryd.prog (fn_slices_pdqsortCmpFunc_api_Nomination_F n)
  | 0 => FunOk.nothing Tryd.func39 rfl nmr39 (fun x => rfl)
  | n + 1 => FunOk.intro (C := cx_slices_pdqsortCmpFunc_api_Nomination n) (p := (.mk [] none .nil (.mk [] none .nil (.mk [] none (.mk [] (some ({ regs := [(0, .one (.own 0)), (1, .one (.data (.int .i64))), (2, .one (.data (.int .i64))), (3, .one (.data (.int .i64))), (4, .one .keep), (10, .one (.data (.bool))), (11, .one (.data (.bool)))], vars := [], arrs := [(0, .arr 42 (.pair (.str) (.pair (.str) (.pair (.str) (.pair (.str) (.pair (.int .i64) (.int .i64)))))))] }, [{ e := .r, j := { regs := [], vars := [], arrs := [(0, .arr 42 (.pair (.str) (.pair (.str) (.pair (.str) (.pair (.str) (.pair (.int .i64) (.int .i64)))))))] } }])) (.mk [] none (.mk [] none .nil (.mk [] none .nil (.mk [] none .nil (.mk [] none (.mk [] none .nil (.mk [.join [{ e := .n, j := { regs := [(0, .one (.own 0)), (1, .one .keep), (2, .one .keep), (3, .one (.data (.int .i64))), (4, .one .keep), (10, .one .keep), (11, .one .keep), (12, .one .keep)], vars := [], arrs := [(0, .arr 42 (.pair (.str) (.pair (.str) (.pair (.str) (.pair (.str) (.pair (.int .i64) (.int .i64)))))))] } }]] none .nil .nil)) (.mk [] none .nil (.mk [] none (.mk [] none .nil (.mk [.join [{ e := .n, j := { regs := [(0, .one (.own 0)), (1, .one .keep), (2, .one .keep), (3, .one .keep), (4, .one .keep), (10, .one .keep), (11, .one .keep), (12, .one .keep), (13, .one (.data (.int .i64))), (14, .one (.data (.int .i64)))], vars := [], arrs := [(0, .arr 42 (.pair (.str) (.pair (.str) (.pair (.str) (.pair (.str) (.pair (.int .i64) (.int .i64)))))))] } }]] none .nil .nil)) (.mk [] none (.mk [] none (.mk [.join [{ e := .n, j := { regs := [(0, .one (.own 0)), (1, .one .keep), (2, .one .keep), (3, .one .keep), (4, .one .keep), (10, .one .keep), (11, .one .keep), (12, .one .keep), (13, .one .keep), (75, .one (.data (.bool)))], vars := [], arrs := [(0, .arr 42 (.pair (.str) (.pair (.str) (.pair (.str) (.pair (.str) (.pair (.int .i64) (.int .i64)))))))] } }]] none .nil .nil) (.mk [.join [{ e := .n, j := { regs := [(0, .one (.own 0)), (1, .one .keep), (2, .one .keep), (3, .one .keep), (4, .one .keep), (10, .one .keep), (11, .one .keep), (12, .one .keep), (13, .one .keep)], vars := [], arrs := [(0, .arr 42 (.pair (.str) (.pair (.str) (.pair (.str) (.pair (.str) (.pair (.int .i64) (.int .i64)))))))] } }, { e := .r, j := { regs := [], vars := [], arrs := [(0, .arr 42 (.pair (.str) (.pair (.str) (.pair (.str) (.pair (.str) (.pair (.int .i64) (.int .i64)))))))] } }]] none .nil .nil)) (.mk [] none (.mk [] none (.mk [.join [{ e := .n, j := { regs := [(0, .one (.own 0)), (1, .one .keep), (2, .one .keep), (3, .one .keep), (4, .one .keep), (10, .one .keep), (11, .one .keep), (12, .one .keep), (13, .one .keep), (97, .one (.data (.bool)))], vars := [], arrs := [(0, .arr 42 (.pair (.str) (.pair (.str) (.pair (.str) (.pair (.str) (.pair (.int .i64) (.int .i64)))))))] } }]] none .nil .nil) .nil) .nil)))))))) .nil) .nil) .nil))))
    Tryd.func39 rfl nmr39 rfl rfl rfl rfl types_ok ⟨⟨ok_slices_insertionSortCmpFunc_api_Nomination, ok_slices_heapSortCmpFunc_api_Nomination, ok_slices_breakPatternsCmpFunc_api_Nomination, ok_slices_choosePivotCmpFunc_api_Nomination, ok_slices_reverseRangeCmpFunc_api_Nomination, ok_slices_partialInsertionSortCmpFunc_api_Nomination, ok_slices_partitionEqualCmpFunc_api_Nomination, ok_slices_partitionCmpFunc_api_Nomination, ok_slices_pdqsortCmpFunc_api_Nomination_F n, trivial⟩, trivial⟩ mx (fun x => by kernel_rfl)
theorem ok_slices_pdqsortCmpFunc_api_Nomination : FunOk Tryd.prog fn_slices_pdqsortCmpFunc_api_Nomination := ok_slices_pdqsortCmpFunc_api_Nomination_F 18446744073709551616

noncomputable def slices_SortFunc_api_Nomination_api_Nomination (cmp : (List UInt8 × List UInt8 × List UInt8 × List UInt8 × Int × Int) × (List UInt8 × List UInt8 × List UInt8 × List UInt8 × Int × Int) × Unit → Option Int) (x : List (List UInt8 × List UInt8 × List UInt8 × List UInt8 × Int × Int)) : Option (List (List UInt8 × List UInt8 × List UInt8 × List UInt8 × Int × Int)) :=
  (math_bits_Len (wu64 (x.length : Int))).bind fun r =>
  (slices_pdqsortCmpFunc_api_Nomination 0 (x.length : Int) r cmp x).bind fun r2 =>
  some r2

noncomputable def fn_slices_SortFunc_api_Nomination_api_Nomination : Fun :=
  { f := 23, np := 2, nr := 0,
    ji := { regs := [(0, .one (.own 0)), (1, .one (.fn [.pair (.str) (.pair (.str) (.pair (.str) (.pair (.str) (.pair (.int .i64) (.int .i64))))), .pair (.str) (.pair (.str) (.pair (.str) (.pair (.str) (.pair (.int .i64) (.int .i64)))))] (.int .i64)))], vars := [], arrs := [(0, .arr 42 (.pair (.str) (.pair (.str) (.pair (.str) (.pair (.str) (.pair (.int .i64) (.int .i64)))))))] },
    jo := { regs := [], vars := [], arrs := [(0, .arr 42 (.pair (.str) (.pair (.str) (.pair (.str) (.pair (.str) (.pair (.int .i64) (.int .i64)))))))] },
    tw := fun x => slices_SortFunc_api_Nomination_api_Nomination x.1 x.2 }
noncomputable def cx_slices_SortFunc_api_Nomination_api_Nomination : Cx := { Γ := types, ow := [], fs := [fn_math_bits_Len, fn_slices_pdqsortCmpFunc_api_Nomination], N := 14 }
theorem ok_slices_SortFunc_api_Nomination_api_Nomination : FunOk Tryd.prog fn_slices_SortFunc_api_Nomination_api_Nomination :=
  FunOk.intro (C := cx_slices_SortFunc_api_Nomination_api_Nomination) (p := .nil)
    Tryd.func23 rfl nmr23 rfl rfl rfl rfl types_ok ⟨⟨ok_math_bits_Len, ok_slices_pdqsortCmpFunc_api_Nomination, trivial⟩, trivial⟩ mx (fun x => by kernel_rfl)

noncomputable def cmp_isNaN_int (x : Int) : Option (Bool) :=
  some (!decide (x = x))

noncomputable def fn_cmp_isNaN_int : Fun :=
  { f := 68, np := 1, nr := 1,
    ji := { regs := [(0, .one (.data (.int .i64)))], vars := [], arrs := [] },
    jo := { regs := [(0, .one (.data (.bool)))], vars := [], arrs := [] },
    tw := fun x => cmp_isNaN_int x }
noncomputable def cx_cmp_isNaN_int : Cx := { Γ := types, ow := [], fs := [], N := 6 }
theorem ok_cmp_isNaN_int : FunOk Tryd.prog fn_cmp_isNaN_int :=
  FunOk.intro (C := cx_cmp_isNaN_int) (p := .nil)
    Tryd.func68 rfl nmr68 rfl rfl rfl rfl types_ok ⟨trivial, trivial⟩ mx (fun x => by kernel_rfl)

noncomputable def cmp_Compare_int (x : Int) (y : Int) : Option (Int) :=
  (cmp_isNaN_int x).bind fun r =>
  (cmp_isNaN_int y).bind fun r2 =>
  bif r then (
   bif r2 then (
    some 0)
   else (
    some (-1)))
  else (
   bif r2 then (
    some 1)
   else (
    bif decide (x < y) then (
     some (-1))
    else (
     bif decide (y < x) then (
      some 1)
     else (
      some 0))))

noncomputable def fn_cmp_Compare_int : Fun :=
  { f := 42, np := 2, nr := 1,
    ji := { regs := [(0, .one (.data (.int .i64))), (1, .one (.data (.int .i64)))], vars := [], arrs := [] },
    jo := { regs := [(0, .one (.data (.int .i64)))], vars := [], arrs := [] },
    tw := fun x => cmp_Compare_int x.1 x.2 }
noncomputable def cx_cmp_Compare_int : Cx := { Γ := types, ow := [], fs := [fn_cmp_isNaN_int], N := 20 }
theorem ok_cmp_Compare_int : FunOk Tryd.prog fn_cmp_Compare_int :=
  FunOk.intro (C := cx_cmp_Compare_int) (p := .nil)
    Tryd.func42 rfl nmr42 rfl rfl rfl rfl types_ok ⟨⟨ok_cmp_isNaN_int, trivial⟩, trivial⟩ mx (fun x => by kernel_rfl)

noncomputable def cmp_isNaN_string (x : List UInt8) : Option (Bool) :=
  some (!decide (x = x))

noncomputable def fn_cmp_isNaN_string : Fun :=
  { f := 69, np := 1, nr := 1,
    ji := { regs := [(0, .one (.data (.str)))], vars := [], arrs := [] },
    jo := { regs := [(0, .one (.data (.bool)))], vars := [], arrs := [] },
    tw := fun x => cmp_isNaN_string x }
noncomputable def cx_cmp_isNaN_string : Cx := { Γ := types, ow := [], fs := [], N := 6 }
theorem ok_cmp_isNaN_string : FunOk Tryd.prog fn_cmp_isNaN_string :=
  FunOk.intro (C := cx_cmp_isNaN_string) (p := .nil)
    Tryd.func69 rfl nmr69 rfl rfl rfl rfl types_ok ⟨trivial, trivial⟩ mx (fun x => by kernel_rfl)

noncomputable def cmp_Compare_string (x : List UInt8) (y : List UInt8) : Option (Int) :=
  (cmp_isNaN_string x).bind fun r =>
  (cmp_isNaN_string y).bind fun r2 =>
  bif r then (
   bif r2 then (
    some 0)
   else (
    some (-1)))
  else (
   bif r2 then (
    some 1)
   else (
    bif Op.bytesLess x y then (
     some (-1))
    else (
     bif !(Op.bytesLess x y || decide (x = y)) then (
      some 1)
     else (
      some 0))))

noncomputable def fn_cmp_Compare_string : Fun :=
  { f := 43, np := 2, nr := 1,
    ji := { regs := [(0, .one (.data (.str))), (1, .one (.data (.str)))], vars := [], arrs := [] },
    jo := { regs := [(0, .one (.data (.int .i64)))], vars := [], arrs := [] },
    tw := fun x => cmp_Compare_string x.1 x.2 }
noncomputable def cx_cmp_Compare_string : Cx := { Γ := types, ow := [], fs := [fn_cmp_isNaN_string], N := 20 }
theorem ok_cmp_Compare_string : FunOk Tryd.prog fn_cmp_Compare_string :=
  FunOk.intro (C := cx_cmp_Compare_string) (p := .nil)
    Tryd.func43 rfl nmr43 rfl rfl rfl rfl types_ok ⟨⟨ok_cmp_isNaN_string, trivial⟩, trivial⟩ mx (fun x => by kernel_rfl)

noncomputable def cmp_Or_int_L0 (vals : List Int) (v : Int) : Option (Int ⊕ (Unit ⊕ Int)) :=
  bif decide (v < (vals.length : Int)) then (
   gd (inB v vals.length) <|
   bif !decide (vals.getD v.toNat 0 = 0) then (
    some (.inr (.inr (vals.getD v.toNat 0))))
   else (
    some (.inl (wi64 (v + 1)))))
  else (
   some (.inr (.inl ())))

noncomputable def cmp_Or_int (vals : List Int) : Option (Int) :=
  (iter (fun x => cmp_Or_int_L0 vals x) 0).bind fun s =>
  s.elim (fun s2 =>
   some 0)
  (fun s3 =>
   some s3)

noncomputable def fn_cmp_Or_int : Fun :=
  { f := 41, np := 1, nr := 1,
    ji := { regs := [(0, .one (.data (.sl (.int .i64))))], vars := [], arrs := [] },
    jo := { regs := [(0, .one (.data (.int .i64)))], vars := [], arrs := [] },
    tw := fun x => cmp_Or_int x }
noncomputable def cx_cmp_Or_int : Cx := { Γ := types, ow := [], fs := [], N := 18 }
theorem ok_cmp_Or_int : FunOk Tryd.prog fn_cmp_Or_int :=
  FunOk.intro (C := cx_cmp_Or_int) (p := (.mk [] none .nil (.mk [] none .nil (.mk [] none (.mk [] none .nil (.mk [] none (.mk [] (some ({ regs := [(3, .one .keep), (6, .one .keep), (7, .one .keep), (8, .one (.data (.int .i64)))], vars := [], arrs := [] }, [{ e := .x 0, j := { regs := [(3, .one .keep)], vars := [], arrs := [] } }, { e := .r, j := { regs := [(2, .one (.data (.int .i64)))], vars := [], arrs := [] } }])) .nil .nil) .nil)) .nil))))
    Tryd.func41 rfl nmr41 rfl rfl rfl rfl types_ok ⟨trivial, trivial⟩ mx (fun x => by kernel_rfl)

noncomputable def nomination_compare (a : List UInt8 × List UInt8 × List UInt8 × List UInt8 × Int × Int) (b : List UInt8 × List UInt8 × List UInt8 × List UInt8 × Int × Int) : Option (Int) :=
  (cmp_Compare_int a.2.2.2.2.1 b.2.2.2.2.1).bind fun r =>
  (cmp_Compare_string a.1 b.1).bind fun r2 =>
  (cmp_Compare_string a.2.1 b.2.1).bind fun r3 =>
  (cmp_Compare_string a.2.2.1 b.2.2.1).bind fun r4 =>
  (cmp_Compare_string a.2.2.2.1 b.2.2.2.1).bind fun r5 =>
  (cmp_Or_int [r, r2, r3, r4, r5]).bind fun r6 =>
  some r6

noncomputable def fn_nomination_compare : Fun :=
  { f := 24, np := 2, nr := 1,
    ji := { regs := [(0, .one (.data (.pair (.str) (.pair (.str) (.pair (.str) (.pair (.str) (.pair (.int .i64) (.int .i64)))))))), (1, .one (.data (.pair (.str) (.pair (.str) (.pair (.str) (.pair (.str) (.pair (.int .i64) (.int .i64))))))))], vars := [], arrs := [] },
    jo := { regs := [(0, .one (.data (.int .i64)))], vars := [], arrs := [] },
    tw := fun x => nomination_compare x.1 x.2 }
noncomputable def cx_nomination_compare : Cx := { Γ := types, ow := [], fs := [fn_cmp_Compare_int, fn_cmp_Compare_string, fn_cmp_Or_int], N := 32 }
theorem ok_nomination_compare : FunOk Tryd.prog fn_nomination_compare :=
  FunOk.intro (C := cx_nomination_compare) (p := .nil)
    Tryd.func24 rfl nmr24 rfl rfl rfl rfl types_ok ⟨⟨ok_cmp_Compare_int, ok_cmp_Compare_string, ok_cmp_Or_int, trivial⟩, trivial⟩ mx (fun x => by kernel_rfl)

noncomputable def nomination_Totals_L0 (l : List (List UInt8 × List UInt8 × List UInt8 × List UInt8 × Int × Int)) (v : Int) (sums : List ((List UInt8 × List UInt8 × List UInt8 × List UInt8 × Int × Int) × Int)) : Option ((Int × List ((List UInt8 × List UInt8 × List UInt8 × List UInt8 × Int × Int) × Int)) ⊕ (List ((List UInt8 × List UInt8 × List UInt8 × List UInt8 × Int × Int) × Int))) :=
  bif decide (v < (l.length : Int)) then (
   gd (inB v l.length) <|
   gd (decide (0 ≤ Int.ofNat (midx kO_0 sums ((l.getD v.toNat ([], ([], ([], ([], (0, 0)))))).1, (((l.getD v.toNat ([], ([], ([], ([], (0, 0)))))).2).1, ((((l.getD v.toNat ([], ([], ([], ([], (0, 0)))))).2).2).1, (((((l.getD v.toNat ([], ([], ([], ([], (0, 0)))))).2).2).2).1, ((((((l.getD v.toNat ([], ([], ([], ([], (0, 0)))))).2).2).2).2).1, 0))))))) && Nat.blt (Int.ofNat (midx kO_0 sums ((l.getD v.toNat ([], ([], ([], ([], (0, 0)))))).1, (((l.getD v.toNat ([], ([], ([], ([], (0, 0)))))).2).1, ((((l.getD v.toNat ([], ([], ([], ([], (0, 0)))))).2).2).1, (((((l.getD v.toNat ([], ([], ([], ([], (0, 0)))))).2).2).2).1, ((((((l.getD v.toNat ([], ([], ([], ([], (0, 0)))))).2).2).2).2).1, 0))))))).toNat (ment kO_0 sums ((l.getD v.toNat ([], ([], ([], ([], (0, 0)))))).1, (((l.getD v.toNat ([], ([], ([], ([], (0, 0)))))).2).1, ((((l.getD v.toNat ([], ([], ([], ([], (0, 0)))))).2).2).1, (((((l.getD v.toNat ([], ([], ([], ([], (0, 0)))))).2).2).2).1, ((((((l.getD v.toNat ([], ([], ([], ([], (0, 0)))))).2).2).2).2).1, 0))))) 0).length) <|
   some (.inl (wi64 (v + 1), mset (ment kO_0 sums ((l.getD v.toNat ([], ([], ([], ([], (0, 0)))))).1, (((l.getD v.toNat ([], ([], ([], ([], (0, 0)))))).2).1, ((((l.getD v.toNat ([], ([], ([], ([], (0, 0)))))).2).2).1, (((((l.getD v.toNat ([], ([], ([], ([], (0, 0)))))).2).2).2).1, ((((((l.getD v.toNat ([], ([], ([], ([], (0, 0)))))).2).2).2).2).1, 0))))) 0) (Int.ofNat (midx kO_0 sums ((l.getD v.toNat ([], ([], ([], ([], (0, 0)))))).1, (((l.getD v.toNat ([], ([], ([], ([], (0, 0)))))).2).1, ((((l.getD v.toNat ([], ([], ([], ([], (0, 0)))))).2).2).1, (((((l.getD v.toNat ([], ([], ([], ([], (0, 0)))))).2).2).2).1, ((((((l.getD v.toNat ([], ([], ([], ([], (0, 0)))))).2).2).2).2).1, 0))))))).toNat (wi64 (((mget kO_0 sums ((l.getD v.toNat ([], ([], ([], ([], (0, 0)))))).1, (((l.getD v.toNat ([], ([], ([], ([], (0, 0)))))).2).1, ((((l.getD v.toNat ([], ([], ([], ([], (0, 0)))))).2).2).1, (((((l.getD v.toNat ([], ([], ([], ([], (0, 0)))))).2).2).2).1, ((((((l.getD v.toNat ([], ([], ([], ([], (0, 0)))))).2).2).2).2).1, 0)))))).getD 0) + ((((((l.getD v.toNat ([], ([], ([], ([], (0, 0)))))).2).2).2).2).2))))))
  else (
   some (.inr sums))

noncomputable def nomination_Totals_L1 (out : List (List UInt8 × List UInt8 × List UInt8 × List UInt8 × Int × Int)) (v2 : List ((List UInt8 × List UInt8 × List UInt8 × List UInt8 × Int × Int) × Int)) : List (Option (((List (List UInt8 × List UInt8 × List UInt8 × List UInt8 × Int × Int)) × List ((List UInt8 × List UInt8 × List UInt8 × List UInt8 × Int × Int) × Int)) ⊕ ((List (List UInt8 × List UInt8 × List UInt8 × List UInt8 × Int × Int)) ⊕ ((List (List UInt8 × List UInt8 × List UInt8 × List UInt8 × Int × Int)) × Int)))) :=
  bif isNilL v2.tail then [
   some (.inr (.inl out))]
  else ((List.range v2.tail.length).map fun i =>
   bif decide (1099511627776 < ((pickAt (([], ([], ([], ([], (0, 0))))), 0) v2.tail i).headD (([], ([], ([], ([], (0, 0))))), 0)).2) then (
    some (.inr (.inr ([], 4))))
   else (
    gd (fits (out.length + 1) 80) <|
    some (.inl (out ++ [((((pickAt (([], ([], ([], ([], (0, 0))))), 0) v2.tail i).headD (([], ([], ([], ([], (0, 0))))), 0)).1).1, (((((pickAt (([], ([], ([], ([], (0, 0))))), 0) v2.tail i).headD (([], ([], ([], ([], (0, 0))))), 0)).1).2).1, ((((((pickAt (([], ([], ([], ([], (0, 0))))), 0) v2.tail i).headD (([], ([], ([], ([], (0, 0))))), 0)).1).2).2).1, (((((((pickAt (([], ([], ([], ([], (0, 0))))), 0) v2.tail i).headD (([], ([], ([], ([], (0, 0))))), 0)).1).2).2).2).1, ((((((((pickAt (([], ([], ([], ([], (0, 0))))), 0) v2.tail i).headD (([], ([], ([], ([], (0, 0))))), 0)).1).2).2).2).2).1, ((pickAt (([], ([], ([], ([], (0, 0))))), 0) v2.tail i).headD (([], ([], ([], ([], (0, 0))))), 0)).2)))))], pickAt (([], ([], ([], ([], (0, 0))))), 0) v2.tail i))))

noncomputable def nomination_Totals (l : List (List UInt8 × List UInt8 × List UInt8 × List UInt8 × Int × Int)) : Option ((List (List UInt8 × List UInt8 × List UInt8 × List UInt8 × Int × Int)) × Int) :=
  (nomination_Check l).bind fun r =>
  bif !decide (r = 0) then (
   some ([], r))
  else (
   (iter (fun x => nomination_Totals_L0 l x.1 x.2) (0, [])).bind fun s =>
   iterK (fun x2 => nomination_Totals_L1 x2.1 x2.2) ([], ((([], ([], ([], ([], (0, 0))))), 0) :: s)) fun s2 =>
   s2.elim (fun s3 =>
    (slices_SortFunc_api_Nomination_api_Nomination (fun h => (nomination_compare h.1 h.2.1).bind fun y => some y) s3).bind fun r2 =>
    some (r2, 0))
   (fun s4 =>
    some (s4.1, s4.2)))

noncomputable def fn_nomination_Totals : Fun :=
  { f := 14, np := 1, nr := 2,
    ji := { regs := [(0, .one (.data (.sl (.pair (.str) (.pair (.str) (.pair (.str) (.pair (.str) (.pair (.int .i64) (.int .i64)))))))))], vars := [], arrs := [] },
    jo := { regs := [(0, .one (.data (.sl (.pair (.str) (.pair (.str) (.pair (.str) (.pair (.str) (.pair (.int .i64) (.int .i64))))))))), (1, .one (.data (.int .i64)))], vars := [], arrs := [] },
    tw := fun x => nomination_Totals x }
noncomputable def cx_nomination_Totals : Cx := { Γ := types, ow := [], fs := [fn_nomination_Check, fn_slices_SortFunc_api_Nomination_api_Nomination, fn_nomination_compare], N := 53 }
theorem ok_nomination_Totals : FunOk Tryd.prog fn_nomination_Totals :=
  FunOk.intro (C := cx_nomination_Totals) (p := (.mk [] none .nil (.mk [] none .nil (.mk [] none .nil (.mk [] none (.mk [] none .nil (.mk [] none (.mk [] (some ({ regs := [(5, .one (.own 288)), (18, .one .keep), (19, .one .keep), (20, .one (.data (.int .i64)))], vars := [], arrs := [(288, .map true 1000060 (.pair (.str) (.pair (.str) (.pair (.str) (.pair (.str) (.pair (.int .i64) (.int .i64)))))) (.int .i64))] }, [{ e := .x 0, j := { regs := [(5, .one (.own 288))], vars := [], arrs := [(288, .map true 1000060 (.pair (.str) (.pair (.str) (.pair (.str) (.pair (.str) (.pair (.int .i64) (.int .i64)))))) (.int .i64))] } }])) .nil .nil) .nil)) (.mk [] none .nil (.mk [] none (.mk [] none (.mk [.fz [5]] none .nil .nil) (.mk [] none (.mk [] (some ({ regs := [(9, .one (.own 171)), (36, .one (.own 592))], vars := [], arrs := [(171, .arr 42 (.pair (.str) (.pair (.str) (.pair (.str) (.pair (.str) (.pair (.int .i64) (.int .i64))))))), (592, .iter false (.pair (.str) (.pair (.str) (.pair (.str) (.pair (.str) (.pair (.int .i64) (.int .i64)))))) (.int .i64))] }, [{ e := .x 2, j := { regs := [(9, .one (.own 171))], vars := [], arrs := [(171, .arr 42 (.pair (.str) (.pair (.str) (.pair (.str) (.pair (.str) (.pair (.int .i64) (.int .i64)))))))] } }, { e := .r, j := { regs := [(2, .one (.data (.sl (.pair (.str) (.pair (.str) (.pair (.str) (.pair (.str) (.pair (.int .i64) (.int .i64))))))))), (3, .one (.data (.int .i64)))], vars := [], arrs := [] } }])) .nil .nil) .nil)) .nil)))))))
    Tryd.func14 rfl nmr14 rfl rfl rfl rfl types_ok ⟨⟨ok_nomination_Check, ok_slices_SortFunc_api_Nomination_api_Nomination, ok_nomination_compare, trivial⟩, trivial⟩ mx (fun x => by kernel_rfl)

noncomputable def law11_NominationOne_L0 (volumes : List Int) (r2 : List UInt8 × List Int × Int) (r3 : Int × List Int × Int) (sum : Int) (i : Int) (n : Int) (list : List (List UInt8 × List UInt8 × List UInt8 × List UInt8 × Int × Int)) : Option ((Int × Int × Int × List (List UInt8 × List UInt8 × List UInt8 × List UInt8 × Int × Int)) ⊕ (Int × Int × List (List UInt8 × List UInt8 × List UInt8 × List UInt8 × Int × Int))) :=
  Option.bind (α := Bool × List (List UInt8 × List UInt8 × List UInt8 × List UInt8 × Int × Int)) (
    bif decide (i < (volumes.length : Int)) then (
     some (decide (i < 30), list))
    else (
     some (false, list))) fun s =>
  bif s.1 then (
   gd (inB i volumes.length) <|
   gd (fits (s.2.length + 1) 80) <|
   some (.inl (wi64 (sum + (wi64 (1 + (wi64 (volumes.getD i.toNat 0))))), wi64 (i + 1), wi64 (1 + (wi64 (volumes.getD i.toNat 0))), s.2 ++ [(r2.1, ([106, 101, 116], ([112, 111, 114, 116, 97], ([112, 111, 114, 116, 98], (r3.1, wi64 (1 + (wi64 (volumes.getD i.toNat 0))))))))])))
  else (
   some (.inr (sum, n, s.2)))

noncomputable def law11_NominationOne (l : List Int) (volumes : List Int) : Option (Bool) :=
  (keep_New l).bind fun r =>
  (keep_Src_Text ([[97, 99, 109, 101], [98, 111, 108, 116]] : List (List UInt8)) r.1 r.2).bind fun r2 =>
  (keep_Src_N 100 r2.2.1 r2.2.2).bind fun r3 =>
  (iter (fun x => law11_NominationOne_L0 volumes r2 r3 x.1 x.2.1 x.2.2.1 x.2.2.2) (0, 0, 0, [])).bind fun s2 =>
  (nomination_Totals s2.2.2).bind fun r4 =>
  gd (fits (1 + s2.2.2.length) 80) <|
  (nomination_Totals ([(r2.1, ([106, 101, 116], ([112, 111, 114, 116, 97], ([112, 111, 114, 116, 98], (wi64 (r3.1 + 1), 5)))))] ++ s2.2.2)).bind fun r5 =>
  Option.bind (α := Bool) (
    bif !decide (r4.2 = 0) then (
     some true)
    else (
     bif !decide (r5.2 = 0) then (
      some true)
     else (
      bif !decide ((r5.1.length : Int) = wi64 ((r4.1.length : Int) + 1)) then (
       some true)
      else (
       gd (inB (wi64 ((r5.1.length : Int) - 1)) r5.1.length) <|
       some (!(decide ((r5.1.getD (wi64 ((r5.1.length : Int) - 1)).toNat ([], ([], ([], ([], (0, 0)))))).1 = r2.1) && (decide (((r5.1.getD (wi64 ((r5.1.length : Int) - 1)).toNat ([], ([], ([], ([], (0, 0)))))).2).1 = [106, 101, 116]) && (decide ((((r5.1.getD (wi64 ((r5.1.length : Int) - 1)).toNat ([], ([], ([], ([], (0, 0)))))).2).2).1 = [112, 111, 114, 116, 97]) && (decide (((((r5.1.getD (wi64 ((r5.1.length : Int) - 1)).toNat ([], ([], ([], ([], (0, 0)))))).2).2).2).1 = [112, 111, 114, 116, 98]) && (decide ((((((r5.1.getD (wi64 ((r5.1.length : Int) - 1)).toNat ([], ([], ([], ([], (0, 0)))))).2).2).2).2).1 = wi64 (r3.1 + 1)) && decide ((((((r5.1.getD (wi64 ((r5.1.length : Int) - 1)).toNat ([], ([], ([], ([], (0, 0)))))).2).2).2).2).2 = 5))))))))))) fun s3 =>
  bif s3 then (
   some false)
  else (
   bif decide ((s2.2.2.length : Int) = 0) then (
    bif decide ((r4.1.length : Int) = 0) then (
     (law11_awake).bind fun r6 =>
     some r6)
    else (
     bif decide (0 < (s2.2.2.length : Int)) then (
      bif decide ((r4.1.length : Int) = 1) then (
       gd (inB 0 r4.1.length) <|
       bif decide ((((((r4.1.getD 0 ([], ([], ([], ([], (0, 0)))))).2).2).2).2).2 = s2.1) then (
        gd (inB 0 r5.1.length) <|
        gd (inB 0 r4.1.length) <|
        bif decide ((r5.1.getD 0 ([], ([], ([], ([], (0, 0)))))).1 = (r4.1.getD 0 ([], ([], ([], ([], (0, 0)))))).1) && (decide (((r5.1.getD 0 ([], ([], ([], ([], (0, 0)))))).2).1 = ((r4.1.getD 0 ([], ([], ([], ([], (0, 0)))))).2).1) && (decide ((((r5.1.getD 0 ([], ([], ([], ([], (0, 0)))))).2).2).1 = (((r4.1.getD 0 ([], ([], ([], ([], (0, 0)))))).2).2).1) && (decide (((((r5.1.getD 0 ([], ([], ([], ([], (0, 0)))))).2).2).2).1 = ((((r4.1.getD 0 ([], ([], ([], ([], (0, 0)))))).2).2).2).1) && (decide ((((((r5.1.getD 0 ([], ([], ([], ([], (0, 0)))))).2).2).2).2).1 = (((((r4.1.getD 0 ([], ([], ([], ([], (0, 0)))))).2).2).2).2).1) && decide ((((((r5.1.getD 0 ([], ([], ([], ([], (0, 0)))))).2).2).2).2).2 = (((((r4.1.getD 0 ([], ([], ([], ([], (0, 0)))))).2).2).2).2).2))))) then (
         (law11_awake).bind fun r7 =>
         some r7)
        else (
         some false))
       else (
        some false))
      else (
       some false))
     else (
      some false)))
   else (
    bif decide (0 < (s2.2.2.length : Int)) then (
     bif decide ((r4.1.length : Int) = 1) then (
      gd (inB 0 r4.1.length) <|
      bif decide ((((((r4.1.getD 0 ([], ([], ([], ([], (0, 0)))))).2).2).2).2).2 = s2.1) then (
       gd (inB 0 r5.1.length) <|
       gd (inB 0 r4.1.length) <|
       bif decide ((r5.1.getD 0 ([], ([], ([], ([], (0, 0)))))).1 = (r4.1.getD 0 ([], ([], ([], ([], (0, 0)))))).1) && (decide (((r5.1.getD 0 ([], ([], ([], ([], (0, 0)))))).2).1 = ((r4.1.getD 0 ([], ([], ([], ([], (0, 0)))))).2).1) && (decide ((((r5.1.getD 0 ([], ([], ([], ([], (0, 0)))))).2).2).1 = (((r4.1.getD 0 ([], ([], ([], ([], (0, 0)))))).2).2).1) && (decide (((((r5.1.getD 0 ([], ([], ([], ([], (0, 0)))))).2).2).2).1 = ((((r4.1.getD 0 ([], ([], ([], ([], (0, 0)))))).2).2).2).1) && (decide ((((((r5.1.getD 0 ([], ([], ([], ([], (0, 0)))))).2).2).2).2).1 = (((((r4.1.getD 0 ([], ([], ([], ([], (0, 0)))))).2).2).2).2).1) && decide ((((((r5.1.getD 0 ([], ([], ([], ([], (0, 0)))))).2).2).2).2).2 = (((((r4.1.getD 0 ([], ([], ([], ([], (0, 0)))))).2).2).2).2).2))))) then (
        (law11_awake).bind fun r8 =>
        some r8)
       else (
        some false))
      else (
       some false))
     else (
      some false))
    else (
     some false)))

noncomputable def fn_law11_NominationOne : Fun :=
  { f := 5, np := 2, nr := 1,
    ji := { regs := [(0, .one (.data (.sl (.int .i64)))), (1, .one (.data (.sl (.int .u16))))], vars := [], arrs := [] },
    jo := { regs := [(0, .one (.data (.bool)))], vars := [], arrs := [] },
    tw := fun x => law11_NominationOne x.1 x.2 }
noncomputable def cx_law11_NominationOne : Cx := { Γ := types, ow := [61], fs := [fn_keep_New, fn_keep_Src_Text, fn_keep_Src_N, fn_nomination_Totals, fn_law11_awake], N := 129 }
theorem ok_law11_NominationOne : FunOk Tryd.prog fn_law11_NominationOne :=
  FunOk.intro (C := cx_law11_NominationOne) (p := (.mk [] none .nil (.mk [] none .nil (.mk [] none .nil (.mk [] none .nil (.mk [] none .nil (.mk [] none (.mk [] none .nil (.mk [] none (.mk [] (some ({ regs := [(1, .one .keep), (6, .one (.ptr 112 0)), (7, .one (.own 139)), (8, .one (.data (.int .i64))), (9, .one (.data (.int .i64)))], vars := [(112, 42, [.keep, .keep, .keep, .keep, .keep, .data (.int .i64)])], arrs := [(139, .arr 42 (.pair (.str) (.pair (.str) (.pair (.str) (.pair (.str) (.pair (.int .i64) (.int .i64)))))))] }, [{ e := .x 0, j := { regs := [(6, .one (.ptr 112 0)), (7, .one (.own 139)), (8, .one (.data (.int .i64)))], vars := [(112, 42, [.keep, .keep, .keep, .keep, .keep, .data (.int .i64)])], arrs := [(139, .arr 42 (.pair (.str) (.pair (.str) (.pair (.str) (.pair (.str) (.pair (.int .i64) (.int .i64)))))))] } }])) (.mk [] none (.mk [] none (.mk [.join [{ e := .n, j := { regs := [(1, .one .keep), (6, .one (.ptr 112 0)), (7, .one (.own 139)), (8, .one .keep), (9, .one .keep), (30, .one (.data (.bool)))], vars := [(112, 42, [.keep, .keep, .keep, .keep, .keep, .keep])], arrs := [(139, .arr 42 (.pair (.str) (.pair (.str) (.pair (.str) (.pair (.str) (.pair (.int .i64) (.int .i64)))))))] } }]] none .nil .nil) .nil) .nil) .nil) .nil)) (.mk [] none .nil (.mk [] none .nil (.mk [] none (.mk [.fz [7]] none .nil .nil) (.mk [] none .nil (.mk [] none (.mk [] none (.mk [.join [{ e := .n, j := { regs := [(7, .one .keep), (8, .one .keep), (11, .one .keep), (13, .one .keep), (90, .one (.data (.bool)))], vars := [], arrs := [] } }]] none .nil .nil) .nil) .nil))))))))))))
    Tryd.func5 rfl nmr5 rfl rfl rfl rfl types_ok ⟨⟨ok_keep_New, ok_keep_Src_Text, ok_keep_Src_N, ok_nomination_Totals, ok_law11_awake, trivial⟩, trivial⟩ mx (fun x => by kernel_rfl)


end Go.Proofs.YtnilkkggnffklaaDoor
