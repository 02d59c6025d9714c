/- Functions, evaluated. No condition. -/
import Derived.Test.YtihbfecdccamoaaDoorProg
import Derived.Test.YtihbfecdccamoaaDoorSqLB
import Derived.Test.YtihbfecdccamoaaDoorLx
import Derived.Test.YtihbfecdccamoaaDoorLc
namespace Go.Proofs.YtihbfecdccamoaaDoor
open Go Go.Sq
def ti3 : TI := { t := 3, desc := .int .i64, size := 1, bytes := 8, zero := .int .i64 0, τ := .int .i64, eq := false }
theorem tk3 : ti3.ok Tryd.prog := ⟨Tryd.underlying3, by kernel_rfl, fun h => by cases h⟩
def ti4 : TI := { t := 4, desc := .bool, size := 1, bytes := 1, zero := .bool false, τ := .bool, eq := false }
theorem tk4 : ti4.ok Tryd.prog := ⟨Tryd.underlying4, by kernel_rfl, fun h => by cases h⟩
def ti5 : TI := { t := 5, desc := .int .u8, size := 1, bytes := 1, zero := .int .u8 0, τ := .int .u8, eq := false }
theorem tk5 : ti5.ok Tryd.prog := ⟨Tryd.underlying5, by kernel_rfl, fun h => by cases h⟩
def ti9 : TI := { t := 9, desc := .string, size := 1, bytes := 16, zero := .string ⟨#[]⟩, τ := .str, eq := false }
theorem tk9 : ti9.ok Tryd.prog := ⟨Tryd.underlying9, by kernel_rfl, fun h => by cases h⟩
def ti22 : TI := { t := 22, desc := .slice 3, size := 1, bytes := 24, zero := .slice none 0 0, τ := .sl (.int .i64), eq := false }
theorem tk22 : ti22.ok Tryd.prog := ⟨Tryd.underlying22, by kernel_rfl, fun h => by cases h⟩
def ti25 : TI := { t := 25, desc := .slice 29, size := 1, bytes := 24, zero := .slice none 0 0, τ := .sl (.pair (.str) (.pair (.int .i64) (.pair (.int .i64) (.pair (.int .i64) (.int .i64))))), eq := false }
theorem tk25 : ti25.ok Tryd.prog := ⟨Tryd.underlying25, by kernel_rfl, fun h => by cases h⟩
def ti29 : TI := { t := 29, desc := .struct #[{ name := "Name", type := 9, offset := 0, embedded := false, tag := "", pkgPath := "", byteOffset := 0 }, { name := "Density", type := 3, offset := 1, embedded := false, tag := "", pkgPath := "", byteOffset := 16 }, { name := "Expansion", type := 3, offset := 2, embedded := false, tag := "", pkgPath := "", byteOffset := 24 }, { name := "Compress", type := 3, offset := 3, embedded := false, tag := "", pkgPath := "", byteOffset := 32 }, { name := "Friction", type := 3, offset := 4, embedded := false, tag := "", pkgPath := "", byteOffset := 40 }], size := 5, bytes := 48, zero := .agg #[.string ⟨#[]⟩, .int .i64 0, .int .i64 0, .int .i64 0, .int .i64 0], τ := .pair (.str) (.pair (.int .i64) (.pair (.int .i64) (.pair (.int .i64) (.int .i64)))), eq := true }
theorem tk29 : ti29.ok Tryd.prog := ⟨Tryd.underlying29, by kernel_rfl, fun _ => ⟨Tryd.eqGuardType29, Tryd.stoodInHeld29⟩⟩
def ti32 : TI := { t := 32, desc := .int .i64, size := 1, bytes := 8, zero := .int .i64 0, τ := .int .i64, eq := false }
theorem tk32 : ti32.ok Tryd.prog := ⟨Tryd.underlying32, by kernel_rfl, fun h => by cases h⟩
def ti42 : TI := { t := 42, desc := .slice 9, size := 1, bytes := 24, zero := .slice none 0 0, τ := .sl (.str), eq := false }
theorem tk42 : ti42.ok Tryd.prog := ⟨Tryd.underlying42, by kernel_rfl, fun h => by cases h⟩
def ti43 : TI := { t := 43, desc := .slice 32, size := 1, bytes := 24, zero := .slice none 0 0, τ := .sl (.int .i64), eq := false }
theorem tk43 : ti43.ok Tryd.prog := ⟨Tryd.underlying43, by kernel_rfl, fun h => by cases h⟩
def ti46 : TI := { t := 46, desc := .struct #[{ name := "L", type := 22, offset := 0, embedded := false, tag := "", pkgPath := "", byteOffset := 0 }, { name := "At", type := 3, offset := 1, embedded := false, tag := "", pkgPath := "", byteOffset := 24 }], size := 2, bytes := 32, zero := .agg #[.slice none 0 0, .int .i64 0], τ := .pair (.sl (.int .i64)) (.int .i64), eq := true }
theorem tk46 : ti46.ok Tryd.prog := ⟨Tryd.underlying46, by kernel_rfl, fun _ => ⟨Tryd.eqGuardType46, Tryd.stoodInHeld46⟩⟩
def ti52 : TI := { t := 52, desc := .array 4 3, size := 4, bytes := 32, zero := .agg #[.int .i64 0, .int .i64 0, .int .i64 0, .int .i64 0], τ := .pair (.int .i64) (.pair (.int .i64) (.pair (.int .i64) (.int .i64))), eq := false }
theorem tk52 : ti52.ok Tryd.prog := ⟨Tryd.underlying52, by kernel_rfl, fun h => by cases h⟩
def ti55 : TI := { t := 55, desc := .struct #[{ name := "least", type := 3, offset := 0, embedded := false, tag := "", pkgPath := "batchline/product", byteOffset := 0 }, { name := "most", type := 3, offset := 1, embedded := false, tag := "", pkgPath := "batchline/product", byteOffset := 8 }], size := 2, bytes := 16, zero := .agg #[.int .i64 0, .int .i64 0], τ := .pair (.int .i64) (.int .i64), eq := true }
theorem tk55 : ti55.ok Tryd.prog := ⟨Tryd.underlying55, by kernel_rfl, fun _ => ⟨Tryd.eqGuardType55, Tryd.stoodInHeld55⟩⟩
def ti56 : TI := { t := 56, desc := .array 4 55, size := 8, bytes := 64, zero := .agg #[.int .i64 0, .int .i64 0, .int .i64 0, .int .i64 0, .int .i64 0, .int .i64 0, .int .i64 0, .int .i64 0], τ := .pair (.pair (.int .i64) (.int .i64)) (.pair (.pair (.int .i64) (.int .i64)) (.pair (.pair (.int .i64) (.int .i64)) (.pair (.int .i64) (.int .i64)))), eq := false }
theorem tk56 : ti56.ok Tryd.prog := ⟨Tryd.underlying56, by kernel_rfl, fun h => by cases h⟩
def ti58 : TI := { t := 58, desc := .slice 42, size := 1, bytes := 24, zero := .slice none 0 0, τ := .sl (.sl (.str)), eq := false }
theorem tk58 : ti58.ok Tryd.prog := ⟨Tryd.underlying58, by kernel_rfl, fun h => by cases h⟩
def ti69 : TI := { t := 69, desc := .pointer 72, size := 1, bytes := 8, zero := .pointer none, τ := .unit, eq := false }
theorem tk69 : ti69.ok Tryd.prog := ⟨Tryd.underlying69, by kernel_rfl, fun h => by cases h⟩
def ti70 : TI := { t := 70, desc := .slice 5, size := 1, bytes := 24, zero := .slice none 0 0, τ := .sl (.int .u8), eq := false }
theorem tk70 : ti70.ok Tryd.prog := ⟨Tryd.underlying70, by kernel_rfl, fun h => by cases h⟩
def ti72 : TI := { t := 72, desc := .struct #[{ name := "addr", type := 69, offset := 0, embedded := false, tag := "", pkgPath := "strings", byteOffset := 0 }, { name := "buf", type := 70, offset := 1, embedded := false, tag := "", pkgPath := "strings", byteOffset := 8 }], size := 2, bytes := 32, zero := .agg #[.pointer none, .slice none 0 0], τ := .unit, eq := true }
theorem tk72 : ti72.ok Tryd.prog := ⟨Tryd.underlying72, by kernel_rfl, fun _ => ⟨Tryd.eqGuardType72, Tryd.stoodInHeld72⟩⟩
def ti74 : TI := { t := 74, desc := .interface #[("Error", 78)], size := 1, bytes := 16, zero := .nilIface, τ := .err, eq := false }
theorem tk74 : ti74.ok Tryd.prog := ⟨Tryd.underlying74, by kernel_rfl, fun h => by cases h⟩
def ti88 : TI := { t := 88, desc := .pointer 5, size := 1, bytes := 8, zero := .pointer none, τ := .unit, eq := false }
theorem tk88 : ti88.ok Tryd.prog := ⟨Tryd.underlying88, by kernel_rfl, fun h => by cases h⟩
def types : List TI := [ti3, ti4, ti5, ti9, ti22, ti25, ti29, ti32, ti42, ti43, ti46, ti52, ti55, ti56, ti58, ti69, ti70, ti72, ti74, ti88]
theorem types_ok : Tys Tryd.prog types := ⟨tk3, tk4, tk5, tk9, tk22, tk25, tk29, tk32, tk42, tk43, tk46, tk52, tk55, tk56, tk58, tk69, tk70, tk72, tk74, tk88, trivial⟩
def xt50 : Ext := extCnt 50
theorem xk50 : ExtOk Tryd.prog xt50 := extCnt_ok Tryd.func50 (by kernel_rfl) (by kernel_rfl) (by kernel_rfl) (by kernel_rfl)
def xt87 : Ext := extIdx 87
theorem xk87 : ExtOk Tryd.prog xt87 := extIdx_ok Tryd.func87 (by kernel_rfl) (by kernel_rfl) (by kernel_rfl) (by kernel_rfl)
theorem mx : Tryd.prog.follows .mixedOrders = true := by kernel_rfl
theorem nmr7 : (Tryd.f7.name == "runtime.NumGoroutine") = false := by kernel_rfl
theorem nmr21 : (Tryd.f21.name == "runtime.NumGoroutine") = false := by kernel_rfl
theorem nmr20 : (Tryd.f20.name == "runtime.NumGoroutine") = false := by kernel_rfl
theorem nmr9 : (Tryd.f9.name == "runtime.NumGoroutine") = false := by kernel_rfl
theorem nmr18 : (Tryd.f18.name == "runtime.NumGoroutine") = false := by kernel_rfl
theorem nmr32 : (Tryd.f32.name == "runtime.NumGoroutine") = false := by kernel_rfl
theorem nmr23 : (Tryd.f23.name == "runtime.NumGoroutine") = false := by kernel_rfl
theorem nmr19 : (Tryd.f19.name == "runtime.NumGoroutine") = false := by kernel_rfl
theorem nmr8 : (Tryd.f8.name == "runtime.NumGoroutine") = false := by kernel_rfl
theorem nmr22 : (Tryd.f22.name == "runtime.NumGoroutine") = false := by kernel_rfl
theorem nmr10 : (Tryd.f10.name == "runtime.NumGoroutine") = false := by kernel_rfl
theorem nmr24 : (Tryd.f24.name == "runtime.NumGoroutine") = false := by kernel_rfl
theorem nmr33 : (Tryd.f33.name == "runtime.NumGoroutine") = false := by kernel_rfl
theorem nmr25 : (Tryd.f25.name == "runtime.NumGoroutine") = false := by kernel_rfl
theorem nmr11 : (Tryd.f11.name == "runtime.NumGoroutine") = false := by kernel_rfl
theorem nmr31 : (Tryd.f31.name == "runtime.NumGoroutine") = false := by kernel_rfl
theorem nmr30 : (Tryd.f30.name == "runtime.NumGoroutine") = false := by kernel_rfl
theorem nmr17 : (Tryd.f17.name == "runtime.NumGoroutine") = false := by kernel_rfl
theorem nmr12 : (Tryd.f12.name == "runtime.NumGoroutine") = false := by kernel_rfl
theorem nmr74 : (Tryd.f74.name == "runtime.NumGoroutine") = false := by kernel_rfl
theorem nmr63 : (Tryd.f63.name == "runtime.NumGoroutine") = false := by kernel_rfl
theorem nmr51 : (Tryd.f51.name == "runtime.NumGoroutine") = false := by kernel_rfl
theorem nmr40 : (Tryd.f40.name == "runtime.NumGoroutine") = false := by kernel_rfl
theorem nmr52 : (Tryd.f52.name == "runtime.NumGoroutine") = false := by kernel_rfl
theorem nmr41 : (Tryd.f41.name == "runtime.NumGoroutine") = false := by kernel_rfl
theorem nmr53 : (Tryd.f53.name == "runtime.NumGoroutine") = false := by kernel_rfl
theorem nmr42 : (Tryd.f42.name == "runtime.NumGoroutine") = false := by kernel_rfl
theorem nmr54 : (Tryd.f54.name == "runtime.NumGoroutine") = false := by kernel_rfl
theorem nmr43 : (Tryd.f43.name == "runtime.NumGoroutine") = false := by kernel_rfl
theorem nmr46 : (Tryd.f46.name == "runtime.NumGoroutine") = false := by kernel_rfl
theorem nmr35 : (Tryd.f35.name == "runtime.NumGoroutine") = false := by kernel_rfl
theorem nmr28 : (Tryd.f28.name == "runtime.NumGoroutine") = false := by kernel_rfl
theorem nmr79 : (Tryd.f79.name == "runtime.NumGoroutine") = false := by kernel_rfl
theorem nmr65 : (Tryd.f65.name == "runtime.NumGoroutine") = false := by kernel_rfl
theorem nmr55 : (Tryd.f55.name == "runtime.NumGoroutine") = false := by kernel_rfl
theorem nmr56 : (Tryd.f56.name == "runtime.NumGoroutine") = false := by kernel_rfl
theorem nmr44 : (Tryd.f44.name == "runtime.NumGoroutine") = false := by kernel_rfl
theorem nmr29 : (Tryd.f29.name == "runtime.NumGoroutine") = false := by kernel_rfl
theorem nmr15 : (Tryd.f15.name == "runtime.NumGoroutine") = false := by kernel_rfl
theorem nmr16 : (Tryd.f16.name == "runtime.NumGoroutine") = false := by kernel_rfl
theorem nmr13 : (Tryd.f13.name == "runtime.NumGoroutine") = false := by kernel_rfl
theorem nmr3 : (Tryd.f3.name == "runtime.NumGoroutine") = false := by kernel_rfl
theorem nmr26 : (Tryd.f26.name == "runtime.NumGoroutine") = false := by kernel_rfl
theorem nmr37 : (Tryd.f37.name == "runtime.NumGoroutine") = false := by kernel_rfl
theorem nmr47 : (Tryd.f47.name == "runtime.NumGoroutine") = false := by kernel_rfl
theorem nmr36 : (Tryd.f36.name == "runtime.NumGoroutine") = false := by kernel_rfl
theorem nmr38 : (Tryd.f38.name == "runtime.NumGoroutine") = false := by kernel_rfl
theorem nmr39 : (Tryd.f39.name == "runtime.NumGoroutine") = false := by kernel_rfl
theorem nmr27 : (Tryd.f27.name == "runtime.NumGoroutine") = false := by kernel_rfl
theorem nmr14 : (Tryd.f14.name == "runtime.NumGoroutine") = false := by kernel_rfl
theorem nmr4 : (Tryd.f4.name == "runtime.NumGoroutine") = false := by kernel_rfl
theorem nmr5 : (Tryd.f5.name == "runtime.NumGoroutine") = false := by kernel_rfl
theorem nmr6 : (Tryd.f6.name == "runtime.NumGoroutine") = false := by kernel_rfl

noncomputable def keep_New (l : List Int) : Option (List Int × Int) :=
  gd (cutG none (some (.i64, min (l.length : Int) 2000)) l.length) <|
  some (l.take (min (l.length : Int) 2000).toNat, 0)

noncomputable def fn_keep_New : Fun :=
  { f := 7, np := 1, nr := 1,
    ji := { regs := [(0, .one (.data (.sl (.int .i64))))], vars := [], arrs := [] },
    jo := { regs := [(0, .one (.ptr 0 0))], vars := [(0, 46, [.data (.sl (.int .i64)), .data (.int .i64)])], arrs := [] },
    tw := fun x => keep_New x }
noncomputable def cx_keep_New : Cx := { Γ := types, ow := [], fs := [], N := 10 }
theorem ok_keep_New : FunOk Tryd.prog fn_keep_New :=
  FunOk.intro (C := cx_keep_New) (p := .nil)
    Tryd.func7 rfl nmr7 rfl rfl rfl rfl types_ok ⟨trivial, trivial⟩ mx (fun x => by kernel_rfl)

noncomputable def keep_Src_Raw (s : List Int) (s2 : Int) : Option (Int × List Int × Int) :=
  bif decide ((s.length : Int) ≤ s2) then (
   some (0, s, s2))
  else (
   gd (inB (wi64 ((wi64 (s2 + 1)) - 1)) s.length) <|
   some (s.getD (wi64 ((wi64 (s2 + 1)) - 1)).toNat 0, s, wi64 (s2 + 1)))

noncomputable def fn_keep_Src_Raw : Fun :=
  { f := 21, np := 1, nr := 1,
    ji := { regs := [(0, .one (.ptr 0 0))], vars := [(0, 46, [.data (.sl (.int .i64)), .data (.int .i64)])], arrs := [] },
    jo := { regs := [(0, .one (.data (.int .i64)))], vars := [(0, 46, [.data (.sl (.int .i64)), .data (.int .i64)])], arrs := [] },
    tw := fun x => keep_Src_Raw x.1 x.2 }
noncomputable def cx_keep_Src_Raw : Cx := { Γ := types, ow := [], fs := [], N := 31 }
theorem ok_keep_Src_Raw : FunOk Tryd.prog fn_keep_Src_Raw :=
  FunOk.intro (C := cx_keep_Src_Raw) (p := .nil)
    Tryd.func21 rfl nmr21 rfl rfl rfl rfl types_ok ⟨trivial, trivial⟩ mx (fun x => by kernel_rfl)

noncomputable def keep_Mod (x : Int) (n : Int) : Option (Int) :=
  bif decide (n < 1) then (
   some 0)
  else (
   gd (!decide (n = 0)) <|
   bif decide (Int.tmod x n < 0) then (
    some (wi64 ((Int.tmod x n) + n)))
   else (
    some (Int.tmod x n)))

noncomputable def fn_keep_Mod : Fun :=
  { f := 20, np := 2, nr := 1,
    ji := { regs := [(0, .one (.data (.int .i64))), (1, .one (.data (.int .i64)))], vars := [], arrs := [] },
    jo := { regs := [(0, .one (.data (.int .i64)))], vars := [], arrs := [] },
    tw := fun x => keep_Mod x.1 x.2 }
noncomputable def cx_keep_Mod : Cx := { Γ := types, ow := [], fs := [], N := 16 }
theorem ok_keep_Mod : FunOk Tryd.prog fn_keep_Mod :=
  FunOk.intro (C := cx_keep_Mod) (p := .nil)
    Tryd.func20 rfl nmr20 rfl rfl rfl rfl types_ok ⟨trivial, trivial⟩ mx (fun x => by kernel_rfl)

noncomputable def keep_Src_N (n : Int) (s : List Int) (s2 : Int) : Option (Int × List Int × Int) :=
  (keep_Src_Raw s s2).bind fun r =>
  (keep_Mod r.1 n).bind fun r2 =>
  some (r2, r.2.1, r.2.2)

noncomputable def fn_keep_Src_N : Fun :=
  { f := 9, np := 2, nr := 1,
    ji := { regs := [(0, .one (.ptr 0 0)), (1, .one (.data (.int .i64)))], vars := [(0, 46, [.data (.sl (.int .i64)), .data (.int .i64)])], arrs := [] },
    jo := { regs := [(0, .one (.data (.int .i64)))], vars := [(0, 46, [.data (.sl (.int .i64)), .data (.int .i64)])], arrs := [] },
    tw := fun x => keep_Src_N x.1 x.2.1 x.2.2 }
noncomputable def cx_keep_Src_N : Cx := { Γ := types, ow := [], fs := [fn_keep_Src_Raw, fn_keep_Mod], N := 9 }
theorem ok_keep_Src_N : FunOk Tryd.prog fn_keep_Src_N :=
  FunOk.intro (C := cx_keep_Src_N) (p := .nil)
    Tryd.func9 rfl nmr9 rfl rfl rfl rfl types_ok ⟨⟨ok_keep_Src_Raw, ok_keep_Mod, trivial⟩, trivial⟩ mx (fun x => by kernel_rfl)

noncomputable def keep_Src_Range (lo : Int) (hi : Int) (s : List Int) (s2 : Int) : Option (Int × List Int × Int) :=
  (keep_Src_N (wi64 ((wi64 (hi - lo)) + 1)) s s2).bind fun r =>
  some (wi64 (lo + r.1), r.2.1, r.2.2)

noncomputable def fn_keep_Src_Range : Fun :=
  { f := 18, np := 3, nr := 1,
    ji := { regs := [(0, .one (.ptr 0 0)), (1, .one (.data (.int .i64))), (2, .one (.data (.int .i64)))], vars := [(0, 46, [.data (.sl (.int .i64)), .data (.int .i64)])], arrs := [] },
    jo := { regs := [(0, .one (.data (.int .i64)))], vars := [(0, 46, [.data (.sl (.int .i64)), .data (.int .i64)])], arrs := [] },
    tw := fun x => keep_Src_Range x.1 x.2.1 x.2.2.1 x.2.2.2 }
noncomputable def cx_keep_Src_Range : Cx := { Γ := types, ow := [], fs := [fn_keep_Src_N], N := 15 }
theorem ok_keep_Src_Range : FunOk Tryd.prog fn_keep_Src_Range :=
  FunOk.intro (C := cx_keep_Src_Range) (p := .nil)
    Tryd.func18 rfl nmr18 rfl rfl rfl rfl types_ok ⟨⟨ok_keep_Src_N, trivial⟩, trivial⟩ mx (fun x => by kernel_rfl)

noncomputable def keep_name (first : List UInt8) (n : Int) : Option (List UInt8) :=
  gd (Nat.ble (first.length + (toBytes [wu8 (wi64 (97 + (Int.tmod n 26)))]).length) 9223372036854775807) <|
  some (first ++ (toBytes [wu8 (wi64 (97 + (Int.tmod n 26)))]))

noncomputable def fn_keep_name : Fun :=
  { f := 32, np := 2, nr := 1,
    ji := { regs := [(0, .one (.data (.str))), (1, .one (.data (.int .i64)))], vars := [], arrs := [] },
    jo := { regs := [(0, .one (.data (.str)))], vars := [], arrs := [] },
    tw := fun x => keep_name x.1 x.2 }
noncomputable def cx_keep_name : Cx := { Γ := types, ow := [], fs := [], N := 13 }
theorem ok_keep_name : FunOk Tryd.prog fn_keep_name :=
  FunOk.intro (C := cx_keep_name) (p := .nil)
    Tryd.func32 rfl nmr32 rfl rfl rfl rfl types_ok ⟨trivial, trivial⟩ mx (fun x => by kernel_rfl)

noncomputable def keep_Src_Pick (l : List Int) (s : List Int) (s2 : Int) : Option (Int × List Int × Int) :=
  (keep_Src_N (l.length : Int) s s2).bind fun r =>
  gd (inB r.1 l.length) <|
  some (l.getD r.1.toNat 0, r.2.1, r.2.2)

noncomputable def fn_keep_Src_Pick : Fun :=
  { f := 23, np := 2, nr := 1,
    ji := { regs := [(0, .one (.ptr 0 0)), (1, .one (.data (.sl (.int .i64))))], vars := [(0, 46, [.data (.sl (.int .i64)), .data (.int .i64)])], arrs := [] },
    jo := { regs := [(0, .one (.data (.int .i64)))], vars := [(0, 46, [.data (.sl (.int .i64)), .data (.int .i64)])], arrs := [] },
    tw := fun x => keep_Src_Pick x.1 x.2.1 x.2.2 }
noncomputable def cx_keep_Src_Pick : Cx := { Γ := types, ow := [], fs := [fn_keep_Src_N], N := 12 }
theorem ok_keep_Src_Pick : FunOk Tryd.prog fn_keep_Src_Pick :=
  FunOk.intro (C := cx_keep_Src_Pick) (p := .nil)
    Tryd.func23 rfl nmr23 rfl rfl rfl rfl types_ok ⟨⟨ok_keep_Src_N, trivial⟩, trivial⟩ mx (fun x => by kernel_rfl)

noncomputable def keep_Src_Product (n : Int) (s : List Int) (s2 : Int) : Option ((List UInt8 × Int × Int × Int × Int) × List Int × Int) :=
  (keep_name [112] n).bind fun r =>
  (keep_Src_Range 400 1200 s s2).bind fun r2 =>
  (keep_Src_Pick [0, 830, 2000, 1] r2.2.1 r2.2.2).bind fun r3 =>
  (keep_Src_Pick [0, 800, 5000, 3] r3.2.1 r3.2.2).bind fun r4 =>
  (keep_Src_Pick [1, 700, 1000, 1300, 2000] r4.2.1 r4.2.2).bind fun r5 =>
  some ((r, (r2.1, (r3.1, (r4.1, r5.1)))), r5.2.1, r5.2.2)

noncomputable def fn_keep_Src_Product : Fun :=
  { f := 19, np := 2, nr := 1,
    ji := { regs := [(0, .one (.ptr 0 0)), (1, .one (.data (.int .i64)))], vars := [(0, 46, [.data (.sl (.int .i64)), .data (.int .i64)])], arrs := [] },
    jo := { regs := [(0, .one (.data (.pair (.str) (.pair (.int .i64) (.pair (.int .i64) (.pair (.int .i64) (.int .i64)))))))], vars := [(0, 46, [.data (.sl (.int .i64)), .data (.int .i64)])], arrs := [] },
    tw := fun x => keep_Src_Product x.1 x.2.1 x.2.2 }
noncomputable def cx_keep_Src_Product : Cx := { Γ := types, ow := [], fs := [fn_keep_name, fn_keep_Src_Range, fn_keep_Src_Pick], N := 19 }
theorem ok_keep_Src_Product : FunOk Tryd.prog fn_keep_Src_Product :=
  FunOk.intro (C := cx_keep_Src_Product) (p := .nil)
    Tryd.func19 rfl nmr19 rfl rfl rfl rfl types_ok ⟨⟨ok_keep_name, ok_keep_Src_Range, ok_keep_Src_Pick, trivial⟩, trivial⟩ mx (fun x => by kernel_rfl)

noncomputable def keep_Src_Products_L0 (i : Int) (s3 : List Int) (s4 : Int) (out : List (List UInt8 × Int × Int × Int × Int)) : Option ((Int × List Int × Int × List (List UInt8 × Int × Int × Int × Int)) ⊕ (List Int × Int × List (List UInt8 × Int × Int × Int × Int))) :=
  bif decide (0 < i) then (
   (keep_Src_Product (out.length : Int) s3 s4).bind fun r2 =>
   gd (fits (out.length + 1) 48) <|
   some (.inl (wi64 (i - 1), r2.2.1, r2.2.2, out ++ [(r2.1.1, (r2.1.2.1, (r2.1.2.2.1, (r2.1.2.2.2.1, r2.1.2.2.2.2))))])))
  else (
   some (.inr (s3, s4, out)))

noncomputable def keep_Src_Products (s : List Int) (s2 : Int) : Option (List Int × Int × List (List UInt8 × Int × Int × Int × Int)) :=
  (keep_Src_Range 1 4 s s2).bind fun r =>
  (iter (fun x => keep_Src_Products_L0 x.1 x.2.1 x.2.2.1 x.2.2.2) (r.1, r.2.1, r.2.2, [])).bind fun s5 =>
  some (s5.1, s5.2.1, s5.2.2)

noncomputable def fn_keep_Src_Products : Fun :=
  { f := 8, np := 1, nr := 1,
    ji := { regs := [(0, .one (.ptr 0 0))], vars := [(0, 46, [.data (.sl (.int .i64)), .data (.int .i64)])], arrs := [] },
    jo := { regs := [(0, .one (.own 1))], vars := [(0, 46, [.data (.sl (.int .i64)), .data (.int .i64)])], arrs := [(1, .arr 29 (.pair (.str) (.pair (.int .i64) (.pair (.int .i64) (.pair (.int .i64) (.int .i64))))))] },
    tw := fun x => keep_Src_Products x.1 x.2 }
noncomputable def cx_keep_Src_Products : Cx := { Γ := types, ow := [], fs := [fn_keep_Src_Range, fn_keep_Src_Product], N := 19 }
theorem ok_keep_Src_Products : FunOk Tryd.prog fn_keep_Src_Products :=
  FunOk.intro (C := cx_keep_Src_Products) (p := (.mk [] none .nil (.mk [] none .nil (.mk [] none (.mk [] none .nil (.mk [] none (.mk [] (some ({ regs := [(0, .one (.ptr 0 0)), (3, .one (.own 75)), (4, .one (.data (.int .i64)))], vars := [(0, 46, [.data (.sl (.int .i64)), .data (.int .i64)])], arrs := [(75, .arr 29 (.pair (.str) (.pair (.int .i64) (.pair (.int .i64) (.pair (.int .i64) (.int .i64))))))] }, [{ e := .x 0, j := { regs := [(3, .one (.own 75))], vars := [(0, 46, [.data (.sl (.int .i64)), .data (.int .i64)])], arrs := [(75, .arr 29 (.pair (.str) (.pair (.int .i64) (.pair (.int .i64) (.pair (.int .i64) (.int .i64))))))] } }])) .nil .nil) .nil)) .nil))))
    Tryd.func8 rfl nmr8 rfl rfl rfl rfl types_ok ⟨⟨ok_keep_Src_Range, ok_keep_Src_Product, trivial⟩, trivial⟩ mx (fun x => by kernel_rfl)

noncomputable def keep_Src_Text (l : List (List UInt8)) (s : List Int) (s2 : Int) : Option (List UInt8 × List Int × Int) :=
  (keep_Src_N (l.length : Int) s s2).bind fun r =>
  gd (inB r.1 l.length) <|
  some (l.getD r.1.toNat [], r.2.1, r.2.2)

noncomputable def fn_keep_Src_Text : Fun :=
  { f := 22, np := 2, nr := 1,
    ji := { regs := [(0, .one (.ptr 0 0)), (1, .one (.data (.sl (.str))))], vars := [(0, 46, [.data (.sl (.int .i64)), .data (.int .i64)])], arrs := [] },
    jo := { regs := [(0, .one (.data (.str)))], vars := [(0, 46, [.data (.sl (.int .i64)), .data (.int .i64)])], arrs := [] },
    tw := fun x => keep_Src_Text x.1 x.2.1 x.2.2 }
noncomputable def cx_keep_Src_Text : Cx := { Γ := types, ow := [], fs := [fn_keep_Src_N], N := 12 }
theorem ok_keep_Src_Text : FunOk Tryd.prog fn_keep_Src_Text :=
  FunOk.intro (C := cx_keep_Src_Text) (p := .nil)
    Tryd.func22 rfl nmr22 rfl rfl rfl rfl types_ok ⟨⟨ok_keep_Src_N, trivial⟩, trivial⟩ mx (fun x => by kernel_rfl)

noncomputable def keep_Src_Odd (p : List UInt8 × Int × Int × Int × Int) (s : List Int) (s2 : Int) : Option ((List UInt8 × Int × Int × Int × Int) × List Int × Int) :=
  (keep_Src_N 5 s s2).bind fun r =>
  Option.bind (α := List UInt8 × Int × Int × Int × Int × List Int × Int) (
    bif decide (r.1 = 0) then (
     (keep_Src_Text ([[], [97], [65], [55, 117, 112], [97, 98, 99, 100, 101, 102, 103, 104, 105, 106, 107, 108], [97, 98, 99, 100, 101, 102, 103, 104, 105, 106, 107, 108, 109], [112, 32, 97]] : List (List UInt8)) r.2.1 r.2.2).bind fun r2 =>
     some (r2.1, p.2.1, p.2.2.1, p.2.2.2.1, p.2.2.2.2, r2.2.1, r2.2.2))
    else (
     Option.bind (α := Int × Int × Int × Int × List Int × Int) (
       bif decide (r.1 = 1) then (
        (keep_Src_Pick [399, 400, 1200, 1201, (-9223372036854775808)] r.2.1 r.2.2).bind fun r3 =>
        some (r3.1, p.2.2.1, p.2.2.2.1, p.2.2.2.2, r3.2.1, r3.2.2))
       else (
        Option.bind (α := Int × Int × Int × List Int × Int) (
          bif decide (r.1 = 2) then (
           (keep_Src_Pick [(-1), 0, 2000, 2001, 4611686018427387904] r.2.1 r.2.2).bind fun r4 =>
           some (r4.1, p.2.2.2.1, p.2.2.2.2, r4.2.1, r4.2.2))
          else (
           Option.bind (α := Int × Int × List Int × Int) (
             bif decide (r.1 = 3) then (
              (keep_Src_Pick [(-1), 0, 5000, 5001] r.2.1 r.2.2).bind fun r5 =>
              some (r5.1, p.2.2.2.2, r5.2.1, r5.2.2))
             else (
              (keep_Src_Pick [0, 1, 2000, 2001, (-5)] r.2.1 r.2.2).bind fun r6 =>
              some (p.2.2.2.1, r6.1, r6.2.1, r6.2.2))) fun s3 =>
           some (p.2.2.1, s3.1, s3.2.1, s3.2.2.1, s3.2.2.2))) fun s4 =>
        some (p.2.1, s4.1, s4.2.1, s4.2.2.1, s4.2.2.2.1, s4.2.2.2.2))) fun s5 =>
     some (p.1, s5.1, s5.2.1, s5.2.2.1, s5.2.2.2.1, s5.2.2.2.2.1, s5.2.2.2.2.2))) fun s6 =>
  some ((s6.1, (s6.2.1, (s6.2.2.1, (s6.2.2.2.1, s6.2.2.2.2.1)))), s6.2.2.2.2.2.1, s6.2.2.2.2.2.2)

noncomputable def fn_keep_Src_Odd : Fun :=
  { f := 10, np := 2, nr := 1,
    ji := { regs := [(0, .one (.ptr 0 0)), (1, .one (.data (.pair (.str) (.pair (.int .i64) (.pair (.int .i64) (.pair (.int .i64) (.int .i64)))))))], vars := [(0, 46, [.data (.sl (.int .i64)), .data (.int .i64)])], arrs := [] },
    jo := { regs := [(0, .one (.data (.pair (.str) (.pair (.int .i64) (.pair (.int .i64) (.pair (.int .i64) (.int .i64)))))))], vars := [(0, 46, [.data (.sl (.int .i64)), .data (.int .i64)])], arrs := [] },
    tw := fun x => keep_Src_Odd x.1 x.2.1 x.2.2 }
noncomputable def cx_keep_Src_Odd : Cx := { Γ := types, ow := [], fs := [fn_keep_Src_N, fn_keep_Src_Text, fn_keep_Src_Pick], N := 36 }
theorem ok_keep_Src_Odd : FunOk Tryd.prog fn_keep_Src_Odd :=
  FunOk.intro (C := cx_keep_Src_Odd) (p := (.mk [] none .nil (.mk [] none (.mk [] none .nil (.mk [] none (.mk [] none .nil (.mk [.join [{ e := .n, j := { regs := [(3, .one (.ptr 64 0)), (4, .one (.ptr 80 0))], vars := [(64, 29, [.data (.str), .data (.int .i64), .data (.int .i64), .data (.int .i64), .data (.int .i64)]), (80, 29, [.keep, .keep, .keep, .keep, .keep]), (0, 46, [.data (.sl (.int .i64)), .data (.int .i64)])], arrs := [] } }]] none .nil (.mk [] none .nil (.mk [.join [{ e := .n, j := { regs := [(3, .one (.ptr 64 0)), (4, .one (.ptr 80 0))], vars := [(64, 29, [.keep, .data (.int .i64), .data (.int .i64), .data (.int .i64), .data (.int .i64)]), (80, 29, [.keep, .keep, .keep, .keep, .keep]), (0, 46, [.data (.sl (.int .i64)), .data (.int .i64)])], arrs := [] } }]] none .nil (.mk [] none .nil (.mk [.join [{ e := .n, j := { regs := [(3, .one (.ptr 64 0)), (4, .one (.ptr 80 0))], vars := [(64, 29, [.keep, .keep, .data (.int .i64), .data (.int .i64), .data (.int .i64)]), (80, 29, [.keep, .keep, .keep, .keep, .keep]), (0, 46, [.data (.sl (.int .i64)), .data (.int .i64)])], arrs := [] } }]] none .nil (.mk [] none .nil (.mk [.join [{ e := .n, j := { regs := [(3, .one (.ptr 64 0)), (4, .one (.ptr 80 0))], vars := [(64, 29, [.keep, .keep, .keep, .data (.int .i64), .data (.int .i64)]), (80, 29, [.keep, .keep, .keep, .keep, .keep]), (0, 46, [.data (.sl (.int .i64)), .data (.int .i64)])], arrs := [] } }]] none .nil .nil)))))))) .nil)) .nil)))
    Tryd.func10 rfl nmr10 rfl rfl rfl rfl types_ok ⟨⟨ok_keep_Src_N, ok_keep_Src_Text, ok_keep_Src_Pick, trivial⟩, trivial⟩ mx (fun x => by kernel_rfl)

noncomputable def product_numbers (p : List UInt8 × Int × Int × Int × Int) : Option (Int × Int × Int × Int) :=
  some (p.2.1, (p.2.2.1, (p.2.2.2.1, p.2.2.2.2)))

noncomputable def fn_product_numbers : Fun :=
  { f := 24, np := 1, nr := 1,
    ji := { regs := [(0, .one (.data (.pair (.str) (.pair (.int .i64) (.pair (.int .i64) (.pair (.int .i64) (.int .i64)))))))], vars := [], arrs := [] },
    jo := { regs := [(0, .one (.data (.pair (.int .i64) (.pair (.int .i64) (.pair (.int .i64) (.int .i64))))))], vars := [], arrs := [] },
    tw := fun x => product_numbers x }
noncomputable def cx_product_numbers : Cx := { Γ := types, ow := [], fs := [], N := 12 }
theorem ok_product_numbers : FunOk Tryd.prog fn_product_numbers :=
  FunOk.intro (C := cx_product_numbers) (p := .nil)
    Tryd.func24 rfl nmr24 rfl rfl rfl rfl types_ok ⟨trivial, trivial⟩ mx (fun x => by kernel_rfl)

noncomputable def lines_place (c : Int) : Option (Int) :=
  Option.bind (α := Unit ⊕ Unit ⊕ Int) (
    Option.bind (α := Bool) (
      bif decide (97 ≤ c) then (
       some (decide (c ≤ 122)))
      else (
       some false)) fun s =>
    bif s then (
     some (.inr (.inr 1)))
    else (
     Option.bind (α := Bool) (
       bif decide (48 ≤ c) then (
        some (decide (c ≤ 57)))
       else (
        some false)) fun s2 =>
     bif s2 then (
      some (.inl ()))
     else (
      bif decide (c = 45) then (
       some (.inl ()))
      else (
       some (.inr (.inl ())))))) fun s3 =>
  s3.elim (fun s4 =>
   some 2)
  (fun s5 =>
   s5.elim (fun s6 =>
    some 0)
   (fun s7 =>
    some s7))

noncomputable def fn_lines_place : Fun :=
  { f := 33, np := 1, nr := 1,
    ji := { regs := [(0, .one (.data (.int .u8)))], vars := [], arrs := [] },
    jo := { regs := [(0, .one (.data (.int .i64)))], vars := [], arrs := [] },
    tw := fun x => lines_place x }
noncomputable def cx_lines_place : Cx := { Γ := types, ow := [], fs := [], N := 20 }
theorem ok_lines_place : FunOk Tryd.prog fn_lines_place :=
  FunOk.intro (C := cx_lines_place) (p := (.mk [] none .nil (.mk [] none (.mk [] none (.mk [] none (.mk [.join [{ e := .n, j := { regs := [], vars := [], arrs := [] } }, { e := .x 0, j := { regs := [], vars := [], arrs := [] } }, { e := .r, j := { regs := [(2, .one (.data (.int .i64)))], vars := [], arrs := [] } }]] none (.mk [] none (.mk [] none (.mk [] none (.mk [] none (.mk [] none (.mk [] none (.mk [.join [{ e := .n, j := { regs := [(0, .one .keep), (3, .one (.data (.bool)))], vars := [], arrs := [] } }]] none .nil .nil) .nil) (.mk [] none (.mk [] none (.mk [.join [{ e := .n, j := { regs := [(0, .one .keep), (10, .one (.data (.bool)))], vars := [], arrs := [] } }]] none .nil .nil) .nil) .nil)) .nil) .nil) .nil) .nil) .nil) .nil) .nil) .nil)))
    Tryd.func33 rfl nmr33 rfl rfl rfl rfl types_ok ⟨trivial, trivial⟩ mx (fun x => by kernel_rfl)

noncomputable def lines_Name_L0 (s : List UInt8) (v : Int) : Option (Int ⊕ (Unit ⊕ Bool)) :=
  bif decide (v < (s.length : Int)) then (
   gd (inB v s.length) <|
   (lines_place (Int.ofNat (s.getD v.toNat 0).toNat)).bind fun r2 =>
   bif decide (r2 = 0) then (
    some (.inr (.inr false)))
   else (
    some (.inl (wi64 (v + 1)))))
  else (
   some (.inr (.inl ())))

noncomputable def lines_Name (s : List UInt8) : Option (Bool) :=
  Option.bind (α := Bool) (
    bif decide ((s.length : Int) < 1) then (
     some true)
    else (
     bif decide (12 < (s.length : Int)) then (
      some true)
     else (
      gd (inB 0 s.length) <|
      (lines_place (Int.ofNat (s.getD 0 0).toNat)).bind fun r =>
      some (!decide (r = 1))))) fun s2 =>
  bif s2 then (
   some false)
  else (
   (iter (fun x => lines_Name_L0 s x) 0).bind fun s3 =>
   s3.elim (fun s4 =>
    some true)
   (fun s5 =>
    some s5))

noncomputable def fn_lines_Name : Fun :=
  { f := 25, np := 1, nr := 1,
    ji := { regs := [(0, .one (.data (.str)))], vars := [], arrs := [] },
    jo := { regs := [(0, .one (.data (.bool)))], vars := [], arrs := [] },
    tw := fun x => lines_Name x }
noncomputable def cx_lines_Name : Cx := { Γ := types, ow := [], fs := [fn_lines_place], N := 29 }
theorem ok_lines_Name : FunOk Tryd.prog fn_lines_Name :=
  FunOk.intro (C := cx_lines_Name) (p := (.mk [] none .nil (.mk [] none (.mk [] none (.mk [.join [{ e := .n, j := { regs := [(0, .one .keep), (17, .one (.data (.bool)))], vars := [], arrs := [] } }]] none .nil .nil) .nil) (.mk [] none (.mk [] none .nil (.mk [] none (.mk [] (some ({ regs := [(0, .one .keep), (19, .one .keep), (20, .one (.data (.int .i64)))], vars := [], arrs := [] }, [{ e := .x 0, j := { regs := [], vars := [], arrs := [] } }, { e := .r, j := { regs := [(2, .one (.data (.bool)))], vars := [], arrs := [] } }])) .nil .nil) .nil)) .nil))))
    Tryd.func25 rfl nmr25 rfl rfl rfl rfl types_ok ⟨⟨ok_lines_place, trivial⟩, trivial⟩ mx (fun x => by kernel_rfl)

noncomputable def product_Valid_L0 (r : Int × Int × Int × Int) (v : Int) : Option (Int ⊕ (Unit ⊕ Bool)) :=
  bif decide (v < 4) then (
   gd (inB v 4) <|
   Option.bind (α := Bool) (
     gd (inB v 4) <|
     bif decide ([r.1, r.2.1, r.2.2.1, r.2.2.2].getD v.toNat 0 < ([((400 : Int), (1200 : Int)), ((0 : Int), (2000 : Int)), ((0 : Int), (5000 : Int)), ((1 : Int), (2000 : Int))].getD v.toNat (0, 0)).1) then (
      some true)
     else (
      gd (inB v 4) <|
      some (decide (([((400 : Int), (1200 : Int)), ((0 : Int), (2000 : Int)), ((0 : Int), (5000 : Int)), ((1 : Int), (2000 : Int))].getD v.toNat (0, 0)).2 < [r.1, r.2.1, r.2.2.1, r.2.2.2].getD v.toNat 0)))) fun s =>
   bif s then (
    some (.inr (.inr false)))
   else (
    some (.inl (wi64 (v + 1)))))
  else (
   some (.inr (.inl ())))

noncomputable def product_Valid (p : List UInt8 × Int × Int × Int × Int) : Option (Bool) :=
  (product_numbers (p.1, (p.2.1, (p.2.2.1, (p.2.2.2.1, p.2.2.2.2))))).bind fun r =>
  (iter (fun x => product_Valid_L0 r x) 0).bind fun s2 =>
  s2.elim (fun s3 =>
   (lines_Name p.1).bind fun r2 =>
   some r2)
  (fun s4 =>
   some s4)

noncomputable def fn_product_Valid : Fun :=
  { f := 11, np := 1, nr := 1,
    ji := { regs := [(0, .one (.data (.pair (.str) (.pair (.int .i64) (.pair (.int .i64) (.pair (.int .i64) (.int .i64)))))))], vars := [], arrs := [] },
    jo := { regs := [(0, .one (.data (.bool)))], vars := [], arrs := [] },
    tw := fun x => product_Valid x }
noncomputable def cx_product_Valid : Cx := { Γ := types, ow := [], fs := [fn_product_numbers, fn_lines_Name], N := 31 }
theorem ok_product_Valid : FunOk Tryd.prog fn_product_Valid :=
  FunOk.intro (C := cx_product_Valid) (p := (.mk [] none .nil (.mk [] none .nil (.mk [] none (.mk [] none .nil (.mk [] none (.mk [] (some ({ regs := [(1, .one (.ptr 32 0)), (3, .one (.ptr 64 0)), (8, .one .keep), (9, .one (.data (.int .i64)))], vars := [(32, 29, [.keep, .keep, .keep, .keep, .keep]), (64, 52, [.keep, .keep, .keep, .keep])], arrs := [] }, [{ e := .x 0, j := { regs := [(1, .one (.ptr 32 0))], vars := [(32, 29, [.keep, .keep, .keep, .keep, .keep])], arrs := [] } }, { e := .r, j := { regs := [(2, .one (.data (.bool)))], vars := [], arrs := [] } }])) (.mk [] none .nil (.mk [] none .nil (.mk [] none (.mk [] none (.mk [] none .nil (.mk [] none (.mk [.join [{ e := .n, j := { regs := [(1, .one (.ptr 32 0)), (3, .one (.ptr 64 0)), (8, .one .keep), (9, .one .keep), (26, .one (.data (.bool)))], vars := [(32, 29, [.keep, .keep, .keep, .keep, .keep]), (64, 52, [.keep, .keep, .keep, .keep])], arrs := [] } }]] none .nil .nil) .nil)) .nil) .nil))) .nil) .nil)) .nil))))
    Tryd.func11 rfl nmr11 rfl rfl rfl rfl types_ok ⟨⟨ok_product_numbers, ok_lines_Name, trivial⟩, trivial⟩ mx (fun x => by kernel_rfl)

noncomputable def product_Find_1 (p : List UInt8 × Int × Int × Int × Int) (v : List UInt8) : Option (Bool) :=
  some (decide (p.1 = v))

noncomputable def fn_product_Find_1 : Fun :=
  { f := 31, np := 2, nr := 1,
    ji := { regs := [(0, .one (.data (.pair (.str) (.pair (.int .i64) (.pair (.int .i64) (.pair (.int .i64) (.int .i64))))))), (1, .one (.sel (.str)))], vars := [], arrs := [] },
    jo := { regs := [(0, .one (.data (.bool)))], vars := [], arrs := [] },
    tw := fun x => product_Find_1 x.1 x.2 }
noncomputable def cx_product_Find_1 : Cx := { Γ := types, ow := [], fs := [], N := 8 }
theorem ok_product_Find_1 : FunOk Tryd.prog fn_product_Find_1 :=
  FunOk.intro (C := cx_product_Find_1) (p := .nil)
    Tryd.func31 rfl nmr31 rfl rfl rfl rfl types_ok ⟨trivial, trivial⟩ mx (fun x => by kernel_rfl)

noncomputable def slices_IndexFunc_api_Product_api_Product_L0 (s : List (List UInt8 × Int × Int × Int × Int)) (f : (List UInt8 × Int × Int × Int × Int) × Unit → Option Bool) (v : Int) : Option (Int ⊕ (Unit ⊕ Int)) :=
  bif decide (v < (s.length : Int)) then (
   gd (inB v s.length) <|
   (f (s.getD v.toNat ([], (0, (0, (0, 0)))), ())).bind fun r =>
   bif r then (
    some (.inr (.inr v)))
   else (
    some (.inl (wi64 (v + 1)))))
  else (
   some (.inr (.inl ())))

noncomputable def slices_IndexFunc_api_Product_api_Product (s : List (List UInt8 × Int × Int × Int × Int)) (f : (List UInt8 × Int × Int × Int × Int) × Unit → Option Bool) : Option (Int) :=
  (iter (fun x => slices_IndexFunc_api_Product_api_Product_L0 s f x) 0).bind fun s2 =>
  s2.elim (fun s3 =>
   some (-1))
  (fun s4 =>
   some s4)

noncomputable def fn_slices_IndexFunc_api_Product_api_Product : Fun :=
  { f := 30, np := 2, nr := 1,
    ji := { regs := [(0, .one (.data (.sl (.pair (.str) (.pair (.int .i64) (.pair (.int .i64) (.pair (.int .i64) (.int .i64)))))))), (1, .one (.fn [.pair (.str) (.pair (.int .i64) (.pair (.int .i64) (.pair (.int .i64) (.int .i64))))] (.bool)))], vars := [], arrs := [] },
    jo := { regs := [(0, .one (.data (.int .i64)))], vars := [], arrs := [] },
    tw := fun x => slices_IndexFunc_api_Product_api_Product x.1 x.2 }
noncomputable def cx_slices_IndexFunc_api_Product_api_Product : Cx := { Γ := types, ow := [], fs := [], N := 19 }
theorem ok_slices_IndexFunc_api_Product_api_Product : FunOk Tryd.prog fn_slices_IndexFunc_api_Product_api_Product :=
  FunOk.intro (C := cx_slices_IndexFunc_api_Product_api_Product) (p := (.mk [] none .nil (.mk [] none (.mk [] none .nil (.mk [] none (.mk [] (some ({ regs := [(0, .one .keep), (1, .one .keep), (7, .one .keep), (8, .one (.data (.int .i64)))], vars := [], arrs := [] }, [{ e := .x 0, j := { regs := [], vars := [], arrs := [] } }, { e := .r, j := { regs := [(4, .one (.data (.int .i64)))], vars := [], arrs := [] } }])) .nil .nil) .nil)) .nil)))
    Tryd.func30 rfl nmr30 rfl rfl rfl rfl types_ok ⟨trivial, trivial⟩ mx (fun x => by kernel_rfl)

noncomputable def product_Find (l : List (List UInt8 × Int × Int × Int × Int)) (name : List UInt8) : Option (Int) :=
  (slices_IndexFunc_api_Product_api_Product l (fun h => (product_Find_1 h.1 name).bind fun y => some y)).bind fun r =>
  some r

noncomputable def fn_product_Find : Fun :=
  { f := 17, np := 2, nr := 1,
    ji := { regs := [(0, .one (.data (.sl (.pair (.str) (.pair (.int .i64) (.pair (.int .i64) (.pair (.int .i64) (.int .i64)))))))), (1, .one (.data (.str)))], vars := [], arrs := [] },
    jo := { regs := [(0, .one (.data (.int .i64)))], vars := [], arrs := [] },
    tw := fun x => product_Find x.1 x.2 }
noncomputable def cx_product_Find : Cx := { Γ := types, ow := [], fs := [fn_slices_IndexFunc_api_Product_api_Product, fn_product_Find_1], N := 8 }
theorem ok_product_Find : FunOk Tryd.prog fn_product_Find :=
  FunOk.intro (C := cx_product_Find) (p := (.mk [] none .nil (.mk [] none (.mk [.fv [(3, .str)]] none .nil .nil) .nil)))
    Tryd.func17 rfl nmr17 rfl rfl rfl rfl types_ok ⟨⟨ok_slices_IndexFunc_api_Product_api_Product, ok_product_Find_1, trivial⟩, trivial⟩ mx (fun x => by kernel_rfl)

noncomputable def product_Check_L0 (l : List (List UInt8 × Int × Int × Int × Int)) (v : Int) : Option (Int ⊕ (Unit ⊕ Int)) :=
  bif decide (v < (l.length : Int)) then (
   gd (inB v l.length) <|
   (product_Valid ((l.getD v.toNat ([], (0, (0, (0, 0))))).1, (((l.getD v.toNat ([], (0, (0, (0, 0))))).2).1, ((((l.getD v.toNat ([], (0, (0, (0, 0))))).2).2).1, (((((l.getD v.toNat ([], (0, (0, (0, 0))))).2).2).2).1, ((((l.getD v.toNat ([], (0, (0, (0, 0))))).2).2).2).2))))).bind fun r =>
   bif !r then (
    some (.inr (.inr 9)))
   else (
    some (.inl (wi64 (v + 1)))))
  else (
   some (.inr (.inl ())))

noncomputable def product_Check_L1 (l : List (List UInt8 × Int × Int × Int × Int)) (v2 : Int) : Option (Int ⊕ (Unit ⊕ Int)) :=
  bif decide (v2 < (l.length : Int)) then (
   gd (inB v2 l.length) <|
   (product_Find l ((l.getD v2.toNat ([], (0, (0, (0, 0))))).1)).bind fun r2 =>
   bif decide (r2 < v2) then (
    some (.inr (.inr 7)))
   else (
    some (.inl (wi64 (v2 + 1)))))
  else (
   some (.inr (.inl ())))

noncomputable def product_Check (l : List (List UInt8 × Int × Int × Int × Int)) : Option (Int) :=
  bif decide (16 < (l.length : Int)) then (
   some 4)
  else (
   (iter (fun x => product_Check_L0 l x) 0).bind fun s =>
   s.elim (fun s2 =>
    (iter (fun x2 => product_Check_L1 l x2) 0).bind fun s4 =>
    s4.elim (fun s5 =>
     some 0)
    (fun s6 =>
     some s6))
   (fun s3 =>
    some s3))

noncomputable def fn_product_Check : Fun :=
  { f := 12, np := 1, nr := 1,
    ji := { regs := [(0, .one (.data (.sl (.pair (.str) (.pair (.int .i64) (.pair (.int .i64) (.pair (.int .i64) (.int .i64))))))))], vars := [], arrs := [] },
    jo := { regs := [(0, .one (.data (.int .i64)))], vars := [], arrs := [] },
    tw := fun x => product_Check x }
noncomputable def cx_product_Check : Cx := { Γ := types, ow := [], fs := [fn_product_Valid, fn_product_Find], N := 34 }
theorem ok_product_Check : FunOk Tryd.prog fn_product_Check :=
  FunOk.intro (C := cx_product_Check) (p := (.mk [] none .nil (.mk [] none .nil (.mk [] none (.mk [] none .nil (.mk [] none (.mk [] (some ({ regs := [(0, .one .keep), (10, .one .keep), (11, .one .keep), (12, .one (.data (.int .i64)))], vars := [], arrs := [] }, [{ e := .x 0, j := { regs := [(0, .one .keep)], vars := [], arrs := [] } }, { e := .r, j := { regs := [(2, .one (.data (.int .i64)))], vars := [], arrs := [] } }])) .nil .nil) .nil)) (.mk [] none (.mk [] none .nil (.mk [] none (.mk [] (some ({ regs := [(0, .one .keep), (20, .one .keep), (21, .one .keep), (22, .one (.data (.int .i64)))], vars := [], arrs := [] }, [{ e := .x 2, j := { regs := [], vars := [], arrs := [] } }, { e := .r, j := { regs := [(2, .one (.data (.int .i64)))], vars := [], arrs := [] } }])) .nil .nil) .nil)) .nil)))))
    Tryd.func12 rfl nmr12 rfl rfl rfl rfl types_ok ⟨⟨ok_product_Valid, ok_product_Find, trivial⟩, trivial⟩ mx (fun x => by kernel_rfl)

noncomputable def internal_stringslite_IndexByte (s : List UInt8) (c : Int) : Option (Int) :=
  (idxB s c).bind fun r =>
  some r

noncomputable def fn_internal_stringslite_IndexByte : Fun :=
  { f := 74, np := 2, nr := 1,
    ji := { regs := [(0, .one (.data (.str))), (1, .one (.data (.int .u8)))], vars := [], arrs := [] },
    jo := { regs := [(0, .one (.data (.int .i64)))], vars := [], arrs := [] },
    tw := fun x => internal_stringslite_IndexByte x.1 x.2 }
noncomputable def cx_internal_stringslite_IndexByte : Cx := { Γ := types, ow := [], fs := [], xs := [xt87], N := 8 }
theorem ok_internal_stringslite_IndexByte : FunOk Tryd.prog fn_internal_stringslite_IndexByte :=
  FunOk.intro (C := cx_internal_stringslite_IndexByte) (p := .nil)
    Tryd.func74 rfl nmr74 rfl rfl rfl rfl types_ok ⟨trivial, ⟨xk87, trivial⟩⟩ mx (fun x => by kernel_rfl)

noncomputable def internal_stringslite_Index (s : List UInt8) (substr : List UInt8) : Option (Int) :=
  Option.bind (α := Bool) (
    bif decide ((substr.length : Int) = 0) then (
     some true)
    else (
     some (decide (substr = s)))) fun s2 =>
  bif s2 then (
   some 0)
  else (
   bif decide ((substr.length : Int) = 1) then (
    gd (inB 0 substr.length) <|
    (internal_stringslite_IndexByte s (Int.ofNat (substr.getD 0 0).toNat)).bind fun r =>
    some r)
   else (
    bif decide ((s.length : Int) ≤ (substr.length : Int)) then (
     some (-1))
    else (
     none)))

noncomputable def fn_internal_stringslite_Index : Fun :=
  { f := 63, np := 2, nr := 1,
    ji := { regs := [(0, .one (.data (.str))), (1, .one (.data (.str)))], vars := [], arrs := [] },
    jo := { regs := [(0, .one (.data (.int .i64)))], vars := [], arrs := [] },
    tw := fun x => internal_stringslite_Index x.1 x.2 }
noncomputable def cx_internal_stringslite_Index : Cx := { Γ := types, ow := [], fs := [fn_internal_stringslite_IndexByte], N := 143 }
theorem ok_internal_stringslite_Index : FunOk Tryd.prog fn_internal_stringslite_Index :=
  FunOk.intro (C := cx_internal_stringslite_Index) (p := (.mk [] none .nil (.mk [] none .nil (.mk [] none (.mk [] none (.mk [] none (.mk [.join [{ e := .n, j := { regs := [(0, .one .keep), (1, .one .keep), (5, .one .keep), (16, .one (.data (.bool)))], vars := [], arrs := [] } }]] none .nil .nil) .nil) .nil) .nil))))
    Tryd.func63 rfl nmr63 rfl rfl rfl rfl types_ok ⟨⟨ok_internal_stringslite_IndexByte, trivial⟩, trivial⟩ mx (fun x => by kernel_rfl)

noncomputable def strings_Index (s : List UInt8) (substr : List UInt8) : Option (Int) :=
  (internal_stringslite_Index s substr).bind fun r =>
  some r

noncomputable def fn_strings_Index : Fun :=
  { f := 51, np := 2, nr := 1,
    ji := { regs := [(0, .one (.data (.str))), (1, .one (.data (.str)))], vars := [], arrs := [] },
    jo := { regs := [(0, .one (.data (.int .i64)))], vars := [], arrs := [] },
    tw := fun x => strings_Index x.1 x.2 }
noncomputable def cx_strings_Index : Cx := { Γ := types, ow := [], fs := [fn_internal_stringslite_Index], N := 8 }
theorem ok_strings_Index : FunOk Tryd.prog fn_strings_Index :=
  FunOk.intro (C := cx_strings_Index) (p := .nil)
    Tryd.func51 rfl nmr51 rfl rfl rfl rfl types_ok ⟨⟨ok_internal_stringslite_Index, trivial⟩, trivial⟩ mx (fun x => by kernel_rfl)

noncomputable def strings_Count_L0 (substr : List UInt8) (s2 : List UInt8) (n : Int) : Option ((List UInt8 × Int) ⊕ Int) :=
  (strings_Index s2 substr).bind fun r2 =>
  bif decide (r2 = (-1)) then (
   some (.inr n))
  else (
   gd (cutG (some (.i64, wi64 (r2 + (substr.length : Int)))) none s2.length) <|
   some (.inl (s2.drop (wi64 (r2 + (substr.length : Int))).toNat, wi64 (n + 1))))

noncomputable def strings_Count (s : List UInt8) (substr : List UInt8) : Option (Int) :=
  bif decide ((substr.length : Int) = 0) then (
   none)
  else (
   bif decide ((substr.length : Int) = 1) then (
    gd (inB 0 substr.length) <|
    (cntB s (Int.ofNat (substr.getD 0 0).toNat)).bind fun r =>
    some r)
   else (
    (iter (fun x => strings_Count_L0 substr x.1 x.2) (s, 0)).bind fun s3 =>
    some s3))

noncomputable def fn_strings_Count : Fun :=
  { f := 40, np := 2, nr := 1,
    ji := { regs := [(0, .one (.data (.str))), (1, .one (.data (.str)))], vars := [], arrs := [] },
    jo := { regs := [(0, .one (.data (.int .i64)))], vars := [], arrs := [] },
    tw := fun x => strings_Count x.1 x.2 }
noncomputable def cx_strings_Count : Cx := { Γ := types, ow := [], fs := [fn_strings_Index], xs := [xt50], N := 34 }
theorem ok_strings_Count : FunOk Tryd.prog fn_strings_Count :=
  FunOk.intro (C := cx_strings_Count) (p := (.mk [] none .nil (.mk [] none .nil (.mk [] none .nil (.mk [] none .nil (.mk [] none (.mk [] (some ({ regs := [(0, .one (.data (.str))), (1, .one .keep), (5, .one (.data (.int .i64)))], vars := [], arrs := [] }, [{ e := .r, j := { regs := [(4, .one (.data (.int .i64)))], vars := [], arrs := [] } }])) .nil .nil) .nil))))))
    Tryd.func40 rfl nmr40 rfl rfl rfl rfl types_ok ⟨⟨ok_strings_Index, trivial⟩, ⟨xk50, trivial⟩⟩ mx (fun x => by kernel_rfl)

noncomputable def internal_stringslite_HasSuffix (s : List UInt8) (suffix : List UInt8) : Option (Bool) :=
  bif decide ((suffix.length : Int) ≤ (s.length : Int)) then (
   gd (cutG (some (.i64, wi64 ((s.length : Int) - (suffix.length : Int)))) none s.length) <|
   some (decide (s.drop (wi64 ((s.length : Int) - (suffix.length : Int))).toNat = suffix)))
  else (
   some false)

noncomputable def fn_internal_stringslite_HasSuffix : Fun :=
  { f := 52, np := 2, nr := 1,
    ji := { regs := [(0, .one (.data (.str))), (1, .one (.data (.str)))], vars := [], arrs := [] },
    jo := { regs := [(0, .one (.data (.bool)))], vars := [], arrs := [] },
    tw := fun x => internal_stringslite_HasSuffix x.1 x.2 }
noncomputable def cx_internal_stringslite_HasSuffix : Cx := { Γ := types, ow := [], fs := [], N := 21 }
theorem ok_internal_stringslite_HasSuffix : FunOk Tryd.prog fn_internal_stringslite_HasSuffix :=
  FunOk.intro (C := cx_internal_stringslite_HasSuffix) (p := .nil)
    Tryd.func52 rfl nmr52 rfl rfl rfl rfl types_ok ⟨trivial, trivial⟩ mx (fun x => by kernel_rfl)

noncomputable def strings_HasSuffix (s : List UInt8) (suffix : List UInt8) : Option (Bool) :=
  (internal_stringslite_HasSuffix s suffix).bind fun r =>
  some r

noncomputable def fn_strings_HasSuffix : Fun :=
  { f := 41, np := 2, nr := 1,
    ji := { regs := [(0, .one (.data (.str))), (1, .one (.data (.str)))], vars := [], arrs := [] },
    jo := { regs := [(0, .one (.data (.bool)))], vars := [], arrs := [] },
    tw := fun x => strings_HasSuffix x.1 x.2 }
noncomputable def cx_strings_HasSuffix : Cx := { Γ := types, ow := [], fs := [fn_internal_stringslite_HasSuffix], N := 8 }
theorem ok_strings_HasSuffix : FunOk Tryd.prog fn_strings_HasSuffix :=
  FunOk.intro (C := cx_strings_HasSuffix) (p := .nil)
    Tryd.func41 rfl nmr41 rfl rfl rfl rfl types_ok ⟨⟨ok_internal_stringslite_HasSuffix, trivial⟩, trivial⟩ mx (fun x => by kernel_rfl)

noncomputable def internal_stringslite_Cut (s : List UInt8) (sep : List UInt8) : Option (List UInt8 × List UInt8 × Bool) :=
  (internal_stringslite_Index s sep).bind fun r =>
  bif decide (0 ≤ r) then (
   gd (cutG none (some (.i64, r)) s.length) <|
   gd (cutG (some (.i64, wi64 (r + (sep.length : Int)))) none s.length) <|
   some (s.take r.toNat, s.drop (wi64 (r + (sep.length : Int))).toNat, true))
  else (
   some (s, [], false))

noncomputable def fn_internal_stringslite_Cut : Fun :=
  { f := 53, np := 2, nr := 3,
    ji := { regs := [(0, .one (.data (.str))), (1, .one (.data (.str)))], vars := [], arrs := [] },
    jo := { regs := [(0, .one (.data (.str))), (1, .one (.data (.str))), (2, .one (.data (.bool)))], vars := [], arrs := [] },
    tw := fun x => internal_stringslite_Cut x.1 x.2 }
noncomputable def cx_internal_stringslite_Cut : Cx := { Γ := types, ow := [], fs := [fn_internal_stringslite_Index], N := 23 }
theorem ok_internal_stringslite_Cut : FunOk Tryd.prog fn_internal_stringslite_Cut :=
  FunOk.intro (C := cx_internal_stringslite_Cut) (p := .nil)
    Tryd.func53 rfl nmr53 rfl rfl rfl rfl types_ok ⟨⟨ok_internal_stringslite_Index, trivial⟩, trivial⟩ mx (fun x => by kernel_rfl)

noncomputable def strings_Cut (s : List UInt8) (sep : List UInt8) : Option (List UInt8 × List UInt8 × Bool) :=
  (internal_stringslite_Cut s sep).bind fun r =>
  some (r.1, r.2.1, r.2.2)

noncomputable def fn_strings_Cut : Fun :=
  { f := 42, np := 2, nr := 3,
    ji := { regs := [(0, .one (.data (.str))), (1, .one (.data (.str)))], vars := [], arrs := [] },
    jo := { regs := [(0, .one (.data (.str))), (1, .one (.data (.str))), (2, .one (.data (.bool)))], vars := [], arrs := [] },
    tw := fun x => strings_Cut x.1 x.2 }
noncomputable def cx_strings_Cut : Cx := { Γ := types, ow := [], fs := [fn_internal_stringslite_Cut], N := 13 }
theorem ok_strings_Cut : FunOk Tryd.prog fn_strings_Cut :=
  FunOk.intro (C := cx_strings_Cut) (p := .nil)
    Tryd.func42 rfl nmr42 rfl rfl rfl rfl types_ok ⟨⟨ok_internal_stringslite_Cut, trivial⟩, trivial⟩ mx (fun x => by kernel_rfl)

noncomputable def strings_genSplit_L0 (s : List UInt8) (sep : List UInt8) (sepSave : Int) (s2 : Int) (s3 : List UInt8) (i : Int) (a : List (List UInt8)) : Option ((List UInt8 × Int × List (List UInt8)) ⊕ (List UInt8 × Int × List (List UInt8))) :=
  bif decide (i < wi64 ((min s2 (wi64 ((s.length : Int) + 1))) - 1)) then (
   (strings_Index s3 sep).bind fun r2 =>
   bif decide (r2 < 0) then (
    some (.inr (s3, i, a)))
   else (
    gd (cutG none (some (.i64, wi64 (r2 + sepSave))) s3.length) <|
    gd (inB i a.length) <|
    gd (cutG (some (.i64, wi64 (r2 + (sep.length : Int)))) none s3.length) <|
    some (.inl (s3.drop (wi64 (r2 + (sep.length : Int))).toNat, wi64 (i + 1), a.set i.toNat (s3.take (wi64 (r2 + sepSave)).toNat)))))
  else (
   some (.inr (s3, i, a)))

noncomputable def strings_genSplit (s : List UInt8) (sep : List UInt8) (sepSave : Int) (n : Int) : Option (List (List UInt8)) :=
  bif decide (n = 0) then (
   some [])
  else (
   bif decide (sep = []) then (
    none)
   else (
    Option.bind (α := Int) (
      bif decide (n < 0) then (
       (strings_Count s sep).bind fun r =>
       some (wi64 (r + 1)))
      else (
       some n)) fun s2 =>
    gd (makeG 16 (min s2 (wi64 ((s.length : Int) + 1)))) <|
    (iter (fun x => strings_genSplit_L0 s sep sepSave s2 x.1 x.2.1 x.2.2) (s, 0, List.replicate (min s2 (wi64 ((s.length : Int) + 1))).toNat [])).bind fun s4 =>
    gd (inB s4.2.1 s4.2.2.length) <|
    gd (cutG none (some (.i64, wi64 (s4.2.1 + 1))) (s4.2.2.set s4.2.1.toNat s4.1).length) <|
    some ((s4.2.2.set s4.2.1.toNat s4.1).take (wi64 (s4.2.1 + 1)).toNat)))

noncomputable def fn_strings_genSplit : Fun :=
  { f := 54, np := 4, nr := 1,
    ji := { regs := [(0, .one (.data (.str))), (1, .one (.data (.str))), (2, .one (.data (.int .i64))), (3, .one (.data (.int .i64)))], vars := [], arrs := [] },
    jo := { regs := [(0, .one (.data (.sl (.str))))], vars := [], arrs := [] },
    tw := fun x => strings_genSplit x.1 x.2.1 x.2.2.1 x.2.2.2 }
noncomputable def cx_strings_genSplit : Cx := { Γ := types, ow := [], fs := [fn_strings_Count, fn_strings_Index], N := 66 }
theorem ok_strings_genSplit : FunOk Tryd.prog fn_strings_genSplit :=
  FunOk.intro (C := cx_strings_genSplit) (p := (.mk [] none .nil (.mk [] none .nil (.mk [] none .nil (.mk [] none (.mk [] none .nil (.mk [.join [{ e := .n, j := { regs := [(0, .one .keep), (1, .one .keep), (2, .one .keep), (3, .one (.data (.int .i64)))], vars := [], arrs := [] } }]] none .nil .nil)) (.mk [] none .nil (.mk [] none .nil (.mk [] none .nil (.mk [] none .nil (.mk [] none (.mk [] none (.mk [] (some ({ regs := [(0, .one (.data (.str))), (1, .one .keep), (2, .one .keep), (3, .one .keep), (9, .one (.own 512)), (10, .one (.data (.int .i64)))], vars := [], arrs := [(512, .arr 9 (.str))] }, [{ e := .x 0, j := { regs := [(0, .one (.data (.str))), (9, .one (.own 512)), (10, .one (.data (.int .i64)))], vars := [], arrs := [(512, .arr 9 (.str))] } }])) .nil .nil) .nil) (.mk [] none .nil (.mk [] none (.mk [.fz [9]] none .nil .nil) .nil))))))))))))
    Tryd.func54 rfl nmr54 rfl rfl rfl rfl types_ok ⟨⟨ok_strings_Count, ok_strings_Index, trivial⟩, trivial⟩ mx (fun x => by kernel_rfl)

noncomputable def strings_Split (s : List UInt8) (sep : List UInt8) : Option (List (List UInt8)) :=
  (strings_genSplit s sep 0 (-1)).bind fun r =>
  some r

noncomputable def fn_strings_Split : Fun :=
  { f := 43, np := 2, nr := 1,
    ji := { regs := [(0, .one (.data (.str))), (1, .one (.data (.str)))], vars := [], arrs := [] },
    jo := { regs := [(0, .one (.data (.sl (.str))))], vars := [], arrs := [] },
    tw := fun x => strings_Split x.1 x.2 }
noncomputable def cx_strings_Split : Cx := { Γ := types, ow := [], fs := [fn_strings_genSplit], N := 8 }
theorem ok_strings_Split : FunOk Tryd.prog fn_strings_Split :=
  FunOk.intro (C := cx_strings_Split) (p := .nil)
    Tryd.func43 rfl nmr43 rfl rfl rfl rfl types_ok ⟨⟨ok_strings_genSplit, trivial⟩, trivial⟩ mx (fun x => by kernel_rfl)

noncomputable def lines_word_L0 (s : List UInt8) (v : Int) : Option (Int ⊕ (Unit ⊕ Bool)) :=
  bif decide (v < (s.length : Int)) then (
   Option.bind (α := Bool) (
     gd (inB v s.length) <|
     bif decide ((Int.ofNat (s.getD v.toNat 0).toNat) < 33) then (
      some true)
     else (
      gd (inB v s.length) <|
      some (decide (126 < (Int.ofNat (s.getD v.toNat 0).toNat))))) fun s2 =>
   bif s2 then (
    some (.inr (.inr false)))
   else (
    some (.inl (wi64 (v + 1)))))
  else (
   some (.inr (.inl ())))

noncomputable def lines_word (s : List UInt8) : Option (Bool) :=
  (iter (fun x => lines_word_L0 s x) 0).bind fun s3 =>
  s3.elim (fun s4 =>
   some (!decide (s = [])))
  (fun s5 =>
   some s5)

noncomputable def fn_lines_word : Fun :=
  { f := 46, np := 1, nr := 1,
    ji := { regs := [(0, .one (.data (.str)))], vars := [], arrs := [] },
    jo := { regs := [(0, .one (.data (.bool)))], vars := [], arrs := [] },
    tw := fun x => lines_word x }
noncomputable def cx_lines_word : Cx := { Γ := types, ow := [], fs := [], N := 22 }
theorem ok_lines_word : FunOk Tryd.prog fn_lines_word :=
  FunOk.intro (C := cx_lines_word) (p := (.mk [] none .nil (.mk [] none (.mk [] none .nil (.mk [] none (.mk [] (some ({ regs := [(0, .one .keep), (5, .one .keep), (6, .one (.data (.int .i64)))], vars := [], arrs := [] }, [{ e := .x 0, j := { regs := [(0, .one .keep)], vars := [], arrs := [] } }, { e := .r, j := { regs := [(2, .one (.data (.bool)))], vars := [], arrs := [] } }])) (.mk [] none .nil (.mk [] none .nil (.mk [] none (.mk [] none (.mk [] none .nil (.mk [] none (.mk [.join [{ e := .n, j := { regs := [(0, .one .keep), (5, .one .keep), (6, .one .keep), (18, .one (.data (.bool)))], vars := [], arrs := [] } }]] none .nil .nil) .nil)) .nil) .nil))) .nil) .nil)) .nil)))
    Tryd.func46 rfl nmr46 rfl rfl rfl rfl types_ok ⟨trivial, trivial⟩ mx (fun x => by kernel_rfl)

noncomputable def lines_words_L0 (l : List (List UInt8)) (v : Int) : Option (Int ⊕ (Unit ⊕ Bool)) :=
  bif decide (v < (l.length : Int)) then (
   gd (inB v l.length) <|
   (lines_word (l.getD v.toNat [])).bind fun r =>
   bif !r then (
    some (.inr (.inr false)))
   else (
    some (.inl (wi64 (v + 1)))))
  else (
   some (.inr (.inl ())))

noncomputable def lines_words (l : List (List UInt8)) : Option (Bool) :=
  Option.bind (α := Bool) (
    bif decide ((l.length : Int) < 1) then (
     some true)
    else (
     some (decide (16 < (l.length : Int))))) fun s =>
  bif s then (
   some false)
  else (
   (iter (fun x => lines_words_L0 l x) 0).bind fun s2 =>
   s2.elim (fun s3 =>
    gd (inB 0 l.length) <|
    gd (inB 0 (l.getD 0 []).length) <|
    some (!decide ((Int.ofNat ((l.getD 0 []).getD 0 0).toNat) = 35)))
   (fun s4 =>
    some s4))

noncomputable def fn_lines_words : Fun :=
  { f := 35, np := 1, nr := 1,
    ji := { regs := [(0, .one (.data (.sl (.str))))], vars := [], arrs := [] },
    jo := { regs := [(0, .one (.data (.bool)))], vars := [], arrs := [] },
    tw := fun x => lines_words x }
noncomputable def cx_lines_words : Cx := { Γ := types, ow := [], fs := [fn_lines_word], N := 28 }
theorem ok_lines_words : FunOk Tryd.prog fn_lines_words :=
  FunOk.intro (C := cx_lines_words) (p := (.mk [] none .nil (.mk [] none (.mk [] none (.mk [.join [{ e := .n, j := { regs := [(0, .one .keep), (12, .one (.data (.bool)))], vars := [], arrs := [] } }]] none .nil .nil) .nil) (.mk [] none (.mk [] none .nil (.mk [] none (.mk [] (some ({ regs := [(0, .one .keep), (13, .one .keep), (14, .one .keep), (15, .one (.data (.int .i64)))], vars := [], arrs := [] }, [{ e := .x 0, j := { regs := [(0, .one .keep)], vars := [], arrs := [] } }, { e := .r, j := { regs := [(2, .one (.data (.bool)))], vars := [], arrs := [] } }])) .nil .nil) .nil)) .nil))))
    Tryd.func35 rfl nmr35 rfl rfl rfl rfl types_ok ⟨⟨ok_lines_word, trivial⟩, trivial⟩ mx (fun x => by kernel_rfl)

noncomputable def lines_Split_L0 (text2 : List UInt8) (out : List (List (List UInt8))) : Option ((List UInt8 × List (List (List UInt8))) ⊕ ((List (List (List UInt8))) ⊕ (List (List (List UInt8)) × Int))) :=
  bif !decide (text2 = []) then (
   (strings_Cut text2 [10]).bind fun r3 =>
   Option.bind (α := Bool × List (List (List UInt8))) (
     bif decide (r3.1 = []) then (
      some (true, out))
     else (
      gd (inB 0 r3.1.length) <|
      some (decide ((Int.ofNat (r3.1.getD 0 0).toNat) = 35), out))) fun s4 =>
   bif s4.1 then (
    gd (fits (s4.2.length + 1) 24) <|
    some (.inl (r3.2.1, s4.2 ++ [[]])))
   else (
    (strings_Split r3.1 [32]).bind fun r4 =>
    (lines_words r4).bind fun r5 =>
    bif !r5 then (
     some (.inr (.inr ([], 3))))
    else (
     gd (fits (s4.2.length + 1) 24) <|
     some (.inl (r3.2.1, s4.2 ++ [r4])))))
  else (
   some (.inr (.inl out)))

noncomputable def lines_Split (text : List UInt8) : Option (List (List (List UInt8)) × Int) :=
  (strings_Count text [10]).bind fun r =>
  Option.bind (α := Bool) (
    bif !decide (text = []) then (
     (strings_HasSuffix text [10]).bind fun r2 =>
     some (!r2))
    else (
     some false)) fun s =>
  Option.bind (α := Int) (
    bif s then (
     some (wi64 (r + 1)))
    else (
     some r)) fun s2 =>
  Option.bind (α := Bool) (
    bif decide (16384 < (text.length : Int)) then (
     some true)
    else (
     some (decide (400 < s2)))) fun s3 =>
  bif s3 then (
   some ([], 4))
  else (
   gd ((decide (0 ≤ 0) && decide (0 ≤ s2)) && makeG 24 s2) <|
   (iter (fun x => lines_Split_L0 x.1 x.2) (text, List.replicate 0 [])).bind fun s5 =>
   s5.elim (fun s6 =>
    some (s6, 0))
   (fun s7 =>
    some (s7.1, s7.2)))

noncomputable def fn_lines_Split : Fun :=
  { f := 28, np := 1, nr := 2,
    ji := { regs := [(0, .one (.data (.str)))], vars := [], arrs := [] },
    jo := { regs := [(0, .one (.data (.sl (.sl (.str))))), (1, .one (.data (.int .i64)))], vars := [], arrs := [] },
    tw := fun x => lines_Split x }
noncomputable def cx_lines_Split : Cx := { Γ := types, ow := [], fs := [fn_strings_Count, fn_strings_HasSuffix, fn_strings_Cut, fn_strings_Split, fn_lines_words], N := 59 }
theorem ok_lines_Split : FunOk Tryd.prog fn_lines_Split :=
  FunOk.intro (C := cx_lines_Split) (p := (.mk [] none .nil (.mk [] none .nil (.mk [] none (.mk [] none (.mk [.join [{ e := .n, j := { regs := [(0, .one .keep), (4, .one .keep), (18, .one (.data (.bool)))], vars := [], arrs := [] } }]] none .nil .nil) (.mk [.join [{ e := .n, j := { regs := [(0, .one .keep), (4, .one (.data (.int .i64)))], vars := [], arrs := [] } }]] none .nil .nil)) (.mk [] none (.mk [] none (.mk [.join [{ e := .n, j := { regs := [(0, .one .keep), (4, .one .keep), (27, .one (.data (.bool)))], vars := [], arrs := [] } }]] none .nil .nil) .nil) (.mk [] none .nil (.mk [] none (.mk [] none (.mk [] (some ({ regs := [(0, .one (.data (.str))), (5, .one (.own 107))], vars := [], arrs := [(107, .arr 42 (.sl (.str)))] }, [{ e := .x 0, j := { regs := [(5, .one (.own 107))], vars := [], arrs := [(107, .arr 42 (.sl (.str)))] } }, { e := .r, j := { regs := [(2, .one (.data (.sl (.sl (.str))))), (3, .one (.data (.int .i64)))], vars := [], arrs := [] } }])) (.mk [] none .nil (.mk [] none (.mk [] none .nil (.mk [] none .nil (.mk [] none (.mk [] none (.mk [.join [{ e := .n, j := { regs := [(0, .one .keep), (5, .one (.own 107)), (6, .one .keep), (45, .one (.data (.bool)))], vars := [], arrs := [(107, .arr 42 (.sl (.str)))] } }]] none .nil .nil) .nil) .nil))) .nil)) .nil) .nil) .nil)))))))
    Tryd.func28 rfl nmr28 rfl rfl rfl rfl types_ok ⟨⟨ok_strings_Count, ok_strings_HasSuffix, ok_strings_Cut, ok_strings_Split, ok_lines_words, trivial⟩, trivial⟩ mx (fun x => by kernel_rfl)

noncomputable def internal_stringslite_HasPrefix (s : List UInt8) (vprefix : List UInt8) : Option (Bool) :=
  bif decide ((vprefix.length : Int) ≤ (s.length : Int)) then (
   gd (cutG none (some (.i64, (vprefix.length : Int))) s.length) <|
   some (decide (s.take (vprefix.length : Int).toNat = vprefix)))
  else (
   some false)

noncomputable def fn_internal_stringslite_HasPrefix : Fun :=
  { f := 79, np := 2, nr := 1,
    ji := { regs := [(0, .one (.data (.str))), (1, .one (.data (.str)))], vars := [], arrs := [] },
    jo := { regs := [(0, .one (.data (.bool)))], vars := [], arrs := [] },
    tw := fun x => internal_stringslite_HasPrefix x.1 x.2 }
noncomputable def cx_internal_stringslite_HasPrefix : Cx := { Γ := types, ow := [], fs := [], N := 18 }
theorem ok_internal_stringslite_HasPrefix : FunOk Tryd.prog fn_internal_stringslite_HasPrefix :=
  FunOk.intro (C := cx_internal_stringslite_HasPrefix) (p := .nil)
    Tryd.func79 rfl nmr79 rfl rfl rfl rfl types_ok ⟨trivial, trivial⟩ mx (fun x => by kernel_rfl)

noncomputable def internal_stringslite_TrimPrefix (s : List UInt8) (vprefix : List UInt8) : Option (List UInt8) :=
  (internal_stringslite_HasPrefix s vprefix).bind fun r =>
  bif r then (
   gd (cutG (some (.i64, (vprefix.length : Int))) none s.length) <|
   some (s.drop (vprefix.length : Int).toNat))
  else (
   some s)

noncomputable def fn_internal_stringslite_TrimPrefix : Fun :=
  { f := 65, np := 2, nr := 1,
    ji := { regs := [(0, .one (.data (.str))), (1, .one (.data (.str)))], vars := [], arrs := [] },
    jo := { regs := [(0, .one (.data (.str)))], vars := [], arrs := [] },
    tw := fun x => internal_stringslite_TrimPrefix x.1 x.2 }
noncomputable def cx_internal_stringslite_TrimPrefix : Cx := { Γ := types, ow := [], fs := [fn_internal_stringslite_HasPrefix], N := 13 }
theorem ok_internal_stringslite_TrimPrefix : FunOk Tryd.prog fn_internal_stringslite_TrimPrefix :=
  FunOk.intro (C := cx_internal_stringslite_TrimPrefix) (p := .nil)
    Tryd.func65 rfl nmr65 rfl rfl rfl rfl types_ok ⟨⟨ok_internal_stringslite_HasPrefix, trivial⟩, trivial⟩ mx (fun x => by kernel_rfl)

noncomputable def strings_TrimPrefix (s : List UInt8) (vprefix : List UInt8) : Option (List UInt8) :=
  (internal_stringslite_TrimPrefix s vprefix).bind fun r =>
  some r

noncomputable def fn_strings_TrimPrefix : Fun :=
  { f := 55, np := 2, nr := 1,
    ji := { regs := [(0, .one (.data (.str))), (1, .one (.data (.str)))], vars := [], arrs := [] },
    jo := { regs := [(0, .one (.data (.str)))], vars := [], arrs := [] },
    tw := fun x => strings_TrimPrefix x.1 x.2 }
noncomputable def cx_strings_TrimPrefix : Cx := { Γ := types, ow := [], fs := [fn_internal_stringslite_TrimPrefix], N := 8 }
theorem ok_strings_TrimPrefix : FunOk Tryd.prog fn_strings_TrimPrefix :=
  FunOk.intro (C := cx_strings_TrimPrefix) (p := .nil)
    Tryd.func55 rfl nmr55 rfl rfl rfl rfl types_ok ⟨⟨ok_internal_stringslite_TrimPrefix, trivial⟩, trivial⟩ mx (fun x => by kernel_rfl)

noncomputable def fn_strconv_Atoi : Fun := funAtoi 56
theorem ok_strconv_Atoi : FunOk Tryd.prog fn_strconv_Atoi := atoi_ok ⟨_, Tryd.func56, nmr56, rfl⟩ Tryd.strconv_Atoi_ok Tryd.strconv_Atoi_syn Tryd.strconv_Atoi_range (by unfold globs; exact .tail _ (.tail _ (.head _))) (by unfold globs; exact .tail _ (.tail _ (.tail _ (.head _))))

noncomputable def lines_Number_L0 (r : List UInt8) (v : Int) : Option (Int ⊕ (Unit ⊕ (Int × Int))) :=
  bif decide (v < (r.length : Int)) then (
   Option.bind (α := Bool) (
     gd (inB v r.length) <|
     bif decide ((Int.ofNat (r.getD v.toNat 0).toNat) < 48) then (
      some true)
     else (
      gd (inB v r.length) <|
      some (decide (57 < (Int.ofNat (r.getD v.toNat 0).toNat))))) fun s3 =>
   bif s3 then (
    some (.inr (.inr (0, 3))))
   else (
    some (.inl (wi64 (v + 1)))))
  else (
   some (.inr (.inl ())))

noncomputable def lines_Number (s : List UInt8) : Option (Int × Int) :=
  (strings_TrimPrefix s [45]).bind fun r =>
  Option.bind (α := Bool) (
    bif decide (r = []) then (
     some true)
    else (
     gd (inB 0 r.length) <|
     bif decide ((Int.ofNat (r.getD 0 0).toNat) = 48) then (
      some (!decide (s = [48])))
     else (
      some false))) fun s2 =>
  bif s2 then (
   some (0, 3))
  else (
   (iter (fun x => lines_Number_L0 r x) 0).bind fun s4 =>
   s4.elim (fun s5 =>
    (atoiT s).bind fun r2 =>
    Option.bind (α := Bool) (
      bif r2.2 then (
       some true)
      else (
       bif decide (r2.1 < (-9007199254740992)) then (
        some true)
       else (
        some (decide (9007199254740992 < r2.1))))) fun s7 =>
    bif s7 then (
     some (0, 1))
    else (
     some (r2.1, 0)))
   (fun s6 =>
    some (s6.1, s6.2)))

noncomputable def fn_lines_Number : Fun :=
  { f := 44, np := 1, nr := 2,
    ji := { regs := [(0, .one (.data (.str)))], vars := [], arrs := [] },
    jo := { regs := [(0, .one (.data (.int .i64))), (1, .one (.data (.int .i64)))], vars := [], arrs := [] },
    tw := fun x => lines_Number x }
noncomputable def cx_lines_Number : Cx := { Γ := types, ow := [], fs := [fn_strings_TrimPrefix, fn_strconv_Atoi], N := 53 }
theorem ok_lines_Number : FunOk Tryd.prog fn_lines_Number :=
  FunOk.intro (C := cx_lines_Number) (p := (.mk [] none .nil (.mk [] none .nil (.mk [] none (.mk [] none (.mk [.join [{ e := .n, j := { regs := [(0, .one .keep), (4, .one .keep), (20, .one (.data (.bool)))], vars := [], arrs := [] } }]] none .nil .nil) .nil) (.mk [] none (.mk [] none .nil (.mk [] none (.mk [] (some ({ regs := [(0, .one .keep), (4, .one .keep), (22, .one .keep), (23, .one (.data (.int .i64)))], vars := [], arrs := [] }, [{ e := .x 0, j := { regs := [(0, .one .keep)], vars := [], arrs := [] } }, { e := .r, j := { regs := [(2, .one (.data (.int .i64))), (3, .one (.data (.int .i64)))], vars := [], arrs := [] } }])) (.mk [] none .nil (.mk [] none .nil (.mk [] none (.mk [] none (.mk [] none .nil (.mk [] none (.mk [.join [{ e := .n, j := { regs := [(0, .one .keep), (4, .one .keep), (22, .one .keep), (23, .one .keep), (35, .one (.data (.bool)))], vars := [], arrs := [] } }]] none .nil .nil) .nil)) .nil) .nil))) .nil) .nil)) (.mk [] none .nil (.mk [] none (.mk [] none (.mk [.join [{ e := .n, j := { regs := [(6, .one .keep), (51, .one (.data (.bool)))], vars := [], arrs := [] } }]] none .nil .nil) .nil) .nil)))))))
    Tryd.func44 rfl nmr44 rfl rfl rfl rfl types_ok ⟨⟨ok_strings_TrimPrefix, ok_strconv_Atoi, trivial⟩, trivial⟩ mx (fun x => by kernel_rfl)

noncomputable def product_read_L0 (w : List (List UInt8)) (v : Int) (v2 : List UInt8) (v3 : Int) (v4 : Int) (v5 : Int) (v6 : Int) (n : Int) (n2 : Int) (n3 : Int) (n4 : Int) : Option ((Int × List UInt8 × Int × Int × Int × Int × Int × Int × Int × Int) ⊕ ((List UInt8 × Int × Int × Int × Int × Int × Int × Int × Int) ⊕ (Int × List UInt8 × Int × Int × Int × Int))) :=
  bif decide (v < 4) then (
   gd (inB (wi64 (v + 2)) w.length) <|
   (lines_Number (w.getD (wi64 (v + 2)).toNat [])).bind fun r =>
   gd (inB v 4) <|
   bif !decide (r.2 = 0) then (
    some (.inr (.inr (3, [], 0, 0, 0, 0))))
   else (
    some (.inl (wi64 (v + 1), v2, v3, v4, v5, v6, ([n, n2, n3, n4].set v.toNat r.1).getD 0 0, ([n, n2, n3, n4].set v.toNat r.1).getD 1 0, ([n, n2, n3, n4].set v.toNat r.1).getD 2 0, ([n, n2, n3, n4].set v.toNat r.1).getD 3 0))))
  else (
   some (.inr (.inl (v2, v3, v4, v5, v6, n, n2, n3, n4))))

noncomputable def product_read (w : List (List UInt8)) : Option ((List UInt8 × Int × Int × Int × Int) × Int) :=
  Option.bind (α := Bool) (
    bif !decide ((w.length : Int) = 6) then (
     some true)
    else (
     gd (inB 0 w.length) <|
     some (!decide (w.getD 0 [] = [112, 114, 111, 100, 117, 99, 116])))) fun s =>
  bif s then (
   some (([], (0, (0, (0, 0)))), 3))
  else (
   (iter (fun x => product_read_L0 w x.1 x.2.1 x.2.2.1 x.2.2.2.1 x.2.2.2.2.1 x.2.2.2.2.2.1 x.2.2.2.2.2.2.1 x.2.2.2.2.2.2.2.1 x.2.2.2.2.2.2.2.2.1 x.2.2.2.2.2.2.2.2.2) (0, [], 0, 0, 0, 0, 0, 0, 0, 0)).bind fun s2 =>
   s2.elim (fun s3 =>
    gd (inB 1 w.length) <|
    (product_Valid (w.getD 1 [], (s3.2.2.2.2.2.1, (s3.2.2.2.2.2.2.1, (s3.2.2.2.2.2.2.2.1, s3.2.2.2.2.2.2.2.2))))).bind fun r2 =>
    bif !r2 then (
     some (([], (0, (0, (0, 0)))), 9))
    else (
     some ((w.getD 1 [], (s3.2.2.2.2.2.1, (s3.2.2.2.2.2.2.1, (s3.2.2.2.2.2.2.2.1, s3.2.2.2.2.2.2.2.2)))), 0)))
   (fun s4 =>
    some ((s4.2.1, (s4.2.2.1, (s4.2.2.2.1, (s4.2.2.2.2.1, s4.2.2.2.2.2)))), s4.1)))

noncomputable def fn_product_read : Fun :=
  { f := 29, np := 1, nr := 2,
    ji := { regs := [(0, .one (.data (.sl (.str))))], vars := [], arrs := [] },
    jo := { regs := [(0, .one (.data (.pair (.str) (.pair (.int .i64) (.pair (.int .i64) (.pair (.int .i64) (.int .i64))))))), (1, .one (.data (.int .i64)))], vars := [], arrs := [] },
    tw := fun x => product_read x }
noncomputable def cx_product_read : Cx := { Γ := types, ow := [], fs := [fn_lines_Number, fn_product_Valid], N := 53 }
theorem ok_product_read : FunOk Tryd.prog fn_product_read :=
  FunOk.intro (C := cx_product_read) (p := (.mk [] none .nil (.mk [] none (.mk [] none (.mk [.join [{ e := .n, j := { regs := [(0, .one .keep), (2, .one (.ptr 48 0)), (16, .one (.data (.bool)))], vars := [(48, 29, [.keep, .keep, .keep, .keep, .keep])], arrs := [] } }]] none .nil .nil) .nil) (.mk [] none .nil (.mk [] none (.mk [] none .nil (.mk [] none (.mk [] (some ({ regs := [(0, .one .keep), (2, .one (.ptr 48 0)), (4, .one (.ptr 80 0)), (18, .one (.data (.int .i64)))], vars := [(48, 29, [.data (.str), .data (.int .i64), .data (.int .i64), .data (.int .i64), .data (.int .i64)]), (80, 52, [.data (.int .i64), .data (.int .i64), .data (.int .i64), .data (.int .i64)])], arrs := [] }, [{ e := .x 0, j := { regs := [(0, .one .keep), (2, .one (.ptr 48 0)), (4, .one (.ptr 80 0))], vars := [(48, 29, [.data (.str), .data (.int .i64), .data (.int .i64), .data (.int .i64), .data (.int .i64)]), (80, 52, [.data (.int .i64), .data (.int .i64), .data (.int .i64), .data (.int .i64)])], arrs := [] } }, { e := .r, j := { regs := [(2, .one (.ptr 48 0)), (3, .one (.data (.int .i64)))], vars := [(48, 29, [.data (.str), .data (.int .i64), .data (.int .i64), .data (.int .i64), .data (.int .i64)])], arrs := [] } }])) .nil .nil) .nil)) .nil)))))
    Tryd.func29 rfl nmr29 rfl rfl rfl rfl types_ok ⟨⟨ok_lines_Number, ok_product_Valid, trivial⟩, trivial⟩ mx (fun x => by kernel_rfl)

noncomputable def product_Parse_L0 (r : List (List (List UInt8)) × Int) (v : Int) (out : List (List UInt8 × Int × Int × Int × Int)) : Option ((Int × List (List UInt8 × Int × Int × Int × Int)) ⊕ ((List (List UInt8 × Int × Int × Int × Int)) ⊕ ((List (List UInt8 × Int × Int × Int × Int)) × Int × Int))) :=
  bif decide (v < (r.1.length : Int)) then (
   Option.bind (α := (List (List UInt8 × Int × Int × Int × Int)) ⊕ ((List (List UInt8 × Int × Int × Int × Int)) × Int × Int)) (
     gd (inB v r.1.length) <|
     bif decide (((r.1.getD v.toNat []).length : Int) = 0) then (
      some (.inl out))
     else (
      (product_read (r.1.getD v.toNat [])).bind fun r2 =>
      Option.bind (α := Int × List (List UInt8 × Int × Int × Int × Int)) (
        bif !decide (r2.2 = 0) then (
         some (r2.2, out))
        else (
         (product_Find out r2.1.1).bind fun r3 =>
         Option.bind (α := Int × List (List UInt8 × Int × Int × Int × Int)) (
           bif decide (0 ≤ r3) then (
            some (7, out))
           else (
            Option.bind (α := Int × List (List UInt8 × Int × Int × Int × Int)) (
              bif decide ((out.length : Int) = 16) then (
               some (4, out))
              else (
               some (r2.2, out))) fun s =>
            some (s.1, s.2))) fun s2 =>
         some (s2.1, s2.2))) fun s3 =>
      bif !decide (s3.1 = 0) then (
       some (.inr ([], wi64 (v + 1), s3.1)))
      else (
       gd (fits (s3.2.length + 1) 48) <|
       some (.inl (s3.2 ++ [(r2.1.1, (r2.1.2.1, (r2.1.2.2.1, (r2.1.2.2.2.1, r2.1.2.2.2.2))))]))))) fun s4 =>
   s4.elim (fun s5 =>
    some (.inl (wi64 (v + 1), s5)))
   (fun s6 =>
    some (.inr (.inr (s6.1, s6.2.1, s6.2.2)))))
  else (
   some (.inr (.inl out)))

noncomputable def product_Parse (text : List UInt8) : Option ((List (List UInt8 × Int × Int × Int × Int)) × Int × Int) :=
  (lines_Split text).bind fun r =>
  bif !decide (r.2 = 0) then (
   some ([], 0, r.2))
  else (
   (iter (fun x => product_Parse_L0 r x.1 x.2) (0, [])).bind fun s7 =>
   s7.elim (fun s8 =>
    some (s8, 0, 0))
   (fun s9 =>
    some (s9.1, s9.2.1, s9.2.2)))

noncomputable def fn_product_Parse : Fun :=
  { f := 15, np := 1, nr := 3,
    ji := { regs := [(0, .one (.data (.str)))], vars := [], arrs := [] },
    jo := { regs := [(0, .one (.data (.sl (.pair (.str) (.pair (.int .i64) (.pair (.int .i64) (.pair (.int .i64) (.int .i64)))))))), (1, .one (.data (.int .i64))), (2, .one (.data (.int .i64)))], vars := [], arrs := [] },
    tw := fun x => product_Parse x }
noncomputable def cx_product_Parse : Cx := { Γ := types, ow := [], fs := [fn_lines_Split, fn_product_read, fn_product_Find], N := 59 }
theorem ok_product_Parse : FunOk Tryd.prog fn_product_Parse :=
  FunOk.intro (C := cx_product_Parse) (p := (.mk [] none .nil (.mk [] none .nil (.mk [] none .nil (.mk [] none .nil (.mk [] none (.mk [] none .nil (.mk [] none (.mk [] (some ({ regs := [(7, .one (.own 139)), (20, .one .keep), (21, .one .keep), (22, .one (.data (.int .i64)))], vars := [], arrs := [(139, .arr 29 (.pair (.str) (.pair (.int .i64) (.pair (.int .i64) (.pair (.int .i64) (.int .i64))))))] }, [{ e := .x 0, j := { regs := [(7, .one (.own 139))], vars := [], arrs := [(139, .arr 29 (.pair (.str) (.pair (.int .i64) (.pair (.int .i64) (.pair (.int .i64) (.int .i64))))))] } }, { e := .r, j := { regs := [(2, .one (.data (.sl (.pair (.str) (.pair (.int .i64) (.pair (.int .i64) (.pair (.int .i64) (.int .i64)))))))), (3, .one (.data (.int .i64))), (4, .one (.data (.int .i64)))], vars := [], arrs := [] } }])) (.mk [] none .nil (.mk [] none .nil (.mk [] none (.mk [.join [{ e := .n, j := { regs := [(7, .one (.own 139)), (20, .one .keep), (21, .one .keep), (22, .one .keep)], vars := [], arrs := [(139, .arr 29 (.pair (.str) (.pair (.int .i64) (.pair (.int .i64) (.pair (.int .i64) (.int .i64))))))] } }, { e := .r, j := { regs := [(2, .one (.data (.sl (.pair (.str) (.pair (.int .i64) (.pair (.int .i64) (.pair (.int .i64) (.int .i64)))))))), (3, .one (.data (.int .i64))), (4, .one (.data (.int .i64)))], vars := [], arrs := [] } }]] none (.mk [] none .nil (.mk [] none .nil (.mk [] none .nil (.mk [] none (.mk [] none (.mk [] none .nil (.mk [.join [{ e := .n, j := { regs := [(7, .one (.own 139)), (8, .one .keep), (10, .one (.ptr 176 0)), (11, .one (.data (.int .i64))), (20, .one .keep), (21, .one .keep), (22, .one .keep)], vars := [(176, 29, [.keep, .keep, .keep, .keep, .keep])], arrs := [(139, .arr 29 (.pair (.str) (.pair (.int .i64) (.pair (.int .i64) (.pair (.int .i64) (.int .i64))))))] } }]] none .nil (.mk [] none .nil (.mk [.join [{ e := .n, j := { regs := [(7, .one (.own 139)), (8, .one .keep), (10, .one (.ptr 176 0)), (11, .one (.data (.int .i64))), (20, .one .keep), (21, .one .keep), (22, .one .keep)], vars := [(176, 29, [.keep, .keep, .keep, .keep, .keep])], arrs := [(139, .arr 29 (.pair (.str) (.pair (.int .i64) (.pair (.int .i64) (.pair (.int .i64) (.int .i64))))))] } }]] none .nil (.mk [] none .nil (.mk [.join [{ e := .n, j := { regs := [(7, .one (.own 139)), (8, .one .keep), (10, .one (.ptr 176 0)), (11, .one (.data (.int .i64))), (20, .one .keep), (21, .one .keep), (22, .one .keep)], vars := [(176, 29, [.keep, .keep, .keep, .keep, .keep])], arrs := [(139, .arr 29 (.pair (.str) (.pair (.int .i64) (.pair (.int .i64) (.pair (.int .i64) (.int .i64))))))] } }]] none .nil .nil)))))) .nil) .nil)))) .nil) .nil))) .nil) .nil)) .nil))))))
    Tryd.func15 rfl nmr15 rfl rfl rfl rfl types_ok ⟨⟨ok_lines_Split, ok_product_read, ok_product_Find, trivial⟩, trivial⟩ mx (fun x => by kernel_rfl)

noncomputable def ref04_Same_L0 (a : List (List UInt8 × Int × Int × Int × Int)) (b : List (List UInt8 × Int × Int × Int × Int)) (v : Int) : Option (Int ⊕ (Unit ⊕ Bool)) :=
  bif decide (v < (a.length : Int)) then (
   gd (inB v a.length) <|
   gd (inB v b.length) <|
   bif !(decide ((a.getD v.toNat ([], (0, (0, (0, 0))))).1 = (b.getD v.toNat ([], (0, (0, (0, 0))))).1) && (decide (((a.getD v.toNat ([], (0, (0, (0, 0))))).2).1 = ((b.getD v.toNat ([], (0, (0, (0, 0))))).2).1) && (decide ((((a.getD v.toNat ([], (0, (0, (0, 0))))).2).2).1 = (((b.getD v.toNat ([], (0, (0, (0, 0))))).2).2).1) && (decide (((((a.getD v.toNat ([], (0, (0, (0, 0))))).2).2).2).1 = ((((b.getD v.toNat ([], (0, (0, (0, 0))))).2).2).2).1) && decide (((((a.getD v.toNat ([], (0, (0, (0, 0))))).2).2).2).2 = ((((b.getD v.toNat ([], (0, (0, (0, 0))))).2).2).2).2))))) then (
    some (.inr (.inr false)))
   else (
    some (.inl (wi64 (v + 1)))))
  else (
   some (.inr (.inl ())))

noncomputable def ref04_Same (a : List (List UInt8 × Int × Int × Int × Int)) (b : List (List UInt8 × Int × Int × Int × Int)) : Option (Bool) :=
  bif !decide ((a.length : Int) = (b.length : Int)) then (
   some false)
  else (
   (iter (fun x => ref04_Same_L0 a b x) 0).bind fun s =>
   s.elim (fun s2 =>
    some true)
   (fun s3 =>
    some s3))

noncomputable def fn_ref04_Same : Fun :=
  { f := 16, np := 2, nr := 1,
    ji := { regs := [(0, .one (.data (.sl (.pair (.str) (.pair (.int .i64) (.pair (.int .i64) (.pair (.int .i64) (.int .i64)))))))), (1, .one (.data (.sl (.pair (.str) (.pair (.int .i64) (.pair (.int .i64) (.pair (.int .i64) (.int .i64))))))))], vars := [], arrs := [] },
    jo := { regs := [(0, .one (.data (.bool)))], vars := [], arrs := [] },
    tw := fun x => ref04_Same x.1 x.2 }
noncomputable def cx_ref04_Same : Cx := { Γ := types, ow := [], fs := [], N := 26 }
theorem ok_ref04_Same : FunOk Tryd.prog fn_ref04_Same :=
  FunOk.intro (C := cx_ref04_Same) (p := (.mk [] none .nil (.mk [] none .nil (.mk [] none (.mk [] none .nil (.mk [] none (.mk [] (some ({ regs := [(0, .one .keep), (1, .one .keep), (12, .one .keep), (13, .one (.data (.int .i64)))], vars := [], arrs := [] }, [{ e := .x 0, j := { regs := [], vars := [], arrs := [] } }, { e := .r, j := { regs := [(4, .one (.data (.bool)))], vars := [], arrs := [] } }])) .nil .nil) .nil)) .nil))))
    Tryd.func16 rfl nmr16 rfl rfl rfl rfl types_ok ⟨trivial, trivial⟩ mx (fun x => by kernel_rfl)

noncomputable def law04_awake : Option (Bool) :=
  (product_Parse [112, 114, 111, 100, 117, 99, 116, 32, 100, 105, 101, 115, 101, 108, 32, 56, 52, 48, 32, 56, 51, 48, 32, 56, 48, 48, 32, 49, 50, 48, 48, 10]).bind fun r =>
  (product_Parse [35, 10, 112, 114, 111, 100, 117, 99, 116, 32, 100, 105, 101, 115, 101, 108, 32, 56, 52, 32, 56, 51, 48, 32, 56, 48, 48, 32, 49, 50, 48, 48]).bind fun r2 =>
  bif decide (r.2.2 = 0) then (
   bif decide (r.2.1 = 0) then (
    (ref04_Same r.1 [([100, 105, 101, 115, 101, 108], (840, (830, (800, 1200))))]).bind fun r3 =>
    bif r3 then (
     bif decide (r2.2.1 = 2) then (
      some (decide (r2.2.2 = 9)))
     else (
      some false))
    else (
     some false))
   else (
    some false))
  else (
   some false)

noncomputable def fn_law04_awake : Fun :=
  { f := 13, np := 0, nr := 1,
    ji := { regs := [], vars := [], arrs := [] },
    jo := { regs := [(0, .one (.data (.bool)))], vars := [], arrs := [] },
    tw := fun x => law04_awake }
noncomputable def cx_law04_awake : Cx := { Γ := types, ow := [], fs := [fn_product_Parse, fn_ref04_Same], N := 37 }
theorem ok_law04_awake : FunOk Tryd.prog fn_law04_awake :=
  FunOk.intro (C := cx_law04_awake) (p := .nil)
    Tryd.func13 rfl nmr13 rfl rfl rfl rfl types_ok ⟨⟨ok_product_Parse, ok_ref04_Same, trivial⟩, trivial⟩ mx (fun x => by kernel_rfl)

noncomputable def law04_ProductChecks_L1 (v : Int) (different2 : Bool) (k : Int) (a2 : List (List UInt8 × Int × Int × Int × Int)) : Option ((Bool × Int × List (List UInt8 × Int × Int × Int × Int)) ⊕ (Bool × List (List UInt8 × Int × Int × Int × Int))) :=
  bif decide (k < v) then (
   Option.bind (α := Bool × List (List UInt8 × Int × Int × Int × Int)) (
     bif different2 then (
      gd (inB v a2.length) <|
      gd (inB k a2.length) <|
      some ((!decide ((a2.getD v.toNat ([], (0, (0, (0, 0))))).1 = (a2.getD k.toNat ([], (0, (0, (0, 0))))).1)), a2))
     else (
      some (false, a2))) fun s3 =>
   some (.inl (s3.1, wi64 (k + 1), s3.2)))
  else (
   some (.inr (different2, a2)))

noncomputable def law04_ProductChecks_L0 (s : List (List UInt8 × Int × Int × Int × Int)) (valid : Bool) (different : Bool) (v : Int) (a : List (List UInt8 × Int × Int × Int × Int)) : Option ((Bool × Bool × Int × List (List UInt8 × Int × Int × Int × Int)) ⊕ (Bool × Bool × List (List UInt8 × Int × Int × Int × Int))) :=
  bif decide (v < (s.length : Int)) then (
   Option.bind (α := Bool × List (List UInt8 × Int × Int × Int × Int)) (
     bif valid then (
      gd (inB v a.length) <|
      (product_Valid (a.getD v.toNat ([], (0, (0, (0, 0)))))).bind fun r6 =>
      some (r6, a))
     else (
      some (false, a))) fun s2 =>
   (iter (fun x => law04_ProductChecks_L1 v x.1 x.2.1 x.2.2) (different, 0, s2.2)).bind fun s4 =>
   some (.inl (s2.1, s4.1, wi64 (v + 1), s4.2)))
  else (
   some (.inr (valid, different, a)))

noncomputable def law04_ProductChecks (l : List Int) : Option (Bool) :=
  (keep_New l).bind fun r =>
  (keep_Src_Products r.1 r.2).bind fun r2 =>
  (keep_Src_N 2 r2.1 r2.2.1).bind fun r3 =>
  Option.bind (α := List (List UInt8 × Int × Int × Int × Int)) (
    bif decide (r3.1 = 0) then (
     (keep_Src_N (r2.2.2.length : Int) r3.2.1 r3.2.2).bind fun r4 =>
     gd (inB 0 r2.2.2.length) <|
     (keep_Src_Odd (r2.2.2.getD 0 ([], (0, (0, (0, 0))))) r4.2.1 r4.2.2).bind fun r5 =>
     gd (inB r4.1 r2.2.2.length) <|
     some (r2.2.2.set r4.1.toNat r5.1))
    else (
     some r2.2.2)) fun s =>
  (iter (fun x2 => law04_ProductChecks_L0 s x2.1 x2.2.1 x2.2.2.1 x2.2.2.2) (true, true, 0, s)).bind fun s5 =>
  (product_Check s5.2.2).bind fun r7 =>
  bif s5.1 then (
   bif decide (r7 = 0) == s5.2.1 then (
    bif decide (r7 = 9) == (!s5.1) then (
     (law04_awake).bind fun r8 =>
     some r8)
    else (
     some false))
   else (
    some false))
  else (
   bif decide (r7 = 0) == false then (
    bif decide (r7 = 9) == (!s5.1) then (
     (law04_awake).bind fun r9 =>
     some r9)
    else (
     some false))
   else (
    some false))

noncomputable def fn_law04_ProductChecks : Fun :=
  { f := 3, np := 1, nr := 1,
    ji := { regs := [(0, .one (.data (.sl (.int .i64))))], vars := [], arrs := [] },
    jo := { regs := [(0, .one (.data (.bool)))], vars := [], arrs := [] },
    tw := fun x => law04_ProductChecks x }
noncomputable def cx_law04_ProductChecks : Cx := { Γ := types, ow := [], fs := [fn_keep_New, fn_keep_Src_Products, fn_keep_Src_N, fn_keep_Src_Odd, fn_product_Valid, fn_product_Check, fn_law04_awake], N := 80 }
theorem ok_law04_ProductChecks : FunOk Tryd.prog fn_law04_ProductChecks :=
  FunOk.intro (C := cx_law04_ProductChecks) (p := (.mk [] none .nil (.mk [] none .nil (.mk [] none .nil (.mk [] none (.mk [] none .nil (.mk [.join [{ e := .n, j := { regs := [(4, .one (.own 224))], vars := [], arrs := [(224, .arr 29 (.pair (.str) (.pair (.int .i64) (.pair (.int .i64) (.pair (.int .i64) (.int .i64))))))] } }]] none .nil .nil)) (.mk [] none .nil (.mk [] none (.mk [] none .nil (.mk [] none (.mk [] (some ({ regs := [(4, .one (.own 224)), (5, .one (.data (.bool))), (6, .one (.data (.bool))), (29, .one .keep), (30, .one (.data (.int .i64)))], vars := [], arrs := [(224, .arr 29 (.pair (.str) (.pair (.int .i64) (.pair (.int .i64) (.pair (.int .i64) (.int .i64))))))] }, [{ e := .x 0, j := { regs := [(4, .one (.own 224)), (5, .one (.data (.bool))), (6, .one (.data (.bool)))], vars := [], arrs := [(224, .arr 29 (.pair (.str) (.pair (.int .i64) (.pair (.int .i64) (.pair (.int .i64) (.int .i64))))))] } }])) (.mk [] none .nil (.mk [] none .nil (.mk [] none (.mk [] none (.mk [] none .nil (.mk [] none (.mk [.join [{ e := .n, j := { regs := [(4, .one (.own 224)), (5, .one (.data (.bool))), (6, .one .keep), (7, .one .keep), (29, .one .keep), (30, .one .keep)], vars := [], arrs := [(224, .arr 29 (.pair (.str) (.pair (.int .i64) (.pair (.int .i64) (.pair (.int .i64) (.int .i64))))))] } }]] none .nil .nil) (.mk [] none .nil (.mk [] none (.mk [] (some ({ regs := [(4, .one (.own 224)), (5, .one .keep), (6, .one (.data (.bool))), (7, .one .keep), (8, .one (.data (.int .i64))), (29, .one .keep), (30, .one .keep)], vars := [], arrs := [(224, .arr 29 (.pair (.str) (.pair (.int .i64) (.pair (.int .i64) (.pair (.int .i64) (.int .i64))))))] }, [{ e := .x 2, j := { regs := [(4, .one (.own 224)), (5, .one .keep), (6, .one (.data (.bool))), (29, .one .keep), (30, .one .keep)], vars := [], arrs := [(224, .arr 29 (.pair (.str) (.pair (.int .i64) (.pair (.int .i64) (.pair (.int .i64) (.int .i64))))))] } }])) (.mk [] none .nil (.mk [] none (.mk [] none (.mk [.join [{ e := .n, j := { regs := [(4, .one (.own 224)), (5, .one .keep), (6, .one (.data (.bool))), (7, .one .keep), (8, .one .keep), (29, .one .keep), (30, .one .keep)], vars := [], arrs := [(224, .arr 29 (.pair (.str) (.pair (.int .i64) (.pair (.int .i64) (.pair (.int .i64) (.int .i64))))))] } }]] none .nil .nil) .nil) .nil)) .nil) .nil)))) .nil) .nil))) .nil) .nil)) .nil)))))))
    Tryd.func3 rfl nmr3 rfl rfl rfl rfl types_ok ⟨⟨ok_keep_New, ok_keep_Src_Products, ok_keep_Src_N, ok_keep_Src_Odd, ok_product_Valid, ok_product_Check, ok_law04_awake, trivial⟩, trivial⟩ mx (fun x => by kernel_rfl)

noncomputable def fn_strconv_Itoa : Fun := funItoa 26
theorem ok_strconv_Itoa : FunOk Tryd.prog fn_strconv_Itoa := itoa_ok ⟨_, Tryd.func26, nmr26, rfl⟩ (by kernel_rfl) Tryd.strconv_Itoa (by unfold globs; exact .tail _ (.head _)) (by kernel_rfl) (by kernel_rfl)

noncomputable def fn_strings_Join : Fun := funJoin 37
theorem ok_strings_Join : FunOk Tryd.prog fn_strings_Join := join_ok ⟨_, Tryd.func37, nmr37, rfl⟩ Tryd.strings_Join_none Tryd.strings_Join

def ccT (l : List Int) : Option (List Int) := some l
noncomputable def fn_strings_Builder_copyCheck : Fun := funCC 47 72 5
theorem ok_strings_Builder_copyCheck : FunOk Tryd.prog fn_strings_Builder_copyCheck := cc_ok ⟨_, Tryd.func47, nmr47, rfl⟩ Tryd.cc_fresh Tryd.cc_used

noncomputable def strings_Builder_WriteString (s : List UInt8) (b : List Int) : Option (Int × Bool × List Int) :=
  (ccT b).bind fun r =>
  gd (Nat.blt 0 s.length && fits (r.length + s.length) 1) <|
  some ((s.length : Int), false, r ++ ofBytes s)

noncomputable def fn_strings_Builder_WriteString : Fun :=
  { f := 36, np := 2, nr := 2,
    ji := { regs := [(0, .one (.ptr 0 0)), (1, .one (.data (.str)))], vars := [(0, 72, [.nptr 0 0, .own 1])], arrs := [(1, .arr 5 (.int .u8))] },
    jo := { regs := [(0, .one (.data (.int .i64))), (1, .one (.data (.err)))], vars := [(0, 72, [.ptr 0 0, .own 2])], arrs := [(2, .arr 5 (.int .u8))] },
    tw := fun x => strings_Builder_WriteString x.1 x.2 }
noncomputable def cx_strings_Builder_WriteString : Cx := { Γ := types, ow := [], fs := [fn_strings_Builder_copyCheck], N := 19 }
theorem ok_strings_Builder_WriteString : FunOk Tryd.prog fn_strings_Builder_WriteString :=
  FunOk.intro (C := cx_strings_Builder_WriteString) (p := .nil)
    Tryd.func36 rfl nmr36 rfl rfl rfl rfl types_ok ⟨⟨ok_strings_Builder_copyCheck, trivial⟩, trivial⟩ mx (fun x => by kernel_rfl)

noncomputable def strings_Builder_Len (b : List Int) : Option (Int × List Int) :=
  some ((b.length : Int), b)

noncomputable def fn_strings_Builder_Len : Fun :=
  { f := 38, np := 1, nr := 1,
    ji := { regs := [(0, .one (.ptr 0 0))], vars := [(0, 72, [.nptr 0 0, .own 1])], arrs := [(1, .arr 5 (.int .u8))] },
    jo := { regs := [(0, .one (.data (.int .i64)))], vars := [(0, 72, [.nptr 0 0, .own 1])], arrs := [(1, .arr 5 (.int .u8))] },
    tw := fun x => strings_Builder_Len x }
noncomputable def cx_strings_Builder_Len : Cx := { Γ := types, ow := [], fs := [], N := 8 }
theorem ok_strings_Builder_Len : FunOk Tryd.prog fn_strings_Builder_Len :=
  FunOk.intro (C := cx_strings_Builder_Len) (p := .nil)
    Tryd.func38 rfl nmr38 rfl rfl rfl rfl types_ok ⟨trivial, trivial⟩ mx (fun x => by kernel_rfl)

noncomputable def strings_Builder_String (b : List Int) : Option (List UInt8) :=
  gd (Nat.blt 0 b.length) <|
  gd (Nat.blt 0 b.length && (decide ((b.length : Int) = (b.length : Int)) && decide (ofBytes (toBytes b) = b))) <|
  some (toBytes b)

noncomputable def fn_strings_Builder_String : Fun :=
  { f := 39, np := 1, nr := 1,
    ji := { regs := [(0, .one (.ptr 0 0))], vars := [(0, 72, [.nptr 0 0, .own 1])], arrs := [(1, .arr 5 (.int .u8))] },
    jo := { regs := [(0, .one (.data (.str)))], vars := [], arrs := [] },
    tw := fun x => strings_Builder_String x }
noncomputable def cx_strings_Builder_String : Cx := { Γ := types, ow := [], fs := [], N := 14 }
theorem ok_strings_Builder_String : FunOk Tryd.prog fn_strings_Builder_String :=
  FunOk.intro (C := cx_strings_Builder_String) (p := .nil)
    Tryd.func39 rfl nmr39 rfl rfl rfl rfl types_ok ⟨trivial, trivial⟩ mx (fun x => by kernel_rfl)

noncomputable def strings_Builder_String_nil : Option (List UInt8) :=
  gd (decide (0 = 0)) <|
  some []

noncomputable def fn_strings_Builder_String_nil : Fun :=
  { f := 39, np := 1, nr := 1,
    ji := { regs := [(0, .one (.ptr 0 0))], vars := [(0, 72, [.nptr 0 0, .nil])], arrs := [] },
    jo := { regs := [(0, .one (.data (.str)))], vars := [], arrs := [] },
    tw := fun x => strings_Builder_String_nil }
noncomputable def cx_strings_Builder_String_nil : Cx := { Γ := types, ow := [], fs := [], N := 14 }
theorem ok_strings_Builder_String_nil : FunOk Tryd.prog fn_strings_Builder_String_nil :=
  FunOk.intro (C := cx_strings_Builder_String_nil) (p := .nil)
    Tryd.func39 rfl nmr39 rfl rfl rfl rfl types_ok ⟨trivial, trivial⟩ mx (fun x => by kernel_rfl)

noncomputable def strings_Builder_Len_nil : Option (Int) :=
  some 0

noncomputable def fn_strings_Builder_Len_nil : Fun :=
  { f := 38, np := 1, nr := 1,
    ji := { regs := [(0, .one (.ptr 0 0))], vars := [(0, 72, [.nptr 0 0, .nil])], arrs := [] },
    jo := { regs := [(0, .one (.data (.int .i64)))], vars := [(0, 72, [.nptr 0 0, .nil])], arrs := [] },
    tw := fun x => strings_Builder_Len_nil }
noncomputable def cx_strings_Builder_Len_nil : Cx := { Γ := types, ow := [], fs := [], N := 8 }
theorem ok_strings_Builder_Len_nil : FunOk Tryd.prog fn_strings_Builder_Len_nil :=
  FunOk.intro (C := cx_strings_Builder_Len_nil) (p := .nil)
    Tryd.func38 rfl nmr38 rfl rfl rfl rfl types_ok ⟨trivial, trivial⟩ mx (fun x => by kernel_rfl)

noncomputable def lines_JoinE_L1 (l : List (List (List UInt8))) (v : Int) (n2 : Int) (v2 : Int) : Option ((Int × Int) ⊕ Int) :=
  bif decide (v2 < ((l.getD v.toNat []).length : Int)) then (
   gd (inB v2 (l.getD v.toNat []).length) <|
   Option.bind (α := Int) (
     bif decide (32768 < wi64 (n2 + (((l.getD v.toNat []).getD v2.toNat []).length : Int))) then (
      some 32768)
     else (
      some (wi64 (n2 + (((l.getD v.toNat []).getD v2.toNat []).length : Int))))) fun s2 =>
   some (.inl (s2, wi64 (v2 + 1))))
  else (
   some (.inr n2))

noncomputable def lines_JoinE_L0 (l : List (List (List UInt8))) (n : Int) (v : Int) : Option ((Int × Int) ⊕ (Int ⊕ (List UInt8 × Int))) :=
  bif decide (v < (l.length : Int)) then (
   gd (inB v l.length) <|
   Option.bind (α := Bool) (
     bif decide (0 < ((l.getD v.toNat []).length : Int)) then (
      (lines_words (l.getD v.toNat [])).bind fun r =>
      some (!r))
     else (
      some false)) fun s =>
   bif s then (
    some (.inr (.inr ([], 3))))
   else (
    (iter (fun x => lines_JoinE_L1 l v x.1 x.2) (wi64 (n + ((l.getD v.toNat []).length : Int)), 0)).bind fun s3 =>
    some (.inl (s3, wi64 (v + 1)))))
  else (
   some (.inr (.inl n)))

noncomputable def lines_JoinE_L2 (l : List (List (List UInt8))) (s5 : Int) (v3 : Int) : Option (Int ⊕ Unit) :=
  bif decide (v3 < (l.length : Int)) then (
   gd (inB v3 l.length) <|
   Option.bind (α := Unit) (
     bif decide (s5 < 32768) then (
      (joinT (l.getD v3.toNat []) [32]).bind fun r2 =>
      gd (Nat.ble (r2.length + [10].length) 9223372036854775807) <|
      none)
     else (
      some ())) fun s7 =>
   some (.inl (wi64 (v3 + 1))))
  else (
   some (.inr ()))

noncomputable def lines_JoinE (l : List (List (List UInt8))) : Option (List UInt8 × Int) :=
  bif decide (400 < (l.length : Int)) then (
   some ([], 4))
  else (
   (iter (fun x2 => lines_JoinE_L0 l x2.1 x2.2) (0, 0)).bind fun s4 =>
   s4.elim (fun s5 =>
    (iter (fun x3 => lines_JoinE_L2 l s5 x3) 0).bind fun s8 =>
    Option.bind (α := Bool) (
      bif decide (s5 = 32768) then (
       some true)
      else (
       (strings_Builder_Len_nil).bind fun r3 =>
       some (decide (16384 < r3)))) fun s9 =>
    bif s9 then (
     some ([], 4))
    else (
     (strings_Builder_String_nil).bind fun r4 =>
     some (r4, 0)))
   (fun s6 =>
    some (s6.1, s6.2)))

noncomputable def fn_lines_JoinE : Fun :=
  { f := 27, np := 1, nr := 2,
    ji := { regs := [(0, .one (.data (.sl (.sl (.str)))))], vars := [], arrs := [] },
    jo := { regs := [(0, .one (.data (.str))), (1, .one (.data (.int .i64)))], vars := [], arrs := [] },
    tw := fun x => lines_JoinE x }
noncomputable def cx_lines_JoinE : Cx := { Γ := types, ow := [], fs := [fn_lines_words, fn_strings_Join, fn_strings_Builder_Len_nil, fn_strings_Builder_String_nil], N := 67 }
theorem ok_lines_JoinE : FunOk Tryd.prog fn_lines_JoinE :=
  FunOk.intro (C := cx_lines_JoinE) (p := (.mk [] none .nil (.mk [] none .nil (.mk [] none .nil (.mk [] none (.mk [] none .nil (.mk [] none (.mk [] (some ({ regs := [(0, .one .keep), (4, .one (.data (.int .i64))), (15, .one .keep), (16, .one .keep), (17, .one (.data (.int .i64)))], vars := [], arrs := [] }, [{ e := .x 0, j := { regs := [(0, .one .keep), (4, .one (.data (.int .i64)))], vars := [], arrs := [] } }, { e := .r, j := { regs := [(2, .one (.data (.str))), (3, .one (.data (.int .i64)))], vars := [], arrs := [] } }])) (.mk [] none .nil (.mk [] none .nil (.mk [] none (.mk [] none (.mk [] none .nil (.mk [] none (.mk [] none (.mk [.join [{ e := .n, j := { regs := [(0, .one .keep), (4, .one .keep), (6, .one .keep), (15, .one .keep), (16, .one .keep), (17, .one .keep), (28, .one (.data (.bool)))], vars := [], arrs := [] } }]] none .nil .nil) .nil) (.mk [] none .nil (.mk [] none .nil (.mk [] none (.mk [] (some ({ regs := [(0, .one .keep), (4, .one (.data (.int .i64))), (15, .one .keep), (16, .one .keep), (17, .one .keep), (33, .one .keep), (34, .one .keep), (35, .one (.data (.int .i64)))], vars := [], arrs := [] }, [{ e := .x 2, j := { regs := [(0, .one .keep), (4, .one (.data (.int .i64))), (15, .one .keep), (16, .one .keep), (17, .one .keep)], vars := [], arrs := [] } }])) (.mk [] none .nil (.mk [] none .nil (.mk [] none (.mk [] none (.mk [] none .nil (.mk [] none .nil (.mk [] none .nil (.mk [.join [{ e := .n, j := { regs := [(0, .one .keep), (4, .one (.data (.int .i64))), (15, .one .keep), (16, .one .keep), (17, .one .keep), (33, .one .keep), (34, .one .keep), (35, .one .keep)], vars := [], arrs := [] } }]] none .nil .nil)))) .nil) .nil))) .nil) .nil))))) .nil) .nil))) .nil) .nil)) (.mk [] none .nil (.mk [] none (.mk [] none .nil (.mk [] none (.mk [] (some ({ regs := [(4, .one .keep), (9, .one (.ptr 160 0)), (47, .one .keep), (48, .one .keep), (49, .one (.data (.int .i64)))], vars := [(160, 72, [.keep, .nil])], arrs := [] }, [{ e := .x 4, j := { regs := [(4, .one .keep), (9, .one (.ptr 160 0))], vars := [(160, 72, [.keep, .nil])], arrs := [] } }])) (.mk [] none .nil (.mk [] none .nil (.mk [] none (.mk [] none (.mk [] none .nil (.mk [] none .nil (.mk [.join [{ e := .n, j := { regs := [(4, .one .keep), (9, .one (.ptr 160 0)), (47, .one .keep), (48, .one .keep), (49, .one .keep)], vars := [(160, 72, [.keep, .nil])], arrs := [] } }]] none .nil .nil))) .nil) .nil))) .nil) .nil)) (.mk [] none (.mk [] none (.mk [.join [{ e := .n, j := { regs := [(9, .one (.ptr 160 0)), (65, .one (.data (.bool)))], vars := [(160, 72, [.nptr 160 0, .nil])], arrs := [] } }]] none .nil .nil) .nil) .nil))))))))
    Tryd.func27 rfl nmr27 rfl rfl rfl rfl types_ok ⟨⟨ok_lines_words, ok_strings_Join, ok_strings_Builder_Len_nil, ok_strings_Builder_String_nil, trivial⟩, trivial⟩ mx (fun x => by kernel_rfl)

noncomputable def lines_JoinB_L1 (l : List (List (List UInt8))) (v : Int) (n2 : Int) (v2 : Int) : Option ((Int × Int) ⊕ Int) :=
  bif decide (v2 < ((l.getD v.toNat []).length : Int)) then (
   gd (inB v2 (l.getD v.toNat []).length) <|
   Option.bind (α := Int) (
     bif decide (32768 < wi64 (n2 + (((l.getD v.toNat []).getD v2.toNat []).length : Int))) then (
      some 32768)
     else (
      some (wi64 (n2 + (((l.getD v.toNat []).getD v2.toNat []).length : Int))))) fun s2 =>
   some (.inl (s2, wi64 (v2 + 1))))
  else (
   some (.inr n2))

noncomputable def lines_JoinB_L0 (l : List (List (List UInt8))) (n : Int) (v : Int) : Option ((Int × Int) ⊕ (Int ⊕ (List UInt8 × Int))) :=
  bif decide (v < (l.length : Int)) then (
   gd (inB v l.length) <|
   Option.bind (α := Bool) (
     bif decide (0 < ((l.getD v.toNat []).length : Int)) then (
      (lines_words (l.getD v.toNat [])).bind fun r =>
      some (!r))
     else (
      some false)) fun s =>
   bif s then (
    some (.inr (.inr ([], 3))))
   else (
    (iter (fun x => lines_JoinB_L1 l v x.1 x.2) (wi64 (n + ((l.getD v.toNat []).length : Int)), 0)).bind fun s3 =>
    some (.inl (s3, wi64 (v + 1)))))
  else (
   some (.inr (.inl n)))

noncomputable def lines_JoinB_L2 (l : List (List (List UInt8))) (s5 : Int) (v3 : Int) (b : List Int) : Option ((Int × List Int) ⊕ (List Int)) :=
  bif decide (v3 < (l.length : Int)) then (
   gd (inB v3 l.length) <|
   Option.bind (α := List Int) (
     bif decide (s5 < 32768) then (
      (joinT (l.getD v3.toNat []) [32]).bind fun r2 =>
      gd (Nat.ble (r2.length + [10].length) 9223372036854775807) <|
      (strings_Builder_WriteString (r2 ++ [10]) b).bind fun r3 =>
      some r3.2.2)
     else (
      some b)) fun s7 =>
   some (.inl (wi64 (v3 + 1), s7)))
  else (
   some (.inr b))

noncomputable def lines_JoinB (l : List (List (List UInt8))) : Option (List UInt8 × Int) :=
  bif decide (400 < (l.length : Int)) then (
   some ([], 4))
  else (
   (iter (fun x2 => lines_JoinB_L0 l x2.1 x2.2) (0, 0)).bind fun s4 =>
   s4.elim (fun s5 =>
    (iter (fun x3 => lines_JoinB_L2 l s5 x3.1 x3.2) (0, [])).bind fun s8 =>
    Option.bind (α := Bool × List Int) (
      bif decide (s5 = 32768) then (
       some (true, s8))
      else (
       (strings_Builder_Len s8).bind fun r4 =>
       some (decide (16384 < r4.1), r4.2))) fun s9 =>
    bif s9.1 then (
     some ([], 4))
    else (
     (strings_Builder_String s9.2).bind fun r5 =>
     some (r5, 0)))
   (fun s6 =>
    some (s6.1, s6.2)))

noncomputable def fn_lines_JoinB : Fun :=
  { f := 27, np := 1, nr := 2,
    ji := { regs := [(0, .one (.data (.sl (.sl (.str)))))], vars := [], arrs := [] },
    jo := { regs := [(0, .one (.data (.str))), (1, .one (.data (.int .i64)))], vars := [], arrs := [] },
    tw := fun x => lines_JoinB x }
noncomputable def cx_lines_JoinB : Cx := { Γ := types, ow := [], fs := [fn_lines_words, fn_strings_Join, fn_strings_Builder_WriteString, fn_strings_Builder_Len, fn_strings_Builder_String], N := 67 }
theorem ok_lines_JoinB : FunOk Tryd.prog fn_lines_JoinB :=
  FunOk.intro (C := cx_lines_JoinB) (p := (.mk [] none .nil (.mk [] none .nil (.mk [] none .nil (.mk [] none (.mk [] none .nil (.mk [] none (.mk [] (some ({ regs := [(0, .one .keep), (4, .one (.data (.int .i64))), (15, .one .keep), (16, .one .keep), (17, .one (.data (.int .i64)))], vars := [], arrs := [] }, [{ e := .x 0, j := { regs := [(0, .one .keep), (4, .one (.data (.int .i64)))], vars := [], arrs := [] } }, { e := .r, j := { regs := [(2, .one (.data (.str))), (3, .one (.data (.int .i64)))], vars := [], arrs := [] } }])) (.mk [] none .nil (.mk [] none .nil (.mk [] none (.mk [] none (.mk [] none .nil (.mk [] none (.mk [] none (.mk [.join [{ e := .n, j := { regs := [(0, .one .keep), (4, .one .keep), (6, .one .keep), (15, .one .keep), (16, .one .keep), (17, .one .keep), (28, .one (.data (.bool)))], vars := [], arrs := [] } }]] none .nil .nil) .nil) (.mk [] none .nil (.mk [] none .nil (.mk [] none (.mk [] (some ({ regs := [(0, .one .keep), (4, .one (.data (.int .i64))), (15, .one .keep), (16, .one .keep), (17, .one .keep), (33, .one .keep), (34, .one .keep), (35, .one (.data (.int .i64)))], vars := [], arrs := [] }, [{ e := .x 2, j := { regs := [(0, .one .keep), (4, .one (.data (.int .i64))), (15, .one .keep), (16, .one .keep), (17, .one .keep)], vars := [], arrs := [] } }])) (.mk [] none .nil (.mk [] none .nil (.mk [] none (.mk [] none (.mk [] none .nil (.mk [] none .nil (.mk [] none .nil (.mk [.join [{ e := .n, j := { regs := [(0, .one .keep), (4, .one (.data (.int .i64))), (15, .one .keep), (16, .one .keep), (17, .one .keep), (33, .one .keep), (34, .one .keep), (35, .one .keep)], vars := [], arrs := [] } }]] none .nil .nil)))) .nil) .nil))) .nil) .nil))))) .nil) .nil))) .nil) .nil)) (.mk [] none .nil (.mk [] none (.mk [] none .nil (.mk [] none (.mk [] (some ({ regs := [(4, .one .keep), (9, .one (.ptr 160 0)), (47, .one .keep), (48, .one .keep), (49, .one (.data (.int .i64)))], vars := [(160, 72, [.nptr 160 0, .own 2601])], arrs := [(2601, .arr 5 (.int .u8))] }, [{ e := .x 4, j := { regs := [(4, .one .keep), (9, .one (.ptr 160 0))], vars := [(160, 72, [.nptr 160 0, .own 2601])], arrs := [(2601, .arr 5 (.int .u8))] } }])) (.mk [] none .nil (.mk [] none .nil (.mk [] none (.mk [] none (.mk [] none .nil (.mk [] none .nil (.mk [.join [{ e := .n, j := { regs := [(4, .one .keep), (9, .one (.ptr 160 0)), (47, .one .keep), (48, .one .keep), (49, .one .keep)], vars := [(160, 72, [.nptr 160 0, .own 2601])], arrs := [(2601, .arr 5 (.int .u8))] } }]] none .nil .nil))) .nil) .nil))) .nil) .nil)) (.mk [] none (.mk [] none (.mk [.join [{ e := .n, j := { regs := [(9, .one (.ptr 160 0)), (65, .one (.data (.bool)))], vars := [(160, 72, [.nptr 160 0, .own 2601])], arrs := [(2601, .arr 5 (.int .u8))] } }]] none .nil .nil) .nil) .nil))))))))
    Tryd.func27 rfl nmr27 rfl rfl rfl rfl types_ok ⟨⟨ok_lines_words, ok_strings_Join, ok_strings_Builder_WriteString, ok_strings_Builder_Len, ok_strings_Builder_String, trivial⟩, trivial⟩ mx (fun x => by kernel_rfl)

noncomputable def lines_Join (l : List (List (List UInt8))) : Option (List UInt8 × Int) := bif isNilL l then lines_JoinE l else lines_JoinB l
noncomputable def fn_lines_Join : Fun := { f := fn_lines_JoinE.f, np := fn_lines_JoinE.np, nr := fn_lines_JoinE.nr, ji := fn_lines_JoinE.ji, jo := fn_lines_JoinE.jo, tw := fun x => lines_Join x }
theorem ok_lines_Join : FunOk Tryd.prog fn_lines_Join := FunOk.bif (e0 := fn_lines_JoinE) ok_lines_JoinE (c := fun x => isNilL x) (tw := fun x => lines_JoinB x) ok_lines_JoinB

noncomputable def product_Format_L1 (r2 : Int × Int × Int × Int) (v2 : Int) (out2 : List (List (List UInt8))) (w : List (List UInt8)) : Option ((Int × List (List (List UInt8)) × List (List UInt8)) ⊕ (List (List (List UInt8)) × List (List UInt8))) :=
  bif decide (v2 < 4) then (
   gd (inB v2 4) <|
   (itoaT ([r2.1, r2.2.1, r2.2.2.1, r2.2.2.2].getD v2.toNat 0)).bind fun r3 =>
   gd (fits (w.length + ([r3] : List (List UInt8)).length) 16) <|
   some (.inl (wi64 (v2 + 1), out2, w ++ ([r3] : List (List UInt8)))))
  else (
   some (.inr (out2, w)))

noncomputable def product_Format_L0 (l : List (List UInt8 × Int × Int × Int × Int)) (v : Int) (out : List (List (List UInt8))) : Option ((Int × List (List (List UInt8))) ⊕ (List (List (List UInt8)))) :=
  bif decide (v < (l.length : Int)) then (
   gd (inB v l.length) <|
   (product_numbers ((l.getD v.toNat ([], (0, (0, (0, 0))))).1, (((l.getD v.toNat ([], (0, (0, (0, 0))))).2).1, ((((l.getD v.toNat ([], (0, (0, (0, 0))))).2).2).1, (((((l.getD v.toNat ([], (0, (0, (0, 0))))).2).2).2).1, ((((l.getD v.toNat ([], (0, (0, (0, 0))))).2).2).2).2))))).bind fun r2 =>
   (iter (fun x => product_Format_L1 r2 x.1 x.2.1 x.2.2) (0, out, ([[112, 114, 111, 100, 117, 99, 116], (l.getD v.toNat ([], (0, (0, (0, 0))))).1] : List (List UInt8)))).bind fun s =>
   gd (fits (s.1.length + 1) 24) <|
   some (.inl (wi64 (v + 1), s.1 ++ [s.2])))
  else (
   some (.inr out))

noncomputable def product_Format (l : List (List UInt8 × Int × Int × Int × Int)) : Option (List UInt8 × Int) :=
  (product_Check l).bind fun r =>
  bif !decide (r = 0) then (
   some ([], r))
  else (
   (iter (fun x2 => product_Format_L0 l x2.1 x2.2) (0, [])).bind fun s2 =>
   (lines_Join s2).bind fun r4 =>
   some (r4.1, r4.2))

noncomputable def fn_product_Format : Fun :=
  { f := 14, np := 1, nr := 2,
    ji := { regs := [(0, .one (.data (.sl (.pair (.str) (.pair (.int .i64) (.pair (.int .i64) (.pair (.int .i64) (.int .i64))))))))], vars := [], arrs := [] },
    jo := { regs := [(0, .one (.data (.str))), (1, .one (.data (.int .i64)))], vars := [], arrs := [] },
    tw := fun x => product_Format x }
noncomputable def cx_product_Format : Cx := { Γ := types, ow := [24], fs := [fn_product_Check, fn_product_numbers, fn_strconv_Itoa, fn_lines_Join], N := 45 }
theorem ok_product_Format : FunOk Tryd.prog fn_product_Format :=
  FunOk.intro (C := cx_product_Format) (p := (.mk [] none .nil (.mk [] none .nil (.mk [] none .nil (.mk [] none (.mk [] none .nil (.mk [] none (.mk [] (some ({ regs := [(5, .one (.own 107)), (16, .one .keep), (17, .one .keep), (18, .one (.data (.int .i64)))], vars := [], arrs := [(107, .arr 42 (.sl (.str)))] }, [{ e := .x 0, j := { regs := [(5, .one (.own 107))], vars := [], arrs := [(107, .arr 42 (.sl (.str)))] } }])) (.mk [] none .nil (.mk [] none .nil (.mk [] none (.mk [] none (.mk [] none .nil (.mk [] none .nil (.mk [] none (.mk [] none .nil (.mk [] none (.mk [] (some ({ regs := [(5, .one (.own 107)), (8, .one (.own 155)), (16, .one .keep), (17, .one .keep), (18, .one .keep), (26, .one .keep), (27, .one (.data (.int .i64)))], vars := [], arrs := [(107, .arr 42 (.sl (.str))), (155, .arr 9 (.str))] }, [{ e := .x 2, j := { regs := [(5, .one (.own 107)), (8, .one (.own 155)), (16, .one .keep), (17, .one .keep), (18, .one .keep)], vars := [], arrs := [(107, .arr 42 (.sl (.str))), (155, .arr 9 (.str))] } }])) .nil .nil) .nil)) (.mk [.fz [8]] none .nil .nil)))) .nil) .nil))) .nil) .nil)) .nil)))))
    Tryd.func14 rfl nmr14 rfl rfl rfl rfl types_ok ⟨⟨ok_product_Check, ok_product_numbers, ok_strconv_Itoa, ok_lines_Join, trivial⟩, trivial⟩ mx (fun x => by kernel_rfl)

noncomputable def law04_ProductBack_L0 (s : Bool × List (List UInt8 × Int × Int × Int × Int)) (v : Int) (a : List (List UInt8 × Int × Int × Int × Int)) : Option ((Int × List (List UInt8 × Int × Int × Int × Int)) ⊕ ((List (List UInt8 × Int × Int × Int × Int)) ⊕ Bool)) :=
  bif decide (v < (s.2.length : Int)) then (
   gd (inB v a.length) <|
   (product_Find a ((a.getD v.toNat ([], (0, (0, (0, 0))))).1)).bind fun r6 =>
   bif !decide (r6 = v) then (
    some (.inr (.inr false)))
   else (
    some (.inl (wi64 (v + 1), a))))
  else (
   some (.inr (.inl a)))

noncomputable def law04_ProductBack (l : List Int) : Option (Bool) :=
  (keep_New l).bind fun r =>
  (keep_Src_Products r.1 r.2).bind fun r2 =>
  (product_Format r2.2.2).bind fun r3 =>
  gd (Nat.ble ([35, 32, 116, 97, 98, 108, 101, 10, 10].length + r3.1.length) 9223372036854775807) <|
  (product_Parse ([35, 32, 116, 97, 98, 108, 101, 10, 10] ++ r3.1)).bind fun r4 =>
  Option.bind (α := Bool × List (List UInt8 × Int × Int × Int × Int)) (
    bif !decide (r3.2 = 0) then (
     some (true, r2.2.2))
    else (
     bif !decide (r4.2.2 = 0) then (
      some (true, r2.2.2))
     else (
      bif !decide (r4.2.1 = 0) then (
       some (true, r2.2.2))
      else (
       (ref04_Same r2.2.2 r4.1).bind fun r5 =>
       some ((!r5), r2.2.2))))) fun s =>
  bif s.1 then (
   some false)
  else (
   (iter (fun x => law04_ProductBack_L0 s x.1 x.2) (0, s.2)).bind fun s2 =>
   s2.elim (fun s3 =>
    (product_Find s3 [110, 111, 110, 101]).bind fun r7 =>
    bif decide (r7 = (-1)) then (
     (law04_awake).bind fun r8 =>
     some r8)
    else (
     some false))
   (fun s4 =>
    some s4))

noncomputable def fn_law04_ProductBack : Fun :=
  { f := 4, np := 1, nr := 1,
    ji := { regs := [(0, .one (.data (.sl (.int .i64))))], vars := [], arrs := [] },
    jo := { regs := [(0, .one (.data (.bool)))], vars := [], arrs := [] },
    tw := fun x => law04_ProductBack x }
noncomputable def cx_law04_ProductBack : Cx := { Γ := types, ow := [], fs := [fn_keep_New, fn_keep_Src_Products, fn_product_Format, fn_product_Parse, fn_ref04_Same, fn_product_Find, fn_law04_awake], N := 62 }
theorem ok_law04_ProductBack : FunOk Tryd.prog fn_law04_ProductBack :=
  FunOk.intro (C := cx_law04_ProductBack) (p := (.mk [] none .nil (.mk [] none .nil (.mk [] none .nil (.mk [] none .nil (.mk [] none (.mk [] none (.mk [.join [{ e := .n, j := { regs := [(3, .one (.own 208)), (40, .one (.data (.bool)))], vars := [], arrs := [(208, .arr 29 (.pair (.str) (.pair (.int .i64) (.pair (.int .i64) (.pair (.int .i64) (.int .i64))))))] } }]] none .nil .nil) .nil) (.mk [] none (.mk [] none .nil (.mk [] none (.mk [] (some ({ regs := [(3, .one (.own 208)), (42, .one .keep), (43, .one (.data (.int .i64)))], vars := [], arrs := [(208, .arr 29 (.pair (.str) (.pair (.int .i64) (.pair (.int .i64) (.pair (.int .i64) (.int .i64))))))] }, [{ e := .x 0, j := { regs := [(3, .one (.own 208))], vars := [], arrs := [(208, .arr 29 (.pair (.str) (.pair (.int .i64) (.pair (.int .i64) (.pair (.int .i64) (.int .i64))))))] } }, { e := .r, j := { regs := [(2, .one (.data (.bool)))], vars := [], arrs := [] } }])) .nil .nil) .nil)) .nil)))))))
    Tryd.func4 rfl nmr4 rfl rfl rfl rfl types_ok ⟨⟨ok_keep_New, ok_keep_Src_Products, ok_product_Format, ok_product_Parse, ok_ref04_Same, ok_product_Find, ok_law04_awake, trivial⟩, trivial⟩ mx (fun x => by kernel_rfl)

noncomputable def law04_ProductLines (l : List Int) (which : Int) : Option (Bool) :=
  (keep_New l).bind fun r =>
  (keep_Src_Products r.1 r.2).bind fun r2 =>
  (product_Format r2.2.2).bind fun r3 =>
  gd (inB (Int.tmod (wi64 which) 4) ([[112, 114, 111, 100, 117, 99, 116, 32, 120, 32, 52, 48, 48, 32, 48, 32, 48], [112, 114, 111, 100, 117, 99, 116, 32, 88, 32, 52, 48, 48, 32, 48, 32, 48, 32, 49], [112, 114, 111, 100, 117, 99, 116, 32, 112, 97, 32, 52, 48, 48, 32, 48, 32, 48, 32, 49], [112, 114, 111, 100, 117, 99, 116, 32, 120, 32, 52, 48, 48, 32, 48, 32, 48, 32, 50, 48, 48, 49]] : List (List UInt8)).length) <|
  gd (inB (Int.tmod (wi64 which) 4) [3, 9, 7, 9].length) <|
  gd (Nat.ble (r3.1.length + (([[112, 114, 111, 100, 117, 99, 116, 32, 120, 32, 52, 48, 48, 32, 48, 32, 48], [112, 114, 111, 100, 117, 99, 116, 32, 88, 32, 52, 48, 48, 32, 48, 32, 48, 32, 49], [112, 114, 111, 100, 117, 99, 116, 32, 112, 97, 32, 52, 48, 48, 32, 48, 32, 48, 32, 49], [112, 114, 111, 100, 117, 99, 116, 32, 120, 32, 52, 48, 48, 32, 48, 32, 48, 32, 50, 48, 48, 49]] : List (List UInt8)).getD (Int.tmod (wi64 which) 4).toNat []).length) 9223372036854775807) <|
  gd (Nat.ble ((r3.1 ++ (([[112, 114, 111, 100, 117, 99, 116, 32, 120, 32, 52, 48, 48, 32, 48, 32, 48], [112, 114, 111, 100, 117, 99, 116, 32, 88, 32, 52, 48, 48, 32, 48, 32, 48, 32, 49], [112, 114, 111, 100, 117, 99, 116, 32, 112, 97, 32, 52, 48, 48, 32, 48, 32, 48, 32, 49], [112, 114, 111, 100, 117, 99, 116, 32, 120, 32, 52, 48, 48, 32, 48, 32, 48, 32, 50, 48, 48, 49]] : List (List UInt8)).getD (Int.tmod (wi64 which) 4).toNat [])).length + [10, 112, 114, 111, 100, 117, 99, 116].length) 9223372036854775807) <|
  (product_Parse ((r3.1 ++ (([[112, 114, 111, 100, 117, 99, 116, 32, 120, 32, 52, 48, 48, 32, 48, 32, 48], [112, 114, 111, 100, 117, 99, 116, 32, 88, 32, 52, 48, 48, 32, 48, 32, 48, 32, 49], [112, 114, 111, 100, 117, 99, 116, 32, 112, 97, 32, 52, 48, 48, 32, 48, 32, 48, 32, 49], [112, 114, 111, 100, 117, 99, 116, 32, 120, 32, 52, 48, 48, 32, 48, 32, 48, 32, 50, 48, 48, 49]] : List (List UInt8)).getD (Int.tmod (wi64 which) 4).toNat [])) ++ [10, 112, 114, 111, 100, 117, 99, 116])).bind fun r4 =>
  bif decide (r3.2 = 0) then (
   bif decide ((r4.1.length : Int) = 0) then (
    bif decide (r4.2.1 = wi64 ((r2.2.2.length : Int) + 1)) then (
     bif decide (r4.2.2 = [3, 9, 7, 9].getD (Int.tmod (wi64 which) 4).toNat 0) then (
      (law04_awake).bind fun r5 =>
      some r5)
     else (
      some false))
    else (
     some false))
   else (
    some false))
  else (
   some false)

noncomputable def fn_law04_ProductLines : Fun :=
  { f := 5, np := 2, nr := 1,
    ji := { regs := [(0, .one (.data (.sl (.int .i64)))), (1, .one (.data (.int .u8)))], vars := [], arrs := [] },
    jo := { regs := [(0, .one (.data (.bool)))], vars := [], arrs := [] },
    tw := fun x => law04_ProductLines x.1 x.2 }
noncomputable def cx_law04_ProductLines : Cx := { Γ := types, ow := [], fs := [fn_keep_New, fn_keep_Src_Products, fn_product_Format, fn_product_Parse, fn_law04_awake], N := 64 }
theorem ok_law04_ProductLines : FunOk Tryd.prog fn_law04_ProductLines :=
  FunOk.intro (C := cx_law04_ProductLines) (p := .nil)
    Tryd.func5 rfl nmr5 rfl rfl rfl rfl types_ok ⟨⟨ok_keep_New, ok_keep_Src_Products, ok_product_Format, ok_product_Parse, ok_law04_awake, trivial⟩, trivial⟩ mx (fun x => by kernel_rfl)

noncomputable def law04_ProductParts_L0 (r2 : List Int × Int × List (List UInt8 × Int × Int × Int × Int)) (v : Int) (a : List (List UInt8 × Int × Int × Int × Int)) (b : List (List UInt8 × Int × Int × Int × Int)) : Option ((Int × (List (List UInt8 × Int × Int × Int × Int)) × List (List UInt8 × Int × Int × Int × Int)) ⊕ ((List (List UInt8 × Int × Int × Int × Int)) × List (List UInt8 × Int × Int × Int × Int))) :=
  bif decide (v < (([] ++ r2.2.2).length : Int)) then (
   gd (inB v b.length) <|
   gd (Nat.ble ([120].length + ((b.getD v.toNat ([], (0, (0, (0, 0))))).1).length) 9223372036854775807) <|
   gd (inB v b.length) <|
   some (.inl (wi64 (v + 1), a, b.set v.toNat ([120] ++ ((b.getD v.toNat ([], (0, (0, (0, 0))))).1), (b.getD v.toNat ([], (0, (0, (0, 0))))).2))))
  else (
   some (.inr (a, b)))

noncomputable def law04_ProductParts (l : List Int) : Option (Bool) :=
  (keep_New l).bind fun r =>
  (keep_Src_Products r.1 r.2).bind fun r2 =>
  gd (fits (0 + r2.2.2.length) 48) <|
  (iter (fun x => law04_ProductParts_L0 r2 x.1 x.2.1 x.2.2) (0, r2.2.2, ([] ++ r2.2.2))).bind fun s =>
  (product_Format s.1).bind fun r3 =>
  (product_Format s.2).bind fun r4 =>
  gd (Nat.ble (r3.1.length + r4.1.length) 9223372036854775807) <|
  (product_Parse (r3.1 ++ r4.1)).bind fun r5 =>
  gd (Nat.ble (r3.1.length + r4.1.length) 9223372036854775807) <|
  gd (Nat.ble ((r3.1 ++ r4.1).length + r3.1.length) 9223372036854775807) <|
  (product_Parse ((r3.1 ++ r4.1) ++ r3.1)).bind fun r6 =>
  bif decide (r3.2 = 0) then (
   bif decide (r4.2 = 0) then (
    bif decide (r5.2.2 = 0) then (
     bif decide (r5.2.1 = 0) then (
      gd (fits (0 + s.1.length) 48) <|
      gd (fits (([] ++ s.1).length + s.2.length) 48) <|
      (ref04_Same r5.1 (([] ++ s.1) ++ s.2)).bind fun r7 =>
      bif r7 then (
       bif decide (r6.2.2 = 7) then (
        bif decide (r6.2.1 = wi64 ((wi64 (2 * (s.1.length : Int))) + 1)) then (
         (law04_awake).bind fun r8 =>
         some r8)
        else (
         some false))
       else (
        some false))
      else (
       some false))
     else (
      some false))
    else (
     some false))
   else (
    some false))
  else (
   some false)

noncomputable def fn_law04_ProductParts : Fun :=
  { f := 6, np := 1, nr := 1,
    ji := { regs := [(0, .one (.data (.sl (.int .i64))))], vars := [], arrs := [] },
    jo := { regs := [(0, .one (.data (.bool)))], vars := [], arrs := [] },
    tw := fun x => law04_ProductParts x }
noncomputable def cx_law04_ProductParts : Cx := { Γ := types, ow := [21, 84], fs := [fn_keep_New, fn_keep_Src_Products, fn_product_Format, fn_product_Parse, fn_ref04_Same, fn_law04_awake], N := 106 }
theorem ok_law04_ProductParts : FunOk Tryd.prog fn_law04_ProductParts :=
  FunOk.intro (C := cx_law04_ProductParts) (p := (.mk [] none .nil (.mk [] none .nil (.mk [] none .nil (.mk [] none .nil (.mk [] none (.mk [] none .nil (.mk [] none (.mk [] (some ({ regs := [(4, .one (.own 336)), (5, .one (.own 384)), (25, .one .keep), (26, .one (.data (.int .i64)))], vars := [], arrs := [(336, .arr 29 (.pair (.str) (.pair (.int .i64) (.pair (.int .i64) (.pair (.int .i64) (.int .i64)))))), (384, .arr 29 (.pair (.str) (.pair (.int .i64) (.pair (.int .i64) (.pair (.int .i64) (.int .i64))))))] }, [{ e := .x 0, j := { regs := [(4, .one (.own 336)), (5, .one (.own 384))], vars := [], arrs := [(336, .arr 29 (.pair (.str) (.pair (.int .i64) (.pair (.int .i64) (.pair (.int .i64) (.int .i64)))))), (384, .arr 29 (.pair (.str) (.pair (.int .i64) (.pair (.int .i64) (.pair (.int .i64) (.int .i64))))))] } }])) .nil .nil) .nil)) .nil))))))
    Tryd.func6 rfl nmr6 rfl rfl rfl rfl types_ok ⟨⟨ok_keep_New, ok_keep_Src_Products, ok_product_Format, ok_product_Parse, ok_ref04_Same, ok_law04_awake, trivial⟩, trivial⟩ mx (fun x => by kernel_rfl)


end Go.Proofs.YtihbfecdccamoaaDoor
