/- Functions, evaluated. No condition. -/
import Derived.Test.YtihbfecdccamoaaGreatDoorProg
import Derived.Test.YtihbfecdccamoaaGreatDoorSqLB
import Derived.Test.YtihbfecdccamoaaGreatDoorLx
import Derived.Test.YtihbfecdccamoaaGreatDoorLc
namespace Go.Proofs.YtihbfecdccamoaaGreatDoor
open Go Go.Sq
def ti3 : TI := { t := 3, desc := .int .i64, size := 1, bytes := 8, zero := .int .i64 0, τ := .int .i64, eq := false }
theorem tk3 : ti3.ok Tryz.prog := ⟨Tryz.underlying3, by kernel_rfl, fun h => by cases h⟩
def ti4 : TI := { t := 4, desc := .bool, size := 1, bytes := 1, zero := .bool false, τ := .bool, eq := false }
theorem tk4 : ti4.ok Tryz.prog := ⟨Tryz.underlying4, by kernel_rfl, fun h => by cases h⟩
def ti5 : TI := { t := 5, desc := .int .u8, size := 1, bytes := 1, zero := .int .u8 0, τ := .int .u8, eq := false }
theorem tk5 : ti5.ok Tryz.prog := ⟨Tryz.underlying5, by kernel_rfl, fun h => by cases h⟩
def ti9 : TI := { t := 9, desc := .string, size := 1, bytes := 16, zero := .string ⟨#[]⟩, τ := .str, eq := false }
theorem tk9 : ti9.ok Tryz.prog := ⟨Tryz.underlying9, by kernel_rfl, fun h => by cases h⟩
def ti22 : TI := { t := 22, desc := .slice 26, size := 1, bytes := 24, zero := .slice none 0 0, τ := .sl (.pair (.str) (.pair (.int .i64) (.pair (.int .i64) (.pair (.int .i64) (.int .i64))))), eq := false }
theorem tk22 : ti22.ok Tryz.prog := ⟨Tryz.underlying22, by kernel_rfl, fun h => by cases h⟩
def ti23 : TI := { t := 23, desc := .slice 3, size := 1, bytes := 24, zero := .slice none 0 0, τ := .sl (.int .i64), eq := false }
theorem tk23 : ti23.ok Tryz.prog := ⟨Tryz.underlying23, by kernel_rfl, fun h => by cases h⟩
def ti26 : TI := { t := 26, desc := .struct #[{ name := "Name", type := 9, offset := 0, embedded := false, tag := "", pkgPath := "", byteOffset := 0 }, { name := "Density", type := 3, offset := 1, embedded := false, tag := "", pkgPath := "", byteOffset := 16 }, { name := "Expansion", type := 3, offset := 2, embedded := false, tag := "", pkgPath := "", byteOffset := 24 }, { name := "Compress", type := 3, offset := 3, embedded := false, tag := "", pkgPath := "", byteOffset := 32 }, { name := "Friction", type := 3, offset := 4, embedded := false, tag := "", pkgPath := "", byteOffset := 40 }], size := 5, bytes := 48, zero := .agg #[.string ⟨#[]⟩, .int .i64 0, .int .i64 0, .int .i64 0, .int .i64 0], τ := .pair (.str) (.pair (.int .i64) (.pair (.int .i64) (.pair (.int .i64) (.int .i64)))), eq := true }
theorem tk26 : ti26.ok Tryz.prog := ⟨Tryz.underlying26, by kernel_rfl, fun _ => ⟨Tryz.eqGuardType26, Tryz.stoodInHeld26⟩⟩
def ti33 : TI := { t := 33, desc := .slice 22, size := 1, bytes := 24, zero := .slice none 0 0, τ := .sl (.sl (.pair (.str) (.pair (.int .i64) (.pair (.int .i64) (.pair (.int .i64) (.int .i64)))))), eq := false }
theorem tk33 : ti33.ok Tryz.prog := ⟨Tryz.underlying33, by kernel_rfl, fun h => by cases h⟩
def ti42 : TI := { t := 42, desc := .slice 9, size := 1, bytes := 24, zero := .slice none 0 0, τ := .sl (.str), eq := false }
theorem tk42 : ti42.ok Tryz.prog := ⟨Tryz.underlying42, by kernel_rfl, fun h => by cases h⟩
def ti48 : TI := { t := 48, desc := .struct #[{ name := "L", type := 23, offset := 0, embedded := false, tag := "", pkgPath := "", byteOffset := 0 }, { name := "At", type := 3, offset := 1, embedded := false, tag := "", pkgPath := "", byteOffset := 24 }], size := 2, bytes := 32, zero := .agg #[.slice none 0 0, .int .i64 0], τ := .pair (.sl (.int .i64)) (.int .i64), eq := true }
theorem tk48 : ti48.ok Tryz.prog := ⟨Tryz.underlying48, by kernel_rfl, fun _ => ⟨Tryz.eqGuardType48, Tryz.stoodInHeld48⟩⟩
def ti53 : TI := { t := 53, desc := .slice 42, size := 1, bytes := 24, zero := .slice none 0 0, τ := .sl (.sl (.str)), eq := false }
theorem tk53 : ti53.ok Tryz.prog := ⟨Tryz.underlying53, by kernel_rfl, fun h => by cases h⟩
def ti54 : TI := { t := 54, desc := .array 4 3, size := 4, bytes := 32, zero := .agg #[.int .i64 0, .int .i64 0, .int .i64 0, .int .i64 0], τ := .pair (.int .i64) (.pair (.int .i64) (.pair (.int .i64) (.int .i64))), eq := false }
theorem tk54 : ti54.ok Tryz.prog := ⟨Tryz.underlying54, by kernel_rfl, fun h => by cases h⟩
def ti59 : TI := { t := 59, desc := .struct #[{ name := "least", type := 3, offset := 0, embedded := false, tag := "", pkgPath := "batchline/product", byteOffset := 0 }, { name := "most", type := 3, offset := 1, embedded := false, tag := "", pkgPath := "batchline/product", byteOffset := 8 }], size := 2, bytes := 16, zero := .agg #[.int .i64 0, .int .i64 0], τ := .pair (.int .i64) (.int .i64), eq := true }
theorem tk59 : ti59.ok Tryz.prog := ⟨Tryz.underlying59, by kernel_rfl, fun _ => ⟨Tryz.eqGuardType59, Tryz.stoodInHeld59⟩⟩
def ti60 : TI := { t := 60, desc := .array 4 59, size := 8, bytes := 64, zero := .agg #[.int .i64 0, .int .i64 0, .int .i64 0, .int .i64 0, .int .i64 0, .int .i64 0, .int .i64 0, .int .i64 0], τ := .pair (.pair (.int .i64) (.int .i64)) (.pair (.pair (.int .i64) (.int .i64)) (.pair (.pair (.int .i64) (.int .i64)) (.pair (.int .i64) (.int .i64)))), eq := false }
theorem tk60 : ti60.ok Tryz.prog := ⟨Tryz.underlying60, by kernel_rfl, fun h => by cases h⟩
def ti62 : TI := { t := 62, desc := .slice 5, size := 1, bytes := 24, zero := .slice none 0 0, τ := .sl (.int .u8), eq := false }
theorem tk62 : ti62.ok Tryz.prog := ⟨Tryz.underlying62, by kernel_rfl, fun h => by cases h⟩
def ti70 : TI := { t := 70, desc := .pointer 72, size := 1, bytes := 8, zero := .pointer none, τ := .unit, eq := false }
theorem tk70 : ti70.ok Tryz.prog := ⟨Tryz.underlying70, by kernel_rfl, fun h => by cases h⟩
def ti72 : TI := { t := 72, desc := .struct #[{ name := "addr", type := 70, offset := 0, embedded := false, tag := "", pkgPath := "strings", byteOffset := 0 }, { name := "buf", type := 62, offset := 1, embedded := false, tag := "", pkgPath := "strings", byteOffset := 8 }], size := 2, bytes := 32, zero := .agg #[.pointer none, .slice none 0 0], τ := .unit, eq := true }
theorem tk72 : ti72.ok Tryz.prog := ⟨Tryz.underlying72, by kernel_rfl, fun _ => ⟨Tryz.eqGuardType72, Tryz.stoodInHeld72⟩⟩
def ti74 : TI := { t := 74, desc := .interface #[("Error", 78)], size := 1, bytes := 16, zero := .nilIface, τ := .err, eq := false }
theorem tk74 : ti74.ok Tryz.prog := ⟨Tryz.underlying74, by kernel_rfl, fun h => by cases h⟩
def ti88 : TI := { t := 88, desc := .pointer 5, size := 1, bytes := 8, zero := .pointer none, τ := .unit, eq := false }
theorem tk88 : ti88.ok Tryz.prog := ⟨Tryz.underlying88, by kernel_rfl, fun h => by cases h⟩
def types : List TI := [ti3, ti4, ti5, ti9, ti22, ti23, ti26, ti33, ti42, ti48, ti53, ti54, ti59, ti60, ti62, ti70, ti72, ti74, ti88]
theorem types_ok : Tys Tryz.prog types := ⟨tk3, tk4, tk5, tk9, tk22, tk23, tk26, tk33, tk42, tk48, tk53, tk54, tk59, tk60, tk62, tk70, tk72, tk74, tk88, trivial⟩
def xt59 : Ext := extCnt 59
theorem xk59 : ExtOk Tryz.prog xt59 := extCnt_ok Tryz.func59 (by kernel_rfl) (by kernel_rfl) (by kernel_rfl) (by kernel_rfl)
def xt96 : Ext := extIdx 96
theorem xk96 : ExtOk Tryz.prog xt96 := extIdx_ok Tryz.func96 (by kernel_rfl) (by kernel_rfl) (by kernel_rfl) (by kernel_rfl)
theorem mx : Tryz.prog.follows .mixedOrders = true := by kernel_rfl
theorem nmr83 : (Tryz.f83.name == "runtime.NumGoroutine") = false := by kernel_rfl
theorem nmr72 : (Tryz.f72.name == "runtime.NumGoroutine") = false := by kernel_rfl
theorem nmr60 : (Tryz.f60.name == "runtime.NumGoroutine") = false := by kernel_rfl
theorem nmr46 : (Tryz.f46.name == "runtime.NumGoroutine") = false := by kernel_rfl
theorem nmr61 : (Tryz.f61.name == "runtime.NumGoroutine") = false := by kernel_rfl
theorem nmr47 : (Tryz.f47.name == "runtime.NumGoroutine") = false := by kernel_rfl
theorem nmr62 : (Tryz.f62.name == "runtime.NumGoroutine") = false := by kernel_rfl
theorem nmr48 : (Tryz.f48.name == "runtime.NumGoroutine") = false := by kernel_rfl
theorem nmr63 : (Tryz.f63.name == "runtime.NumGoroutine") = false := by kernel_rfl
theorem nmr49 : (Tryz.f49.name == "runtime.NumGoroutine") = false := by kernel_rfl
theorem nmr55 : (Tryz.f55.name == "runtime.NumGoroutine") = false := by kernel_rfl
theorem nmr40 : (Tryz.f40.name == "runtime.NumGoroutine") = false := by kernel_rfl
theorem nmr35 : (Tryz.f35.name == "runtime.NumGoroutine") = false := by kernel_rfl
theorem nmr88 : (Tryz.f88.name == "runtime.NumGoroutine") = false := by kernel_rfl
theorem nmr74 : (Tryz.f74.name == "runtime.NumGoroutine") = false := by kernel_rfl
theorem nmr64 : (Tryz.f64.name == "runtime.NumGoroutine") = false := by kernel_rfl
theorem nmr65 : (Tryz.f65.name == "runtime.NumGoroutine") = false := by kernel_rfl
theorem nmr50 : (Tryz.f50.name == "runtime.NumGoroutine") = false := by kernel_rfl
theorem nmr28 : (Tryz.f28.name == "runtime.NumGoroutine") = false := by kernel_rfl
theorem nmr45 : (Tryz.f45.name == "runtime.NumGoroutine") = false := by kernel_rfl
theorem nmr33 : (Tryz.f33.name == "runtime.NumGoroutine") = false := by kernel_rfl
theorem nmr16 : (Tryz.f16.name == "runtime.NumGoroutine") = false := by kernel_rfl
theorem nmr36 : (Tryz.f36.name == "runtime.NumGoroutine") = false := by kernel_rfl
theorem nmr32 : (Tryz.f32.name == "runtime.NumGoroutine") = false := by kernel_rfl
theorem nmr31 : (Tryz.f31.name == "runtime.NumGoroutine") = false := by kernel_rfl
theorem nmr14 : (Tryz.f14.name == "runtime.NumGoroutine") = false := by kernel_rfl
theorem nmr20 : (Tryz.f20.name == "runtime.NumGoroutine") = false := by kernel_rfl
theorem nmr22 : (Tryz.f22.name == "runtime.NumGoroutine") = false := by kernel_rfl
theorem nmr4 : (Tryz.f4.name == "runtime.NumGoroutine") = false := by kernel_rfl
theorem nmr5 : (Tryz.f5.name == "runtime.NumGoroutine") = false := by kernel_rfl
theorem nmr26 : (Tryz.f26.name == "runtime.NumGoroutine") = false := by kernel_rfl
theorem nmr25 : (Tryz.f25.name == "runtime.NumGoroutine") = false := by kernel_rfl
theorem nmr8 : (Tryz.f8.name == "runtime.NumGoroutine") = false := by kernel_rfl
theorem nmr19 : (Tryz.f19.name == "runtime.NumGoroutine") = false := by kernel_rfl
theorem nmr27 : (Tryz.f27.name == "runtime.NumGoroutine") = false := by kernel_rfl
theorem nmr24 : (Tryz.f24.name == "runtime.NumGoroutine") = false := by kernel_rfl
theorem nmr9 : (Tryz.f9.name == "runtime.NumGoroutine") = false := by kernel_rfl
theorem nmr6 : (Tryz.f6.name == "runtime.NumGoroutine") = false := by kernel_rfl
theorem nmr23 : (Tryz.f23.name == "runtime.NumGoroutine") = false := by kernel_rfl
theorem nmr7 : (Tryz.f7.name == "runtime.NumGoroutine") = false := by kernel_rfl
theorem nmr12 : (Tryz.f12.name == "runtime.NumGoroutine") = false := by kernel_rfl
theorem nmr29 : (Tryz.f29.name == "runtime.NumGoroutine") = false := by kernel_rfl
theorem nmr42 : (Tryz.f42.name == "runtime.NumGoroutine") = false := by kernel_rfl
theorem nmr56 : (Tryz.f56.name == "runtime.NumGoroutine") = false := by kernel_rfl
theorem nmr41 : (Tryz.f41.name == "runtime.NumGoroutine") = false := by kernel_rfl
theorem nmr43 : (Tryz.f43.name == "runtime.NumGoroutine") = false := by kernel_rfl
theorem nmr44 : (Tryz.f44.name == "runtime.NumGoroutine") = false := by kernel_rfl
theorem nmr30 : (Tryz.f30.name == "runtime.NumGoroutine") = false := by kernel_rfl
theorem nmr10 : (Tryz.f10.name == "runtime.NumGoroutine") = false := by kernel_rfl
theorem nmr34 : (Tryz.f34.name == "runtime.NumGoroutine") = false := by kernel_rfl
theorem nmr17 : (Tryz.f17.name == "runtime.NumGoroutine") = false := by kernel_rfl
theorem nmr15 : (Tryz.f15.name == "runtime.NumGoroutine") = false := by kernel_rfl
theorem nmr13 : (Tryz.f13.name == "runtime.NumGoroutine") = false := by kernel_rfl
theorem nmr18 : (Tryz.f18.name == "runtime.NumGoroutine") = false := by kernel_rfl
theorem nmr11 : (Tryz.f11.name == "runtime.NumGoroutine") = false := by kernel_rfl
theorem nmr51 : (Tryz.f51.name == "runtime.NumGoroutine") = false := by kernel_rfl
theorem nmr52 : (Tryz.f52.name == "runtime.NumGoroutine") = false := by kernel_rfl
theorem nmr53 : (Tryz.f53.name == "runtime.NumGoroutine") = false := by kernel_rfl
theorem nmr37 : (Tryz.f37.name == "runtime.NumGoroutine") = false := by kernel_rfl
theorem nmr38 : (Tryz.f38.name == "runtime.NumGoroutine") = false := by kernel_rfl
theorem nmr21 : (Tryz.f21.name == "runtime.NumGoroutine") = false := by kernel_rfl
theorem nmr3 : (Tryz.f3.name == "runtime.NumGoroutine") = false := by kernel_rfl

noncomputable def internal_stringslite_IndexByte (s : List UInt8) (c : Int) : Option (Int) :=
  (idxB s c).bind fun r =>
  some r

noncomputable def fn_internal_stringslite_IndexByte : Fun :=
  { f := 83, np := 2, nr := 1,
    ji := { regs := [(0, .one (.data (.str))), (1, .one (.data (.int .u8)))], vars := [], arrs := [] },
    jo := { regs := [(0, .one (.data (.int .i64)))], vars := [], arrs := [] },
    tw := fun x => internal_stringslite_IndexByte x.1 x.2 }
noncomputable def cx_internal_stringslite_IndexByte : Cx := { Γ := types, ow := [], fs := [], xs := [xt96], N := 8 }
theorem ok_internal_stringslite_IndexByte : FunOk Tryz.prog fn_internal_stringslite_IndexByte :=
  FunOk.intro (C := cx_internal_stringslite_IndexByte) (p := .nil)
    Tryz.func83 rfl nmr83 rfl rfl rfl rfl types_ok ⟨trivial, ⟨xk96, trivial⟩⟩ mx (fun x => by kernel_rfl)

noncomputable def internal_stringslite_Index (s : List UInt8) (substr : List UInt8) : Option (Int) :=
  Option.bind (α := Bool) (
    bif decide ((substr.length : Int) = 0) then (
     some true)
    else (
     some (decide (substr = s)))) fun s2 =>
  bif s2 then (
   some 0)
  else (
   bif decide ((substr.length : Int) = 1) then (
    gd (inB 0 substr.length) <|
    (internal_stringslite_IndexByte s (Int.ofNat (substr.getD 0 0).toNat)).bind fun r =>
    some r)
   else (
    bif decide ((s.length : Int) ≤ (substr.length : Int)) then (
     some (-1))
    else (
     none)))

noncomputable def fn_internal_stringslite_Index : Fun :=
  { f := 72, np := 2, nr := 1,
    ji := { regs := [(0, .one (.data (.str))), (1, .one (.data (.str)))], vars := [], arrs := [] },
    jo := { regs := [(0, .one (.data (.int .i64)))], vars := [], arrs := [] },
    tw := fun x => internal_stringslite_Index x.1 x.2 }
noncomputable def cx_internal_stringslite_Index : Cx := { Γ := types, ow := [], fs := [fn_internal_stringslite_IndexByte], N := 143 }
theorem ok_internal_stringslite_Index : FunOk Tryz.prog fn_internal_stringslite_Index :=
  FunOk.intro (C := cx_internal_stringslite_Index) (p := (.mk [] none .nil (.mk [] none .nil (.mk [] none (.mk [] none (.mk [] none (.mk [.join [{ e := .n, j := { regs := [(0, .one .keep), (1, .one .keep), (5, .one .keep), (16, .one (.data (.bool)))], vars := [], arrs := [] } }]] none .nil .nil) .nil) .nil) .nil))))
    Tryz.func72 rfl nmr72 rfl rfl rfl rfl types_ok ⟨⟨ok_internal_stringslite_IndexByte, trivial⟩, trivial⟩ mx (fun x => by kernel_rfl)

noncomputable def strings_Index (s : List UInt8) (substr : List UInt8) : Option (Int) :=
  (internal_stringslite_Index s substr).bind fun r =>
  some r

noncomputable def fn_strings_Index : Fun :=
  { f := 60, np := 2, nr := 1,
    ji := { regs := [(0, .one (.data (.str))), (1, .one (.data (.str)))], vars := [], arrs := [] },
    jo := { regs := [(0, .one (.data (.int .i64)))], vars := [], arrs := [] },
    tw := fun x => strings_Index x.1 x.2 }
noncomputable def cx_strings_Index : Cx := { Γ := types, ow := [], fs := [fn_internal_stringslite_Index], N := 8 }
theorem ok_strings_Index : FunOk Tryz.prog fn_strings_Index :=
  FunOk.intro (C := cx_strings_Index) (p := .nil)
    Tryz.func60 rfl nmr60 rfl rfl rfl rfl types_ok ⟨⟨ok_internal_stringslite_Index, trivial⟩, trivial⟩ mx (fun x => by kernel_rfl)

noncomputable def strings_Count_L0 (substr : List UInt8) (s2 : List UInt8) (n : Int) : Option ((List UInt8 × Int) ⊕ Int) :=
  (strings_Index s2 substr).bind fun r2 =>
  bif decide (r2 = (-1)) then (
   some (.inr n))
  else (
   gd (cutG (some (.i64, wi64 (r2 + (substr.length : Int)))) none s2.length) <|
   some (.inl (s2.drop (wi64 (r2 + (substr.length : Int))).toNat, wi64 (n + 1))))

noncomputable def strings_Count (s : List UInt8) (substr : List UInt8) : Option (Int) :=
  bif decide ((substr.length : Int) = 0) then (
   none)
  else (
   bif decide ((substr.length : Int) = 1) then (
    gd (inB 0 substr.length) <|
    (cntB s (Int.ofNat (substr.getD 0 0).toNat)).bind fun r =>
    some r)
   else (
    (iter (fun x => strings_Count_L0 substr x.1 x.2) (s, 0)).bind fun s3 =>
    some s3))

noncomputable def fn_strings_Count : Fun :=
  { f := 46, np := 2, nr := 1,
    ji := { regs := [(0, .one (.data (.str))), (1, .one (.data (.str)))], vars := [], arrs := [] },
    jo := { regs := [(0, .one (.data (.int .i64)))], vars := [], arrs := [] },
    tw := fun x => strings_Count x.1 x.2 }
noncomputable def cx_strings_Count : Cx := { Γ := types, ow := [], fs := [fn_strings_Index], xs := [xt59], N := 34 }
theorem ok_strings_Count : FunOk Tryz.prog fn_strings_Count :=
  FunOk.intro (C := cx_strings_Count) (p := (.mk [] none .nil (.mk [] none .nil (.mk [] none .nil (.mk [] none .nil (.mk [] none (.mk [] (some ({ regs := [(0, .one (.data (.str))), (1, .one .keep), (5, .one (.data (.int .i64)))], vars := [], arrs := [] }, [{ e := .r, j := { regs := [(4, .one (.data (.int .i64)))], vars := [], arrs := [] } }])) .nil .nil) .nil))))))
    Tryz.func46 rfl nmr46 rfl rfl rfl rfl types_ok ⟨⟨ok_strings_Index, trivial⟩, ⟨xk59, trivial⟩⟩ mx (fun x => by kernel_rfl)

noncomputable def internal_stringslite_HasSuffix (s : List UInt8) (suffix : List UInt8) : Option (Bool) :=
  bif decide ((suffix.length : Int) ≤ (s.length : Int)) then (
   gd (cutG (some (.i64, wi64 ((s.length : Int) - (suffix.length : Int)))) none s.length) <|
   some (decide (s.drop (wi64 ((s.length : Int) - (suffix.length : Int))).toNat = suffix)))
  else (
   some false)

noncomputable def fn_internal_stringslite_HasSuffix : Fun :=
  { f := 61, np := 2, nr := 1,
    ji := { regs := [(0, .one (.data (.str))), (1, .one (.data (.str)))], vars := [], arrs := [] },
    jo := { regs := [(0, .one (.data (.bool)))], vars := [], arrs := [] },
    tw := fun x => internal_stringslite_HasSuffix x.1 x.2 }
noncomputable def cx_internal_stringslite_HasSuffix : Cx := { Γ := types, ow := [], fs := [], N := 21 }
theorem ok_internal_stringslite_HasSuffix : FunOk Tryz.prog fn_internal_stringslite_HasSuffix :=
  FunOk.intro (C := cx_internal_stringslite_HasSuffix) (p := .nil)
    Tryz.func61 rfl nmr61 rfl rfl rfl rfl types_ok ⟨trivial, trivial⟩ mx (fun x => by kernel_rfl)

noncomputable def strings_HasSuffix (s : List UInt8) (suffix : List UInt8) : Option (Bool) :=
  (internal_stringslite_HasSuffix s suffix).bind fun r =>
  some r

noncomputable def fn_strings_HasSuffix : Fun :=
  { f := 47, np := 2, nr := 1,
    ji := { regs := [(0, .one (.data (.str))), (1, .one (.data (.str)))], vars := [], arrs := [] },
    jo := { regs := [(0, .one (.data (.bool)))], vars := [], arrs := [] },
    tw := fun x => strings_HasSuffix x.1 x.2 }
noncomputable def cx_strings_HasSuffix : Cx := { Γ := types, ow := [], fs := [fn_internal_stringslite_HasSuffix], N := 8 }
theorem ok_strings_HasSuffix : FunOk Tryz.prog fn_strings_HasSuffix :=
  FunOk.intro (C := cx_strings_HasSuffix) (p := .nil)
    Tryz.func47 rfl nmr47 rfl rfl rfl rfl types_ok ⟨⟨ok_internal_stringslite_HasSuffix, trivial⟩, trivial⟩ mx (fun x => by kernel_rfl)

noncomputable def internal_stringslite_Cut (s : List UInt8) (sep : List UInt8) : Option (List UInt8 × List UInt8 × Bool) :=
  (internal_stringslite_Index s sep).bind fun r =>
  bif decide (0 ≤ r) then (
   gd (cutG none (some (.i64, r)) s.length) <|
   gd (cutG (some (.i64, wi64 (r + (sep.length : Int)))) none s.length) <|
   some (s.take r.toNat, s.drop (wi64 (r + (sep.length : Int))).toNat, true))
  else (
   some (s, [], false))

noncomputable def fn_internal_stringslite_Cut : Fun :=
  { f := 62, np := 2, nr := 3,
    ji := { regs := [(0, .one (.data (.str))), (1, .one (.data (.str)))], vars := [], arrs := [] },
    jo := { regs := [(0, .one (.data (.str))), (1, .one (.data (.str))), (2, .one (.data (.bool)))], vars := [], arrs := [] },
    tw := fun x => internal_stringslite_Cut x.1 x.2 }
noncomputable def cx_internal_stringslite_Cut : Cx := { Γ := types, ow := [], fs := [fn_internal_stringslite_Index], N := 23 }
theorem ok_internal_stringslite_Cut : FunOk Tryz.prog fn_internal_stringslite_Cut :=
  FunOk.intro (C := cx_internal_stringslite_Cut) (p := .nil)
    Tryz.func62 rfl nmr62 rfl rfl rfl rfl types_ok ⟨⟨ok_internal_stringslite_Index, trivial⟩, trivial⟩ mx (fun x => by kernel_rfl)

noncomputable def strings_Cut (s : List UInt8) (sep : List UInt8) : Option (List UInt8 × List UInt8 × Bool) :=
  (internal_stringslite_Cut s sep).bind fun r =>
  some (r.1, r.2.1, r.2.2)

noncomputable def fn_strings_Cut : Fun :=
  { f := 48, np := 2, nr := 3,
    ji := { regs := [(0, .one (.data (.str))), (1, .one (.data (.str)))], vars := [], arrs := [] },
    jo := { regs := [(0, .one (.data (.str))), (1, .one (.data (.str))), (2, .one (.data (.bool)))], vars := [], arrs := [] },
    tw := fun x => strings_Cut x.1 x.2 }
noncomputable def cx_strings_Cut : Cx := { Γ := types, ow := [], fs := [fn_internal_stringslite_Cut], N := 13 }
theorem ok_strings_Cut : FunOk Tryz.prog fn_strings_Cut :=
  FunOk.intro (C := cx_strings_Cut) (p := .nil)
    Tryz.func48 rfl nmr48 rfl rfl rfl rfl types_ok ⟨⟨ok_internal_stringslite_Cut, trivial⟩, trivial⟩ mx (fun x => by kernel_rfl)

noncomputable def strings_genSplit_L0 (s : List UInt8) (sep : List UInt8) (sepSave : Int) (s2 : Int) (s3 : List UInt8) (i : Int) (a : List (List UInt8)) : Option ((List UInt8 × Int × List (List UInt8)) ⊕ (List UInt8 × Int × List (List UInt8))) :=
  bif decide (i < wi64 ((min s2 (wi64 ((s.length : Int) + 1))) - 1)) then (
   (strings_Index s3 sep).bind fun r2 =>
   bif decide (r2 < 0) then (
    some (.inr (s3, i, a)))
   else (
    gd (cutG none (some (.i64, wi64 (r2 + sepSave))) s3.length) <|
    gd (inB i a.length) <|
    gd (cutG (some (.i64, wi64 (r2 + (sep.length : Int)))) none s3.length) <|
    some (.inl (s3.drop (wi64 (r2 + (sep.length : Int))).toNat, wi64 (i + 1), a.set i.toNat (s3.take (wi64 (r2 + sepSave)).toNat)))))
  else (
   some (.inr (s3, i, a)))

noncomputable def strings_genSplit (s : List UInt8) (sep : List UInt8) (sepSave : Int) (n : Int) : Option (List (List UInt8)) :=
  bif decide (n = 0) then (
   some [])
  else (
   bif decide (sep = []) then (
    none)
   else (
    Option.bind (α := Int) (
      bif decide (n < 0) then (
       (strings_Count s sep).bind fun r =>
       some (wi64 (r + 1)))
      else (
       some n)) fun s2 =>
    gd (makeG 16 (min s2 (wi64 ((s.length : Int) + 1)))) <|
    (iter (fun x => strings_genSplit_L0 s sep sepSave s2 x.1 x.2.1 x.2.2) (s, 0, List.replicate (min s2 (wi64 ((s.length : Int) + 1))).toNat [])).bind fun s4 =>
    gd (inB s4.2.1 s4.2.2.length) <|
    gd (cutG none (some (.i64, wi64 (s4.2.1 + 1))) (s4.2.2.set s4.2.1.toNat s4.1).length) <|
    some ((s4.2.2.set s4.2.1.toNat s4.1).take (wi64 (s4.2.1 + 1)).toNat)))

noncomputable def fn_strings_genSplit : Fun :=
  { f := 63, np := 4, nr := 1,
    ji := { regs := [(0, .one (.data (.str))), (1, .one (.data (.str))), (2, .one (.data (.int .i64))), (3, .one (.data (.int .i64)))], vars := [], arrs := [] },
    jo := { regs := [(0, .one (.data (.sl (.str))))], vars := [], arrs := [] },
    tw := fun x => strings_genSplit x.1 x.2.1 x.2.2.1 x.2.2.2 }
noncomputable def cx_strings_genSplit : Cx := { Γ := types, ow := [], fs := [fn_strings_Count, fn_strings_Index], N := 66 }
theorem ok_strings_genSplit : FunOk Tryz.prog fn_strings_genSplit :=
  FunOk.intro (C := cx_strings_genSplit) (p := (.mk [] none .nil (.mk [] none .nil (.mk [] none .nil (.mk [] none (.mk [] none .nil (.mk [.join [{ e := .n, j := { regs := [(0, .one .keep), (1, .one .keep), (2, .one .keep), (3, .one (.data (.int .i64)))], vars := [], arrs := [] } }]] none .nil .nil)) (.mk [] none .nil (.mk [] none .nil (.mk [] none .nil (.mk [] none .nil (.mk [] none (.mk [] none (.mk [] (some ({ regs := [(0, .one (.data (.str))), (1, .one .keep), (2, .one .keep), (3, .one .keep), (9, .one (.own 512)), (10, .one (.data (.int .i64)))], vars := [], arrs := [(512, .arr 9 (.str))] }, [{ e := .x 0, j := { regs := [(0, .one (.data (.str))), (9, .one (.own 512)), (10, .one (.data (.int .i64)))], vars := [], arrs := [(512, .arr 9 (.str))] } }])) .nil .nil) .nil) (.mk [] none .nil (.mk [] none (.mk [.fz [9]] none .nil .nil) .nil))))))))))))
    Tryz.func63 rfl nmr63 rfl rfl rfl rfl types_ok ⟨⟨ok_strings_Count, ok_strings_Index, trivial⟩, trivial⟩ mx (fun x => by kernel_rfl)

noncomputable def strings_Split (s : List UInt8) (sep : List UInt8) : Option (List (List UInt8)) :=
  (strings_genSplit s sep 0 (-1)).bind fun r =>
  some r

noncomputable def fn_strings_Split : Fun :=
  { f := 49, np := 2, nr := 1,
    ji := { regs := [(0, .one (.data (.str))), (1, .one (.data (.str)))], vars := [], arrs := [] },
    jo := { regs := [(0, .one (.data (.sl (.str))))], vars := [], arrs := [] },
    tw := fun x => strings_Split x.1 x.2 }
noncomputable def cx_strings_Split : Cx := { Γ := types, ow := [], fs := [fn_strings_genSplit], N := 8 }
theorem ok_strings_Split : FunOk Tryz.prog fn_strings_Split :=
  FunOk.intro (C := cx_strings_Split) (p := .nil)
    Tryz.func49 rfl nmr49 rfl rfl rfl rfl types_ok ⟨⟨ok_strings_genSplit, trivial⟩, trivial⟩ mx (fun x => by kernel_rfl)

noncomputable def lines_word_L0 (s : List UInt8) (v : Int) : Option (Int ⊕ (Unit ⊕ Bool)) :=
  bif decide (v < (s.length : Int)) then (
   Option.bind (α := Bool) (
     gd (inB v s.length) <|
     bif decide ((Int.ofNat (s.getD v.toNat 0).toNat) < 33) then (
      some true)
     else (
      gd (inB v s.length) <|
      some (decide (126 < (Int.ofNat (s.getD v.toNat 0).toNat))))) fun s2 =>
   bif s2 then (
    some (.inr (.inr false)))
   else (
    some (.inl (wi64 (v + 1)))))
  else (
   some (.inr (.inl ())))

noncomputable def lines_word (s : List UInt8) : Option (Bool) :=
  (iter (fun x => lines_word_L0 s x) 0).bind fun s3 =>
  s3.elim (fun s4 =>
   some (!decide (s = [])))
  (fun s5 =>
   some s5)

noncomputable def fn_lines_word : Fun :=
  { f := 55, np := 1, nr := 1,
    ji := { regs := [(0, .one (.data (.str)))], vars := [], arrs := [] },
    jo := { regs := [(0, .one (.data (.bool)))], vars := [], arrs := [] },
    tw := fun x => lines_word x }
noncomputable def cx_lines_word : Cx := { Γ := types, ow := [], fs := [], N := 22 }
theorem ok_lines_word : FunOk Tryz.prog fn_lines_word :=
  FunOk.intro (C := cx_lines_word) (p := (.mk [] none .nil (.mk [] none (.mk [] none .nil (.mk [] none (.mk [] (some ({ regs := [(0, .one .keep), (5, .one .keep), (6, .one (.data (.int .i64)))], vars := [], arrs := [] }, [{ e := .x 0, j := { regs := [(0, .one .keep)], vars := [], arrs := [] } }, { e := .r, j := { regs := [(2, .one (.data (.bool)))], vars := [], arrs := [] } }])) (.mk [] none .nil (.mk [] none .nil (.mk [] none (.mk [] none (.mk [] none .nil (.mk [] none (.mk [.join [{ e := .n, j := { regs := [(0, .one .keep), (5, .one .keep), (6, .one .keep), (18, .one (.data (.bool)))], vars := [], arrs := [] } }]] none .nil .nil) .nil)) .nil) .nil))) .nil) .nil)) .nil)))
    Tryz.func55 rfl nmr55 rfl rfl rfl rfl types_ok ⟨trivial, trivial⟩ mx (fun x => by kernel_rfl)

noncomputable def lines_words_L0 (l : List (List UInt8)) (v : Int) : Option (Int ⊕ (Unit ⊕ Bool)) :=
  bif decide (v < (l.length : Int)) then (
   gd (inB v l.length) <|
   (lines_word (l.getD v.toNat [])).bind fun r =>
   bif !r then (
    some (.inr (.inr false)))
   else (
    some (.inl (wi64 (v + 1)))))
  else (
   some (.inr (.inl ())))

noncomputable def lines_words (l : List (List UInt8)) : Option (Bool) :=
  Option.bind (α := Bool) (
    bif decide ((l.length : Int) < 1) then (
     some true)
    else (
     some (decide (16 < (l.length : Int))))) fun s =>
  bif s then (
   some false)
  else (
   (iter (fun x => lines_words_L0 l x) 0).bind fun s2 =>
   s2.elim (fun s3 =>
    gd (inB 0 l.length) <|
    gd (inB 0 (l.getD 0 []).length) <|
    some (!decide ((Int.ofNat ((l.getD 0 []).getD 0 0).toNat) = 35)))
   (fun s4 =>
    some s4))

noncomputable def fn_lines_words : Fun :=
  { f := 40, np := 1, nr := 1,
    ji := { regs := [(0, .one (.data (.sl (.str))))], vars := [], arrs := [] },
    jo := { regs := [(0, .one (.data (.bool)))], vars := [], arrs := [] },
    tw := fun x => lines_words x }
noncomputable def cx_lines_words : Cx := { Γ := types, ow := [], fs := [fn_lines_word], N := 28 }
theorem ok_lines_words : FunOk Tryz.prog fn_lines_words :=
  FunOk.intro (C := cx_lines_words) (p := (.mk [] none .nil (.mk [] none (.mk [] none (.mk [.join [{ e := .n, j := { regs := [(0, .one .keep), (12, .one (.data (.bool)))], vars := [], arrs := [] } }]] none .nil .nil) .nil) (.mk [] none (.mk [] none .nil (.mk [] none (.mk [] (some ({ regs := [(0, .one .keep), (13, .one .keep), (14, .one .keep), (15, .one (.data (.int .i64)))], vars := [], arrs := [] }, [{ e := .x 0, j := { regs := [(0, .one .keep)], vars := [], arrs := [] } }, { e := .r, j := { regs := [(2, .one (.data (.bool)))], vars := [], arrs := [] } }])) .nil .nil) .nil)) .nil))))
    Tryz.func40 rfl nmr40 rfl rfl rfl rfl types_ok ⟨⟨ok_lines_word, trivial⟩, trivial⟩ mx (fun x => by kernel_rfl)

noncomputable def lines_Split_L0 (text2 : List UInt8) (out : List (List (List UInt8))) : Option ((List UInt8 × List (List (List UInt8))) ⊕ ((List (List (List UInt8))) ⊕ (List (List (List UInt8)) × Int))) :=
  bif !decide (text2 = []) then (
   (strings_Cut text2 [10]).bind fun r3 =>
   Option.bind (α := Bool × List (List (List UInt8))) (
     bif decide (r3.1 = []) then (
      some (true, out))
     else (
      gd (inB 0 r3.1.length) <|
      some (decide ((Int.ofNat (r3.1.getD 0 0).toNat) = 35), out))) fun s4 =>
   bif s4.1 then (
    gd (fits (s4.2.length + 1) 24) <|
    some (.inl (r3.2.1, s4.2 ++ [[]])))
   else (
    (strings_Split r3.1 [32]).bind fun r4 =>
    (lines_words r4).bind fun r5 =>
    bif !r5 then (
     some (.inr (.inr ([], 3))))
    else (
     gd (fits (s4.2.length + 1) 24) <|
     some (.inl (r3.2.1, s4.2 ++ [r4])))))
  else (
   some (.inr (.inl out)))

noncomputable def lines_Split (text : List UInt8) : Option (List (List (List UInt8)) × Int) :=
  (strings_Count text [10]).bind fun r =>
  Option.bind (α := Bool) (
    bif !decide (text = []) then (
     (strings_HasSuffix text [10]).bind fun r2 =>
     some (!r2))
    else (
     some false)) fun s =>
  Option.bind (α := Int) (
    bif s then (
     some (wi64 (r + 1)))
    else (
     some r)) fun s2 =>
  Option.bind (α := Bool) (
    bif decide (16384 < (text.length : Int)) then (
     some true)
    else (
     some (decide (400 < s2)))) fun s3 =>
  bif s3 then (
   some ([], 4))
  else (
   gd ((decide (0 ≤ 0) && decide (0 ≤ s2)) && makeG 24 s2) <|
   (iter (fun x => lines_Split_L0 x.1 x.2) (text, List.replicate 0 [])).bind fun s5 =>
   s5.elim (fun s6 =>
    some (s6, 0))
   (fun s7 =>
    some (s7.1, s7.2)))

noncomputable def fn_lines_Split : Fun :=
  { f := 35, np := 1, nr := 2,
    ji := { regs := [(0, .one (.data (.str)))], vars := [], arrs := [] },
    jo := { regs := [(0, .one (.data (.sl (.sl (.str))))), (1, .one (.data (.int .i64)))], vars := [], arrs := [] },
    tw := fun x => lines_Split x }
noncomputable def cx_lines_Split : Cx := { Γ := types, ow := [], fs := [fn_strings_Count, fn_strings_HasSuffix, fn_strings_Cut, fn_strings_Split, fn_lines_words], N := 59 }
theorem ok_lines_Split : FunOk Tryz.prog fn_lines_Split :=
  FunOk.intro (C := cx_lines_Split) (p := (.mk [] none .nil (.mk [] none .nil (.mk [] none (.mk [] none (.mk [.join [{ e := .n, j := { regs := [(0, .one .keep), (4, .one .keep), (18, .one (.data (.bool)))], vars := [], arrs := [] } }]] none .nil .nil) (.mk [.join [{ e := .n, j := { regs := [(0, .one .keep), (4, .one (.data (.int .i64)))], vars := [], arrs := [] } }]] none .nil .nil)) (.mk [] none (.mk [] none (.mk [.join [{ e := .n, j := { regs := [(0, .one .keep), (4, .one .keep), (27, .one (.data (.bool)))], vars := [], arrs := [] } }]] none .nil .nil) .nil) (.mk [] none .nil (.mk [] none (.mk [] none (.mk [] (some ({ regs := [(0, .one (.data (.str))), (5, .one (.own 107))], vars := [], arrs := [(107, .arr 42 (.sl (.str)))] }, [{ e := .x 0, j := { regs := [(5, .one (.own 107))], vars := [], arrs := [(107, .arr 42 (.sl (.str)))] } }, { e := .r, j := { regs := [(2, .one (.data (.sl (.sl (.str))))), (3, .one (.data (.int .i64)))], vars := [], arrs := [] } }])) (.mk [] none .nil (.mk [] none (.mk [] none .nil (.mk [] none .nil (.mk [] none (.mk [] none (.mk [.join [{ e := .n, j := { regs := [(0, .one .keep), (5, .one (.own 107)), (6, .one .keep), (45, .one (.data (.bool)))], vars := [], arrs := [(107, .arr 42 (.sl (.str)))] } }]] none .nil .nil) .nil) .nil))) .nil)) .nil) .nil) .nil)))))))
    Tryz.func35 rfl nmr35 rfl rfl rfl rfl types_ok ⟨⟨ok_strings_Count, ok_strings_HasSuffix, ok_strings_Cut, ok_strings_Split, ok_lines_words, trivial⟩, trivial⟩ mx (fun x => by kernel_rfl)

noncomputable def internal_stringslite_HasPrefix (s : List UInt8) (vprefix : List UInt8) : Option (Bool) :=
  bif decide ((vprefix.length : Int) ≤ (s.length : Int)) then (
   gd (cutG none (some (.i64, (vprefix.length : Int))) s.length) <|
   some (decide (s.take (vprefix.length : Int).toNat = vprefix)))
  else (
   some false)

noncomputable def fn_internal_stringslite_HasPrefix : Fun :=
  { f := 88, np := 2, nr := 1,
    ji := { regs := [(0, .one (.data (.str))), (1, .one (.data (.str)))], vars := [], arrs := [] },
    jo := { regs := [(0, .one (.data (.bool)))], vars := [], arrs := [] },
    tw := fun x => internal_stringslite_HasPrefix x.1 x.2 }
noncomputable def cx_internal_stringslite_HasPrefix : Cx := { Γ := types, ow := [], fs := [], N := 18 }
theorem ok_internal_stringslite_HasPrefix : FunOk Tryz.prog fn_internal_stringslite_HasPrefix :=
  FunOk.intro (C := cx_internal_stringslite_HasPrefix) (p := .nil)
    Tryz.func88 rfl nmr88 rfl rfl rfl rfl types_ok ⟨trivial, trivial⟩ mx (fun x => by kernel_rfl)

noncomputable def internal_stringslite_TrimPrefix (s : List UInt8) (vprefix : List UInt8) : Option (List UInt8) :=
  (internal_stringslite_HasPrefix s vprefix).bind fun r =>
  bif r then (
   gd (cutG (some (.i64, (vprefix.length : Int))) none s.length) <|
   some (s.drop (vprefix.length : Int).toNat))
  else (
   some s)

noncomputable def fn_internal_stringslite_TrimPrefix : Fun :=
  { f := 74, np := 2, nr := 1,
    ji := { regs := [(0, .one (.data (.str))), (1, .one (.data (.str)))], vars := [], arrs := [] },
    jo := { regs := [(0, .one (.data (.str)))], vars := [], arrs := [] },
    tw := fun x => internal_stringslite_TrimPrefix x.1 x.2 }
noncomputable def cx_internal_stringslite_TrimPrefix : Cx := { Γ := types, ow := [], fs := [fn_internal_stringslite_HasPrefix], N := 13 }
theorem ok_internal_stringslite_TrimPrefix : FunOk Tryz.prog fn_internal_stringslite_TrimPrefix :=
  FunOk.intro (C := cx_internal_stringslite_TrimPrefix) (p := .nil)
    Tryz.func74 rfl nmr74 rfl rfl rfl rfl types_ok ⟨⟨ok_internal_stringslite_HasPrefix, trivial⟩, trivial⟩ mx (fun x => by kernel_rfl)

noncomputable def strings_TrimPrefix (s : List UInt8) (vprefix : List UInt8) : Option (List UInt8) :=
  (internal_stringslite_TrimPrefix s vprefix).bind fun r =>
  some r

noncomputable def fn_strings_TrimPrefix : Fun :=
  { f := 64, np := 2, nr := 1,
    ji := { regs := [(0, .one (.data (.str))), (1, .one (.data (.str)))], vars := [], arrs := [] },
    jo := { regs := [(0, .one (.data (.str)))], vars := [], arrs := [] },
    tw := fun x => strings_TrimPrefix x.1 x.2 }
noncomputable def cx_strings_TrimPrefix : Cx := { Γ := types, ow := [], fs := [fn_internal_stringslite_TrimPrefix], N := 8 }
theorem ok_strings_TrimPrefix : FunOk Tryz.prog fn_strings_TrimPrefix :=
  FunOk.intro (C := cx_strings_TrimPrefix) (p := .nil)
    Tryz.func64 rfl nmr64 rfl rfl rfl rfl types_ok ⟨⟨ok_internal_stringslite_TrimPrefix, trivial⟩, trivial⟩ mx (fun x => by kernel_rfl)

noncomputable def fn_strconv_Atoi : Fun := funAtoi 65
theorem ok_strconv_Atoi : FunOk Tryz.prog fn_strconv_Atoi := atoi_ok ⟨_, Tryz.func65, nmr65, rfl⟩ Tryz.strconv_Atoi_ok Tryz.strconv_Atoi_syn Tryz.strconv_Atoi_range (by unfold globs; exact .tail _ (.tail _ (.head _))) (by unfold globs; exact .tail _ (.tail _ (.tail _ (.head _))))

noncomputable def lines_Number_L0 (r : List UInt8) (v : Int) : Option (Int ⊕ (Unit ⊕ (Int × Int))) :=
  bif decide (v < (r.length : Int)) then (
   Option.bind (α := Bool) (
     gd (inB v r.length) <|
     bif decide ((Int.ofNat (r.getD v.toNat 0).toNat) < 48) then (
      some true)
     else (
      gd (inB v r.length) <|
      some (decide (57 < (Int.ofNat (r.getD v.toNat 0).toNat))))) fun s3 =>
   bif s3 then (
    some (.inr (.inr (0, 3))))
   else (
    some (.inl (wi64 (v + 1)))))
  else (
   some (.inr (.inl ())))

noncomputable def lines_Number (s : List UInt8) : Option (Int × Int) :=
  (strings_TrimPrefix s [45]).bind fun r =>
  Option.bind (α := Bool) (
    bif decide (r = []) then (
     some true)
    else (
     gd (inB 0 r.length) <|
     bif decide ((Int.ofNat (r.getD 0 0).toNat) = 48) then (
      some (!decide (s = [48])))
     else (
      some false))) fun s2 =>
  bif s2 then (
   some (0, 3))
  else (
   (iter (fun x => lines_Number_L0 r x) 0).bind fun s4 =>
   s4.elim (fun s5 =>
    (atoiT s).bind fun r2 =>
    Option.bind (α := Bool) (
      bif r2.2 then (
       some true)
      else (
       bif decide (r2.1 < (-9007199254740992)) then (
        some true)
       else (
        some (decide (9007199254740992 < r2.1))))) fun s7 =>
    bif s7 then (
     some (0, 1))
    else (
     some (r2.1, 0)))
   (fun s6 =>
    some (s6.1, s6.2)))

noncomputable def fn_lines_Number : Fun :=
  { f := 50, np := 1, nr := 2,
    ji := { regs := [(0, .one (.data (.str)))], vars := [], arrs := [] },
    jo := { regs := [(0, .one (.data (.int .i64))), (1, .one (.data (.int .i64)))], vars := [], arrs := [] },
    tw := fun x => lines_Number x }
noncomputable def cx_lines_Number : Cx := { Γ := types, ow := [], fs := [fn_strings_TrimPrefix, fn_strconv_Atoi], N := 53 }
theorem ok_lines_Number : FunOk Tryz.prog fn_lines_Number :=
  FunOk.intro (C := cx_lines_Number) (p := (.mk [] none .nil (.mk [] none .nil (.mk [] none (.mk [] none (.mk [.join [{ e := .n, j := { regs := [(0, .one .keep), (4, .one .keep), (20, .one (.data (.bool)))], vars := [], arrs := [] } }]] none .nil .nil) .nil) (.mk [] none (.mk [] none .nil (.mk [] none (.mk [] (some ({ regs := [(0, .one .keep), (4, .one .keep), (22, .one .keep), (23, .one (.data (.int .i64)))], vars := [], arrs := [] }, [{ e := .x 0, j := { regs := [(0, .one .keep)], vars := [], arrs := [] } }, { e := .r, j := { regs := [(2, .one (.data (.int .i64))), (3, .one (.data (.int .i64)))], vars := [], arrs := [] } }])) (.mk [] none .nil (.mk [] none .nil (.mk [] none (.mk [] none (.mk [] none .nil (.mk [] none (.mk [.join [{ e := .n, j := { regs := [(0, .one .keep), (4, .one .keep), (22, .one .keep), (23, .one .keep), (35, .one (.data (.bool)))], vars := [], arrs := [] } }]] none .nil .nil) .nil)) .nil) .nil))) .nil) .nil)) (.mk [] none .nil (.mk [] none (.mk [] none (.mk [.join [{ e := .n, j := { regs := [(6, .one .keep), (51, .one (.data (.bool)))], vars := [], arrs := [] } }]] none .nil .nil) .nil) .nil)))))))
    Tryz.func50 rfl nmr50 rfl rfl rfl rfl types_ok ⟨⟨ok_strings_TrimPrefix, ok_strconv_Atoi, trivial⟩, trivial⟩ mx (fun x => by kernel_rfl)

noncomputable def product_numbers (p : List UInt8 × Int × Int × Int × Int) : Option (Int × Int × Int × Int) :=
  some (p.2.1, (p.2.2.1, (p.2.2.2.1, p.2.2.2.2)))

noncomputable def fn_product_numbers : Fun :=
  { f := 28, np := 1, nr := 1,
    ji := { regs := [(0, .one (.data (.pair (.str) (.pair (.int .i64) (.pair (.int .i64) (.pair (.int .i64) (.int .i64)))))))], vars := [], arrs := [] },
    jo := { regs := [(0, .one (.data (.pair (.int .i64) (.pair (.int .i64) (.pair (.int .i64) (.int .i64))))))], vars := [], arrs := [] },
    tw := fun x => product_numbers x }
noncomputable def cx_product_numbers : Cx := { Γ := types, ow := [], fs := [], N := 12 }
theorem ok_product_numbers : FunOk Tryz.prog fn_product_numbers :=
  FunOk.intro (C := cx_product_numbers) (p := .nil)
    Tryz.func28 rfl nmr28 rfl rfl rfl rfl types_ok ⟨trivial, trivial⟩ mx (fun x => by kernel_rfl)

noncomputable def lines_place (c : Int) : Option (Int) :=
  Option.bind (α := Unit ⊕ Unit ⊕ Int) (
    Option.bind (α := Bool) (
      bif decide (97 ≤ c) then (
       some (decide (c ≤ 122)))
      else (
       some false)) fun s =>
    bif s then (
     some (.inr (.inr 1)))
    else (
     Option.bind (α := Bool) (
       bif decide (48 ≤ c) then (
        some (decide (c ≤ 57)))
       else (
        some false)) fun s2 =>
     bif s2 then (
      some (.inl ()))
     else (
      bif decide (c = 45) then (
       some (.inl ()))
      else (
       some (.inr (.inl ())))))) fun s3 =>
  s3.elim (fun s4 =>
   some 2)
  (fun s5 =>
   s5.elim (fun s6 =>
    some 0)
   (fun s7 =>
    some s7))

noncomputable def fn_lines_place : Fun :=
  { f := 45, np := 1, nr := 1,
    ji := { regs := [(0, .one (.data (.int .u8)))], vars := [], arrs := [] },
    jo := { regs := [(0, .one (.data (.int .i64)))], vars := [], arrs := [] },
    tw := fun x => lines_place x }
noncomputable def cx_lines_place : Cx := { Γ := types, ow := [], fs := [], N := 20 }
theorem ok_lines_place : FunOk Tryz.prog fn_lines_place :=
  FunOk.intro (C := cx_lines_place) (p := (.mk [] none .nil (.mk [] none (.mk [] none (.mk [] none (.mk [.join [{ e := .n, j := { regs := [], vars := [], arrs := [] } }, { e := .x 0, j := { regs := [], vars := [], arrs := [] } }, { e := .r, j := { regs := [(2, .one (.data (.int .i64)))], vars := [], arrs := [] } }]] none (.mk [] none (.mk [] none (.mk [] none (.mk [] none (.mk [] none (.mk [] none (.mk [.join [{ e := .n, j := { regs := [(0, .one .keep), (3, .one (.data (.bool)))], vars := [], arrs := [] } }]] none .nil .nil) .nil) (.mk [] none (.mk [] none (.mk [.join [{ e := .n, j := { regs := [(0, .one .keep), (10, .one (.data (.bool)))], vars := [], arrs := [] } }]] none .nil .nil) .nil) .nil)) .nil) .nil) .nil) .nil) .nil) .nil) .nil) .nil)))
    Tryz.func45 rfl nmr45 rfl rfl rfl rfl types_ok ⟨trivial, trivial⟩ mx (fun x => by kernel_rfl)

noncomputable def lines_Name_L0 (s : List UInt8) (v : Int) : Option (Int ⊕ (Unit ⊕ Bool)) :=
  bif decide (v < (s.length : Int)) then (
   gd (inB v s.length) <|
   (lines_place (Int.ofNat (s.getD v.toNat 0).toNat)).bind fun r2 =>
   bif decide (r2 = 0) then (
    some (.inr (.inr false)))
   else (
    some (.inl (wi64 (v + 1)))))
  else (
   some (.inr (.inl ())))

noncomputable def lines_Name (s : List UInt8) : Option (Bool) :=
  Option.bind (α := Bool) (
    bif decide ((s.length : Int) < 1) then (
     some true)
    else (
     bif decide (12 < (s.length : Int)) then (
      some true)
     else (
      gd (inB 0 s.length) <|
      (lines_place (Int.ofNat (s.getD 0 0).toNat)).bind fun r =>
      some (!decide (r = 1))))) fun s2 =>
  bif s2 then (
   some false)
  else (
   (iter (fun x => lines_Name_L0 s x) 0).bind fun s3 =>
   s3.elim (fun s4 =>
    some true)
   (fun s5 =>
    some s5))

noncomputable def fn_lines_Name : Fun :=
  { f := 33, np := 1, nr := 1,
    ji := { regs := [(0, .one (.data (.str)))], vars := [], arrs := [] },
    jo := { regs := [(0, .one (.data (.bool)))], vars := [], arrs := [] },
    tw := fun x => lines_Name x }
noncomputable def cx_lines_Name : Cx := { Γ := types, ow := [], fs := [fn_lines_place], N := 29 }
theorem ok_lines_Name : FunOk Tryz.prog fn_lines_Name :=
  FunOk.intro (C := cx_lines_Name) (p := (.mk [] none .nil (.mk [] none (.mk [] none (.mk [.join [{ e := .n, j := { regs := [(0, .one .keep), (17, .one (.data (.bool)))], vars := [], arrs := [] } }]] none .nil .nil) .nil) (.mk [] none (.mk [] none .nil (.mk [] none (.mk [] (some ({ regs := [(0, .one .keep), (19, .one .keep), (20, .one (.data (.int .i64)))], vars := [], arrs := [] }, [{ e := .x 0, j := { regs := [], vars := [], arrs := [] } }, { e := .r, j := { regs := [(2, .one (.data (.bool)))], vars := [], arrs := [] } }])) .nil .nil) .nil)) .nil))))
    Tryz.func33 rfl nmr33 rfl rfl rfl rfl types_ok ⟨⟨ok_lines_place, trivial⟩, trivial⟩ mx (fun x => by kernel_rfl)

noncomputable def product_Valid_L0 (r : Int × Int × Int × Int) (v : Int) : Option (Int ⊕ (Unit ⊕ Bool)) :=
  bif decide (v < 4) then (
   gd (inB v 4) <|
   Option.bind (α := Bool) (
     gd (inB v 4) <|
     bif decide ([r.1, r.2.1, r.2.2.1, r.2.2.2].getD v.toNat 0 < ([((400 : Int), (1200 : Int)), ((0 : Int), (2000 : Int)), ((0 : Int), (5000 : Int)), ((1 : Int), (2000 : Int))].getD v.toNat (0, 0)).1) then (
      some true)
     else (
      gd (inB v 4) <|
      some (decide (([((400 : Int), (1200 : Int)), ((0 : Int), (2000 : Int)), ((0 : Int), (5000 : Int)), ((1 : Int), (2000 : Int))].getD v.toNat (0, 0)).2 < [r.1, r.2.1, r.2.2.1, r.2.2.2].getD v.toNat 0)))) fun s =>
   bif s then (
    some (.inr (.inr false)))
   else (
    some (.inl (wi64 (v + 1)))))
  else (
   some (.inr (.inl ())))

noncomputable def product_Valid (p : List UInt8 × Int × Int × Int × Int) : Option (Bool) :=
  (product_numbers (p.1, (p.2.1, (p.2.2.1, (p.2.2.2.1, p.2.2.2.2))))).bind fun r =>
  (iter (fun x => product_Valid_L0 r x) 0).bind fun s2 =>
  s2.elim (fun s3 =>
   (lines_Name p.1).bind fun r2 =>
   some r2)
  (fun s4 =>
   some s4)

noncomputable def fn_product_Valid : Fun :=
  { f := 16, np := 1, nr := 1,
    ji := { regs := [(0, .one (.data (.pair (.str) (.pair (.int .i64) (.pair (.int .i64) (.pair (.int .i64) (.int .i64)))))))], vars := [], arrs := [] },
    jo := { regs := [(0, .one (.data (.bool)))], vars := [], arrs := [] },
    tw := fun x => product_Valid x }
noncomputable def cx_product_Valid : Cx := { Γ := types, ow := [], fs := [fn_product_numbers, fn_lines_Name], N := 31 }
theorem ok_product_Valid : FunOk Tryz.prog fn_product_Valid :=
  FunOk.intro (C := cx_product_Valid) (p := (.mk [] none .nil (.mk [] none .nil (.mk [] none (.mk [] none .nil (.mk [] none (.mk [] (some ({ regs := [(1, .one (.ptr 32 0)), (3, .one (.ptr 64 0)), (8, .one .keep), (9, .one (.data (.int .i64)))], vars := [(32, 26, [.keep, .keep, .keep, .keep, .keep]), (64, 54, [.keep, .keep, .keep, .keep])], arrs := [] }, [{ e := .x 0, j := { regs := [(1, .one (.ptr 32 0))], vars := [(32, 26, [.keep, .keep, .keep, .keep, .keep])], arrs := [] } }, { e := .r, j := { regs := [(2, .one (.data (.bool)))], vars := [], arrs := [] } }])) (.mk [] none .nil (.mk [] none .nil (.mk [] none (.mk [] none (.mk [] none .nil (.mk [] none (.mk [.join [{ e := .n, j := { regs := [(1, .one (.ptr 32 0)), (3, .one (.ptr 64 0)), (8, .one .keep), (9, .one .keep), (26, .one (.data (.bool)))], vars := [(32, 26, [.keep, .keep, .keep, .keep, .keep]), (64, 54, [.keep, .keep, .keep, .keep])], arrs := [] } }]] none .nil .nil) .nil)) .nil) .nil))) .nil) .nil)) .nil))))
    Tryz.func16 rfl nmr16 rfl rfl rfl rfl types_ok ⟨⟨ok_product_numbers, ok_lines_Name, trivial⟩, trivial⟩ mx (fun x => by kernel_rfl)

noncomputable def product_read_L0 (w : List (List UInt8)) (v : Int) (v2 : List UInt8) (v3 : Int) (v4 : Int) (v5 : Int) (v6 : Int) (n : Int) (n2 : Int) (n3 : Int) (n4 : Int) : Option ((Int × List UInt8 × Int × Int × Int × Int × Int × Int × Int × Int) ⊕ ((List UInt8 × Int × Int × Int × Int × Int × Int × Int × Int) ⊕ (Int × List UInt8 × Int × Int × Int × Int))) :=
  bif decide (v < 4) then (
   gd (inB (wi64 (v + 2)) w.length) <|
   (lines_Number (w.getD (wi64 (v + 2)).toNat [])).bind fun r =>
   gd (inB v 4) <|
   bif !decide (r.2 = 0) then (
    some (.inr (.inr (3, [], 0, 0, 0, 0))))
   else (
    some (.inl (wi64 (v + 1), v2, v3, v4, v5, v6, ([n, n2, n3, n4].set v.toNat r.1).getD 0 0, ([n, n2, n3, n4].set v.toNat r.1).getD 1 0, ([n, n2, n3, n4].set v.toNat r.1).getD 2 0, ([n, n2, n3, n4].set v.toNat r.1).getD 3 0))))
  else (
   some (.inr (.inl (v2, v3, v4, v5, v6, n, n2, n3, n4))))

noncomputable def product_read (w : List (List UInt8)) : Option ((List UInt8 × Int × Int × Int × Int) × Int) :=
  Option.bind (α := Bool) (
    bif !decide ((w.length : Int) = 6) then (
     some true)
    else (
     gd (inB 0 w.length) <|
     some (!decide (w.getD 0 [] = [112, 114, 111, 100, 117, 99, 116])))) fun s =>
  bif s then (
   some (([], (0, (0, (0, 0)))), 3))
  else (
   (iter (fun x => product_read_L0 w x.1 x.2.1 x.2.2.1 x.2.2.2.1 x.2.2.2.2.1 x.2.2.2.2.2.1 x.2.2.2.2.2.2.1 x.2.2.2.2.2.2.2.1 x.2.2.2.2.2.2.2.2.1 x.2.2.2.2.2.2.2.2.2) (0, [], 0, 0, 0, 0, 0, 0, 0, 0)).bind fun s2 =>
   s2.elim (fun s3 =>
    gd (inB 1 w.length) <|
    (product_Valid (w.getD 1 [], (s3.2.2.2.2.2.1, (s3.2.2.2.2.2.2.1, (s3.2.2.2.2.2.2.2.1, s3.2.2.2.2.2.2.2.2))))).bind fun r2 =>
    bif !r2 then (
     some (([], (0, (0, (0, 0)))), 9))
    else (
     some ((w.getD 1 [], (s3.2.2.2.2.2.1, (s3.2.2.2.2.2.2.1, (s3.2.2.2.2.2.2.2.1, s3.2.2.2.2.2.2.2.2)))), 0)))
   (fun s4 =>
    some ((s4.2.1, (s4.2.2.1, (s4.2.2.2.1, (s4.2.2.2.2.1, s4.2.2.2.2.2)))), s4.1)))

noncomputable def fn_product_read : Fun :=
  { f := 36, np := 1, nr := 2,
    ji := { regs := [(0, .one (.data (.sl (.str))))], vars := [], arrs := [] },
    jo := { regs := [(0, .one (.data (.pair (.str) (.pair (.int .i64) (.pair (.int .i64) (.pair (.int .i64) (.int .i64))))))), (1, .one (.data (.int .i64)))], vars := [], arrs := [] },
    tw := fun x => product_read x }
noncomputable def cx_product_read : Cx := { Γ := types, ow := [], fs := [fn_lines_Number, fn_product_Valid], N := 53 }
theorem ok_product_read : FunOk Tryz.prog fn_product_read :=
  FunOk.intro (C := cx_product_read) (p := (.mk [] none .nil (.mk [] none (.mk [] none (.mk [.join [{ e := .n, j := { regs := [(0, .one .keep), (2, .one (.ptr 48 0)), (16, .one (.data (.bool)))], vars := [(48, 26, [.keep, .keep, .keep, .keep, .keep])], arrs := [] } }]] none .nil .nil) .nil) (.mk [] none .nil (.mk [] none (.mk [] none .nil (.mk [] none (.mk [] (some ({ regs := [(0, .one .keep), (2, .one (.ptr 48 0)), (4, .one (.ptr 80 0)), (18, .one (.data (.int .i64)))], vars := [(48, 26, [.data (.str), .data (.int .i64), .data (.int .i64), .data (.int .i64), .data (.int .i64)]), (80, 54, [.data (.int .i64), .data (.int .i64), .data (.int .i64), .data (.int .i64)])], arrs := [] }, [{ e := .x 0, j := { regs := [(0, .one .keep), (2, .one (.ptr 48 0)), (4, .one (.ptr 80 0))], vars := [(48, 26, [.data (.str), .data (.int .i64), .data (.int .i64), .data (.int .i64), .data (.int .i64)]), (80, 54, [.data (.int .i64), .data (.int .i64), .data (.int .i64), .data (.int .i64)])], arrs := [] } }, { e := .r, j := { regs := [(2, .one (.ptr 48 0)), (3, .one (.data (.int .i64)))], vars := [(48, 26, [.data (.str), .data (.int .i64), .data (.int .i64), .data (.int .i64), .data (.int .i64)])], arrs := [] } }])) .nil .nil) .nil)) .nil)))))
    Tryz.func36 rfl nmr36 rfl rfl rfl rfl types_ok ⟨⟨ok_lines_Number, ok_product_Valid, trivial⟩, trivial⟩ mx (fun x => by kernel_rfl)

noncomputable def product_Find_1 (p : List UInt8 × Int × Int × Int × Int) (v : List UInt8) : Option (Bool) :=
  some (decide (p.1 = v))

noncomputable def fn_product_Find_1 : Fun :=
  { f := 32, np := 2, nr := 1,
    ji := { regs := [(0, .one (.data (.pair (.str) (.pair (.int .i64) (.pair (.int .i64) (.pair (.int .i64) (.int .i64))))))), (1, .one (.sel (.str)))], vars := [], arrs := [] },
    jo := { regs := [(0, .one (.data (.bool)))], vars := [], arrs := [] },
    tw := fun x => product_Find_1 x.1 x.2 }
noncomputable def cx_product_Find_1 : Cx := { Γ := types, ow := [], fs := [], N := 8 }
theorem ok_product_Find_1 : FunOk Tryz.prog fn_product_Find_1 :=
  FunOk.intro (C := cx_product_Find_1) (p := .nil)
    Tryz.func32 rfl nmr32 rfl rfl rfl rfl types_ok ⟨trivial, trivial⟩ mx (fun x => by kernel_rfl)

noncomputable def slices_IndexFunc_api_Product_api_Product_L0 (s : List (List UInt8 × Int × Int × Int × Int)) (f : (List UInt8 × Int × Int × Int × Int) × Unit → Option Bool) (v : Int) : Option (Int ⊕ (Unit ⊕ Int)) :=
  bif decide (v < (s.length : Int)) then (
   gd (inB v s.length) <|
   (f (s.getD v.toNat ([], (0, (0, (0, 0)))), ())).bind fun r =>
   bif r then (
    some (.inr (.inr v)))
   else (
    some (.inl (wi64 (v + 1)))))
  else (
   some (.inr (.inl ())))

noncomputable def slices_IndexFunc_api_Product_api_Product (s : List (List UInt8 × Int × Int × Int × Int)) (f : (List UInt8 × Int × Int × Int × Int) × Unit → Option Bool) : Option (Int) :=
  (iter (fun x => slices_IndexFunc_api_Product_api_Product_L0 s f x) 0).bind fun s2 =>
  s2.elim (fun s3 =>
   some (-1))
  (fun s4 =>
   some s4)

noncomputable def fn_slices_IndexFunc_api_Product_api_Product : Fun :=
  { f := 31, np := 2, nr := 1,
    ji := { regs := [(0, .one (.data (.sl (.pair (.str) (.pair (.int .i64) (.pair (.int .i64) (.pair (.int .i64) (.int .i64)))))))), (1, .one (.fn [.pair (.str) (.pair (.int .i64) (.pair (.int .i64) (.pair (.int .i64) (.int .i64))))] (.bool)))], vars := [], arrs := [] },
    jo := { regs := [(0, .one (.data (.int .i64)))], vars := [], arrs := [] },
    tw := fun x => slices_IndexFunc_api_Product_api_Product x.1 x.2 }
noncomputable def cx_slices_IndexFunc_api_Product_api_Product : Cx := { Γ := types, ow := [], fs := [], N := 19 }
theorem ok_slices_IndexFunc_api_Product_api_Product : FunOk Tryz.prog fn_slices_IndexFunc_api_Product_api_Product :=
  FunOk.intro (C := cx_slices_IndexFunc_api_Product_api_Product) (p := (.mk [] none .nil (.mk [] none (.mk [] none .nil (.mk [] none (.mk [] (some ({ regs := [(0, .one .keep), (1, .one .keep), (7, .one .keep), (8, .one (.data (.int .i64)))], vars := [], arrs := [] }, [{ e := .x 0, j := { regs := [], vars := [], arrs := [] } }, { e := .r, j := { regs := [(4, .one (.data (.int .i64)))], vars := [], arrs := [] } }])) .nil .nil) .nil)) .nil)))
    Tryz.func31 rfl nmr31 rfl rfl rfl rfl types_ok ⟨trivial, trivial⟩ mx (fun x => by kernel_rfl)

noncomputable def product_Find (l : List (List UInt8 × Int × Int × Int × Int)) (name : List UInt8) : Option (Int) :=
  (slices_IndexFunc_api_Product_api_Product l (fun h => (product_Find_1 h.1 name).bind fun y => some y)).bind fun r =>
  some r

noncomputable def fn_product_Find : Fun :=
  { f := 14, np := 2, nr := 1,
    ji := { regs := [(0, .one (.data (.sl (.pair (.str) (.pair (.int .i64) (.pair (.int .i64) (.pair (.int .i64) (.int .i64)))))))), (1, .one (.data (.str)))], vars := [], arrs := [] },
    jo := { regs := [(0, .one (.data (.int .i64)))], vars := [], arrs := [] },
    tw := fun x => product_Find x.1 x.2 }
noncomputable def cx_product_Find : Cx := { Γ := types, ow := [], fs := [fn_slices_IndexFunc_api_Product_api_Product, fn_product_Find_1], N := 8 }
theorem ok_product_Find : FunOk Tryz.prog fn_product_Find :=
  FunOk.intro (C := cx_product_Find) (p := (.mk [] none .nil (.mk [] none (.mk [.fv [(3, .str)]] none .nil .nil) .nil)))
    Tryz.func14 rfl nmr14 rfl rfl rfl rfl types_ok ⟨⟨ok_slices_IndexFunc_api_Product_api_Product, ok_product_Find_1, trivial⟩, trivial⟩ mx (fun x => by kernel_rfl)

noncomputable def product_Parse_L0 (r : List (List (List UInt8)) × Int) (v : Int) (out : List (List UInt8 × Int × Int × Int × Int)) : Option ((Int × List (List UInt8 × Int × Int × Int × Int)) ⊕ ((List (List UInt8 × Int × Int × Int × Int)) ⊕ ((List (List UInt8 × Int × Int × Int × Int)) × Int × Int))) :=
  bif decide (v < (r.1.length : Int)) then (
   Option.bind (α := (List (List UInt8 × Int × Int × Int × Int)) ⊕ ((List (List UInt8 × Int × Int × Int × Int)) × Int × Int)) (
     gd (inB v r.1.length) <|
     bif decide (((r.1.getD v.toNat []).length : Int) = 0) then (
      some (.inl out))
     else (
      (product_read (r.1.getD v.toNat [])).bind fun r2 =>
      Option.bind (α := Int × List (List UInt8 × Int × Int × Int × Int)) (
        bif !decide (r2.2 = 0) then (
         some (r2.2, out))
        else (
         (product_Find out r2.1.1).bind fun r3 =>
         Option.bind (α := Int × List (List UInt8 × Int × Int × Int × Int)) (
           bif decide (0 ≤ r3) then (
            some (7, out))
           else (
            Option.bind (α := Int × List (List UInt8 × Int × Int × Int × Int)) (
              bif decide ((out.length : Int) = 16) then (
               some (4, out))
              else (
               some (r2.2, out))) fun s =>
            some (s.1, s.2))) fun s2 =>
         some (s2.1, s2.2))) fun s3 =>
      bif !decide (s3.1 = 0) then (
       some (.inr ([], wi64 (v + 1), s3.1)))
      else (
       gd (fits (s3.2.length + 1) 48) <|
       some (.inl (s3.2 ++ [(r2.1.1, (r2.1.2.1, (r2.1.2.2.1, (r2.1.2.2.2.1, r2.1.2.2.2.2))))]))))) fun s4 =>
   s4.elim (fun s5 =>
    some (.inl (wi64 (v + 1), s5)))
   (fun s6 =>
    some (.inr (.inr (s6.1, s6.2.1, s6.2.2)))))
  else (
   some (.inr (.inl out)))

noncomputable def product_Parse (text : List UInt8) : Option ((List (List UInt8 × Int × Int × Int × Int)) × Int × Int) :=
  (lines_Split text).bind fun r =>
  bif !decide (r.2 = 0) then (
   some ([], 0, r.2))
  else (
   (iter (fun x => product_Parse_L0 r x.1 x.2) (0, [])).bind fun s7 =>
   s7.elim (fun s8 =>
    some (s8, 0, 0))
   (fun s9 =>
    some (s9.1, s9.2.1, s9.2.2)))

noncomputable def fn_product_Parse : Fun :=
  { f := 20, np := 1, nr := 3,
    ji := { regs := [(0, .one (.data (.str)))], vars := [], arrs := [] },
    jo := { regs := [(0, .one (.data (.sl (.pair (.str) (.pair (.int .i64) (.pair (.int .i64) (.pair (.int .i64) (.int .i64)))))))), (1, .one (.data (.int .i64))), (2, .one (.data (.int .i64)))], vars := [], arrs := [] },
    tw := fun x => product_Parse x }
noncomputable def cx_product_Parse : Cx := { Γ := types, ow := [], fs := [fn_lines_Split, fn_product_read, fn_product_Find], N := 59 }
theorem ok_product_Parse : FunOk Tryz.prog fn_product_Parse :=
  FunOk.intro (C := cx_product_Parse) (p := (.mk [] none .nil (.mk [] none .nil (.mk [] none .nil (.mk [] none .nil (.mk [] none (.mk [] none .nil (.mk [] none (.mk [] (some ({ regs := [(7, .one (.own 139)), (20, .one .keep), (21, .one .keep), (22, .one (.data (.int .i64)))], vars := [], arrs := [(139, .arr 26 (.pair (.str) (.pair (.int .i64) (.pair (.int .i64) (.pair (.int .i64) (.int .i64))))))] }, [{ e := .x 0, j := { regs := [(7, .one (.own 139))], vars := [], arrs := [(139, .arr 26 (.pair (.str) (.pair (.int .i64) (.pair (.int .i64) (.pair (.int .i64) (.int .i64))))))] } }, { e := .r, j := { regs := [(2, .one (.data (.sl (.pair (.str) (.pair (.int .i64) (.pair (.int .i64) (.pair (.int .i64) (.int .i64)))))))), (3, .one (.data (.int .i64))), (4, .one (.data (.int .i64)))], vars := [], arrs := [] } }])) (.mk [] none .nil (.mk [] none .nil (.mk [] none (.mk [.join [{ e := .n, j := { regs := [(7, .one (.own 139)), (20, .one .keep), (21, .one .keep), (22, .one .keep)], vars := [], arrs := [(139, .arr 26 (.pair (.str) (.pair (.int .i64) (.pair (.int .i64) (.pair (.int .i64) (.int .i64))))))] } }, { e := .r, j := { regs := [(2, .one (.data (.sl (.pair (.str) (.pair (.int .i64) (.pair (.int .i64) (.pair (.int .i64) (.int .i64)))))))), (3, .one (.data (.int .i64))), (4, .one (.data (.int .i64)))], vars := [], arrs := [] } }]] none (.mk [] none .nil (.mk [] none .nil (.mk [] none .nil (.mk [] none (.mk [] none (.mk [] none .nil (.mk [.join [{ e := .n, j := { regs := [(7, .one (.own 139)), (8, .one .keep), (10, .one (.ptr 176 0)), (11, .one (.data (.int .i64))), (20, .one .keep), (21, .one .keep), (22, .one .keep)], vars := [(176, 26, [.keep, .keep, .keep, .keep, .keep])], arrs := [(139, .arr 26 (.pair (.str) (.pair (.int .i64) (.pair (.int .i64) (.pair (.int .i64) (.int .i64))))))] } }]] none .nil (.mk [] none .nil (.mk [.join [{ e := .n, j := { regs := [(7, .one (.own 139)), (8, .one .keep), (10, .one (.ptr 176 0)), (11, .one (.data (.int .i64))), (20, .one .keep), (21, .one .keep), (22, .one .keep)], vars := [(176, 26, [.keep, .keep, .keep, .keep, .keep])], arrs := [(139, .arr 26 (.pair (.str) (.pair (.int .i64) (.pair (.int .i64) (.pair (.int .i64) (.int .i64))))))] } }]] none .nil (.mk [] none .nil (.mk [.join [{ e := .n, j := { regs := [(7, .one (.own 139)), (8, .one .keep), (10, .one (.ptr 176 0)), (11, .one (.data (.int .i64))), (20, .one .keep), (21, .one .keep), (22, .one .keep)], vars := [(176, 26, [.keep, .keep, .keep, .keep, .keep])], arrs := [(139, .arr 26 (.pair (.str) (.pair (.int .i64) (.pair (.int .i64) (.pair (.int .i64) (.int .i64))))))] } }]] none .nil .nil)))))) .nil) .nil)))) .nil) .nil))) .nil) .nil)) .nil))))))
    Tryz.func20 rfl nmr20 rfl rfl rfl rfl types_ok ⟨⟨ok_lines_Split, ok_product_read, ok_product_Find, trivial⟩, trivial⟩ mx (fun x => by kernel_rfl)

noncomputable def ref04_Same_L0 (a : List (List UInt8 × Int × Int × Int × Int)) (b : List (List UInt8 × Int × Int × Int × Int)) (v : Int) : Option (Int ⊕ (Unit ⊕ Bool)) :=
  bif decide (v < (a.length : Int)) then (
   gd (inB v a.length) <|
   gd (inB v b.length) <|
   bif !(decide ((a.getD v.toNat ([], (0, (0, (0, 0))))).1 = (b.getD v.toNat ([], (0, (0, (0, 0))))).1) && (decide (((a.getD v.toNat ([], (0, (0, (0, 0))))).2).1 = ((b.getD v.toNat ([], (0, (0, (0, 0))))).2).1) && (decide ((((a.getD v.toNat ([], (0, (0, (0, 0))))).2).2).1 = (((b.getD v.toNat ([], (0, (0, (0, 0))))).2).2).1) && (decide (((((a.getD v.toNat ([], (0, (0, (0, 0))))).2).2).2).1 = ((((b.getD v.toNat ([], (0, (0, (0, 0))))).2).2).2).1) && decide (((((a.getD v.toNat ([], (0, (0, (0, 0))))).2).2).2).2 = ((((b.getD v.toNat ([], (0, (0, (0, 0))))).2).2).2).2))))) then (
    some (.inr (.inr false)))
   else (
    some (.inl (wi64 (v + 1)))))
  else (
   some (.inr (.inl ())))

noncomputable def ref04_Same (a : List (List UInt8 × Int × Int × Int × Int)) (b : List (List UInt8 × Int × Int × Int × Int)) : Option (Bool) :=
  bif !decide ((a.length : Int) = (b.length : Int)) then (
   some false)
  else (
   (iter (fun x => ref04_Same_L0 a b x) 0).bind fun s =>
   s.elim (fun s2 =>
    some true)
   (fun s3 =>
    some s3))

noncomputable def fn_ref04_Same : Fun :=
  { f := 22, np := 2, nr := 1,
    ji := { regs := [(0, .one (.data (.sl (.pair (.str) (.pair (.int .i64) (.pair (.int .i64) (.pair (.int .i64) (.int .i64)))))))), (1, .one (.data (.sl (.pair (.str) (.pair (.int .i64) (.pair (.int .i64) (.pair (.int .i64) (.int .i64))))))))], vars := [], arrs := [] },
    jo := { regs := [(0, .one (.data (.bool)))], vars := [], arrs := [] },
    tw := fun x => ref04_Same x.1 x.2 }
noncomputable def cx_ref04_Same : Cx := { Γ := types, ow := [], fs := [], N := 26 }
theorem ok_ref04_Same : FunOk Tryz.prog fn_ref04_Same :=
  FunOk.intro (C := cx_ref04_Same) (p := (.mk [] none .nil (.mk [] none .nil (.mk [] none (.mk [] none .nil (.mk [] none (.mk [] (some ({ regs := [(0, .one .keep), (1, .one .keep), (12, .one .keep), (13, .one (.data (.int .i64)))], vars := [], arrs := [] }, [{ e := .x 0, j := { regs := [], vars := [], arrs := [] } }, { e := .r, j := { regs := [(4, .one (.data (.bool)))], vars := [], arrs := [] } }])) .nil .nil) .nil)) .nil))))
    Tryz.func22 rfl nmr22 rfl rfl rfl rfl types_ok ⟨trivial, trivial⟩ mx (fun x => by kernel_rfl)

noncomputable def law04_awake : Option (Bool) :=
  (product_Parse [112, 114, 111, 100, 117, 99, 116, 32, 100, 105, 101, 115, 101, 108, 32, 56, 52, 48, 32, 56, 51, 48, 32, 56, 48, 48, 32, 49, 50, 48, 48, 10]).bind fun r =>
  (product_Parse [35, 10, 112, 114, 111, 100, 117, 99, 116, 32, 100, 105, 101, 115, 101, 108, 32, 56, 52, 32, 56, 51, 48, 32, 56, 48, 48, 32, 49, 50, 48, 48]).bind fun r2 =>
  bif decide (r.2.2 = 0) then (
   bif decide (r.2.1 = 0) then (
    (ref04_Same r.1 [([100, 105, 101, 115, 101, 108], (840, (830, (800, 1200))))]).bind fun r3 =>
    bif r3 then (
     bif decide (r2.2.1 = 2) then (
      some (decide (r2.2.2 = 9)))
     else (
      some false))
    else (
     some false))
   else (
    some false))
  else (
   some false)

noncomputable def fn_law04_awake : Fun :=
  { f := 4, np := 0, nr := 1,
    ji := { regs := [], vars := [], arrs := [] },
    jo := { regs := [(0, .one (.data (.bool)))], vars := [], arrs := [] },
    tw := fun x => law04_awake }
noncomputable def cx_law04_awake : Cx := { Γ := types, ow := [], fs := [fn_product_Parse, fn_ref04_Same], N := 37 }
theorem ok_law04_awake : FunOk Tryz.prog fn_law04_awake :=
  FunOk.intro (C := cx_law04_awake) (p := .nil)
    Tryz.func4 rfl nmr4 rfl rfl rfl rfl types_ok ⟨⟨ok_product_Parse, ok_ref04_Same, trivial⟩, trivial⟩ mx (fun x => by kernel_rfl)

noncomputable def keep_New (l : List Int) : Option (List Int × Int) :=
  gd (cutG none (some (.i64, min (l.length : Int) 2000)) l.length) <|
  some (l.take (min (l.length : Int) 2000).toNat, 0)

noncomputable def fn_keep_New : Fun :=
  { f := 5, np := 1, nr := 1,
    ji := { regs := [(0, .one (.data (.sl (.int .i64))))], vars := [], arrs := [] },
    jo := { regs := [(0, .one (.ptr 0 0))], vars := [(0, 48, [.data (.sl (.int .i64)), .data (.int .i64)])], arrs := [] },
    tw := fun x => keep_New x }
noncomputable def cx_keep_New : Cx := { Γ := types, ow := [], fs := [], N := 10 }
theorem ok_keep_New : FunOk Tryz.prog fn_keep_New :=
  FunOk.intro (C := cx_keep_New) (p := .nil)
    Tryz.func5 rfl nmr5 rfl rfl rfl rfl types_ok ⟨trivial, trivial⟩ mx (fun x => by kernel_rfl)

noncomputable def keep_Src_Raw (s : List Int) (s2 : Int) : Option (Int × List Int × Int) :=
  bif decide ((s.length : Int) ≤ s2) then (
   some (0, s, s2))
  else (
   gd (inB (wi64 ((wi64 (s2 + 1)) - 1)) s.length) <|
   some (s.getD (wi64 ((wi64 (s2 + 1)) - 1)).toNat 0, s, wi64 (s2 + 1)))

noncomputable def fn_keep_Src_Raw : Fun :=
  { f := 26, np := 1, nr := 1,
    ji := { regs := [(0, .one (.ptr 0 0))], vars := [(0, 48, [.data (.sl (.int .i64)), .data (.int .i64)])], arrs := [] },
    jo := { regs := [(0, .one (.data (.int .i64)))], vars := [(0, 48, [.data (.sl (.int .i64)), .data (.int .i64)])], arrs := [] },
    tw := fun x => keep_Src_Raw x.1 x.2 }
noncomputable def cx_keep_Src_Raw : Cx := { Γ := types, ow := [], fs := [], N := 31 }
theorem ok_keep_Src_Raw : FunOk Tryz.prog fn_keep_Src_Raw :=
  FunOk.intro (C := cx_keep_Src_Raw) (p := .nil)
    Tryz.func26 rfl nmr26 rfl rfl rfl rfl types_ok ⟨trivial, trivial⟩ mx (fun x => by kernel_rfl)

noncomputable def keep_Mod (x : Int) (n : Int) : Option (Int) :=
  bif decide (n < 1) then (
   some 0)
  else (
   gd (!decide (n = 0)) <|
   bif decide (Int.tmod x n < 0) then (
    some (wi64 ((Int.tmod x n) + n)))
   else (
    some (Int.tmod x n)))

noncomputable def fn_keep_Mod : Fun :=
  { f := 25, np := 2, nr := 1,
    ji := { regs := [(0, .one (.data (.int .i64))), (1, .one (.data (.int .i64)))], vars := [], arrs := [] },
    jo := { regs := [(0, .one (.data (.int .i64)))], vars := [], arrs := [] },
    tw := fun x => keep_Mod x.1 x.2 }
noncomputable def cx_keep_Mod : Cx := { Γ := types, ow := [], fs := [], N := 16 }
theorem ok_keep_Mod : FunOk Tryz.prog fn_keep_Mod :=
  FunOk.intro (C := cx_keep_Mod) (p := .nil)
    Tryz.func25 rfl nmr25 rfl rfl rfl rfl types_ok ⟨trivial, trivial⟩ mx (fun x => by kernel_rfl)

noncomputable def keep_Src_N (n : Int) (s : List Int) (s2 : Int) : Option (Int × List Int × Int) :=
  (keep_Src_Raw s s2).bind fun r =>
  (keep_Mod r.1 n).bind fun r2 =>
  some (r2, r.2.1, r.2.2)

noncomputable def fn_keep_Src_N : Fun :=
  { f := 8, np := 2, nr := 1,
    ji := { regs := [(0, .one (.ptr 0 0)), (1, .one (.data (.int .i64)))], vars := [(0, 48, [.data (.sl (.int .i64)), .data (.int .i64)])], arrs := [] },
    jo := { regs := [(0, .one (.data (.int .i64)))], vars := [(0, 48, [.data (.sl (.int .i64)), .data (.int .i64)])], arrs := [] },
    tw := fun x => keep_Src_N x.1 x.2.1 x.2.2 }
noncomputable def cx_keep_Src_N : Cx := { Γ := types, ow := [], fs := [fn_keep_Src_Raw, fn_keep_Mod], N := 9 }
theorem ok_keep_Src_N : FunOk Tryz.prog fn_keep_Src_N :=
  FunOk.intro (C := cx_keep_Src_N) (p := .nil)
    Tryz.func8 rfl nmr8 rfl rfl rfl rfl types_ok ⟨⟨ok_keep_Src_Raw, ok_keep_Mod, trivial⟩, trivial⟩ mx (fun x => by kernel_rfl)

noncomputable def keep_Src_Range (lo : Int) (hi : Int) (s : List Int) (s2 : Int) : Option (Int × List Int × Int) :=
  (keep_Src_N (wi64 ((wi64 (hi - lo)) + 1)) s s2).bind fun r =>
  some (wi64 (lo + r.1), r.2.1, r.2.2)

noncomputable def fn_keep_Src_Range : Fun :=
  { f := 19, np := 3, nr := 1,
    ji := { regs := [(0, .one (.ptr 0 0)), (1, .one (.data (.int .i64))), (2, .one (.data (.int .i64)))], vars := [(0, 48, [.data (.sl (.int .i64)), .data (.int .i64)])], arrs := [] },
    jo := { regs := [(0, .one (.data (.int .i64)))], vars := [(0, 48, [.data (.sl (.int .i64)), .data (.int .i64)])], arrs := [] },
    tw := fun x => keep_Src_Range x.1 x.2.1 x.2.2.1 x.2.2.2 }
noncomputable def cx_keep_Src_Range : Cx := { Γ := types, ow := [], fs := [fn_keep_Src_N], N := 15 }
theorem ok_keep_Src_Range : FunOk Tryz.prog fn_keep_Src_Range :=
  FunOk.intro (C := cx_keep_Src_Range) (p := .nil)
    Tryz.func19 rfl nmr19 rfl rfl rfl rfl types_ok ⟨⟨ok_keep_Src_N, trivial⟩, trivial⟩ mx (fun x => by kernel_rfl)

noncomputable def keep_name (first : List UInt8) (n : Int) : Option (List UInt8) :=
  gd (Nat.ble (first.length + (toBytes [wu8 (wi64 (97 + (Int.tmod n 26)))]).length) 9223372036854775807) <|
  some (first ++ (toBytes [wu8 (wi64 (97 + (Int.tmod n 26)))]))

noncomputable def fn_keep_name : Fun :=
  { f := 27, np := 2, nr := 1,
    ji := { regs := [(0, .one (.data (.str))), (1, .one (.data (.int .i64)))], vars := [], arrs := [] },
    jo := { regs := [(0, .one (.data (.str)))], vars := [], arrs := [] },
    tw := fun x => keep_name x.1 x.2 }
noncomputable def cx_keep_name : Cx := { Γ := types, ow := [], fs := [], N := 13 }
theorem ok_keep_name : FunOk Tryz.prog fn_keep_name :=
  FunOk.intro (C := cx_keep_name) (p := .nil)
    Tryz.func27 rfl nmr27 rfl rfl rfl rfl types_ok ⟨trivial, trivial⟩ mx (fun x => by kernel_rfl)

noncomputable def keep_Src_Pick (l : List Int) (s : List Int) (s2 : Int) : Option (Int × List Int × Int) :=
  (keep_Src_N (l.length : Int) s s2).bind fun r =>
  gd (inB r.1 l.length) <|
  some (l.getD r.1.toNat 0, r.2.1, r.2.2)

noncomputable def fn_keep_Src_Pick : Fun :=
  { f := 24, np := 2, nr := 1,
    ji := { regs := [(0, .one (.ptr 0 0)), (1, .one (.data (.sl (.int .i64))))], vars := [(0, 48, [.data (.sl (.int .i64)), .data (.int .i64)])], arrs := [] },
    jo := { regs := [(0, .one (.data (.int .i64)))], vars := [(0, 48, [.data (.sl (.int .i64)), .data (.int .i64)])], arrs := [] },
    tw := fun x => keep_Src_Pick x.1 x.2.1 x.2.2 }
noncomputable def cx_keep_Src_Pick : Cx := { Γ := types, ow := [], fs := [fn_keep_Src_N], N := 12 }
theorem ok_keep_Src_Pick : FunOk Tryz.prog fn_keep_Src_Pick :=
  FunOk.intro (C := cx_keep_Src_Pick) (p := .nil)
    Tryz.func24 rfl nmr24 rfl rfl rfl rfl types_ok ⟨⟨ok_keep_Src_N, trivial⟩, trivial⟩ mx (fun x => by kernel_rfl)

noncomputable def keep_Src_Product (n : Int) (s : List Int) (s2 : Int) : Option ((List UInt8 × Int × Int × Int × Int) × List Int × Int) :=
  (keep_name [112] n).bind fun r =>
  (keep_Src_Range 400 1200 s s2).bind fun r2 =>
  (keep_Src_Pick [0, 830, 2000, 1] r2.2.1 r2.2.2).bind fun r3 =>
  (keep_Src_Pick [0, 800, 5000, 3] r3.2.1 r3.2.2).bind fun r4 =>
  (keep_Src_Pick [1, 700, 1000, 1300, 2000] r4.2.1 r4.2.2).bind fun r5 =>
  some ((r, (r2.1, (r3.1, (r4.1, r5.1)))), r5.2.1, r5.2.2)

noncomputable def fn_keep_Src_Product : Fun :=
  { f := 9, np := 2, nr := 1,
    ji := { regs := [(0, .one (.ptr 0 0)), (1, .one (.data (.int .i64)))], vars := [(0, 48, [.data (.sl (.int .i64)), .data (.int .i64)])], arrs := [] },
    jo := { regs := [(0, .one (.data (.pair (.str) (.pair (.int .i64) (.pair (.int .i64) (.pair (.int .i64) (.int .i64)))))))], vars := [(0, 48, [.data (.sl (.int .i64)), .data (.int .i64)])], arrs := [] },
    tw := fun x => keep_Src_Product x.1 x.2.1 x.2.2 }
noncomputable def cx_keep_Src_Product : Cx := { Γ := types, ow := [], fs := [fn_keep_name, fn_keep_Src_Range, fn_keep_Src_Pick], N := 19 }
theorem ok_keep_Src_Product : FunOk Tryz.prog fn_keep_Src_Product :=
  FunOk.intro (C := cx_keep_Src_Product) (p := .nil)
    Tryz.func9 rfl nmr9 rfl rfl rfl rfl types_ok ⟨⟨ok_keep_name, ok_keep_Src_Range, ok_keep_Src_Pick, trivial⟩, trivial⟩ mx (fun x => by kernel_rfl)

noncomputable def keep_Src_Products_L0 (i : Int) (s3 : List Int) (s4 : Int) (out : List (List UInt8 × Int × Int × Int × Int)) : Option ((Int × List Int × Int × List (List UInt8 × Int × Int × Int × Int)) ⊕ (List Int × Int × List (List UInt8 × Int × Int × Int × Int))) :=
  bif decide (0 < i) then (
   (keep_Src_Product (out.length : Int) s3 s4).bind fun r2 =>
   gd (fits (out.length + 1) 48) <|
   some (.inl (wi64 (i - 1), r2.2.1, r2.2.2, out ++ [(r2.1.1, (r2.1.2.1, (r2.1.2.2.1, (r2.1.2.2.2.1, r2.1.2.2.2.2))))])))
  else (
   some (.inr (s3, s4, out)))

noncomputable def keep_Src_Products (s : List Int) (s2 : Int) : Option (List Int × Int × List (List UInt8 × Int × Int × Int × Int)) :=
  (keep_Src_Range 1 4 s s2).bind fun r =>
  (iter (fun x => keep_Src_Products_L0 x.1 x.2.1 x.2.2.1 x.2.2.2) (r.1, r.2.1, r.2.2, [])).bind fun s5 =>
  some (s5.1, s5.2.1, s5.2.2)

noncomputable def fn_keep_Src_Products : Fun :=
  { f := 6, np := 1, nr := 1,
    ji := { regs := [(0, .one (.ptr 0 0))], vars := [(0, 48, [.data (.sl (.int .i64)), .data (.int .i64)])], arrs := [] },
    jo := { regs := [(0, .one (.own 1))], vars := [(0, 48, [.data (.sl (.int .i64)), .data (.int .i64)])], arrs := [(1, .arr 26 (.pair (.str) (.pair (.int .i64) (.pair (.int .i64) (.pair (.int .i64) (.int .i64))))))] },
    tw := fun x => keep_Src_Products x.1 x.2 }
noncomputable def cx_keep_Src_Products : Cx := { Γ := types, ow := [], fs := [fn_keep_Src_Range, fn_keep_Src_Product], N := 19 }
theorem ok_keep_Src_Products : FunOk Tryz.prog fn_keep_Src_Products :=
  FunOk.intro (C := cx_keep_Src_Products) (p := (.mk [] none .nil (.mk [] none .nil (.mk [] none (.mk [] none .nil (.mk [] none (.mk [] (some ({ regs := [(0, .one (.ptr 0 0)), (3, .one (.own 75)), (4, .one (.data (.int .i64)))], vars := [(0, 48, [.data (.sl (.int .i64)), .data (.int .i64)])], arrs := [(75, .arr 26 (.pair (.str) (.pair (.int .i64) (.pair (.int .i64) (.pair (.int .i64) (.int .i64))))))] }, [{ e := .x 0, j := { regs := [(3, .one (.own 75))], vars := [(0, 48, [.data (.sl (.int .i64)), .data (.int .i64)])], arrs := [(75, .arr 26 (.pair (.str) (.pair (.int .i64) (.pair (.int .i64) (.pair (.int .i64) (.int .i64))))))] } }])) .nil .nil) .nil)) .nil))))
    Tryz.func6 rfl nmr6 rfl rfl rfl rfl types_ok ⟨⟨ok_keep_Src_Range, ok_keep_Src_Product, trivial⟩, trivial⟩ mx (fun x => by kernel_rfl)

noncomputable def keep_Src_Text (l : List (List UInt8)) (s : List Int) (s2 : Int) : Option (List UInt8 × List Int × Int) :=
  (keep_Src_N (l.length : Int) s s2).bind fun r =>
  gd (inB r.1 l.length) <|
  some (l.getD r.1.toNat [], r.2.1, r.2.2)

noncomputable def fn_keep_Src_Text : Fun :=
  { f := 23, np := 2, nr := 1,
    ji := { regs := [(0, .one (.ptr 0 0)), (1, .one (.data (.sl (.str))))], vars := [(0, 48, [.data (.sl (.int .i64)), .data (.int .i64)])], arrs := [] },
    jo := { regs := [(0, .one (.data (.str)))], vars := [(0, 48, [.data (.sl (.int .i64)), .data (.int .i64)])], arrs := [] },
    tw := fun x => keep_Src_Text x.1 x.2.1 x.2.2 }
noncomputable def cx_keep_Src_Text : Cx := { Γ := types, ow := [], fs := [fn_keep_Src_N], N := 12 }
theorem ok_keep_Src_Text : FunOk Tryz.prog fn_keep_Src_Text :=
  FunOk.intro (C := cx_keep_Src_Text) (p := .nil)
    Tryz.func23 rfl nmr23 rfl rfl rfl rfl types_ok ⟨⟨ok_keep_Src_N, trivial⟩, trivial⟩ mx (fun x => by kernel_rfl)

noncomputable def keep_Src_Odd (p : List UInt8 × Int × Int × Int × Int) (s : List Int) (s2 : Int) : Option ((List UInt8 × Int × Int × Int × Int) × List Int × Int) :=
  (keep_Src_N 5 s s2).bind fun r =>
  Option.bind (α := List UInt8 × Int × Int × Int × Int × List Int × Int) (
    bif decide (r.1 = 0) then (
     (keep_Src_Text ([[], [97], [65], [55, 117, 112], [97, 98, 99, 100, 101, 102, 103, 104, 105, 106, 107, 108], [97, 98, 99, 100, 101, 102, 103, 104, 105, 106, 107, 108, 109], [112, 32, 97]] : List (List UInt8)) r.2.1 r.2.2).bind fun r2 =>
     some (r2.1, p.2.1, p.2.2.1, p.2.2.2.1, p.2.2.2.2, r2.2.1, r2.2.2))
    else (
     Option.bind (α := Int × Int × Int × Int × List Int × Int) (
       bif decide (r.1 = 1) then (
        (keep_Src_Pick [399, 400, 1200, 1201, (-9223372036854775808)] r.2.1 r.2.2).bind fun r3 =>
        some (r3.1, p.2.2.1, p.2.2.2.1, p.2.2.2.2, r3.2.1, r3.2.2))
       else (
        Option.bind (α := Int × Int × Int × List Int × Int) (
          bif decide (r.1 = 2) then (
           (keep_Src_Pick [(-1), 0, 2000, 2001, 4611686018427387904] r.2.1 r.2.2).bind fun r4 =>
           some (r4.1, p.2.2.2.1, p.2.2.2.2, r4.2.1, r4.2.2))
          else (
           Option.bind (α := Int × Int × List Int × Int) (
             bif decide (r.1 = 3) then (
              (keep_Src_Pick [(-1), 0, 5000, 5001] r.2.1 r.2.2).bind fun r5 =>
              some (r5.1, p.2.2.2.2, r5.2.1, r5.2.2))
             else (
              (keep_Src_Pick [0, 1, 2000, 2001, (-5)] r.2.1 r.2.2).bind fun r6 =>
              some (p.2.2.2.1, r6.1, r6.2.1, r6.2.2))) fun s3 =>
           some (p.2.2.1, s3.1, s3.2.1, s3.2.2.1, s3.2.2.2))) fun s4 =>
        some (p.2.1, s4.1, s4.2.1, s4.2.2.1, s4.2.2.2.1, s4.2.2.2.2))) fun s5 =>
     some (p.1, s5.1, s5.2.1, s5.2.2.1, s5.2.2.2.1, s5.2.2.2.2.1, s5.2.2.2.2.2))) fun s6 =>
  some ((s6.1, (s6.2.1, (s6.2.2.1, (s6.2.2.2.1, s6.2.2.2.2.1)))), s6.2.2.2.2.2.1, s6.2.2.2.2.2.2)

noncomputable def fn_keep_Src_Odd : Fun :=
  { f := 7, np := 2, nr := 1,
    ji := { regs := [(0, .one (.ptr 0 0)), (1, .one (.data (.pair (.str) (.pair (.int .i64) (.pair (.int .i64) (.pair (.int .i64) (.int .i64)))))))], vars := [(0, 48, [.data (.sl (.int .i64)), .data (.int .i64)])], arrs := [] },
    jo := { regs := [(0, .one (.data (.pair (.str) (.pair (.int .i64) (.pair (.int .i64) (.pair (.int .i64) (.int .i64)))))))], vars := [(0, 48, [.data (.sl (.int .i64)), .data (.int .i64)])], arrs := [] },
    tw := fun x => keep_Src_Odd x.1 x.2.1 x.2.2 }
noncomputable def cx_keep_Src_Odd : Cx := { Γ := types, ow := [], fs := [fn_keep_Src_N, fn_keep_Src_Text, fn_keep_Src_Pick], N := 36 }
theorem ok_keep_Src_Odd : FunOk Tryz.prog fn_keep_Src_Odd :=
  FunOk.intro (C := cx_keep_Src_Odd) (p := (.mk [] none .nil (.mk [] none (.mk [] none .nil (.mk [] none (.mk [] none .nil (.mk [.join [{ e := .n, j := { regs := [(3, .one (.ptr 64 0)), (4, .one (.ptr 80 0))], vars := [(64, 26, [.data (.str), .data (.int .i64), .data (.int .i64), .data (.int .i64), .data (.int .i64)]), (80, 26, [.keep, .keep, .keep, .keep, .keep]), (0, 48, [.data (.sl (.int .i64)), .data (.int .i64)])], arrs := [] } }]] none .nil (.mk [] none .nil (.mk [.join [{ e := .n, j := { regs := [(3, .one (.ptr 64 0)), (4, .one (.ptr 80 0))], vars := [(64, 26, [.keep, .data (.int .i64), .data (.int .i64), .data (.int .i64), .data (.int .i64)]), (80, 26, [.keep, .keep, .keep, .keep, .keep]), (0, 48, [.data (.sl (.int .i64)), .data (.int .i64)])], arrs := [] } }]] none .nil (.mk [] none .nil (.mk [.join [{ e := .n, j := { regs := [(3, .one (.ptr 64 0)), (4, .one (.ptr 80 0))], vars := [(64, 26, [.keep, .keep, .data (.int .i64), .data (.int .i64), .data (.int .i64)]), (80, 26, [.keep, .keep, .keep, .keep, .keep]), (0, 48, [.data (.sl (.int .i64)), .data (.int .i64)])], arrs := [] } }]] none .nil (.mk [] none .nil (.mk [.join [{ e := .n, j := { regs := [(3, .one (.ptr 64 0)), (4, .one (.ptr 80 0))], vars := [(64, 26, [.keep, .keep, .keep, .data (.int .i64), .data (.int .i64)]), (80, 26, [.keep, .keep, .keep, .keep, .keep]), (0, 48, [.data (.sl (.int .i64)), .data (.int .i64)])], arrs := [] } }]] none .nil .nil)))))))) .nil)) .nil)))
    Tryz.func7 rfl nmr7 rfl rfl rfl rfl types_ok ⟨⟨ok_keep_Src_N, ok_keep_Src_Text, ok_keep_Src_Pick, trivial⟩, trivial⟩ mx (fun x => by kernel_rfl)

noncomputable def product_Check_L0 (l : List (List UInt8 × Int × Int × Int × Int)) (v : Int) : Option (Int ⊕ (Unit ⊕ Int)) :=
  bif decide (v < (l.length : Int)) then (
   gd (inB v l.length) <|
   (product_Valid ((l.getD v.toNat ([], (0, (0, (0, 0))))).1, (((l.getD v.toNat ([], (0, (0, (0, 0))))).2).1, ((((l.getD v.toNat ([], (0, (0, (0, 0))))).2).2).1, (((((l.getD v.toNat ([], (0, (0, (0, 0))))).2).2).2).1, ((((l.getD v.toNat ([], (0, (0, (0, 0))))).2).2).2).2))))).bind fun r =>
   bif !r then (
    some (.inr (.inr 9)))
   else (
    some (.inl (wi64 (v + 1)))))
  else (
   some (.inr (.inl ())))

noncomputable def product_Check_L1 (l : List (List UInt8 × Int × Int × Int × Int)) (v2 : Int) : Option (Int ⊕ (Unit ⊕ Int)) :=
  bif decide (v2 < (l.length : Int)) then (
   gd (inB v2 l.length) <|
   (product_Find l ((l.getD v2.toNat ([], (0, (0, (0, 0))))).1)).bind fun r2 =>
   bif decide (r2 < v2) then (
    some (.inr (.inr 7)))
   else (
    some (.inl (wi64 (v2 + 1)))))
  else (
   some (.inr (.inl ())))

noncomputable def product_Check (l : List (List UInt8 × Int × Int × Int × Int)) : Option (Int) :=
  bif decide (16 < (l.length : Int)) then (
   some 4)
  else (
   (iter (fun x => product_Check_L0 l x) 0).bind fun s =>
   s.elim (fun s2 =>
    (iter (fun x2 => product_Check_L1 l x2) 0).bind fun s4 =>
    s4.elim (fun s5 =>
     some 0)
    (fun s6 =>
     some s6))
   (fun s3 =>
    some s3))

noncomputable def fn_product_Check : Fun :=
  { f := 12, np := 1, nr := 1,
    ji := { regs := [(0, .one (.data (.sl (.pair (.str) (.pair (.int .i64) (.pair (.int .i64) (.pair (.int .i64) (.int .i64))))))))], vars := [], arrs := [] },
    jo := { regs := [(0, .one (.data (.int .i64)))], vars := [], arrs := [] },
    tw := fun x => product_Check x }
noncomputable def cx_product_Check : Cx := { Γ := types, ow := [], fs := [fn_product_Valid, fn_product_Find], N := 34 }
theorem ok_product_Check : FunOk Tryz.prog fn_product_Check :=
  FunOk.intro (C := cx_product_Check) (p := (.mk [] none .nil (.mk [] none .nil (.mk [] none (.mk [] none .nil (.mk [] none (.mk [] (some ({ regs := [(0, .one .keep), (10, .one .keep), (11, .one .keep), (12, .one (.data (.int .i64)))], vars := [], arrs := [] }, [{ e := .x 0, j := { regs := [(0, .one .keep)], vars := [], arrs := [] } }, { e := .r, j := { regs := [(2, .one (.data (.int .i64)))], vars := [], arrs := [] } }])) .nil .nil) .nil)) (.mk [] none (.mk [] none .nil (.mk [] none (.mk [] (some ({ regs := [(0, .one .keep), (20, .one .keep), (21, .one .keep), (22, .one (.data (.int .i64)))], vars := [], arrs := [] }, [{ e := .x 2, j := { regs := [], vars := [], arrs := [] } }, { e := .r, j := { regs := [(2, .one (.data (.int .i64)))], vars := [], arrs := [] } }])) .nil .nil) .nil)) .nil)))))
    Tryz.func12 rfl nmr12 rfl rfl rfl rfl types_ok ⟨⟨ok_product_Valid, ok_product_Find, trivial⟩, trivial⟩ mx (fun x => by kernel_rfl)

noncomputable def fn_strconv_Itoa : Fun := funItoa 29
theorem ok_strconv_Itoa : FunOk Tryz.prog fn_strconv_Itoa := itoa_ok ⟨_, Tryz.func29, nmr29, rfl⟩ (by kernel_rfl) Tryz.strconv_Itoa (by unfold globs; exact .tail _ (.head _)) (by kernel_rfl) (by kernel_rfl)

noncomputable def fn_strings_Join : Fun := funJoin 42
theorem ok_strings_Join : FunOk Tryz.prog fn_strings_Join := join_ok ⟨_, Tryz.func42, nmr42, rfl⟩ Tryz.strings_Join_none Tryz.strings_Join

def ccT (l : List Int) : Option (List Int) := some l
noncomputable def fn_strings_Builder_copyCheck : Fun := funCC 56 72 5
theorem ok_strings_Builder_copyCheck : FunOk Tryz.prog fn_strings_Builder_copyCheck := cc_ok ⟨_, Tryz.func56, nmr56, rfl⟩ Tryz.cc_fresh Tryz.cc_used

noncomputable def strings_Builder_WriteString (s : List UInt8) (b : List Int) : Option (Int × Bool × List Int) :=
  (ccT b).bind fun r =>
  gd (Nat.blt 0 s.length && fits (r.length + s.length) 1) <|
  some ((s.length : Int), false, r ++ ofBytes s)

noncomputable def fn_strings_Builder_WriteString : Fun :=
  { f := 41, np := 2, nr := 2,
    ji := { regs := [(0, .one (.ptr 0 0)), (1, .one (.data (.str)))], vars := [(0, 72, [.nptr 0 0, .own 1])], arrs := [(1, .arr 5 (.int .u8))] },
    jo := { regs := [(0, .one (.data (.int .i64))), (1, .one (.data (.err)))], vars := [(0, 72, [.ptr 0 0, .own 2])], arrs := [(2, .arr 5 (.int .u8))] },
    tw := fun x => strings_Builder_WriteString x.1 x.2 }
noncomputable def cx_strings_Builder_WriteString : Cx := { Γ := types, ow := [], fs := [fn_strings_Builder_copyCheck], N := 19 }
theorem ok_strings_Builder_WriteString : FunOk Tryz.prog fn_strings_Builder_WriteString :=
  FunOk.intro (C := cx_strings_Builder_WriteString) (p := .nil)
    Tryz.func41 rfl nmr41 rfl rfl rfl rfl types_ok ⟨⟨ok_strings_Builder_copyCheck, trivial⟩, trivial⟩ mx (fun x => by kernel_rfl)

noncomputable def strings_Builder_Len (b : List Int) : Option (Int × List Int) :=
  some ((b.length : Int), b)

noncomputable def fn_strings_Builder_Len : Fun :=
  { f := 43, np := 1, nr := 1,
    ji := { regs := [(0, .one (.ptr 0 0))], vars := [(0, 72, [.nptr 0 0, .own 1])], arrs := [(1, .arr 5 (.int .u8))] },
    jo := { regs := [(0, .one (.data (.int .i64)))], vars := [(0, 72, [.nptr 0 0, .own 1])], arrs := [(1, .arr 5 (.int .u8))] },
    tw := fun x => strings_Builder_Len x }
noncomputable def cx_strings_Builder_Len : Cx := { Γ := types, ow := [], fs := [], N := 8 }
theorem ok_strings_Builder_Len : FunOk Tryz.prog fn_strings_Builder_Len :=
  FunOk.intro (C := cx_strings_Builder_Len) (p := .nil)
    Tryz.func43 rfl nmr43 rfl rfl rfl rfl types_ok ⟨trivial, trivial⟩ mx (fun x => by kernel_rfl)

noncomputable def strings_Builder_String (b : List Int) : Option (List UInt8) :=
  gd (Nat.blt 0 b.length) <|
  gd (Nat.blt 0 b.length && (decide ((b.length : Int) = (b.length : Int)) && decide (ofBytes (toBytes b) = b))) <|
  some (toBytes b)

noncomputable def fn_strings_Builder_String : Fun :=
  { f := 44, np := 1, nr := 1,
    ji := { regs := [(0, .one (.ptr 0 0))], vars := [(0, 72, [.nptr 0 0, .own 1])], arrs := [(1, .arr 5 (.int .u8))] },
    jo := { regs := [(0, .one (.data (.str)))], vars := [], arrs := [] },
    tw := fun x => strings_Builder_String x }
noncomputable def cx_strings_Builder_String : Cx := { Γ := types, ow := [], fs := [], N := 14 }
theorem ok_strings_Builder_String : FunOk Tryz.prog fn_strings_Builder_String :=
  FunOk.intro (C := cx_strings_Builder_String) (p := .nil)
    Tryz.func44 rfl nmr44 rfl rfl rfl rfl types_ok ⟨trivial, trivial⟩ mx (fun x => by kernel_rfl)

noncomputable def strings_Builder_String_nil : Option (List UInt8) :=
  gd (decide (0 = 0)) <|
  some []

noncomputable def fn_strings_Builder_String_nil : Fun :=
  { f := 44, np := 1, nr := 1,
    ji := { regs := [(0, .one (.ptr 0 0))], vars := [(0, 72, [.nptr 0 0, .nil])], arrs := [] },
    jo := { regs := [(0, .one (.data (.str)))], vars := [], arrs := [] },
    tw := fun x => strings_Builder_String_nil }
noncomputable def cx_strings_Builder_String_nil : Cx := { Γ := types, ow := [], fs := [], N := 14 }
theorem ok_strings_Builder_String_nil : FunOk Tryz.prog fn_strings_Builder_String_nil :=
  FunOk.intro (C := cx_strings_Builder_String_nil) (p := .nil)
    Tryz.func44 rfl nmr44 rfl rfl rfl rfl types_ok ⟨trivial, trivial⟩ mx (fun x => by kernel_rfl)

noncomputable def strings_Builder_Len_nil : Option (Int) :=
  some 0

noncomputable def fn_strings_Builder_Len_nil : Fun :=
  { f := 43, np := 1, nr := 1,
    ji := { regs := [(0, .one (.ptr 0 0))], vars := [(0, 72, [.nptr 0 0, .nil])], arrs := [] },
    jo := { regs := [(0, .one (.data (.int .i64)))], vars := [(0, 72, [.nptr 0 0, .nil])], arrs := [] },
    tw := fun x => strings_Builder_Len_nil }
noncomputable def cx_strings_Builder_Len_nil : Cx := { Γ := types, ow := [], fs := [], N := 8 }
theorem ok_strings_Builder_Len_nil : FunOk Tryz.prog fn_strings_Builder_Len_nil :=
  FunOk.intro (C := cx_strings_Builder_Len_nil) (p := .nil)
    Tryz.func43 rfl nmr43 rfl rfl rfl rfl types_ok ⟨trivial, trivial⟩ mx (fun x => by kernel_rfl)

noncomputable def lines_JoinE_L1 (l : List (List (List UInt8))) (v : Int) (n2 : Int) (v2 : Int) : Option ((Int × Int) ⊕ Int) :=
  bif decide (v2 < ((l.getD v.toNat []).length : Int)) then (
   gd (inB v2 (l.getD v.toNat []).length) <|
   Option.bind (α := Int) (
     bif decide (32768 < wi64 (n2 + (((l.getD v.toNat []).getD v2.toNat []).length : Int))) then (
      some 32768)
     else (
      some (wi64 (n2 + (((l.getD v.toNat []).getD v2.toNat []).length : Int))))) fun s2 =>
   some (.inl (s2, wi64 (v2 + 1))))
  else (
   some (.inr n2))

noncomputable def lines_JoinE_L0 (l : List (List (List UInt8))) (n : Int) (v : Int) : Option ((Int × Int) ⊕ (Int ⊕ (List UInt8 × Int))) :=
  bif decide (v < (l.length : Int)) then (
   gd (inB v l.length) <|
   Option.bind (α := Bool) (
     bif decide (0 < ((l.getD v.toNat []).length : Int)) then (
      (lines_words (l.getD v.toNat [])).bind fun r =>
      some (!r))
     else (
      some false)) fun s =>
   bif s then (
    some (.inr (.inr ([], 3))))
   else (
    (iter (fun x => lines_JoinE_L1 l v x.1 x.2) (wi64 (n + ((l.getD v.toNat []).length : Int)), 0)).bind fun s3 =>
    some (.inl (s3, wi64 (v + 1)))))
  else (
   some (.inr (.inl n)))

noncomputable def lines_JoinE_L2 (l : List (List (List UInt8))) (s5 : Int) (v3 : Int) : Option (Int ⊕ Unit) :=
  bif decide (v3 < (l.length : Int)) then (
   gd (inB v3 l.length) <|
   Option.bind (α := Unit) (
     bif decide (s5 < 32768) then (
      (joinT (l.getD v3.toNat []) [32]).bind fun r2 =>
      gd (Nat.ble (r2.length + [10].length) 9223372036854775807) <|
      none)
     else (
      some ())) fun s7 =>
   some (.inl (wi64 (v3 + 1))))
  else (
   some (.inr ()))

noncomputable def lines_JoinE (l : List (List (List UInt8))) : Option (List UInt8 × Int) :=
  bif decide (400 < (l.length : Int)) then (
   some ([], 4))
  else (
   (iter (fun x2 => lines_JoinE_L0 l x2.1 x2.2) (0, 0)).bind fun s4 =>
   s4.elim (fun s5 =>
    (iter (fun x3 => lines_JoinE_L2 l s5 x3) 0).bind fun s8 =>
    Option.bind (α := Bool) (
      bif decide (s5 = 32768) then (
       some true)
      else (
       (strings_Builder_Len_nil).bind fun r3 =>
       some (decide (16384 < r3)))) fun s9 =>
    bif s9 then (
     some ([], 4))
    else (
     (strings_Builder_String_nil).bind fun r4 =>
     some (r4, 0)))
   (fun s6 =>
    some (s6.1, s6.2)))

noncomputable def fn_lines_JoinE : Fun :=
  { f := 30, np := 1, nr := 2,
    ji := { regs := [(0, .one (.data (.sl (.sl (.str)))))], vars := [], arrs := [] },
    jo := { regs := [(0, .one (.data (.str))), (1, .one (.data (.int .i64)))], vars := [], arrs := [] },
    tw := fun x => lines_JoinE x }
noncomputable def cx_lines_JoinE : Cx := { Γ := types, ow := [], fs := [fn_lines_words, fn_strings_Join, fn_strings_Builder_Len_nil, fn_strings_Builder_String_nil], N := 67 }
theorem ok_lines_JoinE : FunOk Tryz.prog fn_lines_JoinE :=
  FunOk.intro (C := cx_lines_JoinE) (p := (.mk [] none .nil (.mk [] none .nil (.mk [] none .nil (.mk [] none (.mk [] none .nil (.mk [] none (.mk [] (some ({ regs := [(0, .one .keep), (4, .one (.data (.int .i64))), (15, .one .keep), (16, .one .keep), (17, .one (.data (.int .i64)))], vars := [], arrs := [] }, [{ e := .x 0, j := { regs := [(0, .one .keep), (4, .one (.data (.int .i64)))], vars := [], arrs := [] } }, { e := .r, j := { regs := [(2, .one (.data (.str))), (3, .one (.data (.int .i64)))], vars := [], arrs := [] } }])) (.mk [] none .nil (.mk [] none .nil (.mk [] none (.mk [] none (.mk [] none .nil (.mk [] none (.mk [] none (.mk [.join [{ e := .n, j := { regs := [(0, .one .keep), (4, .one .keep), (6, .one .keep), (15, .one .keep), (16, .one .keep), (17, .one .keep), (28, .one (.data (.bool)))], vars := [], arrs := [] } }]] none .nil .nil) .nil) (.mk [] none .nil (.mk [] none .nil (.mk [] none (.mk [] (some ({ regs := [(0, .one .keep), (4, .one (.data (.int .i64))), (15, .one .keep), (16, .one .keep), (17, .one .keep), (33, .one .keep), (34, .one .keep), (35, .one (.data (.int .i64)))], vars := [], arrs := [] }, [{ e := .x 2, j := { regs := [(0, .one .keep), (4, .one (.data (.int .i64))), (15, .one .keep), (16, .one .keep), (17, .one .keep)], vars := [], arrs := [] } }])) (.mk [] none .nil (.mk [] none .nil (.mk [] none (.mk [] none (.mk [] none .nil (.mk [] none .nil (.mk [] none .nil (.mk [.join [{ e := .n, j := { regs := [(0, .one .keep), (4, .one (.data (.int .i64))), (15, .one .keep), (16, .one .keep), (17, .one .keep), (33, .one .keep), (34, .one .keep), (35, .one .keep)], vars := [], arrs := [] } }]] none .nil .nil)))) .nil) .nil))) .nil) .nil))))) .nil) .nil))) .nil) .nil)) (.mk [] none .nil (.mk [] none (.mk [] none .nil (.mk [] none (.mk [] (some ({ regs := [(4, .one .keep), (9, .one (.ptr 160 0)), (47, .one .keep), (48, .one .keep), (49, .one (.data (.int .i64)))], vars := [(160, 72, [.keep, .nil])], arrs := [] }, [{ e := .x 4, j := { regs := [(4, .one .keep), (9, .one (.ptr 160 0))], vars := [(160, 72, [.keep, .nil])], arrs := [] } }])) (.mk [] none .nil (.mk [] none .nil (.mk [] none (.mk [] none (.mk [] none .nil (.mk [] none .nil (.mk [.join [{ e := .n, j := { regs := [(4, .one .keep), (9, .one (.ptr 160 0)), (47, .one .keep), (48, .one .keep), (49, .one .keep)], vars := [(160, 72, [.keep, .nil])], arrs := [] } }]] none .nil .nil))) .nil) .nil))) .nil) .nil)) (.mk [] none (.mk [] none (.mk [.join [{ e := .n, j := { regs := [(9, .one (.ptr 160 0)), (65, .one (.data (.bool)))], vars := [(160, 72, [.nptr 160 0, .nil])], arrs := [] } }]] none .nil .nil) .nil) .nil))))))))
    Tryz.func30 rfl nmr30 rfl rfl rfl rfl types_ok ⟨⟨ok_lines_words, ok_strings_Join, ok_strings_Builder_Len_nil, ok_strings_Builder_String_nil, trivial⟩, trivial⟩ mx (fun x => by kernel_rfl)

noncomputable def lines_JoinB_L1 (l : List (List (List UInt8))) (v : Int) (n2 : Int) (v2 : Int) : Option ((Int × Int) ⊕ Int) :=
  bif decide (v2 < ((l.getD v.toNat []).length : Int)) then (
   gd (inB v2 (l.getD v.toNat []).length) <|
   Option.bind (α := Int) (
     bif decide (32768 < wi64 (n2 + (((l.getD v.toNat []).getD v2.toNat []).length : Int))) then (
      some 32768)
     else (
      some (wi64 (n2 + (((l.getD v.toNat []).getD v2.toNat []).length : Int))))) fun s2 =>
   some (.inl (s2, wi64 (v2 + 1))))
  else (
   some (.inr n2))

noncomputable def lines_JoinB_L0 (l : List (List (List UInt8))) (n : Int) (v : Int) : Option ((Int × Int) ⊕ (Int ⊕ (List UInt8 × Int))) :=
  bif decide (v < (l.length : Int)) then (
   gd (inB v l.length) <|
   Option.bind (α := Bool) (
     bif decide (0 < ((l.getD v.toNat []).length : Int)) then (
      (lines_words (l.getD v.toNat [])).bind fun r =>
      some (!r))
     else (
      some false)) fun s =>
   bif s then (
    some (.inr (.inr ([], 3))))
   else (
    (iter (fun x => lines_JoinB_L1 l v x.1 x.2) (wi64 (n + ((l.getD v.toNat []).length : Int)), 0)).bind fun s3 =>
    some (.inl (s3, wi64 (v + 1)))))
  else (
   some (.inr (.inl n)))

noncomputable def lines_JoinB_L2 (l : List (List (List UInt8))) (s5 : Int) (v3 : Int) (b : List Int) : Option ((Int × List Int) ⊕ (List Int)) :=
  bif decide (v3 < (l.length : Int)) then (
   gd (inB v3 l.length) <|
   Option.bind (α := List Int) (
     bif decide (s5 < 32768) then (
      (joinT (l.getD v3.toNat []) [32]).bind fun r2 =>
      gd (Nat.ble (r2.length + [10].length) 9223372036854775807) <|
      (strings_Builder_WriteString (r2 ++ [10]) b).bind fun r3 =>
      some r3.2.2)
     else (
      some b)) fun s7 =>
   some (.inl (wi64 (v3 + 1), s7)))
  else (
   some (.inr b))

noncomputable def lines_JoinB (l : List (List (List UInt8))) : Option (List UInt8 × Int) :=
  bif decide (400 < (l.length : Int)) then (
   some ([], 4))
  else (
   (iter (fun x2 => lines_JoinB_L0 l x2.1 x2.2) (0, 0)).bind fun s4 =>
   s4.elim (fun s5 =>
    (iter (fun x3 => lines_JoinB_L2 l s5 x3.1 x3.2) (0, [])).bind fun s8 =>
    Option.bind (α := Bool × List Int) (
      bif decide (s5 = 32768) then (
       some (true, s8))
      else (
       (strings_Builder_Len s8).bind fun r4 =>
       some (decide (16384 < r4.1), r4.2))) fun s9 =>
    bif s9.1 then (
     some ([], 4))
    else (
     (strings_Builder_String s9.2).bind fun r5 =>
     some (r5, 0)))
   (fun s6 =>
    some (s6.1, s6.2)))

noncomputable def fn_lines_JoinB : Fun :=
  { f := 30, np := 1, nr := 2,
    ji := { regs := [(0, .one (.data (.sl (.sl (.str)))))], vars := [], arrs := [] },
    jo := { regs := [(0, .one (.data (.str))), (1, .one (.data (.int .i64)))], vars := [], arrs := [] },
    tw := fun x => lines_JoinB x }
noncomputable def cx_lines_JoinB : Cx := { Γ := types, ow := [], fs := [fn_lines_words, fn_strings_Join, fn_strings_Builder_WriteString, fn_strings_Builder_Len, fn_strings_Builder_String], N := 67 }
theorem ok_lines_JoinB : FunOk Tryz.prog fn_lines_JoinB :=
  FunOk.intro (C := cx_lines_JoinB) (p := (.mk [] none .nil (.mk [] none .nil (.mk [] none .nil (.mk [] none (.mk [] none .nil (.mk [] none (.mk [] (some ({ regs := [(0, .one .keep), (4, .one (.data (.int .i64))), (15, .one .keep), (16, .one .keep), (17, .one (.data (.int .i64)))], vars := [], arrs := [] }, [{ e := .x 0, j := { regs := [(0, .one .keep), (4, .one (.data (.int .i64)))], vars := [], arrs := [] } }, { e := .r, j := { regs := [(2, .one (.data (.str))), (3, .one (.data (.int .i64)))], vars := [], arrs := [] } }])) (.mk [] none .nil (.mk [] none .nil (.mk [] none (.mk [] none (.mk [] none .nil (.mk [] none (.mk [] none (.mk [.join [{ e := .n, j := { regs := [(0, .one .keep), (4, .one .keep), (6, .one .keep), (15, .one .keep), (16, .one .keep), (17, .one .keep), (28, .one (.data (.bool)))], vars := [], arrs := [] } }]] none .nil .nil) .nil) (.mk [] none .nil (.mk [] none .nil (.mk [] none (.mk [] (some ({ regs := [(0, .one .keep), (4, .one (.data (.int .i64))), (15, .one .keep), (16, .one .keep), (17, .one .keep), (33, .one .keep), (34, .one .keep), (35, .one (.data (.int .i64)))], vars := [], arrs := [] }, [{ e := .x 2, j := { regs := [(0, .one .keep), (4, .one (.data (.int .i64))), (15, .one .keep), (16, .one .keep), (17, .one .keep)], vars := [], arrs := [] } }])) (.mk [] none .nil (.mk [] none .nil (.mk [] none (.mk [] none (.mk [] none .nil (.mk [] none .nil (.mk [] none .nil (.mk [.join [{ e := .n, j := { regs := [(0, .one .keep), (4, .one (.data (.int .i64))), (15, .one .keep), (16, .one .keep), (17, .one .keep), (33, .one .keep), (34, .one .keep), (35, .one .keep)], vars := [], arrs := [] } }]] none .nil .nil)))) .nil) .nil))) .nil) .nil))))) .nil) .nil))) .nil) .nil)) (.mk [] none .nil (.mk [] none (.mk [] none .nil (.mk [] none (.mk [] (some ({ regs := [(4, .one .keep), (9, .one (.ptr 160 0)), (47, .one .keep), (48, .one .keep), (49, .one (.data (.int .i64)))], vars := [(160, 72, [.nptr 160 0, .own 2601])], arrs := [(2601, .arr 5 (.int .u8))] }, [{ e := .x 4, j := { regs := [(4, .one .keep), (9, .one (.ptr 160 0))], vars := [(160, 72, [.nptr 160 0, .own 2601])], arrs := [(2601, .arr 5 (.int .u8))] } }])) (.mk [] none .nil (.mk [] none .nil (.mk [] none (.mk [] none (.mk [] none .nil (.mk [] none .nil (.mk [.join [{ e := .n, j := { regs := [(4, .one .keep), (9, .one (.ptr 160 0)), (47, .one .keep), (48, .one .keep), (49, .one .keep)], vars := [(160, 72, [.nptr 160 0, .own 2601])], arrs := [(2601, .arr 5 (.int .u8))] } }]] none .nil .nil))) .nil) .nil))) .nil) .nil)) (.mk [] none (.mk [] none (.mk [.join [{ e := .n, j := { regs := [(9, .one (.ptr 160 0)), (65, .one (.data (.bool)))], vars := [(160, 72, [.nptr 160 0, .own 2601])], arrs := [(2601, .arr 5 (.int .u8))] } }]] none .nil .nil) .nil) .nil))))))))
    Tryz.func30 rfl nmr30 rfl rfl rfl rfl types_ok ⟨⟨ok_lines_words, ok_strings_Join, ok_strings_Builder_WriteString, ok_strings_Builder_Len, ok_strings_Builder_String, trivial⟩, trivial⟩ mx (fun x => by kernel_rfl)

noncomputable def lines_Join (l : List (List (List UInt8))) : Option (List UInt8 × Int) := bif isNilL l then lines_JoinE l else lines_JoinB l
noncomputable def fn_lines_Join : Fun := { f := fn_lines_JoinE.f, np := fn_lines_JoinE.np, nr := fn_lines_JoinE.nr, ji := fn_lines_JoinE.ji, jo := fn_lines_JoinE.jo, tw := fun x => lines_Join x }
theorem ok_lines_Join : FunOk Tryz.prog fn_lines_Join := FunOk.bif (e0 := fn_lines_JoinE) ok_lines_JoinE (c := fun x => isNilL x) (tw := fun x => lines_JoinB x) ok_lines_JoinB

noncomputable def product_Format_L1 (r2 : Int × Int × Int × Int) (v2 : Int) (out2 : List (List (List UInt8))) (w : List (List UInt8)) : Option ((Int × List (List (List UInt8)) × List (List UInt8)) ⊕ (List (List (List UInt8)) × List (List UInt8))) :=
  bif decide (v2 < 4) then (
   gd (inB v2 4) <|
   (itoaT ([r2.1, r2.2.1, r2.2.2.1, r2.2.2.2].getD v2.toNat 0)).bind fun r3 =>
   gd (fits (w.length + 1) 16) <|
   some (.inl (wi64 (v2 + 1), out2, w ++ [r3])))
  else (
   some (.inr (out2, w)))

noncomputable def product_Format_L0 (l : List (List UInt8 × Int × Int × Int × Int)) (v : Int) (out : List (List (List UInt8))) : Option ((Int × List (List (List UInt8))) ⊕ (List (List (List UInt8)))) :=
  bif decide (v < (l.length : Int)) then (
   gd (inB v l.length) <|
   (product_numbers ((l.getD v.toNat ([], (0, (0, (0, 0))))).1, (((l.getD v.toNat ([], (0, (0, (0, 0))))).2).1, ((((l.getD v.toNat ([], (0, (0, (0, 0))))).2).2).1, (((((l.getD v.toNat ([], (0, (0, (0, 0))))).2).2).2).1, ((((l.getD v.toNat ([], (0, (0, (0, 0))))).2).2).2).2))))).bind fun r2 =>
   (iter (fun x => product_Format_L1 r2 x.1 x.2.1 x.2.2) (0, out, [[112, 114, 111, 100, 117, 99, 116], (l.getD v.toNat ([], (0, (0, (0, 0))))).1])).bind fun s =>
   gd (fits (s.1.length + 1) 24) <|
   some (.inl (wi64 (v + 1), s.1 ++ [s.2])))
  else (
   some (.inr out))

noncomputable def product_Format (l : List (List UInt8 × Int × Int × Int × Int)) : Option (List UInt8 × Int) :=
  (product_Check l).bind fun r =>
  bif !decide (r = 0) then (
   some ([], r))
  else (
   (iter (fun x2 => product_Format_L0 l x2.1 x2.2) (0, [])).bind fun s2 =>
   (lines_Join s2).bind fun r4 =>
   some (r4.1, r4.2))

noncomputable def fn_product_Format : Fun :=
  { f := 10, np := 1, nr := 2,
    ji := { regs := [(0, .one (.data (.sl (.pair (.str) (.pair (.int .i64) (.pair (.int .i64) (.pair (.int .i64) (.int .i64))))))))], vars := [], arrs := [] },
    jo := { regs := [(0, .one (.data (.str))), (1, .one (.data (.int .i64)))], vars := [], arrs := [] },
    tw := fun x => product_Format x }
noncomputable def cx_product_Format : Cx := { Γ := types, ow := [24], fs := [fn_product_Check, fn_product_numbers, fn_strconv_Itoa, fn_lines_Join], N := 45 }
theorem ok_product_Format : FunOk Tryz.prog fn_product_Format :=
  FunOk.intro (C := cx_product_Format) (p := (.mk [] none .nil (.mk [] none .nil (.mk [] none .nil (.mk [] none (.mk [] none .nil (.mk [] none (.mk [] (some ({ regs := [(5, .one (.own 107)), (16, .one .keep), (17, .one .keep), (18, .one (.data (.int .i64)))], vars := [], arrs := [(107, .arr 42 (.sl (.str)))] }, [{ e := .x 0, j := { regs := [(5, .one (.own 107))], vars := [], arrs := [(107, .arr 42 (.sl (.str)))] } }])) (.mk [] none .nil (.mk [] none .nil (.mk [] none (.mk [] none (.mk [] none .nil (.mk [] none .nil (.mk [] none (.mk [] none .nil (.mk [] none (.mk [] (some ({ regs := [(5, .one (.own 107)), (8, .one (.own 155)), (16, .one .keep), (17, .one .keep), (18, .one .keep), (26, .one .keep), (27, .one (.data (.int .i64)))], vars := [], arrs := [(107, .arr 42 (.sl (.str))), (155, .arr 9 (.str))] }, [{ e := .x 2, j := { regs := [(5, .one (.own 107)), (8, .one (.own 155)), (16, .one .keep), (17, .one .keep), (18, .one .keep)], vars := [], arrs := [(107, .arr 42 (.sl (.str))), (155, .arr 9 (.str))] } }])) .nil .nil) .nil)) (.mk [.fz [8]] none .nil .nil)))) .nil) .nil))) .nil) .nil)) .nil)))))
    Tryz.func10 rfl nmr10 rfl rfl rfl rfl types_ok ⟨⟨ok_product_Check, ok_product_numbers, ok_strconv_Itoa, ok_lines_Join, trivial⟩, trivial⟩ mx (fun x => by kernel_rfl)

noncomputable def ref03_Name_L0 (s : List UInt8) (i : Int) : Option (Int ⊕ (Unit ⊕ Bool)) :=
  bif decide (i < (s.length : Int)) then (
   Option.bind (α := Bool) (
     gd (inB i s.length) <|
     bif decide ((Int.ofNat (s.getD i.toNat 0).toNat) < 97) then (
      gd (inB i s.length) <|
      bif decide ((Int.ofNat (s.getD i.toNat 0).toNat) < 48) then (
       gd (inB i s.length) <|
       some (!decide ((Int.ofNat (s.getD i.toNat 0).toNat) = 45)))
      else (
       gd (inB i s.length) <|
       bif decide (57 < (Int.ofNat (s.getD i.toNat 0).toNat)) then (
        gd (inB i s.length) <|
        some (!decide ((Int.ofNat (s.getD i.toNat 0).toNat) = 45)))
       else (
        some false)))
     else (
      gd (inB i s.length) <|
      bif decide (122 < (Int.ofNat (s.getD i.toNat 0).toNat)) then (
       gd (inB i s.length) <|
       bif decide ((Int.ofNat (s.getD i.toNat 0).toNat) < 48) then (
        gd (inB i s.length) <|
        some (!decide ((Int.ofNat (s.getD i.toNat 0).toNat) = 45)))
       else (
        gd (inB i s.length) <|
        bif decide (57 < (Int.ofNat (s.getD i.toNat 0).toNat)) then (
         gd (inB i s.length) <|
         some (!decide ((Int.ofNat (s.getD i.toNat 0).toNat) = 45)))
        else (
         some false)))
      else (
       some false))) fun s3 =>
   bif s3 then (
    some (.inr (.inr false)))
   else (
    some (.inl (wi64 (i + 1)))))
  else (
   some (.inr (.inl ())))

noncomputable def ref03_Name (s : List UInt8) : Option (Bool) :=
  Option.bind (α := Bool) (
    bif decide ((s.length : Int) < 1) then (
     some true)
    else (
     bif decide (12 < (s.length : Int)) then (
      some true)
     else (
      gd (inB 0 s.length) <|
      bif decide ((Int.ofNat (s.getD 0 0).toNat) < 97) then (
       some true)
      else (
       gd (inB 0 s.length) <|
       some (decide (122 < (Int.ofNat (s.getD 0 0).toNat))))))) fun s2 =>
  bif s2 then (
   some false)
  else (
   (iter (fun x => ref03_Name_L0 s x) 0).bind fun s4 =>
   s4.elim (fun s5 =>
    some true)
   (fun s6 =>
    some s6))

noncomputable def fn_ref03_Name : Fun :=
  { f := 34, np := 1, nr := 1,
    ji := { regs := [(0, .one (.data (.str)))], vars := [], arrs := [] },
    jo := { regs := [(0, .one (.data (.bool)))], vars := [], arrs := [] },
    tw := fun x => ref03_Name x }
noncomputable def cx_ref03_Name : Cx := { Γ := types, ow := [], fs := [], N := 56 }
theorem ok_ref03_Name : FunOk Tryz.prog fn_ref03_Name :=
  FunOk.intro (C := cx_ref03_Name) (p := (.mk [] none .nil (.mk [] none (.mk [] none (.mk [.join [{ e := .n, j := { regs := [(0, .one .keep), (21, .one (.data (.bool)))], vars := [], arrs := [] } }]] none .nil .nil) .nil) (.mk [] none (.mk [] none .nil (.mk [] none (.mk [] (some ({ regs := [(0, .one .keep), (3, .one (.data (.int .i64)))], vars := [], arrs := [] }, [{ e := .x 0, j := { regs := [], vars := [], arrs := [] } }, { e := .r, j := { regs := [(2, .one (.data (.bool)))], vars := [], arrs := [] } }])) (.mk [] none .nil (.mk [] none (.mk [] none (.mk [] none (.mk [.join [{ e := .n, j := { regs := [(0, .one .keep), (3, .one .keep), (55, .one (.data (.bool)))], vars := [], arrs := [] } }]] none .nil .nil) .nil) .nil) .nil)) .nil) .nil)) .nil))))
    Tryz.func34 rfl nmr34 rfl rfl rfl rfl types_ok ⟨trivial, trivial⟩ mx (fun x => by kernel_rfl)

noncomputable def ref04_Valid (p : List UInt8 × Int × Int × Int × Int) : Option (Bool) :=
  (ref03_Name p.1).bind fun r =>
  bif r then (
   bif decide (400 ≤ p.2.1) then (
    bif decide (p.2.1 ≤ 1200) then (
     bif decide (0 ≤ p.2.2.1) then (
      bif decide (p.2.2.1 ≤ 2000) then (
       bif decide (0 ≤ p.2.2.2.1) then (
        bif decide (p.2.2.2.1 ≤ 5000) then (
         bif decide (1 ≤ p.2.2.2.2) then (
          some (decide (p.2.2.2.2 ≤ 2000)))
         else (
          some false))
        else (
         some false))
       else (
        some false))
      else (
       some false))
     else (
      some false))
    else (
     some false))
   else (
    some false))
  else (
   some false)

noncomputable def fn_ref04_Valid : Fun :=
  { f := 17, np := 1, nr := 1,
    ji := { regs := [(0, .one (.data (.pair (.str) (.pair (.int .i64) (.pair (.int .i64) (.pair (.int .i64) (.int .i64)))))))], vars := [], arrs := [] },
    jo := { regs := [(0, .one (.data (.bool)))], vars := [], arrs := [] },
    tw := fun x => ref04_Valid x }
noncomputable def cx_ref04_Valid : Cx := { Γ := types, ow := [], fs := [fn_ref03_Name], N := 46 }
theorem ok_ref04_Valid : FunOk Tryz.prog fn_ref04_Valid :=
  FunOk.intro (C := cx_ref04_Valid) (p := .nil)
    Tryz.func17 rfl nmr17 rfl rfl rfl rfl types_ok ⟨⟨ok_ref03_Name, trivial⟩, trivial⟩ mx (fun x => by kernel_rfl)

noncomputable def ref04_Find_L0 (l : List (List UInt8 × Int × Int × Int × Int)) (name : List UInt8) (v : Int) : Option (Int ⊕ (Unit ⊕ Int)) :=
  bif decide (v < (l.length : Int)) then (
   gd (inB v l.length) <|
   bif decide ((l.getD v.toNat ([], (0, (0, (0, 0))))).1 = name) then (
    some (.inr (.inr v)))
   else (
    some (.inl (wi64 (v + 1)))))
  else (
   some (.inr (.inl ())))

noncomputable def ref04_Find (l : List (List UInt8 × Int × Int × Int × Int)) (name : List UInt8) : Option (Int) :=
  (iter (fun x => ref04_Find_L0 l name x) 0).bind fun s =>
  s.elim (fun s2 =>
   some (-1))
  (fun s3 =>
   some s3)

noncomputable def fn_ref04_Find : Fun :=
  { f := 15, np := 2, nr := 1,
    ji := { regs := [(0, .one (.data (.sl (.pair (.str) (.pair (.int .i64) (.pair (.int .i64) (.pair (.int .i64) (.int .i64)))))))), (1, .one (.data (.str)))], vars := [], arrs := [] },
    jo := { regs := [(0, .one (.data (.int .i64)))], vars := [], arrs := [] },
    tw := fun x => ref04_Find x.1 x.2 }
noncomputable def cx_ref04_Find : Cx := { Γ := types, ow := [], fs := [], N := 20 }
theorem ok_ref04_Find : FunOk Tryz.prog fn_ref04_Find :=
  FunOk.intro (C := cx_ref04_Find) (p := (.mk [] none .nil (.mk [] none (.mk [] none .nil (.mk [] none (.mk [] (some ({ regs := [(0, .one .keep), (1, .one .keep), (7, .one .keep), (8, .one (.data (.int .i64)))], vars := [], arrs := [] }, [{ e := .x 0, j := { regs := [], vars := [], arrs := [] } }, { e := .r, j := { regs := [(4, .one (.data (.int .i64)))], vars := [], arrs := [] } }])) .nil .nil) .nil)) .nil)))
    Tryz.func15 rfl nmr15 rfl rfl rfl rfl types_ok ⟨trivial, trivial⟩ mx (fun x => by kernel_rfl)

noncomputable def ref04_Check_L0 (l : List (List UInt8 × Int × Int × Int × Int)) (v : Int) : Option (Int ⊕ (Unit ⊕ Int)) :=
  bif decide (v < (l.length : Int)) then (
   gd (inB v l.length) <|
   (ref04_Valid (l.getD v.toNat ([], (0, (0, (0, 0)))))).bind fun r =>
   bif !r then (
    some (.inr (.inr 9)))
   else (
    some (.inl (wi64 (v + 1)))))
  else (
   some (.inr (.inl ())))

noncomputable def ref04_Check_L1 (l : List (List UInt8 × Int × Int × Int × Int)) (v2 : Int) : Option (Int ⊕ (Unit ⊕ Int)) :=
  bif decide (v2 < (l.length : Int)) then (
   gd (inB v2 l.length) <|
   (ref04_Find l ((l.getD v2.toNat ([], (0, (0, (0, 0))))).1)).bind fun r2 =>
   bif !decide (r2 = v2) then (
    some (.inr (.inr 7)))
   else (
    some (.inl (wi64 (v2 + 1)))))
  else (
   some (.inr (.inl ())))

noncomputable def ref04_Check (l : List (List UInt8 × Int × Int × Int × Int)) : Option (Int) :=
  bif decide (16 < (l.length : Int)) then (
   some 4)
  else (
   (iter (fun x => ref04_Check_L0 l x) 0).bind fun s =>
   s.elim (fun s2 =>
    (iter (fun x2 => ref04_Check_L1 l x2) 0).bind fun s4 =>
    s4.elim (fun s5 =>
     some 0)
    (fun s6 =>
     some s6))
   (fun s3 =>
    some s3))

noncomputable def fn_ref04_Check : Fun :=
  { f := 13, np := 1, nr := 1,
    ji := { regs := [(0, .one (.data (.sl (.pair (.str) (.pair (.int .i64) (.pair (.int .i64) (.pair (.int .i64) (.int .i64))))))))], vars := [], arrs := [] },
    jo := { regs := [(0, .one (.data (.int .i64)))], vars := [], arrs := [] },
    tw := fun x => ref04_Check x }
noncomputable def cx_ref04_Check : Cx := { Γ := types, ow := [], fs := [fn_ref04_Valid, fn_ref04_Find], N := 35 }
theorem ok_ref04_Check : FunOk Tryz.prog fn_ref04_Check :=
  FunOk.intro (C := cx_ref04_Check) (p := (.mk [] none .nil (.mk [] none .nil (.mk [] none (.mk [] none .nil (.mk [] none (.mk [] (some ({ regs := [(0, .one .keep), (9, .one .keep), (10, .one (.data (.int .i64)))], vars := [], arrs := [] }, [{ e := .x 0, j := { regs := [(0, .one .keep)], vars := [], arrs := [] } }, { e := .r, j := { regs := [(2, .one (.data (.int .i64)))], vars := [], arrs := [] } }])) .nil .nil) .nil)) (.mk [] none (.mk [] none .nil (.mk [] none (.mk [] (some ({ regs := [(0, .one .keep), (21, .one .keep), (22, .one (.data (.int .i64)))], vars := [], arrs := [] }, [{ e := .x 2, j := { regs := [], vars := [], arrs := [] } }, { e := .r, j := { regs := [(2, .one (.data (.int .i64)))], vars := [], arrs := [] } }])) .nil .nil) .nil)) .nil)))))
    Tryz.func13 rfl nmr13 rfl rfl rfl rfl types_ok ⟨⟨ok_ref04_Valid, ok_ref04_Find, trivial⟩, trivial⟩ mx (fun x => by kernel_rfl)

noncomputable def ref03_Text_L0 (s : Int × List UInt8) (n2 : Int) (s2 : List UInt8) : Option ((Int × List UInt8) ⊕ (List UInt8)) :=
  gd (Nat.ble ((toBytes [wu8 (wi64 (48 + (Int.tmod n2 10)))]).length + s2.length) 9223372036854775807) <|
  bif decide (wi64 (Int.tdiv n2 10) ≤ 0) then (
   gd (Nat.ble (s.2.length + ((toBytes [wu8 (wi64 (48 + (Int.tmod n2 10)))]) ++ s2).length) 9223372036854775807) <|
   some (.inr (s.2 ++ ((toBytes [wu8 (wi64 (48 + (Int.tmod n2 10)))]) ++ s2))))
  else (
   some (.inl (wi64 (Int.tdiv n2 10), (toBytes [wu8 (wi64 (48 + (Int.tmod n2 10)))]) ++ s2)))

noncomputable def ref03_Text (n : Int) : Option (List UInt8) :=
  Option.bind (α := Int × List UInt8) (
    bif decide (n < 0) then (
     some (wi64 (0 - n), [45]))
    else (
     some (n, []))) fun s =>
  (iter (fun x => ref03_Text_L0 s x.1 x.2) (s.1, [])).bind fun s3 =>
  some s3

noncomputable def fn_ref03_Text : Fun :=
  { f := 18, np := 1, nr := 1,
    ji := { regs := [(0, .one (.data (.int .i64)))], vars := [], arrs := [] },
    jo := { regs := [(0, .one (.data (.str)))], vars := [], arrs := [] },
    tw := fun x => ref03_Text x }
noncomputable def cx_ref03_Text : Cx := { Γ := types, ow := [], fs := [], N := 24 }
theorem ok_ref03_Text : FunOk Tryz.prog fn_ref03_Text :=
  FunOk.intro (C := cx_ref03_Text) (p := (.mk [] none .nil (.mk [] none .nil (.mk [] none (.mk [] none .nil (.mk [.join [{ e := .n, j := { regs := [(0, .one (.data (.int .i64))), (3, .one (.data (.str))), (4, .one .keep)], vars := [], arrs := [] } }]] none .nil .nil)) (.mk [] none (.mk [] (some ({ regs := [(0, .one (.data (.int .i64))), (3, .one .keep), (4, .one (.data (.str)))], vars := [], arrs := [] }, [{ e := .r, j := { regs := [(2, .one (.data (.str)))], vars := [], arrs := [] } }])) .nil .nil) .nil)))))
    Tryz.func18 rfl nmr18 rfl rfl rfl rfl types_ok ⟨trivial, trivial⟩ mx (fun x => by kernel_rfl)

noncomputable def ref04_Format_L1 (l : List (List UInt8 × Int × Int × Int × Int)) (v : Int) (s2 : List UInt8) (v2 : Int) : Option ((List UInt8 × Int) ⊕ (List UInt8)) :=
  bif decide (v2 < ([((l.getD v.toNat ([], (0, (0, (0, 0))))).2).1, (((l.getD v.toNat ([], (0, (0, (0, 0))))).2).2).1, ((((l.getD v.toNat ([], (0, (0, (0, 0))))).2).2).2).1, ((((l.getD v.toNat ([], (0, (0, (0, 0))))).2).2).2).2].length : Int)) then (
   gd (inB v2 [((l.getD v.toNat ([], (0, (0, (0, 0))))).2).1, (((l.getD v.toNat ([], (0, (0, (0, 0))))).2).2).1, ((((l.getD v.toNat ([], (0, (0, (0, 0))))).2).2).2).1, ((((l.getD v.toNat ([], (0, (0, (0, 0))))).2).2).2).2].length) <|
   (ref03_Text ([((l.getD v.toNat ([], (0, (0, (0, 0))))).2).1, (((l.getD v.toNat ([], (0, (0, (0, 0))))).2).2).1, ((((l.getD v.toNat ([], (0, (0, (0, 0))))).2).2).2).1, ((((l.getD v.toNat ([], (0, (0, (0, 0))))).2).2).2).2].getD v2.toNat 0)).bind fun r2 =>
   gd (Nat.ble ([32].length + r2.length) 9223372036854775807) <|
   gd (Nat.ble (s2.length + ([32] ++ r2).length) 9223372036854775807) <|
   some (.inl (s2 ++ ([32] ++ r2), wi64 (v2 + 1))))
  else (
   some (.inr s2))

noncomputable def ref04_Format_L0 (l : List (List UInt8 × Int × Int × Int × Int)) (s : List UInt8) (v : Int) : Option ((List UInt8 × Int) ⊕ (List UInt8)) :=
  bif decide (v < (l.length : Int)) then (
   gd (inB v l.length) <|
   gd (Nat.ble ([112, 114, 111, 100, 117, 99, 116, 32].length + ((l.getD v.toNat ([], (0, (0, (0, 0))))).1).length) 9223372036854775807) <|
   gd (Nat.ble (s.length + ([112, 114, 111, 100, 117, 99, 116, 32] ++ ((l.getD v.toNat ([], (0, (0, (0, 0))))).1)).length) 9223372036854775807) <|
   (iter (fun x => ref04_Format_L1 l v x.1 x.2) (s ++ ([112, 114, 111, 100, 117, 99, 116, 32] ++ ((l.getD v.toNat ([], (0, (0, (0, 0))))).1)), 0)).bind fun s3 =>
   gd (Nat.ble (s3.length + [10].length) 9223372036854775807) <|
   some (.inl (s3 ++ [10], wi64 (v + 1))))
  else (
   some (.inr s))

noncomputable def ref04_Format (l : List (List UInt8 × Int × Int × Int × Int)) : Option (List UInt8 × Int) :=
  (ref04_Check l).bind fun r =>
  bif !decide (r = 0) then (
   some ([], r))
  else (
   (iter (fun x2 => ref04_Format_L0 l x2.1 x2.2) ([], 0)).bind fun s4 =>
   some (s4, 0))

noncomputable def fn_ref04_Format : Fun :=
  { f := 11, np := 1, nr := 2,
    ji := { regs := [(0, .one (.data (.sl (.pair (.str) (.pair (.int .i64) (.pair (.int .i64) (.pair (.int .i64) (.int .i64))))))))], vars := [], arrs := [] },
    jo := { regs := [(0, .one (.data (.str))), (1, .one (.data (.int .i64)))], vars := [], arrs := [] },
    tw := fun x => ref04_Format x }
noncomputable def cx_ref04_Format : Cx := { Γ := types, ow := [], fs := [fn_ref04_Check, fn_ref03_Text], N := 50 }
theorem ok_ref04_Format : FunOk Tryz.prog fn_ref04_Format :=
  FunOk.intro (C := cx_ref04_Format) (p := (.mk [] none .nil (.mk [] none .nil (.mk [] none .nil (.mk [] none (.mk [] none .nil (.mk [] none (.mk [] (some ({ regs := [(5, .one (.data (.str))), (15, .one .keep), (16, .one .keep), (17, .one (.data (.int .i64)))], vars := [], arrs := [] }, [{ e := .x 0, j := { regs := [(5, .one (.data (.str)))], vars := [], arrs := [] } }])) (.mk [] none .nil (.mk [] none .nil (.mk [] none (.mk [] none (.mk [] none .nil (.mk [] none .nil (.mk [] none (.mk [] none .nil (.mk [] none (.mk [] (some ({ regs := [(5, .one (.data (.str))), (15, .one .keep), (16, .one .keep), (17, .one .keep), (34, .one .keep), (35, .one .keep), (36, .one (.data (.int .i64)))], vars := [], arrs := [] }, [{ e := .x 2, j := { regs := [(5, .one (.data (.str))), (15, .one .keep), (16, .one .keep), (17, .one .keep)], vars := [], arrs := [] } }])) .nil .nil) .nil)) .nil))) .nil) .nil))) .nil) .nil)) .nil)))))
    Tryz.func11 rfl nmr11 rfl rfl rfl rfl types_ok ⟨⟨ok_ref04_Check, ok_ref03_Text, trivial⟩, trivial⟩ mx (fun x => by kernel_rfl)

noncomputable def ref03_Lines_L0 (text : List UInt8) (vfrom : Int) (i : Int) (out : List (List UInt8)) : Option ((Int × Int × List (List UInt8)) ⊕ (Int × List (List UInt8))) :=
  bif decide (i < (text.length : Int)) then (
   gd (inB i text.length) <|
   Option.bind (α := Int × List (List UInt8)) (
     bif decide ((Int.ofNat (text.getD i.toNat 0).toNat) = 10) then (
      gd (inR vfrom i text.length) <|
      gd (fits (out.length + 1) 16) <|
      some (wi64 (i + 1), out ++ [(text.take i.toNat).drop vfrom.toNat]))
     else (
      some (vfrom, out))) fun s =>
   some (.inl (s.1, wi64 (i + 1), s.2)))
  else (
   some (.inr (vfrom, out)))

noncomputable def ref03_Lines (text : List UInt8) : Option (List (List UInt8)) :=
  (iter (fun x => ref03_Lines_L0 text x.1 x.2.1 x.2.2) (0, 0, [])).bind fun s2 =>
  bif decide (s2.1 < (text.length : Int)) then (
   gd (cutG (some (.i64, s2.1)) none text.length) <|
   gd (fits (s2.2.length + 1) 16) <|
   some (s2.2 ++ [text.drop s2.1.toNat]))
  else (
   some s2.2)

noncomputable def fn_ref03_Lines : Fun :=
  { f := 51, np := 1, nr := 1,
    ji := { regs := [(0, .one (.data (.str)))], vars := [], arrs := [] },
    jo := { regs := [(0, .one (.own 0))], vars := [], arrs := [(0, .arr 9 (.str))] },
    tw := fun x => ref03_Lines x }
noncomputable def cx_ref03_Lines : Cx := { Γ := types, ow := [], fs := [], N := 36 }
theorem ok_ref03_Lines : FunOk Tryz.prog fn_ref03_Lines :=
  FunOk.intro (C := cx_ref03_Lines) (p := (.mk [] none .nil (.mk [] none .nil (.mk [] none .nil (.mk [] none (.mk [] none .nil (.mk [] none (.mk [] (some ({ regs := [(0, .one .keep), (3, .one (.own 75)), (4, .one (.data (.int .i64))), (5, .one (.data (.int .i64)))], vars := [], arrs := [(75, .arr 9 (.str))] }, [{ e := .x 0, j := { regs := [(0, .one .keep), (3, .one (.own 75)), (4, .one (.data (.int .i64)))], vars := [], arrs := [(75, .arr 9 (.str))] } }])) (.mk [] none .nil (.mk [] none (.mk [] none (.mk [] none .nil (.mk [.join [{ e := .n, j := { regs := [(0, .one .keep), (3, .one (.own 75)), (4, .one (.data (.int .i64))), (5, .one .keep)], vars := [], arrs := [(75, .arr 9 (.str))] } }]] none .nil .nil)) .nil) .nil)) .nil) .nil)) .nil)))))
    Tryz.func51 rfl nmr51 rfl rfl rfl rfl types_ok ⟨trivial, trivial⟩ mx (fun x => by kernel_rfl)

noncomputable def ref03_cut_L0 (s : List UInt8) (vfrom : Int) (i : Int) (out : List (List UInt8)) : Option ((Int × Int × List (List UInt8)) ⊕ (List (List UInt8))) :=
  bif decide (i ≤ (s.length : Int)) then (
   Option.bind (α := Bool × List (List UInt8)) (
     bif decide (i = (s.length : Int)) then (
      some (true, out))
     else (
      gd (inB i s.length) <|
      some (decide ((Int.ofNat (s.getD i.toNat 0).toNat) = 32), out))) fun s2 =>
   Option.bind (α := Int × List (List UInt8)) (
     bif s2.1 then (
      gd (inR vfrom i s.length) <|
      gd (fits (s2.2.length + 1) 16) <|
      some (wi64 (i + 1), s2.2 ++ [(s.take i.toNat).drop vfrom.toNat]))
     else (
      some (vfrom, s2.2))) fun s3 =>
   some (.inl (s3.1, wi64 (i + 1), s3.2)))
  else (
   some (.inr out))

noncomputable def ref03_cut (s : List UInt8) : Option (List (List UInt8)) :=
  (iter (fun x => ref03_cut_L0 s x.1 x.2.1 x.2.2) (0, 0, [])).bind fun s4 =>
  some s4

noncomputable def fn_ref03_cut : Fun :=
  { f := 52, np := 1, nr := 1,
    ji := { regs := [(0, .one (.data (.str)))], vars := [], arrs := [] },
    jo := { regs := [(0, .one (.own 0))], vars := [], arrs := [(0, .arr 9 (.str))] },
    tw := fun x => ref03_cut x }
noncomputable def cx_ref03_cut : Cx := { Γ := types, ow := [], fs := [], N := 32 }
theorem ok_ref03_cut : FunOk Tryz.prog fn_ref03_cut :=
  FunOk.intro (C := cx_ref03_cut) (p := (.mk [] none .nil (.mk [] none .nil (.mk [] none .nil (.mk [] none (.mk [] none .nil (.mk [] none (.mk [] (some ({ regs := [(0, .one .keep), (3, .one (.own 75)), (4, .one (.data (.int .i64))), (5, .one (.data (.int .i64)))], vars := [], arrs := [(75, .arr 9 (.str))] }, [{ e := .x 0, j := { regs := [(3, .one (.own 75))], vars := [], arrs := [(75, .arr 9 (.str))] } }])) (.mk [] none .nil (.mk [] none (.mk [] none (.mk [] none (.mk [.join [{ e := .n, j := { regs := [(0, .one .keep), (3, .one (.own 75)), (4, .one .keep), (5, .one .keep), (21, .one (.data (.bool)))], vars := [], arrs := [(75, .arr 9 (.str))] } }]] none .nil .nil) (.mk [.join [{ e := .n, j := { regs := [(0, .one .keep), (3, .one (.own 75)), (4, .one (.data (.int .i64))), (5, .one .keep)], vars := [], arrs := [(75, .arr 9 (.str))] } }]] none .nil .nil)) .nil) .nil)) .nil) .nil)) .nil)))))
    Tryz.func52 rfl nmr52 rfl rfl rfl rfl types_ok ⟨trivial, trivial⟩ mx (fun x => by kernel_rfl)

noncomputable def ref03_proper_L1 (w : List (List UInt8)) (v : Int) (k : Int) : Option (Int ⊕ (Unit ⊕ Bool)) :=
  gd (inB v w.length) <|
  bif decide (k < ((w.getD v.toNat []).length : Int)) then (
   Option.bind (α := Bool) (
     gd (inB v w.length) <|
     gd (inB k (w.getD v.toNat []).length) <|
     bif decide ((Int.ofNat ((w.getD v.toNat []).getD k.toNat 0).toNat) < 33) then (
      some true)
     else (
      gd (inB v w.length) <|
      gd (inB k (w.getD v.toNat []).length) <|
      some (decide (126 < (Int.ofNat ((w.getD v.toNat []).getD k.toNat 0).toNat))))) fun s2 =>
   bif s2 then (
    some (.inr (.inr false)))
   else (
    some (.inl (wi64 (k + 1)))))
  else (
   some (.inr (.inl ())))

noncomputable def ref03_proper_L0 (w : List (List UInt8)) (v : Int) : Option (Int ⊕ (Unit ⊕ Bool)) :=
  bif decide (v < (w.length : Int)) then (
   Option.bind (α := Bool) (
     gd (inB v w.length) <|
     bif decide (w.getD v.toNat [] = []) then (
      some true)
     else (
      bif decide (v = 0) then (
       gd (inB v w.length) <|
       gd (inB 0 (w.getD v.toNat []).length) <|
       some (decide ((Int.ofNat ((w.getD v.toNat []).getD 0 0).toNat) = 35)))
      else (
       some false))) fun s =>
   bif s then (
    some (.inr (.inr false)))
   else (
    (iter (fun x => ref03_proper_L1 w v x) 0).bind fun s3 =>
    s3.elim (fun s4 =>
     some (.inl (wi64 (v + 1))))
    (fun s5 =>
     some (.inr (.inr s5)))))
  else (
   some (.inr (.inl ())))

noncomputable def ref03_proper (w : List (List UInt8)) : Option (Bool) :=
  bif decide (16 < (w.length : Int)) then (
   some false)
  else (
   (iter (fun x2 => ref03_proper_L0 w x2) 0).bind fun s6 =>
   s6.elim (fun s7 =>
    some true)
   (fun s8 =>
    some s8))

noncomputable def fn_ref03_proper : Fun :=
  { f := 53, np := 1, nr := 1,
    ji := { regs := [(0, .one (.data (.sl (.str))))], vars := [], arrs := [] },
    jo := { regs := [(0, .one (.data (.bool)))], vars := [], arrs := [] },
    tw := fun x => ref03_proper x }
noncomputable def cx_ref03_proper : Cx := { Γ := types, ow := [], fs := [], N := 56 }
theorem ok_ref03_proper : FunOk Tryz.prog fn_ref03_proper :=
  FunOk.intro (C := cx_ref03_proper) (p := (.mk [] none .nil (.mk [] none .nil (.mk [] none (.mk [] none .nil (.mk [] none (.mk [] (some ({ regs := [(0, .one .keep), (9, .one .keep), (10, .one (.data (.int .i64)))], vars := [], arrs := [] }, [{ e := .x 0, j := { regs := [], vars := [], arrs := [] } }, { e := .r, j := { regs := [(2, .one (.data (.bool)))], vars := [], arrs := [] } }])) (.mk [] none .nil (.mk [] none .nil (.mk [] none (.mk [] none (.mk [] none .nil (.mk [] none (.mk [] none (.mk [.join [{ e := .n, j := { regs := [(0, .one .keep), (3, .one .keep), (9, .one .keep), (10, .one .keep), (29, .one (.data (.bool)))], vars := [], arrs := [] } }]] none .nil .nil) .nil) (.mk [] none .nil (.mk [] none (.mk [] (some ({ regs := [(0, .one .keep), (3, .one .keep), (4, .one (.data (.int .i64))), (9, .one .keep), (10, .one .keep)], vars := [], arrs := [] }, [{ e := .x 2, j := { regs := [(0, .one .keep), (9, .one .keep), (10, .one .keep)], vars := [], arrs := [] } }, { e := .r, j := { regs := [(2, .one (.data (.bool)))], vars := [], arrs := [] } }])) (.mk [] none .nil (.mk [] none (.mk [] none (.mk [] none (.mk [.join [{ e := .n, j := { regs := [(0, .one .keep), (3, .one .keep), (4, .one .keep), (9, .one .keep), (10, .one .keep), (54, .one (.data (.bool)))], vars := [], arrs := [] } }]] none .nil .nil) .nil) .nil) .nil)) .nil) .nil)))) .nil) .nil))) .nil) .nil)) .nil))))
    Tryz.func53 rfl nmr53 rfl rfl rfl rfl types_ok ⟨trivial, trivial⟩ mx (fun x => by kernel_rfl)

noncomputable def ref03_Split_L0 (r : List (List UInt8)) (v : Int) (l : List (List UInt8)) (out : List (List (List UInt8))) : Option ((Int × List (List UInt8) × List (List (List UInt8))) ⊕ ((List (List (List UInt8))) ⊕ (List (List (List UInt8)) × Int))) :=
  bif decide (v < (r.length : Int)) then (
   Option.bind (α := (List (List UInt8) × List (List (List UInt8))) ⊕ (List (List (List UInt8)) × Int)) (
     Option.bind (α := Bool × List (List UInt8) × List (List (List UInt8))) (
       gd (inB v l.length) <|
       bif decide (l.getD v.toNat [] = []) then (
        some (true, l, out))
       else (
        gd (inB v l.length) <|
        gd (inB 0 (l.getD v.toNat []).length) <|
        some (decide ((Int.ofNat ((l.getD v.toNat []).getD 0 0).toNat) = 35), l, out))) fun s =>
     bif s.1 then (
      gd (fits (s.2.2.length + 1) 24) <|
      some (.inl (s.2.1, s.2.2 ++ [[]])))
     else (
      gd (inB v s.2.1.length) <|
      (ref03_cut (s.2.1.getD v.toNat [])).bind fun r2 =>
      (ref03_proper r2).bind fun r3 =>
      bif !r3 then (
       some (.inr ([], 3)))
      else (
       gd (fits (s.2.2.length + 1) 24) <|
       some (.inl (s.2.1, s.2.2 ++ [r2]))))) fun s2 =>
   s2.elim (fun s3 =>
    some (.inl (wi64 (v + 1), s3.1, s3.2)))
   (fun s4 =>
    some (.inr (.inr (s4.1, s4.2)))))
  else (
   some (.inr (.inl out)))

noncomputable def ref03_Split (text : List UInt8) : Option (List (List (List UInt8)) × Int) :=
  bif decide (16384 < (text.length : Int)) then (
   some ([], 4))
  else (
   (ref03_Lines text).bind fun r =>
   bif decide (400 < (r.length : Int)) then (
    some ([], 4))
   else (
    (iter (fun x => ref03_Split_L0 r x.1 x.2.1 x.2.2) (0, r, [])).bind fun s5 =>
    s5.elim (fun s6 =>
     some (s6, 0))
    (fun s7 =>
     some (s7.1, s7.2))))

noncomputable def fn_ref03_Split : Fun :=
  { f := 37, np := 1, nr := 2,
    ji := { regs := [(0, .one (.data (.str)))], vars := [], arrs := [] },
    jo := { regs := [(0, .one (.data (.sl (.sl (.str))))), (1, .one (.data (.int .i64)))], vars := [], arrs := [] },
    tw := fun x => ref03_Split x }
noncomputable def cx_ref03_Split : Cx := { Γ := types, ow := [], fs := [fn_ref03_Lines, fn_ref03_cut, fn_ref03_proper], N := 51 }
theorem ok_ref03_Split : FunOk Tryz.prog fn_ref03_Split :=
  FunOk.intro (C := cx_ref03_Split) (p := (.mk [] none .nil (.mk [] none .nil (.mk [] none .nil (.mk [] none .nil (.mk [] none .nil (.mk [] none (.mk [] none .nil (.mk [] none (.mk [] (some ({ regs := [(4, .one (.own 208)), (5, .one (.own 107)), (17, .one .keep), (18, .one (.data (.int .i64)))], vars := [], arrs := [(208, .arr 9 (.str)), (107, .arr 42 (.sl (.str)))] }, [{ e := .x 0, j := { regs := [(5, .one (.own 107))], vars := [], arrs := [(107, .arr 42 (.sl (.str)))] } }, { e := .r, j := { regs := [(2, .one (.data (.sl (.sl (.str))))), (3, .one (.data (.int .i64)))], vars := [], arrs := [] } }])) (.mk [] none .nil (.mk [] none .nil (.mk [] none (.mk [.join [{ e := .n, j := { regs := [(4, .one (.own 208)), (5, .one (.own 107)), (17, .one .keep), (18, .one .keep)], vars := [], arrs := [(208, .arr 9 (.str)), (107, .arr 42 (.sl (.str)))] } }, { e := .r, j := { regs := [(2, .one (.data (.sl (.sl (.str))))), (3, .one (.data (.int .i64)))], vars := [], arrs := [] } }]] none (.mk [] none .nil (.mk [] none (.mk [] none (.mk [.join [{ e := .n, j := { regs := [(4, .one (.own 208)), (5, .one (.own 107)), (6, .one .keep), (17, .one .keep), (18, .one .keep), (33, .one (.data (.bool)))], vars := [], arrs := [(208, .arr 9 (.str)), (107, .arr 42 (.sl (.str)))] } }]] none .nil .nil) .nil) (.mk [] none .nil (.mk [] none .nil (.mk [.fz [7]] none .nil .nil))))) .nil) .nil))) .nil) .nil)) .nil)))))))
    Tryz.func37 rfl nmr37 rfl rfl rfl rfl types_ok ⟨⟨ok_ref03_Lines, ok_ref03_cut, ok_ref03_proper, trivial⟩, trivial⟩ mx (fun x => by kernel_rfl)

noncomputable def ref03_Number_L0 (s3 : List UInt8) (i : Int) : Option (Int ⊕ (Unit ⊕ (Int × Int))) :=
  bif decide (i < (s3.length : Int)) then (
   Option.bind (α := Bool) (
     gd (inB i s3.length) <|
     bif decide ((Int.ofNat (s3.getD i.toNat 0).toNat) < 48) then (
      some true)
     else (
      gd (inB i s3.length) <|
      some (decide (57 < (Int.ofNat (s3.getD i.toNat 0).toNat))))) fun s5 =>
   bif s5 then (
    some (.inr (.inr (0, 3))))
   else (
    some (.inl (wi64 (i + 1)))))
  else (
   some (.inr (.inl ())))

noncomputable def ref03_Number_L1 (s3 : List UInt8) (n : Int) (i2 : Int) : Option ((Int × Int) ⊕ (Int ⊕ (Int × Int))) :=
  bif decide (i2 < (s3.length : Int)) then (
   gd (inB i2 s3.length) <|
   bif decide (9007199254740992 < wi64 ((wi64 (n * 10)) + (wi64 (wu8 ((Int.ofNat (s3.getD i2.toNat 0).toNat) - 48))))) then (
    some (.inr (.inr (0, 1))))
   else (
    some (.inl (wi64 ((wi64 (n * 10)) + (wi64 (wu8 ((Int.ofNat (s3.getD i2.toNat 0).toNat) - 48)))), wi64 (i2 + 1)))))
  else (
   some (.inr (.inl n)))

noncomputable def ref03_Number (s : List UInt8) : Option (Int × Int) :=
  Option.bind (α := Bool) (
    bif decide (0 < (s.length : Int)) then (
     gd (inB 0 s.length) <|
     some (decide ((Int.ofNat (s.getD 0 0).toNat) = 45)))
    else (
     some false)) fun s2 =>
  Option.bind (α := List UInt8) (
    bif s2 then (
     gd (cutG (some (.i64, 1)) none s.length) <|
     some (s.drop 1))
    else (
     some s)) fun s3 =>
  Option.bind (α := Bool) (
    bif decide (s3 = []) then (
     some true)
    else (
     gd (inB 0 s3.length) <|
     bif decide ((Int.ofNat (s3.getD 0 0).toNat) = 48) then (
      bif decide (1 < (s3.length : Int)) then (
       some true)
      else (
       some s2))
     else (
      some false))) fun s4 =>
  bif s4 then (
   some (0, 3))
  else (
   (iter (fun x => ref03_Number_L0 s3 x) 0).bind fun s6 =>
   s6.elim (fun s7 =>
    (iter (fun x2 => ref03_Number_L1 s3 x2.1 x2.2) (0, 0)).bind fun s9 =>
    s9.elim (fun s10 =>
     Option.bind (α := Int) (
       bif s2 then (
        some (wi64 (0 - s10)))
       else (
        some s10)) fun s12 =>
     some (s12, 0))
    (fun s11 =>
     some (s11.1, s11.2)))
   (fun s8 =>
    some (s8.1, s8.2)))

noncomputable def fn_ref03_Number : Fun :=
  { f := 38, np := 1, nr := 2,
    ji := { regs := [(0, .one (.data (.str)))], vars := [], arrs := [] },
    jo := { regs := [(0, .one (.data (.int .i64))), (1, .one (.data (.int .i64)))], vars := [], arrs := [] },
    tw := fun x => ref03_Number x }
noncomputable def cx_ref03_Number : Cx := { Γ := types, ow := [], fs := [], N := 72 }
theorem ok_ref03_Number : FunOk Tryz.prog fn_ref03_Number :=
  FunOk.intro (C := cx_ref03_Number) (p := (.mk [] none .nil (.mk [] none (.mk [.join [{ e := .n, j := { regs := [(0, .one .keep), (4, .one (.data (.bool)))], vars := [], arrs := [] } }]] none .nil .nil) (.mk [] none .nil (.mk [] none (.mk [] none .nil (.mk [.join [{ e := .n, j := { regs := [(4, .one .keep), (5, .one (.data (.str)))], vars := [], arrs := [] } }]] none .nil .nil)) (.mk [] none (.mk [] none (.mk [.join [{ e := .n, j := { regs := [(4, .one .keep), (5, .one .keep), (35, .one (.data (.bool)))], vars := [], arrs := [] } }]] none .nil .nil) .nil) (.mk [] none (.mk [] none .nil (.mk [] none (.mk [] (some ({ regs := [(4, .one .keep), (5, .one .keep), (6, .one (.data (.int .i64)))], vars := [], arrs := [] }, [{ e := .x 0, j := { regs := [(4, .one .keep), (5, .one .keep)], vars := [], arrs := [] } }, { e := .r, j := { regs := [(2, .one (.data (.int .i64))), (3, .one (.data (.int .i64)))], vars := [], arrs := [] } }])) (.mk [] none .nil (.mk [] none (.mk [] none (.mk [] none (.mk [.join [{ e := .n, j := { regs := [(4, .one .keep), (5, .one .keep), (6, .one .keep), (51, .one (.data (.bool)))], vars := [], arrs := [] } }]] none .nil .nil) .nil) .nil) .nil)) .nil) .nil)) (.mk [] none .nil (.mk [] none (.mk [] none .nil (.mk [] none (.mk [] (some ({ regs := [(4, .one .keep), (5, .one .keep), (7, .one (.data (.int .i64))), (8, .one (.data (.int .i64)))], vars := [], arrs := [] }, [{ e := .x 2, j := { regs := [(4, .one .keep), (7, .one (.data (.int .i64)))], vars := [], arrs := [] } }, { e := .r, j := { regs := [(2, .one (.data (.int .i64))), (3, .one (.data (.int .i64)))], vars := [], arrs := [] } }])) .nil .nil) .nil)) (.mk [] none (.mk [] none .nil (.mk [.join [{ e := .n, j := { regs := [(7, .one (.data (.int .i64)))], vars := [], arrs := [] } }]] none .nil .nil)) .nil))))))))))
    Tryz.func38 rfl nmr38 rfl rfl rfl rfl types_ok ⟨trivial, trivial⟩ mx (fun x => by kernel_rfl)

noncomputable def ref04_Parse_L1 (r : List (List (List UInt8)) × Int) (v : Int) (v2 : Int) (n : Int) (n2 : Int) (n3 : Int) (n4 : Int) (out2 : List (List UInt8 × Int × Int × Int × Int)) : Option ((Int × Int × Int × Int × Int × List (List UInt8 × Int × Int × Int × Int)) ⊕ ((Int × Int × Int × Int × List (List UInt8 × Int × Int × Int × Int)) ⊕ ((List (List UInt8 × Int × Int × Int × Int)) × Int × Int))) :=
  bif decide (v2 < 4) then (
   gd (inB (wi64 (2 + v2)) (r.1.getD v.toNat []).length) <|
   (ref03_Number ((r.1.getD v.toNat []).getD (wi64 (2 + v2)).toNat [])).bind fun r2 =>
   bif !decide (r2.2 = 0) then (
    some (.inr (.inr ([], wi64 (v + 1), 3))))
   else (
    gd (inB v2 4) <|
    some (.inl (wi64 (v2 + 1), ([n, n2, n3, n4].set v2.toNat r2.1).getD 0 0, ([n, n2, n3, n4].set v2.toNat r2.1).getD 1 0, ([n, n2, n3, n4].set v2.toNat r2.1).getD 2 0, ([n, n2, n3, n4].set v2.toNat r2.1).getD 3 0, out2))))
  else (
   some (.inr (.inl (n, n2, n3, n4, out2))))

noncomputable def ref04_Parse_L0 (r : List (List (List UInt8)) × Int) (v : Int) (out : List (List UInt8 × Int × Int × Int × Int)) : Option ((Int × List (List UInt8 × Int × Int × Int × Int)) ⊕ ((List (List UInt8 × Int × Int × Int × Int)) ⊕ ((List (List UInt8 × Int × Int × Int × Int)) × Int × Int))) :=
  bif decide (v < (r.1.length : Int)) then (
   Option.bind (α := (List (List UInt8 × Int × Int × Int × Int)) ⊕ ((List (List UInt8 × Int × Int × Int × Int)) × Int × Int)) (
     gd (inB v r.1.length) <|
     bif decide (((r.1.getD v.toNat []).length : Int) = 0) then (
      some (.inl out))
     else (
      Option.bind (α := Bool × List (List UInt8 × Int × Int × Int × Int)) (
        bif !decide (((r.1.getD v.toNat []).length : Int) = 6) then (
         some (true, out))
        else (
         gd (inB 0 (r.1.getD v.toNat []).length) <|
         some ((!decide ((r.1.getD v.toNat []).getD 0 [] = [112, 114, 111, 100, 117, 99, 116])), out))) fun s =>
      bif s.1 then (
       some (.inr ([], wi64 (v + 1), 3)))
      else (
       (iter (fun x => ref04_Parse_L1 r v x.1 x.2.1 x.2.2.1 x.2.2.2.1 x.2.2.2.2.1 x.2.2.2.2.2) (0, 0, 0, 0, 0, s.2)).bind fun s2 =>
       s2.elim (fun s3 =>
        gd (inB 1 (r.1.getD v.toNat []).length) <|
        (ref04_Valid ((r.1.getD v.toNat []).getD 1 [], (s3.1, (s3.2.1, (s3.2.2.1, s3.2.2.2.1))))).bind fun r3 =>
        bif !r3 then (
         some (.inr ([], wi64 (v + 1), 9)))
        else (
         (ref04_Find s3.2.2.2.2 ((r.1.getD v.toNat []).getD 1 [])).bind fun r4 =>
         bif decide (0 ≤ r4) then (
          some (.inr ([], wi64 (v + 1), 7)))
         else (
          bif decide ((s3.2.2.2.2.length : Int) = 16) then (
           some (.inr ([], wi64 (v + 1), 4)))
          else (
           gd (fits (s3.2.2.2.2.length + 1) 48) <|
           some (.inl (s3.2.2.2.2 ++ [((r.1.getD v.toNat []).getD 1 [], (s3.1, (s3.2.1, (s3.2.2.1, s3.2.2.2.1))))]))))))
       (fun s4 =>
        some (.inr (s4.1, s4.2.1, s4.2.2)))))) fun s5 =>
   s5.elim (fun s6 =>
    some (.inl (wi64 (v + 1), s6)))
   (fun s7 =>
    some (.inr (.inr (s7.1, s7.2.1, s7.2.2)))))
  else (
   some (.inr (.inl out)))

noncomputable def ref04_Parse (text : List UInt8) : Option ((List (List UInt8 × Int × Int × Int × Int)) × Int × Int) :=
  (ref03_Split text).bind fun r =>
  bif !decide (r.2 = 0) then (
   some ([], 0, r.2))
  else (
   (iter (fun x2 => ref04_Parse_L0 r x2.1 x2.2) (0, [])).bind fun s8 =>
   s8.elim (fun s9 =>
    some (s9, 0, 0))
   (fun s10 =>
    some (s10.1, s10.2.1, s10.2.2)))

noncomputable def fn_ref04_Parse : Fun :=
  { f := 21, np := 1, nr := 3,
    ji := { regs := [(0, .one (.data (.str)))], vars := [], arrs := [] },
    jo := { regs := [(0, .one (.data (.sl (.pair (.str) (.pair (.int .i64) (.pair (.int .i64) (.pair (.int .i64) (.int .i64)))))))), (1, .one (.data (.int .i64))), (2, .one (.data (.int .i64)))], vars := [], arrs := [] },
    tw := fun x => ref04_Parse x }
noncomputable def cx_ref04_Parse : Cx := { Γ := types, ow := [], fs := [fn_ref03_Split, fn_ref03_Number, fn_ref04_Valid, fn_ref04_Find], N := 102 }
theorem ok_ref04_Parse : FunOk Tryz.prog fn_ref04_Parse :=
  FunOk.intro (C := cx_ref04_Parse) (p := (.mk [] none .nil (.mk [] none .nil (.mk [] none .nil (.mk [] none .nil (.mk [] none (.mk [] none .nil (.mk [] none (.mk [] (some ({ regs := [(7, .one (.own 139)), (23, .one .keep), (24, .one .keep), (25, .one (.data (.int .i64)))], vars := [], arrs := [(139, .arr 26 (.pair (.str) (.pair (.int .i64) (.pair (.int .i64) (.pair (.int .i64) (.int .i64))))))] }, [{ e := .x 0, j := { regs := [(7, .one (.own 139))], vars := [], arrs := [(139, .arr 26 (.pair (.str) (.pair (.int .i64) (.pair (.int .i64) (.pair (.int .i64) (.int .i64))))))] } }, { e := .r, j := { regs := [(2, .one (.data (.sl (.pair (.str) (.pair (.int .i64) (.pair (.int .i64) (.pair (.int .i64) (.int .i64)))))))), (3, .one (.data (.int .i64))), (4, .one (.data (.int .i64)))], vars := [], arrs := [] } }])) (.mk [] none .nil (.mk [] none .nil (.mk [] none (.mk [.join [{ e := .n, j := { regs := [(7, .one (.own 139)), (23, .one .keep), (24, .one .keep), (25, .one .keep)], vars := [], arrs := [(139, .arr 26 (.pair (.str) (.pair (.int .i64) (.pair (.int .i64) (.pair (.int .i64) (.int .i64))))))] } }, { e := .r, j := { regs := [(2, .one (.data (.sl (.pair (.str) (.pair (.int .i64) (.pair (.int .i64) (.pair (.int .i64) (.int .i64)))))))), (3, .one (.data (.int .i64))), (4, .one (.data (.int .i64)))], vars := [], arrs := [] } }]] none (.mk [] none .nil (.mk [] none .nil (.mk [] none (.mk [] none (.mk [.join [{ e := .n, j := { regs := [(7, .one (.own 139)), (8, .one .keep), (9, .one .keep), (23, .one .keep), (24, .one .keep), (25, .one .keep), (41, .one (.data (.bool)))], vars := [], arrs := [(139, .arr 26 (.pair (.str) (.pair (.int .i64) (.pair (.int .i64) (.pair (.int .i64) (.int .i64))))))] } }]] none .nil .nil) .nil) (.mk [] none .nil (.mk [] none (.mk [] none .nil (.mk [] none (.mk [] (some ({ regs := [(7, .one (.own 139)), (8, .one .keep), (9, .one .keep), (10, .one (.ptr 176 0)), (23, .one .keep), (24, .one .keep), (25, .one .keep), (44, .one (.data (.int .i64)))], vars := [(176, 54, [.data (.int .i64), .data (.int .i64), .data (.int .i64), .data (.int .i64)])], arrs := [(139, .arr 26 (.pair (.str) (.pair (.int .i64) (.pair (.int .i64) (.pair (.int .i64) (.int .i64))))))] }, [{ e := .x 2, j := { regs := [(7, .one (.own 139)), (8, .one .keep), (9, .one .keep), (10, .one (.ptr 176 0)), (23, .one .keep), (24, .one .keep), (25, .one .keep)], vars := [(176, 54, [.data (.int .i64), .data (.int .i64), .data (.int .i64), .data (.int .i64)])], arrs := [(139, .arr 26 (.pair (.str) (.pair (.int .i64) (.pair (.int .i64) (.pair (.int .i64) (.int .i64))))))] } }, { e := .r, j := { regs := [(2, .one (.data (.sl (.pair (.str) (.pair (.int .i64) (.pair (.int .i64) (.pair (.int .i64) (.int .i64)))))))), (3, .one (.data (.int .i64))), (4, .one (.data (.int .i64)))], vars := [], arrs := [] } }])) .nil .nil) .nil)) .nil))))) .nil) .nil))) .nil) .nil)) .nil))))))
    Tryz.func21 rfl nmr21 rfl rfl rfl rfl types_ok ⟨⟨ok_ref03_Split, ok_ref03_Number, ok_ref04_Valid, ok_ref04_Find, trivial⟩, trivial⟩ mx (fun x => by kernel_rfl)

noncomputable def law04_ProductAnswers_L0 (raw : List (List UInt8 × Int × Int × Int × Int)) (v : Int) : Option (Int ⊕ (Unit ⊕ Bool)) :=
  bif decide (v < (raw.length : Int)) then (
   gd (inB v raw.length) <|
   bif decide (40 < (((raw.getD v.toNat ([], (0, (0, (0, 0))))).1).length : Int)) then (
    (law04_awake).bind fun r2 =>
    some (.inr (.inr r2)))
   else (
    some (.inl (wi64 (v + 1)))))
  else (
   some (.inr (.inl ())))

noncomputable def law04_ProductAnswers_L1 (i : Int) (d : List Int) (d2 : Int) (a : List (List UInt8 × Int × Int × Int × Int)) (b : List (List UInt8 × Int × Int × Int × Int)) (many : List (List UInt8 × Int × Int × Int × Int)) : Option ((Int × List Int × Int × (List (List UInt8 × Int × Int × Int × Int)) × (List (List UInt8 × Int × Int × Int × Int)) × List (List UInt8 × Int × Int × Int × Int)) ⊕ (List Int × Int × (List (List UInt8 × Int × Int × Int × Int)) × (List (List UInt8 × Int × Int × Int × Int)) × List (List UInt8 × Int × Int × Int × Int))) :=
  (keep_Src_N 3 d d2).bind fun r7 =>
  bif decide (i < wi64 (15 + r7.1)) then (
   (keep_Src_Product i r7.2.1 r7.2.2).bind fun r8 =>
   gd (fits (many.length + 1) 48) <|
   some (.inl (wi64 (i + 1), r8.2.1, r8.2.2, a, b, many ++ [(r8.1.1, (r8.1.2.1, (r8.1.2.2.1, (r8.1.2.2.2.1, r8.1.2.2.2.2))))])))
  else (
   some (.inr (r7.2.1, r7.2.2, a, b, many)))

noncomputable def law04_ProductAnswers_L3 (raw : List (List UInt8 × Int × Int × Int × Int)) (s6 : List Int × Int × (List (List UInt8 × Int × Int × Int × Int)) × (List (List UInt8 × Int × Int × Int × Int)) × List (List UInt8 × Int × Int × Int × Int)) (v2 : Int) (v3 : Int) : Option (Int ⊕ (Unit ⊕ Bool)) :=
  bif decide (v3 < (([raw, s6.2.2.1, s6.2.2.2.1, s6.2.2.2.2].getD v2.toNat []).length : Int)) then (
   gd (inB v3 ([raw, s6.2.2.1, s6.2.2.2.1, s6.2.2.2.2].getD v2.toNat []).length) <|
   (product_Valid (([raw, s6.2.2.1, s6.2.2.2.1, s6.2.2.2.2].getD v2.toNat []).getD v3.toNat ([], (0, (0, (0, 0)))))).bind fun r17 =>
   gd (inB v3 ([raw, s6.2.2.1, s6.2.2.2.1, s6.2.2.2.2].getD v2.toNat []).length) <|
   (ref04_Valid (([raw, s6.2.2.1, s6.2.2.2.1, s6.2.2.2.2].getD v2.toNat []).getD v3.toNat ([], (0, (0, (0, 0)))))).bind fun r18 =>
   bif !(r17 == r18) then (
    some (.inr (.inr false)))
   else (
    some (.inl (wi64 (v3 + 1)))))
  else (
   some (.inr (.inl ())))

noncomputable def law04_ProductAnswers_L2 (raw : List (List UInt8 × Int × Int × Int × Int)) (name : List UInt8) (s6 : List Int × Int × (List (List UInt8 × Int × Int × Int × Int)) × (List (List UInt8 × Int × Int × Int × Int)) × List (List UInt8 × Int × Int × Int × Int)) (v2 : Int) : Option (Int ⊕ (Unit ⊕ Bool)) :=
  bif decide (v2 < ([raw, s6.2.2.1, s6.2.2.2.1, s6.2.2.2.2].length : Int)) then (
   gd (inB v2 [raw, s6.2.2.1, s6.2.2.2.1, s6.2.2.2.2].length) <|
   (product_Format ([raw, s6.2.2.1, s6.2.2.2.1, s6.2.2.2.2].getD v2.toNat [])).bind fun r9 =>
   (ref04_Format ([raw, s6.2.2.1, s6.2.2.2.1, s6.2.2.2.2].getD v2.toNat [])).bind fun r10 =>
   Option.bind (α := Bool) (
     (product_Check ([raw, s6.2.2.1, s6.2.2.2.1, s6.2.2.2.2].getD v2.toNat [])).bind fun r11 =>
     (ref04_Check ([raw, s6.2.2.1, s6.2.2.2.1, s6.2.2.2.2].getD v2.toNat [])).bind fun r12 =>
     bif !decide (r11 = r12) then (
      some true)
     else (
      bif !decide (r9.1 = r10.1) then (
       some true)
      else (
       bif !decide (r9.2 = r10.2) then (
        some true)
       else (
        (product_Find ([raw, s6.2.2.1, s6.2.2.2.1, s6.2.2.2.2].getD v2.toNat []) name).bind fun r13 =>
        (ref04_Find ([raw, s6.2.2.1, s6.2.2.2.1, s6.2.2.2.2].getD v2.toNat []) name).bind fun r14 =>
        bif !decide (r13 = r14) then (
         some true)
        else (
         (product_Find ([raw, s6.2.2.1, s6.2.2.2.1, s6.2.2.2.2].getD v2.toNat []) [112, 98]).bind fun r15 =>
         (ref04_Find ([raw, s6.2.2.1, s6.2.2.2.1, s6.2.2.2.2].getD v2.toNat []) [112, 98]).bind fun r16 =>
         some (!decide (r15 = r16))))))) fun s7 =>
   bif s7 then (
    some (.inr (.inr false)))
   else (
    (iter (fun x3 => law04_ProductAnswers_L3 raw s6 v2 x3) 0).bind fun s8 =>
    s8.elim (fun s9 =>
     some (.inl (wi64 (v2 + 1))))
    (fun s10 =>
     some (.inr (.inr s10)))))
  else (
   some (.inr (.inl ())))

noncomputable def law04_ProductAnswers_L4 (s : List UInt8) (r19 : List UInt8 × Int) (r20 : List UInt8 × Int) (r22 : List UInt8) (v4 : Int) : Option (Int ⊕ (Unit ⊕ Bool)) :=
  bif decide (v4 < ([s, r19.1, r19.1 ++ s, r19.1 ++ r19.1, (s ++ [10]) ++ r19.1, ((r19.1 ++ [112, 114, 111, 100, 117, 99, 116, 32, 120, 32]) ++ r22) ++ [32, 48, 32, 48, 32, 49], r19.1 ++ [112, 114, 111, 100, 117, 99, 116, 32, 120, 32, 52, 48, 48, 32, 48, 32, 48], r19.1 ++ [112, 114, 111, 100, 117, 107, 116, 32, 120, 32, 52, 48, 48, 32, 48, 32, 48, 32, 49, 10], r20.1 ++ [112, 114, 111, 100, 117, 99, 116, 32, 122, 32, 52, 48, 48, 32, 48, 32, 48, 32, 49, 10, 112, 114, 111, 100, 117, 99, 116, 32, 122, 122, 32, 52, 48, 48, 32, 48, 32, 48, 32, 49, 10], r19.1 ++ [112, 114, 111, 100, 117, 99, 116, 32, 120, 32, 52, 48, 48, 32, 97, 32, 48, 32, 49]].length : Int)) then (
   gd (inB v4 [s, r19.1, r19.1 ++ s, r19.1 ++ r19.1, (s ++ [10]) ++ r19.1, ((r19.1 ++ [112, 114, 111, 100, 117, 99, 116, 32, 120, 32]) ++ r22) ++ [32, 48, 32, 48, 32, 49], r19.1 ++ [112, 114, 111, 100, 117, 99, 116, 32, 120, 32, 52, 48, 48, 32, 48, 32, 48], r19.1 ++ [112, 114, 111, 100, 117, 107, 116, 32, 120, 32, 52, 48, 48, 32, 48, 32, 48, 32, 49, 10], r20.1 ++ [112, 114, 111, 100, 117, 99, 116, 32, 122, 32, 52, 48, 48, 32, 48, 32, 48, 32, 49, 10, 112, 114, 111, 100, 117, 99, 116, 32, 122, 122, 32, 52, 48, 48, 32, 48, 32, 48, 32, 49, 10], r19.1 ++ [112, 114, 111, 100, 117, 99, 116, 32, 120, 32, 52, 48, 48, 32, 97, 32, 48, 32, 49]].length) <|
   (product_Parse ([s, r19.1, r19.1 ++ s, r19.1 ++ r19.1, (s ++ [10]) ++ r19.1, ((r19.1 ++ [112, 114, 111, 100, 117, 99, 116, 32, 120, 32]) ++ r22) ++ [32, 48, 32, 48, 32, 49], r19.1 ++ [112, 114, 111, 100, 117, 99, 116, 32, 120, 32, 52, 48, 48, 32, 48, 32, 48], r19.1 ++ [112, 114, 111, 100, 117, 107, 116, 32, 120, 32, 52, 48, 48, 32, 48, 32, 48, 32, 49, 10], r20.1 ++ [112, 114, 111, 100, 117, 99, 116, 32, 122, 32, 52, 48, 48, 32, 48, 32, 48, 32, 49, 10, 112, 114, 111, 100, 117, 99, 116, 32, 122, 122, 32, 52, 48, 48, 32, 48, 32, 48, 32, 49, 10], r19.1 ++ [112, 114, 111, 100, 117, 99, 116, 32, 120, 32, 52, 48, 48, 32, 97, 32, 48, 32, 49]].getD v4.toNat [])).bind fun r23 =>
   (ref04_Parse ([s, r19.1, r19.1 ++ s, r19.1 ++ r19.1, (s ++ [10]) ++ r19.1, ((r19.1 ++ [112, 114, 111, 100, 117, 99, 116, 32, 120, 32]) ++ r22) ++ [32, 48, 32, 48, 32, 49], r19.1 ++ [112, 114, 111, 100, 117, 99, 116, 32, 120, 32, 52, 48, 48, 32, 48, 32, 48], r19.1 ++ [112, 114, 111, 100, 117, 107, 116, 32, 120, 32, 52, 48, 48, 32, 48, 32, 48, 32, 49, 10], r20.1 ++ [112, 114, 111, 100, 117, 99, 116, 32, 122, 32, 52, 48, 48, 32, 48, 32, 48, 32, 49, 10, 112, 114, 111, 100, 117, 99, 116, 32, 122, 122, 32, 52, 48, 48, 32, 48, 32, 48, 32, 49, 10], r19.1 ++ [112, 114, 111, 100, 117, 99, 116, 32, 120, 32, 52, 48, 48, 32, 97, 32, 48, 32, 49]].getD v4.toNat [])).bind fun r24 =>
   Option.bind (α := Bool) (
     (ref04_Same r23.1 r24.1).bind fun r25 =>
     bif !r25 then (
      some true)
     else (
      bif !decide (r23.2.1 = r24.2.1) then (
       some true)
      else (
       some (!decide (r23.2.2 = r24.2.2))))) fun s14 =>
   bif s14 then (
    some (.inr (.inr false)))
   else (
    some (.inl (wi64 (v4 + 1)))))
  else (
   some (.inr (.inl ())))

noncomputable def law04_ProductAnswers (raw : List (List UInt8 × Int × Int × Int × Int)) (name : List UInt8) (s : List UInt8) (l : List Int) : Option (Bool) :=
  Option.bind (α := Bool) (
    bif decide (40 < (raw.length : Int)) then (
     some true)
    else (
     bif decide (40 < (name.length : Int)) then (
      some true)
     else (
      some (decide (1000 < (s.length : Int)))))) fun s2 =>
  bif s2 then (
   (law04_awake).bind fun r =>
   some r)
  else (
   (iter (fun x => law04_ProductAnswers_L0 raw x) 0).bind fun s3 =>
   s3.elim (fun s4 =>
    (keep_New l).bind fun r3 =>
    (keep_Src_Products r3.1 r3.2).bind fun r4 =>
    gd (fits (0 + r4.2.2.length) 48) <|
    (keep_Src_N (([] ++ r4.2.2).length : Int) r4.1 r4.2.1).bind fun r5 =>
    gd (inB 0 ([] ++ r4.2.2).length) <|
    (keep_Src_Odd (([] ++ r4.2.2).getD 0 ([], (0, (0, (0, 0))))) r5.2.1 r5.2.2).bind fun r6 =>
    gd (inB r5.1 ([] ++ r4.2.2).length) <|
    (iter (fun x2 => law04_ProductAnswers_L1 x2.1 x2.2.1 x2.2.2.1 x2.2.2.2.1 x2.2.2.2.2.1 x2.2.2.2.2.2) (0, r6.2.1, r6.2.2, r4.2.2, ([] ++ r4.2.2).set r5.1.toNat r6.1, [])).bind fun s6 =>
    (iter (fun x4 => law04_ProductAnswers_L2 raw name s6 x4) 0).bind fun s11 =>
    s11.elim (fun s12 =>
     (ref04_Format s6.2.2.1).bind fun r19 =>
     gd (cutG none (some (.i64, 15)) s6.2.2.2.2.length) <|
     (ref04_Format (s6.2.2.2.2.take 15)).bind fun r20 =>
     gd (Nat.ble (r19.1.length + s.length) 9223372036854775807) <|
     gd (Nat.ble (r19.1.length + r19.1.length) 9223372036854775807) <|
     gd (Nat.ble (s.length + [10].length) 9223372036854775807) <|
     gd (Nat.ble ((s ++ [10]).length + r19.1.length) 9223372036854775807) <|
     gd (Nat.ble (r19.1.length + [112, 114, 111, 100, 117, 99, 116, 32, 120, 32].length) 9223372036854775807) <|
     (keep_Src_Range 398 402 s6.1 s6.2.1).bind fun r21 =>
     (ref03_Text r21.1).bind fun r22 =>
     gd (Nat.ble ((r19.1 ++ [112, 114, 111, 100, 117, 99, 116, 32, 120, 32]).length + r22.length) 9223372036854775807) <|
     gd (Nat.ble (((r19.1 ++ [112, 114, 111, 100, 117, 99, 116, 32, 120, 32]) ++ r22).length + [32, 48, 32, 48, 32, 49].length) 9223372036854775807) <|
     gd (Nat.ble (r19.1.length + [112, 114, 111, 100, 117, 99, 116, 32, 120, 32, 52, 48, 48, 32, 48, 32, 48].length) 9223372036854775807) <|
     gd (Nat.ble (r19.1.length + [112, 114, 111, 100, 117, 107, 116, 32, 120, 32, 52, 48, 48, 32, 48, 32, 48, 32, 49, 10].length) 9223372036854775807) <|
     gd (Nat.ble (r20.1.length + [112, 114, 111, 100, 117, 99, 116, 32, 122, 32, 52, 48, 48, 32, 48, 32, 48, 32, 49, 10, 112, 114, 111, 100, 117, 99, 116, 32, 122, 122, 32, 52, 48, 48, 32, 48, 32, 48, 32, 49, 10].length) 9223372036854775807) <|
     gd (Nat.ble (r19.1.length + [112, 114, 111, 100, 117, 99, 116, 32, 120, 32, 52, 48, 48, 32, 97, 32, 48, 32, 49].length) 9223372036854775807) <|
     (iter (fun x5 => law04_ProductAnswers_L4 s r19 r20 r22 x5) 0).bind fun s15 =>
     s15.elim (fun s16 =>
      (law04_awake).bind fun r26 =>
      some r26)
     (fun s17 =>
      some s17))
    (fun s13 =>
     some s13))
   (fun s5 =>
    some s5))

noncomputable def fn_law04_ProductAnswers : Fun :=
  { f := 3, np := 4, nr := 1,
    ji := { regs := [(0, .one (.data (.sl (.pair (.str) (.pair (.int .i64) (.pair (.int .i64) (.pair (.int .i64) (.int .i64)))))))), (1, .one (.data (.str))), (2, .one (.data (.str))), (3, .one (.data (.sl (.int .i64))))], vars := [], arrs := [] },
    jo := { regs := [(0, .one (.data (.bool)))], vars := [], arrs := [] },
    tw := fun x => law04_ProductAnswers x.1 x.2.1 x.2.2.1 x.2.2.2 }
noncomputable def cx_law04_ProductAnswers : Cx := { Γ := types, ow := [66], fs := [fn_law04_awake, fn_keep_New, fn_keep_Src_Products, fn_keep_Src_N, fn_keep_Src_Odd, fn_keep_Src_Product, fn_product_Format, fn_ref04_Format, fn_product_Check, fn_ref04_Check, fn_product_Find, fn_ref04_Find, fn_product_Valid, fn_ref04_Valid, fn_keep_Src_Range, fn_ref03_Text, fn_product_Parse, fn_ref04_Parse, fn_ref04_Same], N := 234 }
theorem ok_law04_ProductAnswers : FunOk Tryz.prog fn_law04_ProductAnswers :=
  FunOk.intro (C := cx_law04_ProductAnswers) (p := (.mk [] none .nil (.mk [] none (.mk [] none (.mk [.join [{ e := .n, j := { regs := [(0, .one .keep), (1, .one .keep), (2, .one .keep), (3, .one .keep), (46, .one (.data (.bool)))], vars := [], arrs := [] } }]] none .nil .nil) .nil) (.mk [] none (.mk [] none .nil (.mk [] none (.mk [] (some ({ regs := [(0, .one .keep), (1, .one .keep), (2, .one .keep), (3, .one .keep), (49, .one .keep), (50, .one (.data (.int .i64)))], vars := [], arrs := [] }, [{ e := .x 0, j := { regs := [(0, .one .keep), (1, .one .keep), (2, .one .keep), (3, .one .keep)], vars := [], arrs := [] } }, { e := .r, j := { regs := [(8, .one (.data (.bool)))], vars := [], arrs := [] } }])) .nil .nil) .nil)) (.mk [] none .nil (.mk [] none .nil (.mk [] none .nil (.mk [] none .nil (.mk [] none .nil (.mk [] none (.mk [] none .nil (.mk [] none (.mk [] (some ({ regs := [(0, .one .keep), (1, .one .keep), (2, .one .keep), (10, .one (.ptr 1024 0)), (11, .one (.own 1056)), (12, .one (.own 1104)), (13, .one (.own 235)), (14, .one (.data (.int .i64)))], vars := [(1024, 48, [.data (.sl (.int .i64)), .data (.int .i64)])], arrs := [(1056, .arr 26 (.pair (.str) (.pair (.int .i64) (.pair (.int .i64) (.pair (.int .i64) (.int .i64)))))), (1104, .arr 26 (.pair (.str) (.pair (.int .i64) (.pair (.int .i64) (.pair (.int .i64) (.int .i64)))))), (235, .arr 26 (.pair (.str) (.pair (.int .i64) (.pair (.int .i64) (.pair (.int .i64) (.int .i64))))))] }, [{ e := .x 2, j := { regs := [(0, .one .keep), (1, .one .keep), (2, .one .keep), (10, .one (.ptr 1024 0)), (11, .one (.own 1056)), (12, .one (.own 1104)), (13, .one (.own 235))], vars := [(1024, 48, [.data (.sl (.int .i64)), .data (.int .i64)])], arrs := [(1056, .arr 26 (.pair (.str) (.pair (.int .i64) (.pair (.int .i64) (.pair (.int .i64) (.int .i64)))))), (1104, .arr 26 (.pair (.str) (.pair (.int .i64) (.pair (.int .i64) (.pair (.int .i64) (.int .i64)))))), (235, .arr 26 (.pair (.str) (.pair (.int .i64) (.pair (.int .i64) (.pair (.int .i64) (.int .i64))))))] } }])) .nil .nil) .nil)) (.mk [] none (.mk [] none (.mk [.fz [11, 12, 13]] none .nil .nil) (.mk [] none (.mk [] (some ({ regs := [(1, .one .keep), (2, .one .keep), (10, .one (.ptr 1024 0)), (11, .one .keep), (13, .one .keep), (97, .one .keep), (98, .one .keep), (99, .one (.data (.int .i64)))], vars := [(1024, 48, [.keep, .keep])], arrs := [] }, [{ e := .x 4, j := { regs := [(2, .one .keep), (10, .one (.ptr 1024 0)), (11, .one .keep), (13, .one .keep)], vars := [(1024, 48, [.keep, .keep])], arrs := [] } }, { e := .r, j := { regs := [(8, .one (.data (.bool)))], vars := [], arrs := [] } }])) (.mk [] none .nil (.mk [] none .nil (.mk [] none (.mk [] none (.mk [] none .nil (.mk [] none .nil (.mk [] none .nil (.mk [] none (.mk [] none (.mk [.join [{ e := .n, j := { regs := [(1, .one .keep), (2, .one .keep), (10, .one (.ptr 1024 0)), (11, .one .keep), (13, .one .keep), (16, .one .keep), (97, .one .keep), (98, .one .keep), (99, .one .keep), (143, .one (.data (.bool)))], vars := [(1024, 48, [.keep, .keep])], arrs := [] } }]] none .nil .nil) .nil) (.mk [] none .nil (.mk [] none (.mk [] (some ({ regs := [(1, .one .keep), (2, .one .keep), (10, .one (.ptr 1024 0)), (11, .one .keep), (13, .one .keep), (16, .one .keep), (97, .one .keep), (98, .one .keep), (99, .one .keep), (145, .one .keep), (146, .one (.data (.int .i64)))], vars := [(1024, 48, [.keep, .keep])], arrs := [] }, [{ e := .x 6, j := { regs := [(1, .one .keep), (2, .one .keep), (10, .one (.ptr 1024 0)), (11, .one .keep), (13, .one .keep), (97, .one .keep), (98, .one .keep), (99, .one .keep)], vars := [(1024, 48, [.keep, .keep])], arrs := [] } }, { e := .r, j := { regs := [(8, .one (.data (.bool)))], vars := [], arrs := [] } }])) .nil .nil) .nil)))))) .nil) .nil))) .nil) .nil)) (.mk [] none .nil (.mk [] none .nil (.mk [] none (.mk [] none .nil (.mk [] none (.mk [] (some ({ regs := [(200, .one .keep), (201, .one .keep), (202, .one (.data (.int .i64)))], vars := [], arrs := [] }, [{ e := .x 8, j := { regs := [], vars := [], arrs := [] } }, { e := .r, j := { regs := [(8, .one (.data (.bool)))], vars := [], arrs := [] } }])) (.mk [] none .nil (.mk [] none .nil (.mk [] none (.mk [] none (.mk [] none .nil (.mk [] none .nil (.mk [] none .nil (.mk [] none (.mk [.join [{ e := .n, j := { regs := [(200, .one .keep), (201, .one .keep), (202, .one .keep), (231, .one (.data (.bool)))], vars := [], arrs := [] } }]] none .nil .nil) .nil)))) .nil) .nil))) .nil) .nil)) .nil))))))))))))))
    Tryz.func3 rfl nmr3 rfl rfl rfl rfl types_ok ⟨⟨ok_law04_awake, ok_keep_New, ok_keep_Src_Products, ok_keep_Src_N, ok_keep_Src_Odd, ok_keep_Src_Product, ok_product_Format, ok_ref04_Format, ok_product_Check, ok_ref04_Check, ok_product_Find, ok_ref04_Find, ok_product_Valid, ok_ref04_Valid, ok_keep_Src_Range, ok_ref03_Text, ok_product_Parse, ok_ref04_Parse, ok_ref04_Same, trivial⟩, trivial⟩ mx (fun x => by kernel_rfl)


end Go.Proofs.YtihbfecdccamoaaGreatDoor
