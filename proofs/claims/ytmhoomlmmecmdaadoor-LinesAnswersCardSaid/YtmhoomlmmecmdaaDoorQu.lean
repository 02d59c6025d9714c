/- Functions, evaluated. No condition. -/
import Derived.Test.YtmhoomlmmecmdaaDoorProg
import Derived.Test.YtmhoomlmmecmdaaDoorSqLB
import Derived.Test.YtmhoomlmmecmdaaDoorLx
import Derived.Test.YtmhoomlmmecmdaaDoorLc
namespace Go.Proofs.YtmhoomlmmecmdaaDoor
open Go Go.Sq
def ti3 : TI := { t := 3, desc := .int .i64, size := 1, bytes := 8, zero := .int .i64 0, τ := .int .i64, eq := false }
theorem tk3 : ti3.ok Tryd.prog := ⟨Tryd.underlying3, by kernel_rfl, fun h => by cases h⟩
def ti4 : TI := { t := 4, desc := .bool, size := 1, bytes := 1, zero := .bool false, τ := .bool, eq := false }
theorem tk4 : ti4.ok Tryd.prog := ⟨Tryd.underlying4, by kernel_rfl, fun h => by cases h⟩
def ti5 : TI := { t := 5, desc := .int .u8, size := 1, bytes := 1, zero := .int .u8 0, τ := .int .u8, eq := false }
theorem tk5 : ti5.ok Tryd.prog := ⟨Tryd.underlying5, by kernel_rfl, fun h => by cases h⟩
def ti9 : TI := { t := 9, desc := .string, size := 1, bytes := 16, zero := .string ⟨#[]⟩, τ := .str, eq := false }
theorem tk9 : ti9.ok Tryd.prog := ⟨Tryd.underlying9, by kernel_rfl, fun h => by cases h⟩
def ti28 : TI := { t := 28, desc := .slice 30, size := 1, bytes := 24, zero := .slice none 0 0, τ := .sl (.sl (.str)), eq := false }
theorem tk28 : ti28.ok Tryd.prog := ⟨Tryd.underlying28, by kernel_rfl, fun h => by cases h⟩
def ti29 : TI := { t := 29, desc := .slice 3, size := 1, bytes := 24, zero := .slice none 0 0, τ := .sl (.int .i64), eq := false }
theorem tk29 : ti29.ok Tryd.prog := ⟨Tryd.underlying29, by kernel_rfl, fun h => by cases h⟩
def ti30 : TI := { t := 30, desc := .slice 9, size := 1, bytes := 24, zero := .slice none 0 0, τ := .sl (.str), eq := false }
theorem tk30 : ti30.ok Tryd.prog := ⟨Tryd.underlying30, by kernel_rfl, fun h => by cases h⟩
def ti39 : TI := { t := 39, desc := .slice 28, size := 1, bytes := 24, zero := .slice none 0 0, τ := .sl (.sl (.sl (.str))), eq := false }
theorem tk39 : ti39.ok Tryd.prog := ⟨Tryd.underlying39, by kernel_rfl, fun h => by cases h⟩
def ti49 : TI := { t := 49, desc := .interface #[("Error", 68)], size := 1, bytes := 16, zero := .nilIface, τ := .err, eq := false }
theorem tk49 : ti49.ok Tryd.prog := ⟨Tryd.underlying49, by kernel_rfl, fun h => by cases h⟩
def ti52 : TI := { t := 52, desc := .slice 5, size := 1, bytes := 24, zero := .slice none 0 0, τ := .sl (.int .u8), eq := false }
theorem tk52 : ti52.ok Tryd.prog := ⟨Tryd.underlying52, by kernel_rfl, fun h => by cases h⟩
def ti54 : TI := { t := 54, desc := .struct #[{ name := "L", type := 29, offset := 0, embedded := false, tag := "", pkgPath := "", byteOffset := 0 }, { name := "At", type := 3, offset := 1, embedded := false, tag := "", pkgPath := "", byteOffset := 24 }], size := 2, bytes := 32, zero := .agg #[.slice none 0 0, .int .i64 0], τ := .pair (.sl (.int .i64)) (.int .i64), eq := true }
theorem tk54 : ti54.ok Tryd.prog := ⟨Tryd.underlying54, by kernel_rfl, fun _ => ⟨Tryd.eqGuardType54, Tryd.stoodInHeld54⟩⟩
def ti64 : TI := { t := 64, desc := .pointer 66, size := 1, bytes := 8, zero := .pointer none, τ := .unit, eq := false }
theorem tk64 : ti64.ok Tryd.prog := ⟨Tryd.underlying64, by kernel_rfl, fun h => by cases h⟩
def ti66 : TI := { t := 66, desc := .struct #[{ name := "addr", type := 64, offset := 0, embedded := false, tag := "", pkgPath := "strings", byteOffset := 0 }, { name := "buf", type := 52, offset := 1, embedded := false, tag := "", pkgPath := "strings", byteOffset := 8 }], size := 2, bytes := 32, zero := .agg #[.pointer none, .slice none 0 0], τ := .unit, eq := true }
theorem tk66 : ti66.ok Tryd.prog := ⟨Tryd.underlying66, by kernel_rfl, fun _ => ⟨Tryd.eqGuardType66, Tryd.stoodInHeld66⟩⟩
def ti75 : TI := { t := 75, desc := .pointer 5, size := 1, bytes := 8, zero := .pointer none, τ := .unit, eq := false }
theorem tk75 : ti75.ok Tryd.prog := ⟨Tryd.underlying75, by kernel_rfl, fun h => by cases h⟩
def types : List TI := [ti3, ti4, ti5, ti9, ti28, ti29, ti30, ti39, ti49, ti52, ti54, ti64, ti66, ti75]
theorem types_ok : Tys Tryd.prog types := ⟨tk3, tk4, tk5, tk9, tk28, tk29, tk30, tk39, tk49, tk52, tk54, tk64, tk66, tk75, trivial⟩
def xt45 : Ext := extCnt 45
theorem xk45 : ExtOk Tryd.prog xt45 := extCnt_ok Tryd.func45 (by kernel_rfl) (by kernel_rfl) (by kernel_rfl) (by kernel_rfl)
def xt76 : Ext := extIdx 76
theorem xk76 : ExtOk Tryd.prog xt76 := extIdx_ok Tryd.func76 (by kernel_rfl) (by kernel_rfl) (by kernel_rfl) (by kernel_rfl)
theorem mx : Tryd.prog.follows .mixedOrders = true := by kernel_rfl
theorem nmr9 : (Tryd.f9.name == "runtime.NumGoroutine") = false := by kernel_rfl
theorem nmr53 : (Tryd.f53.name == "runtime.NumGoroutine") = false := by kernel_rfl
theorem nmr41 : (Tryd.f41.name == "runtime.NumGoroutine") = false := by kernel_rfl
theorem nmr23 : (Tryd.f23.name == "runtime.NumGoroutine") = false := by kernel_rfl
theorem nmr24 : (Tryd.f24.name == "runtime.NumGoroutine") = false := by kernel_rfl
theorem nmr8 : (Tryd.f8.name == "runtime.NumGoroutine") = false := by kernel_rfl
theorem nmr67 : (Tryd.f67.name == "runtime.NumGoroutine") = false := by kernel_rfl
theorem nmr59 : (Tryd.f59.name == "runtime.NumGoroutine") = false := by kernel_rfl
theorem nmr46 : (Tryd.f46.name == "runtime.NumGoroutine") = false := by kernel_rfl
theorem nmr29 : (Tryd.f29.name == "runtime.NumGoroutine") = false := by kernel_rfl
theorem nmr47 : (Tryd.f47.name == "runtime.NumGoroutine") = false := by kernel_rfl
theorem nmr30 : (Tryd.f30.name == "runtime.NumGoroutine") = false := by kernel_rfl
theorem nmr48 : (Tryd.f48.name == "runtime.NumGoroutine") = false := by kernel_rfl
theorem nmr31 : (Tryd.f31.name == "runtime.NumGoroutine") = false := by kernel_rfl
theorem nmr49 : (Tryd.f49.name == "runtime.NumGoroutine") = false := by kernel_rfl
theorem nmr32 : (Tryd.f32.name == "runtime.NumGoroutine") = false := by kernel_rfl
theorem nmr50 : (Tryd.f50.name == "runtime.NumGoroutine") = false := by kernel_rfl
theorem nmr33 : (Tryd.f33.name == "runtime.NumGoroutine") = false := by kernel_rfl
theorem nmr14 : (Tryd.f14.name == "runtime.NumGoroutine") = false := by kernel_rfl
theorem nmr16 : (Tryd.f16.name == "runtime.NumGoroutine") = false := by kernel_rfl
theorem nmr40 : (Tryd.f40.name == "runtime.NumGoroutine") = false := by kernel_rfl
theorem nmr20 : (Tryd.f20.name == "runtime.NumGoroutine") = false := by kernel_rfl
theorem nmr10 : (Tryd.f10.name == "runtime.NumGoroutine") = false := by kernel_rfl
theorem nmr3 : (Tryd.f3.name == "runtime.NumGoroutine") = false := by kernel_rfl
theorem nmr11 : (Tryd.f11.name == "runtime.NumGoroutine") = false := by kernel_rfl
theorem nmr18 : (Tryd.f18.name == "runtime.NumGoroutine") = false := by kernel_rfl
theorem nmr22 : (Tryd.f22.name == "runtime.NumGoroutine") = false := by kernel_rfl
theorem nmr25 : (Tryd.f25.name == "runtime.NumGoroutine") = false := by kernel_rfl
theorem nmr26 : (Tryd.f26.name == "runtime.NumGoroutine") = false := by kernel_rfl
theorem nmr12 : (Tryd.f12.name == "runtime.NumGoroutine") = false := by kernel_rfl
theorem nmr27 : (Tryd.f27.name == "runtime.NumGoroutine") = false := by kernel_rfl
theorem nmr28 : (Tryd.f28.name == "runtime.NumGoroutine") = false := by kernel_rfl
theorem nmr13 : (Tryd.f13.name == "runtime.NumGoroutine") = false := by kernel_rfl
theorem nmr34 : (Tryd.f34.name == "runtime.NumGoroutine") = false := by kernel_rfl
theorem nmr35 : (Tryd.f35.name == "runtime.NumGoroutine") = false := by kernel_rfl
theorem nmr15 : (Tryd.f15.name == "runtime.NumGoroutine") = false := by kernel_rfl
theorem nmr37 : (Tryd.f37.name == "runtime.NumGoroutine") = false := by kernel_rfl
theorem nmr51 : (Tryd.f51.name == "runtime.NumGoroutine") = false := by kernel_rfl
theorem nmr36 : (Tryd.f36.name == "runtime.NumGoroutine") = false := by kernel_rfl
theorem nmr38 : (Tryd.f38.name == "runtime.NumGoroutine") = false := by kernel_rfl
theorem nmr39 : (Tryd.f39.name == "runtime.NumGoroutine") = false := by kernel_rfl
theorem nmr17 : (Tryd.f17.name == "runtime.NumGoroutine") = false := by kernel_rfl
theorem nmr19 : (Tryd.f19.name == "runtime.NumGoroutine") = false := by kernel_rfl
theorem nmr21 : (Tryd.f21.name == "runtime.NumGoroutine") = false := by kernel_rfl
theorem nmr4 : (Tryd.f4.name == "runtime.NumGoroutine") = false := by kernel_rfl
theorem nmr5 : (Tryd.f5.name == "runtime.NumGoroutine") = false := by kernel_rfl
theorem nmr6 : (Tryd.f6.name == "runtime.NumGoroutine") = false := by kernel_rfl
theorem nmr7 : (Tryd.f7.name == "runtime.NumGoroutine") = false := by kernel_rfl

noncomputable def ref03_Text_L0 (s : Int × List UInt8) (n2 : Int) (s2 : List UInt8) : Option ((Int × List UInt8) ⊕ (List UInt8)) :=
  gd (Nat.ble ((toBytes [wu8 (wi64 (48 + (Int.tmod n2 10)))]).length + s2.length) 9223372036854775807) <|
  bif decide (wi64 (Int.tdiv n2 10) ≤ 0) then (
   gd (Nat.ble (s.2.length + ((toBytes [wu8 (wi64 (48 + (Int.tmod n2 10)))]) ++ s2).length) 9223372036854775807) <|
   some (.inr (s.2 ++ ((toBytes [wu8 (wi64 (48 + (Int.tmod n2 10)))]) ++ s2))))
  else (
   some (.inl (wi64 (Int.tdiv n2 10), (toBytes [wu8 (wi64 (48 + (Int.tmod n2 10)))]) ++ s2)))

noncomputable def ref03_Text (n : Int) : Option (List UInt8) :=
  Option.bind (α := Int × List UInt8) (
    bif decide (n < 0) then (
     some (wi64 (0 - n), [45]))
    else (
     some (n, []))) fun s =>
  (iter (fun x => ref03_Text_L0 s x.1 x.2) (s.1, [])).bind fun s3 =>
  some s3

noncomputable def fn_ref03_Text : Fun :=
  { f := 9, np := 1, nr := 1,
    ji := { regs := [(0, .one (.data (.int .i64)))], vars := [], arrs := [] },
    jo := { regs := [(0, .one (.data (.str)))], vars := [], arrs := [] },
    tw := fun x => ref03_Text x }
noncomputable def cx_ref03_Text : Cx := { Γ := types, ow := [], fs := [], N := 24 }
theorem ok_ref03_Text : FunOk Tryd.prog fn_ref03_Text :=
  FunOk.intro (C := cx_ref03_Text) (p := (.mk [] none .nil (.mk [] none .nil (.mk [] none (.mk [] none .nil (.mk [.join [{ e := .n, j := { regs := [(0, .one (.data (.int .i64))), (3, .one (.data (.str))), (4, .one .keep)], vars := [], arrs := [] } }]] none .nil .nil)) (.mk [] none (.mk [] (some ({ regs := [(0, .one (.data (.int .i64))), (3, .one .keep), (4, .one (.data (.str)))], vars := [], arrs := [] }, [{ e := .r, j := { regs := [(2, .one (.data (.str)))], vars := [], arrs := [] } }])) .nil .nil) .nil)))))
    Tryd.func9 rfl nmr9 rfl rfl rfl rfl types_ok ⟨trivial, trivial⟩ mx (fun x => by kernel_rfl)

noncomputable def internal_stringslite_HasPrefix (s : List UInt8) (vprefix : List UInt8) : Option (Bool) :=
  bif decide ((vprefix.length : Int) ≤ (s.length : Int)) then (
   gd (cutG none (some (.i64, (vprefix.length : Int))) s.length) <|
   some (decide (s.take (vprefix.length : Int).toNat = vprefix)))
  else (
   some false)

noncomputable def fn_internal_stringslite_HasPrefix : Fun :=
  { f := 53, np := 2, nr := 1,
    ji := { regs := [(0, .one (.data (.str))), (1, .one (.data (.str)))], vars := [], arrs := [] },
    jo := { regs := [(0, .one (.data (.bool)))], vars := [], arrs := [] },
    tw := fun x => internal_stringslite_HasPrefix x.1 x.2 }
noncomputable def cx_internal_stringslite_HasPrefix : Cx := { Γ := types, ow := [], fs := [], N := 18 }
theorem ok_internal_stringslite_HasPrefix : FunOk Tryd.prog fn_internal_stringslite_HasPrefix :=
  FunOk.intro (C := cx_internal_stringslite_HasPrefix) (p := .nil)
    Tryd.func53 rfl nmr53 rfl rfl rfl rfl types_ok ⟨trivial, trivial⟩ mx (fun x => by kernel_rfl)

noncomputable def internal_stringslite_TrimPrefix (s : List UInt8) (vprefix : List UInt8) : Option (List UInt8) :=
  (internal_stringslite_HasPrefix s vprefix).bind fun r =>
  bif r then (
   gd (cutG (some (.i64, (vprefix.length : Int))) none s.length) <|
   some (s.drop (vprefix.length : Int).toNat))
  else (
   some s)

noncomputable def fn_internal_stringslite_TrimPrefix : Fun :=
  { f := 41, np := 2, nr := 1,
    ji := { regs := [(0, .one (.data (.str))), (1, .one (.data (.str)))], vars := [], arrs := [] },
    jo := { regs := [(0, .one (.data (.str)))], vars := [], arrs := [] },
    tw := fun x => internal_stringslite_TrimPrefix x.1 x.2 }
noncomputable def cx_internal_stringslite_TrimPrefix : Cx := { Γ := types, ow := [], fs := [fn_internal_stringslite_HasPrefix], N := 13 }
theorem ok_internal_stringslite_TrimPrefix : FunOk Tryd.prog fn_internal_stringslite_TrimPrefix :=
  FunOk.intro (C := cx_internal_stringslite_TrimPrefix) (p := .nil)
    Tryd.func41 rfl nmr41 rfl rfl rfl rfl types_ok ⟨⟨ok_internal_stringslite_HasPrefix, trivial⟩, trivial⟩ mx (fun x => by kernel_rfl)

noncomputable def strings_TrimPrefix (s : List UInt8) (vprefix : List UInt8) : Option (List UInt8) :=
  (internal_stringslite_TrimPrefix s vprefix).bind fun r =>
  some r

noncomputable def fn_strings_TrimPrefix : Fun :=
  { f := 23, np := 2, nr := 1,
    ji := { regs := [(0, .one (.data (.str))), (1, .one (.data (.str)))], vars := [], arrs := [] },
    jo := { regs := [(0, .one (.data (.str)))], vars := [], arrs := [] },
    tw := fun x => strings_TrimPrefix x.1 x.2 }
noncomputable def cx_strings_TrimPrefix : Cx := { Γ := types, ow := [], fs := [fn_internal_stringslite_TrimPrefix], N := 8 }
theorem ok_strings_TrimPrefix : FunOk Tryd.prog fn_strings_TrimPrefix :=
  FunOk.intro (C := cx_strings_TrimPrefix) (p := .nil)
    Tryd.func23 rfl nmr23 rfl rfl rfl rfl types_ok ⟨⟨ok_internal_stringslite_TrimPrefix, trivial⟩, trivial⟩ mx (fun x => by kernel_rfl)

noncomputable def fn_strconv_Atoi : Fun := funAtoi 24
theorem ok_strconv_Atoi : FunOk Tryd.prog fn_strconv_Atoi := atoi_ok ⟨_, Tryd.func24, nmr24, rfl⟩ Tryd.strconv_Atoi_ok Tryd.strconv_Atoi_syn Tryd.strconv_Atoi_range (by unfold globs; exact .head _) (by unfold globs; exact .tail _ (.head _))

noncomputable def lines_Number_L0 (r : List UInt8) (v : Int) : Option (Int ⊕ (Unit ⊕ (Int × Int))) :=
  bif decide (v < (r.length : Int)) then (
   Option.bind (α := Bool) (
     gd (inB v r.length) <|
     bif decide ((Int.ofNat (r.getD v.toNat 0).toNat) < 48) then (
      some true)
     else (
      gd (inB v r.length) <|
      some (decide (57 < (Int.ofNat (r.getD v.toNat 0).toNat))))) fun s3 =>
   bif s3 then (
    some (.inr (.inr (0, 3))))
   else (
    some (.inl (wi64 (v + 1)))))
  else (
   some (.inr (.inl ())))

noncomputable def lines_Number (s : List UInt8) : Option (Int × Int) :=
  (strings_TrimPrefix s [45]).bind fun r =>
  Option.bind (α := Bool) (
    bif decide (r = []) then (
     some true)
    else (
     gd (inB 0 r.length) <|
     bif decide ((Int.ofNat (r.getD 0 0).toNat) = 48) then (
      some (!decide (s = [48])))
     else (
      some false))) fun s2 =>
  bif s2 then (
   some (0, 3))
  else (
   (iter (fun x => lines_Number_L0 r x) 0).bind fun s4 =>
   s4.elim (fun s5 =>
    (atoiT s).bind fun r2 =>
    Option.bind (α := Bool) (
      bif r2.2 then (
       some true)
      else (
       bif decide (r2.1 < (-9007199254740992)) then (
        some true)
       else (
        some (decide (9007199254740992 < r2.1))))) fun s7 =>
    bif s7 then (
     some (0, 1))
    else (
     some (r2.1, 0)))
   (fun s6 =>
    some (s6.1, s6.2)))

noncomputable def fn_lines_Number : Fun :=
  { f := 8, np := 1, nr := 2,
    ji := { regs := [(0, .one (.data (.str)))], vars := [], arrs := [] },
    jo := { regs := [(0, .one (.data (.int .i64))), (1, .one (.data (.int .i64)))], vars := [], arrs := [] },
    tw := fun x => lines_Number x }
noncomputable def cx_lines_Number : Cx := { Γ := types, ow := [], fs := [fn_strings_TrimPrefix, fn_strconv_Atoi], N := 53 }
theorem ok_lines_Number : FunOk Tryd.prog fn_lines_Number :=
  FunOk.intro (C := cx_lines_Number) (p := (.mk [] none .nil (.mk [] none .nil (.mk [] none (.mk [] none (.mk [.join [{ e := .n, j := { regs := [(0, .one .keep), (4, .one .keep), (20, .one (.data (.bool)))], vars := [], arrs := [] } }]] none .nil .nil) .nil) (.mk [] none (.mk [] none .nil (.mk [] none (.mk [] (some ({ regs := [(0, .one .keep), (4, .one .keep), (22, .one .keep), (23, .one (.data (.int .i64)))], vars := [], arrs := [] }, [{ e := .x 0, j := { regs := [(0, .one .keep)], vars := [], arrs := [] } }, { e := .r, j := { regs := [(2, .one (.data (.int .i64))), (3, .one (.data (.int .i64)))], vars := [], arrs := [] } }])) (.mk [] none .nil (.mk [] none .nil (.mk [] none (.mk [] none (.mk [] none .nil (.mk [] none (.mk [.join [{ e := .n, j := { regs := [(0, .one .keep), (4, .one .keep), (22, .one .keep), (23, .one .keep), (35, .one (.data (.bool)))], vars := [], arrs := [] } }]] none .nil .nil) .nil)) .nil) .nil))) .nil) .nil)) (.mk [] none .nil (.mk [] none (.mk [] none (.mk [.join [{ e := .n, j := { regs := [(6, .one .keep), (51, .one (.data (.bool)))], vars := [], arrs := [] } }]] none .nil .nil) .nil) .nil)))))))
    Tryd.func8 rfl nmr8 rfl rfl rfl rfl types_ok ⟨⟨ok_strings_TrimPrefix, ok_strconv_Atoi, trivial⟩, trivial⟩ mx (fun x => by kernel_rfl)

noncomputable def internal_stringslite_IndexByte (s : List UInt8) (c : Int) : Option (Int) :=
  (idxB s c).bind fun r =>
  some r

noncomputable def fn_internal_stringslite_IndexByte : Fun :=
  { f := 67, np := 2, nr := 1,
    ji := { regs := [(0, .one (.data (.str))), (1, .one (.data (.int .u8)))], vars := [], arrs := [] },
    jo := { regs := [(0, .one (.data (.int .i64)))], vars := [], arrs := [] },
    tw := fun x => internal_stringslite_IndexByte x.1 x.2 }
noncomputable def cx_internal_stringslite_IndexByte : Cx := { Γ := types, ow := [], fs := [], xs := [xt76], N := 8 }
theorem ok_internal_stringslite_IndexByte : FunOk Tryd.prog fn_internal_stringslite_IndexByte :=
  FunOk.intro (C := cx_internal_stringslite_IndexByte) (p := .nil)
    Tryd.func67 rfl nmr67 rfl rfl rfl rfl types_ok ⟨trivial, ⟨xk76, trivial⟩⟩ mx (fun x => by kernel_rfl)

noncomputable def internal_stringslite_Index (s : List UInt8) (substr : List UInt8) : Option (Int) :=
  Option.bind (α := Bool) (
    bif decide ((substr.length : Int) = 0) then (
     some true)
    else (
     some (decide (substr = s)))) fun s2 =>
  bif s2 then (
   some 0)
  else (
   bif decide ((substr.length : Int) = 1) then (
    gd (inB 0 substr.length) <|
    (internal_stringslite_IndexByte s (Int.ofNat (substr.getD 0 0).toNat)).bind fun r =>
    some r)
   else (
    bif decide ((s.length : Int) ≤ (substr.length : Int)) then (
     some (-1))
    else (
     none)))

noncomputable def fn_internal_stringslite_Index : Fun :=
  { f := 59, np := 2, nr := 1,
    ji := { regs := [(0, .one (.data (.str))), (1, .one (.data (.str)))], vars := [], arrs := [] },
    jo := { regs := [(0, .one (.data (.int .i64)))], vars := [], arrs := [] },
    tw := fun x => internal_stringslite_Index x.1 x.2 }
noncomputable def cx_internal_stringslite_Index : Cx := { Γ := types, ow := [], fs := [fn_internal_stringslite_IndexByte], N := 143 }
theorem ok_internal_stringslite_Index : FunOk Tryd.prog fn_internal_stringslite_Index :=
  FunOk.intro (C := cx_internal_stringslite_Index) (p := (.mk [] none .nil (.mk [] none .nil (.mk [] none (.mk [] none (.mk [] none (.mk [.join [{ e := .n, j := { regs := [(0, .one .keep), (1, .one .keep), (5, .one .keep), (16, .one (.data (.bool)))], vars := [], arrs := [] } }]] none .nil .nil) .nil) .nil) .nil))))
    Tryd.func59 rfl nmr59 rfl rfl rfl rfl types_ok ⟨⟨ok_internal_stringslite_IndexByte, trivial⟩, trivial⟩ mx (fun x => by kernel_rfl)

noncomputable def strings_Index (s : List UInt8) (substr : List UInt8) : Option (Int) :=
  (internal_stringslite_Index s substr).bind fun r =>
  some r

noncomputable def fn_strings_Index : Fun :=
  { f := 46, np := 2, nr := 1,
    ji := { regs := [(0, .one (.data (.str))), (1, .one (.data (.str)))], vars := [], arrs := [] },
    jo := { regs := [(0, .one (.data (.int .i64)))], vars := [], arrs := [] },
    tw := fun x => strings_Index x.1 x.2 }
noncomputable def cx_strings_Index : Cx := { Γ := types, ow := [], fs := [fn_internal_stringslite_Index], N := 8 }
theorem ok_strings_Index : FunOk Tryd.prog fn_strings_Index :=
  FunOk.intro (C := cx_strings_Index) (p := .nil)
    Tryd.func46 rfl nmr46 rfl rfl rfl rfl types_ok ⟨⟨ok_internal_stringslite_Index, trivial⟩, trivial⟩ mx (fun x => by kernel_rfl)

noncomputable def strings_Count_L0 (substr : List UInt8) (s2 : List UInt8) (n : Int) : Option ((List UInt8 × Int) ⊕ Int) :=
  (strings_Index s2 substr).bind fun r2 =>
  bif decide (r2 = (-1)) then (
   some (.inr n))
  else (
   gd (cutG (some (.i64, wi64 (r2 + (substr.length : Int)))) none s2.length) <|
   some (.inl (s2.drop (wi64 (r2 + (substr.length : Int))).toNat, wi64 (n + 1))))

noncomputable def strings_Count (s : List UInt8) (substr : List UInt8) : Option (Int) :=
  bif decide ((substr.length : Int) = 0) then (
   none)
  else (
   bif decide ((substr.length : Int) = 1) then (
    gd (inB 0 substr.length) <|
    (cntB s (Int.ofNat (substr.getD 0 0).toNat)).bind fun r =>
    some r)
   else (
    (iter (fun x => strings_Count_L0 substr x.1 x.2) (s, 0)).bind fun s3 =>
    some s3))

noncomputable def fn_strings_Count : Fun :=
  { f := 29, np := 2, nr := 1,
    ji := { regs := [(0, .one (.data (.str))), (1, .one (.data (.str)))], vars := [], arrs := [] },
    jo := { regs := [(0, .one (.data (.int .i64)))], vars := [], arrs := [] },
    tw := fun x => strings_Count x.1 x.2 }
noncomputable def cx_strings_Count : Cx := { Γ := types, ow := [], fs := [fn_strings_Index], xs := [xt45], N := 34 }
theorem ok_strings_Count : FunOk Tryd.prog fn_strings_Count :=
  FunOk.intro (C := cx_strings_Count) (p := (.mk [] none .nil (.mk [] none .nil (.mk [] none .nil (.mk [] none .nil (.mk [] none (.mk [] (some ({ regs := [(0, .one (.data (.str))), (1, .one .keep), (5, .one (.data (.int .i64)))], vars := [], arrs := [] }, [{ e := .r, j := { regs := [(4, .one (.data (.int .i64)))], vars := [], arrs := [] } }])) .nil .nil) .nil))))))
    Tryd.func29 rfl nmr29 rfl rfl rfl rfl types_ok ⟨⟨ok_strings_Index, trivial⟩, ⟨xk45, trivial⟩⟩ mx (fun x => by kernel_rfl)

noncomputable def internal_stringslite_HasSuffix (s : List UInt8) (suffix : List UInt8) : Option (Bool) :=
  bif decide ((suffix.length : Int) ≤ (s.length : Int)) then (
   gd (cutG (some (.i64, wi64 ((s.length : Int) - (suffix.length : Int)))) none s.length) <|
   some (decide (s.drop (wi64 ((s.length : Int) - (suffix.length : Int))).toNat = suffix)))
  else (
   some false)

noncomputable def fn_internal_stringslite_HasSuffix : Fun :=
  { f := 47, np := 2, nr := 1,
    ji := { regs := [(0, .one (.data (.str))), (1, .one (.data (.str)))], vars := [], arrs := [] },
    jo := { regs := [(0, .one (.data (.bool)))], vars := [], arrs := [] },
    tw := fun x => internal_stringslite_HasSuffix x.1 x.2 }
noncomputable def cx_internal_stringslite_HasSuffix : Cx := { Γ := types, ow := [], fs := [], N := 21 }
theorem ok_internal_stringslite_HasSuffix : FunOk Tryd.prog fn_internal_stringslite_HasSuffix :=
  FunOk.intro (C := cx_internal_stringslite_HasSuffix) (p := .nil)
    Tryd.func47 rfl nmr47 rfl rfl rfl rfl types_ok ⟨trivial, trivial⟩ mx (fun x => by kernel_rfl)

noncomputable def strings_HasSuffix (s : List UInt8) (suffix : List UInt8) : Option (Bool) :=
  (internal_stringslite_HasSuffix s suffix).bind fun r =>
  some r

noncomputable def fn_strings_HasSuffix : Fun :=
  { f := 30, np := 2, nr := 1,
    ji := { regs := [(0, .one (.data (.str))), (1, .one (.data (.str)))], vars := [], arrs := [] },
    jo := { regs := [(0, .one (.data (.bool)))], vars := [], arrs := [] },
    tw := fun x => strings_HasSuffix x.1 x.2 }
noncomputable def cx_strings_HasSuffix : Cx := { Γ := types, ow := [], fs := [fn_internal_stringslite_HasSuffix], N := 8 }
theorem ok_strings_HasSuffix : FunOk Tryd.prog fn_strings_HasSuffix :=
  FunOk.intro (C := cx_strings_HasSuffix) (p := .nil)
    Tryd.func30 rfl nmr30 rfl rfl rfl rfl types_ok ⟨⟨ok_internal_stringslite_HasSuffix, trivial⟩, trivial⟩ mx (fun x => by kernel_rfl)

noncomputable def internal_stringslite_Cut (s : List UInt8) (sep : List UInt8) : Option (List UInt8 × List UInt8 × Bool) :=
  (internal_stringslite_Index s sep).bind fun r =>
  bif decide (0 ≤ r) then (
   gd (cutG none (some (.i64, r)) s.length) <|
   gd (cutG (some (.i64, wi64 (r + (sep.length : Int)))) none s.length) <|
   some (s.take r.toNat, s.drop (wi64 (r + (sep.length : Int))).toNat, true))
  else (
   some (s, [], false))

noncomputable def fn_internal_stringslite_Cut : Fun :=
  { f := 48, np := 2, nr := 3,
    ji := { regs := [(0, .one (.data (.str))), (1, .one (.data (.str)))], vars := [], arrs := [] },
    jo := { regs := [(0, .one (.data (.str))), (1, .one (.data (.str))), (2, .one (.data (.bool)))], vars := [], arrs := [] },
    tw := fun x => internal_stringslite_Cut x.1 x.2 }
noncomputable def cx_internal_stringslite_Cut : Cx := { Γ := types, ow := [], fs := [fn_internal_stringslite_Index], N := 23 }
theorem ok_internal_stringslite_Cut : FunOk Tryd.prog fn_internal_stringslite_Cut :=
  FunOk.intro (C := cx_internal_stringslite_Cut) (p := .nil)
    Tryd.func48 rfl nmr48 rfl rfl rfl rfl types_ok ⟨⟨ok_internal_stringslite_Index, trivial⟩, trivial⟩ mx (fun x => by kernel_rfl)

noncomputable def strings_Cut (s : List UInt8) (sep : List UInt8) : Option (List UInt8 × List UInt8 × Bool) :=
  (internal_stringslite_Cut s sep).bind fun r =>
  some (r.1, r.2.1, r.2.2)

noncomputable def fn_strings_Cut : Fun :=
  { f := 31, np := 2, nr := 3,
    ji := { regs := [(0, .one (.data (.str))), (1, .one (.data (.str)))], vars := [], arrs := [] },
    jo := { regs := [(0, .one (.data (.str))), (1, .one (.data (.str))), (2, .one (.data (.bool)))], vars := [], arrs := [] },
    tw := fun x => strings_Cut x.1 x.2 }
noncomputable def cx_strings_Cut : Cx := { Γ := types, ow := [], fs := [fn_internal_stringslite_Cut], N := 13 }
theorem ok_strings_Cut : FunOk Tryd.prog fn_strings_Cut :=
  FunOk.intro (C := cx_strings_Cut) (p := .nil)
    Tryd.func31 rfl nmr31 rfl rfl rfl rfl types_ok ⟨⟨ok_internal_stringslite_Cut, trivial⟩, trivial⟩ mx (fun x => by kernel_rfl)

noncomputable def strings_genSplit_L0 (s : List UInt8) (sep : List UInt8) (sepSave : Int) (s2 : Int) (s3 : List UInt8) (i : Int) (a : List (List UInt8)) : Option ((List UInt8 × Int × List (List UInt8)) ⊕ (List UInt8 × Int × List (List UInt8))) :=
  bif decide (i < wi64 ((min s2 (wi64 ((s.length : Int) + 1))) - 1)) then (
   (strings_Index s3 sep).bind fun r2 =>
   bif decide (r2 < 0) then (
    some (.inr (s3, i, a)))
   else (
    gd (cutG none (some (.i64, wi64 (r2 + sepSave))) s3.length) <|
    gd (inB i a.length) <|
    gd (cutG (some (.i64, wi64 (r2 + (sep.length : Int)))) none s3.length) <|
    some (.inl (s3.drop (wi64 (r2 + (sep.length : Int))).toNat, wi64 (i + 1), a.set i.toNat (s3.take (wi64 (r2 + sepSave)).toNat)))))
  else (
   some (.inr (s3, i, a)))

noncomputable def strings_genSplit (s : List UInt8) (sep : List UInt8) (sepSave : Int) (n : Int) : Option (List (List UInt8)) :=
  bif decide (n = 0) then (
   some [])
  else (
   bif decide (sep = []) then (
    none)
   else (
    Option.bind (α := Int) (
      bif decide (n < 0) then (
       (strings_Count s sep).bind fun r =>
       some (wi64 (r + 1)))
      else (
       some n)) fun s2 =>
    gd (makeG 16 (min s2 (wi64 ((s.length : Int) + 1)))) <|
    (iter (fun x => strings_genSplit_L0 s sep sepSave s2 x.1 x.2.1 x.2.2) (s, 0, List.replicate (min s2 (wi64 ((s.length : Int) + 1))).toNat [])).bind fun s4 =>
    gd (inB s4.2.1 s4.2.2.length) <|
    gd (cutG none (some (.i64, wi64 (s4.2.1 + 1))) (s4.2.2.set s4.2.1.toNat s4.1).length) <|
    some ((s4.2.2.set s4.2.1.toNat s4.1).take (wi64 (s4.2.1 + 1)).toNat)))

noncomputable def fn_strings_genSplit : Fun :=
  { f := 49, np := 4, nr := 1,
    ji := { regs := [(0, .one (.data (.str))), (1, .one (.data (.str))), (2, .one (.data (.int .i64))), (3, .one (.data (.int .i64)))], vars := [], arrs := [] },
    jo := { regs := [(0, .one (.data (.sl (.str))))], vars := [], arrs := [] },
    tw := fun x => strings_genSplit x.1 x.2.1 x.2.2.1 x.2.2.2 }
noncomputable def cx_strings_genSplit : Cx := { Γ := types, ow := [], fs := [fn_strings_Count, fn_strings_Index], N := 66 }
theorem ok_strings_genSplit : FunOk Tryd.prog fn_strings_genSplit :=
  FunOk.intro (C := cx_strings_genSplit) (p := (.mk [] none .nil (.mk [] none .nil (.mk [] none .nil (.mk [] none (.mk [] none .nil (.mk [.join [{ e := .n, j := { regs := [(0, .one .keep), (1, .one .keep), (2, .one .keep), (3, .one (.data (.int .i64)))], vars := [], arrs := [] } }]] none .nil .nil)) (.mk [] none .nil (.mk [] none .nil (.mk [] none .nil (.mk [] none .nil (.mk [] none (.mk [] none (.mk [] (some ({ regs := [(0, .one (.data (.str))), (1, .one .keep), (2, .one .keep), (3, .one .keep), (9, .one (.own 512)), (10, .one (.data (.int .i64)))], vars := [], arrs := [(512, .arr 9 (.str))] }, [{ e := .x 0, j := { regs := [(0, .one (.data (.str))), (9, .one (.own 512)), (10, .one (.data (.int .i64)))], vars := [], arrs := [(512, .arr 9 (.str))] } }])) .nil .nil) .nil) (.mk [] none .nil (.mk [] none (.mk [.fz [9]] none .nil .nil) .nil))))))))))))
    Tryd.func49 rfl nmr49 rfl rfl rfl rfl types_ok ⟨⟨ok_strings_Count, ok_strings_Index, trivial⟩, trivial⟩ mx (fun x => by kernel_rfl)

noncomputable def strings_Split (s : List UInt8) (sep : List UInt8) : Option (List (List UInt8)) :=
  (strings_genSplit s sep 0 (-1)).bind fun r =>
  some r

noncomputable def fn_strings_Split : Fun :=
  { f := 32, np := 2, nr := 1,
    ji := { regs := [(0, .one (.data (.str))), (1, .one (.data (.str)))], vars := [], arrs := [] },
    jo := { regs := [(0, .one (.data (.sl (.str))))], vars := [], arrs := [] },
    tw := fun x => strings_Split x.1 x.2 }
noncomputable def cx_strings_Split : Cx := { Γ := types, ow := [], fs := [fn_strings_genSplit], N := 8 }
theorem ok_strings_Split : FunOk Tryd.prog fn_strings_Split :=
  FunOk.intro (C := cx_strings_Split) (p := .nil)
    Tryd.func32 rfl nmr32 rfl rfl rfl rfl types_ok ⟨⟨ok_strings_genSplit, trivial⟩, trivial⟩ mx (fun x => by kernel_rfl)

noncomputable def lines_word_L0 (s : List UInt8) (v : Int) : Option (Int ⊕ (Unit ⊕ Bool)) :=
  bif decide (v < (s.length : Int)) then (
   Option.bind (α := Bool) (
     gd (inB v s.length) <|
     bif decide ((Int.ofNat (s.getD v.toNat 0).toNat) < 33) then (
      some true)
     else (
      gd (inB v s.length) <|
      some (decide (126 < (Int.ofNat (s.getD v.toNat 0).toNat))))) fun s2 =>
   bif s2 then (
    some (.inr (.inr false)))
   else (
    some (.inl (wi64 (v + 1)))))
  else (
   some (.inr (.inl ())))

noncomputable def lines_word (s : List UInt8) : Option (Bool) :=
  (iter (fun x => lines_word_L0 s x) 0).bind fun s3 =>
  s3.elim (fun s4 =>
   some (!decide (s = [])))
  (fun s5 =>
   some s5)

noncomputable def fn_lines_word : Fun :=
  { f := 50, np := 1, nr := 1,
    ji := { regs := [(0, .one (.data (.str)))], vars := [], arrs := [] },
    jo := { regs := [(0, .one (.data (.bool)))], vars := [], arrs := [] },
    tw := fun x => lines_word x }
noncomputable def cx_lines_word : Cx := { Γ := types, ow := [], fs := [], N := 22 }
theorem ok_lines_word : FunOk Tryd.prog fn_lines_word :=
  FunOk.intro (C := cx_lines_word) (p := (.mk [] none .nil (.mk [] none (.mk [] none .nil (.mk [] none (.mk [] (some ({ regs := [(0, .one .keep), (5, .one .keep), (6, .one (.data (.int .i64)))], vars := [], arrs := [] }, [{ e := .x 0, j := { regs := [(0, .one .keep)], vars := [], arrs := [] } }, { e := .r, j := { regs := [(2, .one (.data (.bool)))], vars := [], arrs := [] } }])) (.mk [] none .nil (.mk [] none .nil (.mk [] none (.mk [] none (.mk [] none .nil (.mk [] none (.mk [.join [{ e := .n, j := { regs := [(0, .one .keep), (5, .one .keep), (6, .one .keep), (18, .one (.data (.bool)))], vars := [], arrs := [] } }]] none .nil .nil) .nil)) .nil) .nil))) .nil) .nil)) .nil)))
    Tryd.func50 rfl nmr50 rfl rfl rfl rfl types_ok ⟨trivial, trivial⟩ mx (fun x => by kernel_rfl)

noncomputable def lines_words_L0 (l : List (List UInt8)) (v : Int) : Option (Int ⊕ (Unit ⊕ Bool)) :=
  bif decide (v < (l.length : Int)) then (
   gd (inB v l.length) <|
   (lines_word (l.getD v.toNat [])).bind fun r =>
   bif !r then (
    some (.inr (.inr false)))
   else (
    some (.inl (wi64 (v + 1)))))
  else (
   some (.inr (.inl ())))

noncomputable def lines_words (l : List (List UInt8)) : Option (Bool) :=
  Option.bind (α := Bool) (
    bif decide ((l.length : Int) < 1) then (
     some true)
    else (
     some (decide (16 < (l.length : Int))))) fun s =>
  bif s then (
   some false)
  else (
   (iter (fun x => lines_words_L0 l x) 0).bind fun s2 =>
   s2.elim (fun s3 =>
    gd (inB 0 l.length) <|
    gd (inB 0 (l.getD 0 []).length) <|
    some (!decide ((Int.ofNat ((l.getD 0 []).getD 0 0).toNat) = 35)))
   (fun s4 =>
    some s4))

noncomputable def fn_lines_words : Fun :=
  { f := 33, np := 1, nr := 1,
    ji := { regs := [(0, .one (.data (.sl (.str))))], vars := [], arrs := [] },
    jo := { regs := [(0, .one (.data (.bool)))], vars := [], arrs := [] },
    tw := fun x => lines_words x }
noncomputable def cx_lines_words : Cx := { Γ := types, ow := [], fs := [fn_lines_word], N := 28 }
theorem ok_lines_words : FunOk Tryd.prog fn_lines_words :=
  FunOk.intro (C := cx_lines_words) (p := (.mk [] none .nil (.mk [] none (.mk [] none (.mk [.join [{ e := .n, j := { regs := [(0, .one .keep), (12, .one (.data (.bool)))], vars := [], arrs := [] } }]] none .nil .nil) .nil) (.mk [] none (.mk [] none .nil (.mk [] none (.mk [] (some ({ regs := [(0, .one .keep), (13, .one .keep), (14, .one .keep), (15, .one (.data (.int .i64)))], vars := [], arrs := [] }, [{ e := .x 0, j := { regs := [(0, .one .keep)], vars := [], arrs := [] } }, { e := .r, j := { regs := [(2, .one (.data (.bool)))], vars := [], arrs := [] } }])) .nil .nil) .nil)) .nil))))
    Tryd.func33 rfl nmr33 rfl rfl rfl rfl types_ok ⟨⟨ok_lines_word, trivial⟩, trivial⟩ mx (fun x => by kernel_rfl)

noncomputable def lines_Split_L0 (text2 : List UInt8) (out : List (List (List UInt8))) : Option ((List UInt8 × List (List (List UInt8))) ⊕ ((List (List (List UInt8))) ⊕ (List (List (List UInt8)) × Int))) :=
  bif !decide (text2 = []) then (
   (strings_Cut text2 [10]).bind fun r3 =>
   Option.bind (α := Bool × List (List (List UInt8))) (
     bif decide (r3.1 = []) then (
      some (true, out))
     else (
      gd (inB 0 r3.1.length) <|
      some (decide ((Int.ofNat (r3.1.getD 0 0).toNat) = 35), out))) fun s4 =>
   bif s4.1 then (
    gd (fits (s4.2.length + 1) 24) <|
    some (.inl (r3.2.1, s4.2 ++ [[]])))
   else (
    (strings_Split r3.1 [32]).bind fun r4 =>
    (lines_words r4).bind fun r5 =>
    bif !r5 then (
     some (.inr (.inr ([], 3))))
    else (
     gd (fits (s4.2.length + 1) 24) <|
     some (.inl (r3.2.1, s4.2 ++ [r4])))))
  else (
   some (.inr (.inl out)))

noncomputable def lines_Split (text : List UInt8) : Option (List (List (List UInt8)) × Int) :=
  (strings_Count text [10]).bind fun r =>
  Option.bind (α := Bool) (
    bif !decide (text = []) then (
     (strings_HasSuffix text [10]).bind fun r2 =>
     some (!r2))
    else (
     some false)) fun s =>
  Option.bind (α := Int) (
    bif s then (
     some (wi64 (r + 1)))
    else (
     some r)) fun s2 =>
  Option.bind (α := Bool) (
    bif decide (16384 < (text.length : Int)) then (
     some true)
    else (
     some (decide (400 < s2)))) fun s3 =>
  bif s3 then (
   some ([], 4))
  else (
   gd ((decide (0 ≤ 0) && decide (0 ≤ s2)) && makeG 24 s2) <|
   (iter (fun x => lines_Split_L0 x.1 x.2) (text, List.replicate 0 [])).bind fun s5 =>
   s5.elim (fun s6 =>
    some (s6, 0))
   (fun s7 =>
    some (s7.1, s7.2)))

noncomputable def fn_lines_Split : Fun :=
  { f := 14, np := 1, nr := 2,
    ji := { regs := [(0, .one (.data (.str)))], vars := [], arrs := [] },
    jo := { regs := [(0, .one (.data (.sl (.sl (.str))))), (1, .one (.data (.int .i64)))], vars := [], arrs := [] },
    tw := fun x => lines_Split x }
noncomputable def cx_lines_Split : Cx := { Γ := types, ow := [], fs := [fn_strings_Count, fn_strings_HasSuffix, fn_strings_Cut, fn_strings_Split, fn_lines_words], N := 59 }
theorem ok_lines_Split : FunOk Tryd.prog fn_lines_Split :=
  FunOk.intro (C := cx_lines_Split) (p := (.mk [] none .nil (.mk [] none .nil (.mk [] none (.mk [] none (.mk [.join [{ e := .n, j := { regs := [(0, .one .keep), (4, .one .keep), (18, .one (.data (.bool)))], vars := [], arrs := [] } }]] none .nil .nil) (.mk [.join [{ e := .n, j := { regs := [(0, .one .keep), (4, .one (.data (.int .i64)))], vars := [], arrs := [] } }]] none .nil .nil)) (.mk [] none (.mk [] none (.mk [.join [{ e := .n, j := { regs := [(0, .one .keep), (4, .one .keep), (27, .one (.data (.bool)))], vars := [], arrs := [] } }]] none .nil .nil) .nil) (.mk [] none .nil (.mk [] none (.mk [] none (.mk [] (some ({ regs := [(0, .one (.data (.str))), (5, .one (.own 107))], vars := [], arrs := [(107, .arr 30 (.sl (.str)))] }, [{ e := .x 0, j := { regs := [(5, .one (.own 107))], vars := [], arrs := [(107, .arr 30 (.sl (.str)))] } }, { e := .r, j := { regs := [(2, .one (.data (.sl (.sl (.str))))), (3, .one (.data (.int .i64)))], vars := [], arrs := [] } }])) (.mk [] none .nil (.mk [] none (.mk [] none .nil (.mk [] none .nil (.mk [] none (.mk [] none (.mk [.join [{ e := .n, j := { regs := [(0, .one .keep), (5, .one (.own 107)), (6, .one .keep), (45, .one (.data (.bool)))], vars := [], arrs := [(107, .arr 30 (.sl (.str)))] } }]] none .nil .nil) .nil) .nil))) .nil)) .nil) .nil) .nil)))))))
    Tryd.func14 rfl nmr14 rfl rfl rfl rfl types_ok ⟨⟨ok_strings_Count, ok_strings_HasSuffix, ok_strings_Cut, ok_strings_Split, ok_lines_words, trivial⟩, trivial⟩ mx (fun x => by kernel_rfl)

noncomputable def ref03_Same_L1 (a : List (List (List UInt8))) (b : List (List (List UInt8))) (v : Int) (v2 : Int) : Option (Int ⊕ (Unit ⊕ Bool)) :=
  bif decide (v2 < ((a.getD v.toNat []).length : Int)) then (
   gd (inB v a.length) <|
   gd (inB v2 (a.getD v.toNat []).length) <|
   gd (inB v b.length) <|
   gd (inB v2 (b.getD v.toNat []).length) <|
   bif !decide ((a.getD v.toNat []).getD v2.toNat [] = (b.getD v.toNat []).getD v2.toNat []) then (
    some (.inr (.inr false)))
   else (
    some (.inl (wi64 (v2 + 1)))))
  else (
   some (.inr (.inl ())))

noncomputable def ref03_Same_L0 (a : List (List (List UInt8))) (b : List (List (List UInt8))) (v : Int) : Option (Int ⊕ (Unit ⊕ Bool)) :=
  bif decide (v < (a.length : Int)) then (
   gd (inB v a.length) <|
   gd (inB v b.length) <|
   bif !decide (((a.getD v.toNat []).length : Int) = ((b.getD v.toNat []).length : Int)) then (
    some (.inr (.inr false)))
   else (
    gd (inB v a.length) <|
    (iter (fun x => ref03_Same_L1 a b v x) 0).bind fun s =>
    s.elim (fun s2 =>
     some (.inl (wi64 (v + 1))))
    (fun s3 =>
     some (.inr (.inr s3)))))
  else (
   some (.inr (.inl ())))

noncomputable def ref03_Same (a : List (List (List UInt8))) (b : List (List (List UInt8))) : Option (Bool) :=
  bif !decide ((a.length : Int) = (b.length : Int)) then (
   some false)
  else (
   (iter (fun x2 => ref03_Same_L0 a b x2) 0).bind fun s4 =>
   s4.elim (fun s5 =>
    some true)
   (fun s6 =>
    some s6))

noncomputable def fn_ref03_Same : Fun :=
  { f := 16, np := 2, nr := 1,
    ji := { regs := [(0, .one (.data (.sl (.sl (.str))))), (1, .one (.data (.sl (.sl (.str)))))], vars := [], arrs := [] },
    jo := { regs := [(0, .one (.data (.bool)))], vars := [], arrs := [] },
    tw := fun x => ref03_Same x.1 x.2 }
noncomputable def cx_ref03_Same : Cx := { Γ := types, ow := [], fs := [], N := 53 }
theorem ok_ref03_Same : FunOk Tryd.prog fn_ref03_Same :=
  FunOk.intro (C := cx_ref03_Same) (p := (.mk [] none .nil (.mk [] none .nil (.mk [] none (.mk [] none .nil (.mk [] none (.mk [] (some ({ regs := [(0, .one .keep), (1, .one .keep), (13, .one .keep), (14, .one (.data (.int .i64)))], vars := [], arrs := [] }, [{ e := .x 0, j := { regs := [], vars := [], arrs := [] } }, { e := .r, j := { regs := [(4, .one (.data (.bool)))], vars := [], arrs := [] } }])) (.mk [] none .nil (.mk [] none .nil (.mk [] none (.mk [] none (.mk [] none .nil (.mk [] none .nil (.mk [] none .nil (.mk [] none (.mk [] (some ({ regs := [(0, .one .keep), (1, .one .keep), (5, .one .keep), (13, .one .keep), (14, .one .keep), (32, .one .keep), (33, .one (.data (.int .i64)))], vars := [], arrs := [] }, [{ e := .x 2, j := { regs := [(0, .one .keep), (1, .one .keep), (13, .one .keep), (14, .one .keep)], vars := [], arrs := [] } }, { e := .r, j := { regs := [(4, .one (.data (.bool)))], vars := [], arrs := [] } }])) .nil .nil) .nil)))) .nil) .nil))) .nil) .nil)) .nil))))
    Tryd.func16 rfl nmr16 rfl rfl rfl rfl types_ok ⟨trivial, trivial⟩ mx (fun x => by kernel_rfl)

noncomputable def lines_place (c : Int) : Option (Int) :=
  Option.bind (α := Unit ⊕ Unit ⊕ Int) (
    Option.bind (α := Bool) (
      bif decide (97 ≤ c) then (
       some (decide (c ≤ 122)))
      else (
       some false)) fun s =>
    bif s then (
     some (.inr (.inr 1)))
    else (
     Option.bind (α := Bool) (
       bif decide (48 ≤ c) then (
        some (decide (c ≤ 57)))
       else (
        some false)) fun s2 =>
     bif s2 then (
      some (.inl ()))
     else (
      bif decide (c = 45) then (
       some (.inl ()))
      else (
       some (.inr (.inl ())))))) fun s3 =>
  s3.elim (fun s4 =>
   some 2)
  (fun s5 =>
   s5.elim (fun s6 =>
    some 0)
   (fun s7 =>
    some s7))

noncomputable def fn_lines_place : Fun :=
  { f := 40, np := 1, nr := 1,
    ji := { regs := [(0, .one (.data (.int .u8)))], vars := [], arrs := [] },
    jo := { regs := [(0, .one (.data (.int .i64)))], vars := [], arrs := [] },
    tw := fun x => lines_place x }
noncomputable def cx_lines_place : Cx := { Γ := types, ow := [], fs := [], N := 20 }
theorem ok_lines_place : FunOk Tryd.prog fn_lines_place :=
  FunOk.intro (C := cx_lines_place) (p := (.mk [] none .nil (.mk [] none (.mk [] none (.mk [] none (.mk [.join [{ e := .n, j := { regs := [], vars := [], arrs := [] } }, { e := .x 0, j := { regs := [], vars := [], arrs := [] } }, { e := .r, j := { regs := [(2, .one (.data (.int .i64)))], vars := [], arrs := [] } }]] none (.mk [] none (.mk [] none (.mk [] none (.mk [] none (.mk [] none (.mk [] none (.mk [.join [{ e := .n, j := { regs := [(0, .one .keep), (3, .one (.data (.bool)))], vars := [], arrs := [] } }]] none .nil .nil) .nil) (.mk [] none (.mk [] none (.mk [.join [{ e := .n, j := { regs := [(0, .one .keep), (10, .one (.data (.bool)))], vars := [], arrs := [] } }]] none .nil .nil) .nil) .nil)) .nil) .nil) .nil) .nil) .nil) .nil) .nil) .nil)))
    Tryd.func40 rfl nmr40 rfl rfl rfl rfl types_ok ⟨trivial, trivial⟩ mx (fun x => by kernel_rfl)

noncomputable def lines_Name_L0 (s : List UInt8) (v : Int) : Option (Int ⊕ (Unit ⊕ Bool)) :=
  bif decide (v < (s.length : Int)) then (
   gd (inB v s.length) <|
   (lines_place (Int.ofNat (s.getD v.toNat 0).toNat)).bind fun r2 =>
   bif decide (r2 = 0) then (
    some (.inr (.inr false)))
   else (
    some (.inl (wi64 (v + 1)))))
  else (
   some (.inr (.inl ())))

noncomputable def lines_Name (s : List UInt8) : Option (Bool) :=
  Option.bind (α := Bool) (
    bif decide ((s.length : Int) < 1) then (
     some true)
    else (
     bif decide (12 < (s.length : Int)) then (
      some true)
     else (
      gd (inB 0 s.length) <|
      (lines_place (Int.ofNat (s.getD 0 0).toNat)).bind fun r =>
      some (!decide (r = 1))))) fun s2 =>
  bif s2 then (
   some false)
  else (
   (iter (fun x => lines_Name_L0 s x) 0).bind fun s3 =>
   s3.elim (fun s4 =>
    some true)
   (fun s5 =>
    some s5))

noncomputable def fn_lines_Name : Fun :=
  { f := 20, np := 1, nr := 1,
    ji := { regs := [(0, .one (.data (.str)))], vars := [], arrs := [] },
    jo := { regs := [(0, .one (.data (.bool)))], vars := [], arrs := [] },
    tw := fun x => lines_Name x }
noncomputable def cx_lines_Name : Cx := { Γ := types, ow := [], fs := [fn_lines_place], N := 29 }
theorem ok_lines_Name : FunOk Tryd.prog fn_lines_Name :=
  FunOk.intro (C := cx_lines_Name) (p := (.mk [] none .nil (.mk [] none (.mk [] none (.mk [.join [{ e := .n, j := { regs := [(0, .one .keep), (17, .one (.data (.bool)))], vars := [], arrs := [] } }]] none .nil .nil) .nil) (.mk [] none (.mk [] none .nil (.mk [] none (.mk [] (some ({ regs := [(0, .one .keep), (19, .one .keep), (20, .one (.data (.int .i64)))], vars := [], arrs := [] }, [{ e := .x 0, j := { regs := [], vars := [], arrs := [] } }, { e := .r, j := { regs := [(2, .one (.data (.bool)))], vars := [], arrs := [] } }])) .nil .nil) .nil)) .nil))))
    Tryd.func20 rfl nmr20 rfl rfl rfl rfl types_ok ⟨⟨ok_lines_place, trivial⟩, trivial⟩ mx (fun x => by kernel_rfl)

noncomputable def law03_awake : Option (Bool) :=
  (lines_Split [97, 32, 49, 10, 35, 32, 120, 10, 98]).bind fun r =>
  (lines_Number [45, 48]).bind fun r2 =>
  (lines_Number [45, 55]).bind fun r3 =>
  bif decide (r.2 = 0) then (
   (ref03_Same r.1 [[[97], [49]], [], [[98]]]).bind fun r4 =>
   bif r4 then (
    bif decide (r2.2 = 3) then (
     bif decide (r3.2 = 0) then (
      bif decide (r3.1 = (-7)) then (
       (lines_Name [116, 97, 110, 107, 45, 55]).bind fun r5 =>
       bif r5 then (
        (lines_Name [55]).bind fun r6 =>
        some (!r6))
       else (
        some false))
      else (
       some false))
     else (
      some false))
    else (
     some false))
   else (
    some false))
  else (
   some false)

noncomputable def fn_law03_awake : Fun :=
  { f := 10, np := 0, nr := 1,
    ji := { regs := [], vars := [], arrs := [] },
    jo := { regs := [(0, .one (.data (.bool)))], vars := [], arrs := [] },
    tw := fun x => law03_awake }
noncomputable def cx_law03_awake : Cx := { Γ := types, ow := [], fs := [fn_lines_Split, fn_lines_Number, fn_ref03_Same, fn_lines_Name], N := 47 }
theorem ok_law03_awake : FunOk Tryd.prog fn_law03_awake :=
  FunOk.intro (C := cx_law03_awake) (p := .nil)
    Tryd.func10 rfl nmr10 rfl rfl rfl rfl types_ok ⟨⟨ok_lines_Split, ok_lines_Number, ok_ref03_Same, ok_lines_Name, trivial⟩, trivial⟩ mx (fun x => by kernel_rfl)

noncomputable def law03_LinesNumbers (n : Int) : Option (Bool) :=
  (ref03_Text (Int.tmod n 9007199254740993)).bind fun r =>
  (lines_Number r).bind fun r2 =>
  (ref03_Text (Int.tmod n 9007199254740993)).bind fun r3 =>
  gd (Nat.ble ([48].length + r3.length) 9223372036854775807) <|
  (lines_Number ([48] ++ r3)).bind fun r4 =>
  (ref03_Text (Int.tmod n 9007199254740993)).bind fun r5 =>
  gd (Nat.ble (r5.length + [48, 48, 48, 48, 48, 48, 48, 48, 48, 48, 48, 48, 48, 48, 48, 48].length) 9223372036854775807) <|
  (lines_Number (r5 ++ [48, 48, 48, 48, 48, 48, 48, 48, 48, 48, 48, 48, 48, 48, 48, 48])).bind fun r6 =>
  bif decide (r2.2 = 0) then (
   bif decide (r2.1 = Int.tmod n 9007199254740993) then (
    bif decide (r4.2 = 3) then (
     bif decide (Int.tmod n 9007199254740993 = 0) then (
      bif decide (r6.2 = 3) then (
       (law03_awake).bind fun r7 =>
       some r7)
      else (
       bif !decide (Int.tmod n 9007199254740993 = 0) then (
        bif decide (r6.2 = 1) then (
         (law03_awake).bind fun r8 =>
         some r8)
        else (
         some false))
       else (
        some false)))
     else (
      bif !decide (Int.tmod n 9007199254740993 = 0) then (
       bif decide (r6.2 = 1) then (
        (law03_awake).bind fun r9 =>
        some r9)
       else (
        some false))
      else (
       some false)))
    else (
     some false))
   else (
    some false))
  else (
   some false)

noncomputable def fn_law03_LinesNumbers : Fun :=
  { f := 3, np := 1, nr := 1,
    ji := { regs := [(0, .one (.data (.int .i64)))], vars := [], arrs := [] },
    jo := { regs := [(0, .one (.data (.bool)))], vars := [], arrs := [] },
    tw := fun x => law03_LinesNumbers x }
noncomputable def cx_law03_LinesNumbers : Cx := { Γ := types, ow := [], fs := [fn_ref03_Text, fn_lines_Number, fn_law03_awake], N := 62 }
theorem ok_law03_LinesNumbers : FunOk Tryd.prog fn_law03_LinesNumbers :=
  FunOk.intro (C := cx_law03_LinesNumbers) (p := .nil)
    Tryd.func3 rfl nmr3 rfl rfl rfl rfl types_ok ⟨⟨ok_ref03_Text, ok_lines_Number, ok_law03_awake, trivial⟩, trivial⟩ mx (fun x => by kernel_rfl)

noncomputable def keep_New (l : List Int) : Option (List Int × Int) :=
  gd (cutG none (some (.i64, min (l.length : Int) 2000)) l.length) <|
  some (l.take (min (l.length : Int) 2000).toNat, 0)

noncomputable def fn_keep_New : Fun :=
  { f := 11, np := 1, nr := 1,
    ji := { regs := [(0, .one (.data (.sl (.int .i64))))], vars := [], arrs := [] },
    jo := { regs := [(0, .one (.ptr 0 0))], vars := [(0, 54, [.data (.sl (.int .i64)), .data (.int .i64)])], arrs := [] },
    tw := fun x => keep_New x }
noncomputable def cx_keep_New : Cx := { Γ := types, ow := [], fs := [], N := 10 }
theorem ok_keep_New : FunOk Tryd.prog fn_keep_New :=
  FunOk.intro (C := cx_keep_New) (p := .nil)
    Tryd.func11 rfl nmr11 rfl rfl rfl rfl types_ok ⟨trivial, trivial⟩ mx (fun x => by kernel_rfl)

noncomputable def keep_Src_Raw (s : List Int) (s2 : Int) : Option (Int × List Int × Int) :=
  bif decide ((s.length : Int) ≤ s2) then (
   some (0, s, s2))
  else (
   gd (inB (wi64 ((wi64 (s2 + 1)) - 1)) s.length) <|
   some (s.getD (wi64 ((wi64 (s2 + 1)) - 1)).toNat 0, s, wi64 (s2 + 1)))

noncomputable def fn_keep_Src_Raw : Fun :=
  { f := 18, np := 1, nr := 1,
    ji := { regs := [(0, .one (.ptr 0 0))], vars := [(0, 54, [.data (.sl (.int .i64)), .data (.int .i64)])], arrs := [] },
    jo := { regs := [(0, .one (.data (.int .i64)))], vars := [(0, 54, [.data (.sl (.int .i64)), .data (.int .i64)])], arrs := [] },
    tw := fun x => keep_Src_Raw x.1 x.2 }
noncomputable def cx_keep_Src_Raw : Cx := { Γ := types, ow := [], fs := [], N := 31 }
theorem ok_keep_Src_Raw : FunOk Tryd.prog fn_keep_Src_Raw :=
  FunOk.intro (C := cx_keep_Src_Raw) (p := .nil)
    Tryd.func18 rfl nmr18 rfl rfl rfl rfl types_ok ⟨trivial, trivial⟩ mx (fun x => by kernel_rfl)

noncomputable def keep_Mod (x : Int) (n : Int) : Option (Int) :=
  bif decide (n < 1) then (
   some 0)
  else (
   gd (!decide (n = 0)) <|
   bif decide (Int.tmod x n < 0) then (
    some (wi64 ((Int.tmod x n) + n)))
   else (
    some (Int.tmod x n)))

noncomputable def fn_keep_Mod : Fun :=
  { f := 22, np := 2, nr := 1,
    ji := { regs := [(0, .one (.data (.int .i64))), (1, .one (.data (.int .i64)))], vars := [], arrs := [] },
    jo := { regs := [(0, .one (.data (.int .i64)))], vars := [], arrs := [] },
    tw := fun x => keep_Mod x.1 x.2 }
noncomputable def cx_keep_Mod : Cx := { Γ := types, ow := [], fs := [], N := 16 }
theorem ok_keep_Mod : FunOk Tryd.prog fn_keep_Mod :=
  FunOk.intro (C := cx_keep_Mod) (p := .nil)
    Tryd.func22 rfl nmr22 rfl rfl rfl rfl types_ok ⟨trivial, trivial⟩ mx (fun x => by kernel_rfl)

noncomputable def keep_Src_N (n : Int) (s : List Int) (s2 : Int) : Option (Int × List Int × Int) :=
  (keep_Src_Raw s s2).bind fun r =>
  (keep_Mod r.1 n).bind fun r2 =>
  some (r2, r.2.1, r.2.2)

noncomputable def fn_keep_Src_N : Fun :=
  { f := 25, np := 2, nr := 1,
    ji := { regs := [(0, .one (.ptr 0 0)), (1, .one (.data (.int .i64)))], vars := [(0, 54, [.data (.sl (.int .i64)), .data (.int .i64)])], arrs := [] },
    jo := { regs := [(0, .one (.data (.int .i64)))], vars := [(0, 54, [.data (.sl (.int .i64)), .data (.int .i64)])], arrs := [] },
    tw := fun x => keep_Src_N x.1 x.2.1 x.2.2 }
noncomputable def cx_keep_Src_N : Cx := { Γ := types, ow := [], fs := [fn_keep_Src_Raw, fn_keep_Mod], N := 9 }
theorem ok_keep_Src_N : FunOk Tryd.prog fn_keep_Src_N :=
  FunOk.intro (C := cx_keep_Src_N) (p := .nil)
    Tryd.func25 rfl nmr25 rfl rfl rfl rfl types_ok ⟨⟨ok_keep_Src_Raw, ok_keep_Mod, trivial⟩, trivial⟩ mx (fun x => by kernel_rfl)

noncomputable def keep_Src_Text (l : List (List UInt8)) (s : List Int) (s2 : Int) : Option (List UInt8 × List Int × Int) :=
  (keep_Src_N (l.length : Int) s s2).bind fun r =>
  gd (inB r.1 l.length) <|
  some (l.getD r.1.toNat [], r.2.1, r.2.2)

noncomputable def fn_keep_Src_Text : Fun :=
  { f := 26, np := 2, nr := 1,
    ji := { regs := [(0, .one (.ptr 0 0)), (1, .one (.data (.sl (.str))))], vars := [(0, 54, [.data (.sl (.int .i64)), .data (.int .i64)])], arrs := [] },
    jo := { regs := [(0, .one (.data (.str)))], vars := [(0, 54, [.data (.sl (.int .i64)), .data (.int .i64)])], arrs := [] },
    tw := fun x => keep_Src_Text x.1 x.2.1 x.2.2 }
noncomputable def cx_keep_Src_Text : Cx := { Γ := types, ow := [], fs := [fn_keep_Src_N], N := 12 }
theorem ok_keep_Src_Text : FunOk Tryd.prog fn_keep_Src_Text :=
  FunOk.intro (C := cx_keep_Src_Text) (p := .nil)
    Tryd.func26 rfl nmr26 rfl rfl rfl rfl types_ok ⟨⟨ok_keep_Src_N, trivial⟩, trivial⟩ mx (fun x => by kernel_rfl)

noncomputable def law03_made_L1 (odd : Int) (k : Int) (d5 : List Int) (d6 : Int) (out2 : List (List (List UInt8))) (w : List (List UInt8)) : Option ((Int × List Int × Int × List (List (List UInt8)) × List (List UInt8)) ⊕ (List Int × Int × List (List (List UInt8)) × List (List UInt8))) :=
  bif decide (0 < k) then (
   (keep_Src_Text [[97], [116, 97, 110, 107, 45, 55], [45, 53], [48], [33], [120, 35], [126, 126], [49, 48, 57, 57, 53, 49, 49, 54, 50, 55, 55, 55, 54]] d5 d6).bind fun r3 =>
   gd (fits (w.length + 1) 16) <|
   Option.bind (α := Bool × List Int × Int × List (List (List UInt8)) × List (List UInt8)) (
     bif decide (0 < odd) then (
      (keep_Src_N 9 r3.2.1 r3.2.2).bind fun r4 =>
      some (decide (r4.1 = 0), r4.2.1, r4.2.2, out2, w ++ [r3.1]))
     else (
      some (false, r3.2.1, r3.2.2, out2, w ++ [r3.1]))) fun s =>
   Option.bind (α := List Int × Int × List (List (List UInt8)) × List (List UInt8)) (
     bif s.1 then (
      (keep_Src_Text [[], [35], [97, 32, 98], [97, 10], [127], [195, 169], [35, 120]] s.2.1 s.2.2.1).bind fun r5 =>
      gd (inB (wi64 ((s.2.2.2.2.length : Int) - 1)) s.2.2.2.2.length) <|
      some (r5.2.1, r5.2.2, s.2.2.2.1, s.2.2.2.2.set ((wi64 ((s.2.2.2.2.length : Int) - 1)).toNat) r5.1))
     else (
      some (s.2.1, s.2.2.1, s.2.2.2.1, s.2.2.2.2))) fun s2 =>
   some (.inl (wi64 (k - 1), s2.1, s2.2.1, s2.2.2.1, s2.2.2.2)))
  else (
   some (.inr (d5, d6, out2, w)))

noncomputable def law03_made_L0 (odd : Int) (i : Int) (d3 : List Int) (d4 : Int) (out : List (List (List UInt8))) : Option ((Int × List Int × Int × List (List (List UInt8))) ⊕ (List Int × Int × List (List (List UInt8)))) :=
  bif decide (0 < i) then (
   (keep_Src_N 4 d3 d4).bind fun r2 =>
   (iter (fun x => law03_made_L1 odd x.1 x.2.1 x.2.2.1 x.2.2.2.1 x.2.2.2.2) (r2.1, r2.2.1, r2.2.2, out, [])).bind fun s3 =>
   gd (fits (s3.2.2.1.length + 1) 24) <|
   some (.inl (wi64 (i - 1), s3.1, s3.2.1, s3.2.2.1 ++ [s3.2.2.2])))
  else (
   some (.inr (d3, d4, out)))

noncomputable def law03_made (odd : Int) (d : List Int) (d2 : Int) : Option (List Int × Int × List (List (List UInt8))) :=
  (keep_Src_N 6 d d2).bind fun r =>
  (iter (fun x2 => law03_made_L0 odd x2.1 x2.2.1 x2.2.2.1 x2.2.2.2) (r.1, r.2.1, r.2.2, [])).bind fun s4 =>
  some (s4.1, s4.2.1, s4.2.2)

noncomputable def fn_law03_made : Fun :=
  { f := 12, np := 2, nr := 1,
    ji := { regs := [(0, .one (.ptr 0 0)), (1, .one (.data (.int .i64)))], vars := [(0, 54, [.data (.sl (.int .i64)), .data (.int .i64)])], arrs := [] },
    jo := { regs := [(0, .one (.own 1))], vars := [(0, 54, [.data (.sl (.int .i64)), .data (.int .i64)])], arrs := [(1, .arr 30 (.sl (.str)))] },
    tw := fun x => law03_made x.1 x.2.1 x.2.2 }
noncomputable def cx_law03_made : Cx := { Γ := types, ow := [], fs := [fn_keep_Src_N, fn_keep_Src_Text], N := 47 }
theorem ok_law03_made : FunOk Tryd.prog fn_law03_made :=
  FunOk.intro (C := cx_law03_made) (p := (.mk [] none .nil (.mk [] none .nil (.mk [] none (.mk [] none .nil (.mk [] none (.mk [] (some ({ regs := [(0, .one (.ptr 0 0)), (1, .one .keep), (5, .one (.own 107)), (6, .one (.data (.int .i64)))], vars := [(0, 54, [.data (.sl (.int .i64)), .data (.int .i64)])], arrs := [(107, .arr 30 (.sl (.str)))] }, [{ e := .x 0, j := { regs := [(5, .one (.own 107))], vars := [(0, 54, [.data (.sl (.int .i64)), .data (.int .i64)])], arrs := [(107, .arr 30 (.sl (.str)))] } }])) (.mk [] none .nil (.mk [] none (.mk [] none (.mk [] none .nil (.mk [] none (.mk [] none .nil (.mk [] none (.mk [] (some ({ regs := [(0, .one (.ptr 0 0)), (1, .one .keep), (5, .one (.own 107)), (6, .one .keep), (7, .one (.own 139)), (8, .one (.data (.int .i64)))], vars := [(0, 54, [.data (.sl (.int .i64)), .data (.int .i64)])], arrs := [(107, .arr 30 (.sl (.str))), (139, .arr 9 (.str))] }, [{ e := .x 2, j := { regs := [(0, .one (.ptr 0 0)), (1, .one .keep), (5, .one (.own 107)), (6, .one .keep), (7, .one (.own 139))], vars := [(0, 54, [.data (.sl (.int .i64)), .data (.int .i64)])], arrs := [(107, .arr 30 (.sl (.str))), (139, .arr 9 (.str))] } }])) (.mk [] none .nil (.mk [] none (.mk [] none (.mk [] none .nil (.mk [] none (.mk [.join [{ e := .n, j := { regs := [(0, .one (.ptr 0 0)), (1, .one .keep), (5, .one (.own 107)), (6, .one .keep), (7, .one (.own 432)), (8, .one .keep), (33, .one (.data (.bool)))], vars := [(0, 54, [.data (.sl (.int .i64)), .data (.int .i64)])], arrs := [(107, .arr 30 (.sl (.str))), (432, .arr 9 (.str))] } }]] none .nil .nil) (.mk [.join [{ e := .n, j := { regs := [(0, .one (.ptr 0 0)), (1, .one .keep), (5, .one (.own 107)), (6, .one .keep), (7, .one (.own 432)), (8, .one .keep)], vars := [(0, 54, [.data (.sl (.int .i64)), .data (.int .i64)])], arrs := [(107, .arr 30 (.sl (.str))), (432, .arr 9 (.str))] } }]] none .nil .nil))) .nil) .nil)) .nil) .nil)) (.mk [.fz [7]] none .nil .nil))) .nil) .nil)) .nil) .nil)) .nil))))
    Tryd.func12 rfl nmr12 rfl rfl rfl rfl types_ok ⟨⟨ok_keep_Src_N, ok_keep_Src_Text, trivial⟩, trivial⟩ mx (fun x => by kernel_rfl)

noncomputable def ref03_proper_L1 (w : List (List UInt8)) (v : Int) (k : Int) : Option (Int ⊕ (Unit ⊕ Bool)) :=
  gd (inB v w.length) <|
  bif decide (k < ((w.getD v.toNat []).length : Int)) then (
   Option.bind (α := Bool) (
     gd (inB v w.length) <|
     gd (inB k (w.getD v.toNat []).length) <|
     bif decide ((Int.ofNat ((w.getD v.toNat []).getD k.toNat 0).toNat) < 33) then (
      some true)
     else (
      gd (inB v w.length) <|
      gd (inB k (w.getD v.toNat []).length) <|
      some (decide (126 < (Int.ofNat ((w.getD v.toNat []).getD k.toNat 0).toNat))))) fun s2 =>
   bif s2 then (
    some (.inr (.inr false)))
   else (
    some (.inl (wi64 (k + 1)))))
  else (
   some (.inr (.inl ())))

noncomputable def ref03_proper_L0 (w : List (List UInt8)) (v : Int) : Option (Int ⊕ (Unit ⊕ Bool)) :=
  bif decide (v < (w.length : Int)) then (
   Option.bind (α := Bool) (
     gd (inB v w.length) <|
     bif decide (w.getD v.toNat [] = []) then (
      some true)
     else (
      bif decide (v = 0) then (
       gd (inB v w.length) <|
       gd (inB 0 (w.getD v.toNat []).length) <|
       some (decide ((Int.ofNat ((w.getD v.toNat []).getD 0 0).toNat) = 35)))
      else (
       some false))) fun s =>
   bif s then (
    some (.inr (.inr false)))
   else (
    (iter (fun x => ref03_proper_L1 w v x) 0).bind fun s3 =>
    s3.elim (fun s4 =>
     some (.inl (wi64 (v + 1))))
    (fun s5 =>
     some (.inr (.inr s5)))))
  else (
   some (.inr (.inl ())))

noncomputable def ref03_proper (w : List (List UInt8)) : Option (Bool) :=
  bif decide (16 < (w.length : Int)) then (
   some false)
  else (
   (iter (fun x2 => ref03_proper_L0 w x2) 0).bind fun s6 =>
   s6.elim (fun s7 =>
    some true)
   (fun s8 =>
    some s8))

noncomputable def fn_ref03_proper : Fun :=
  { f := 27, np := 1, nr := 1,
    ji := { regs := [(0, .one (.data (.sl (.str))))], vars := [], arrs := [] },
    jo := { regs := [(0, .one (.data (.bool)))], vars := [], arrs := [] },
    tw := fun x => ref03_proper x }
noncomputable def cx_ref03_proper : Cx := { Γ := types, ow := [], fs := [], N := 56 }
theorem ok_ref03_proper : FunOk Tryd.prog fn_ref03_proper :=
  FunOk.intro (C := cx_ref03_proper) (p := (.mk [] none .nil (.mk [] none .nil (.mk [] none (.mk [] none .nil (.mk [] none (.mk [] (some ({ regs := [(0, .one .keep), (9, .one .keep), (10, .one (.data (.int .i64)))], vars := [], arrs := [] }, [{ e := .x 0, j := { regs := [], vars := [], arrs := [] } }, { e := .r, j := { regs := [(2, .one (.data (.bool)))], vars := [], arrs := [] } }])) (.mk [] none .nil (.mk [] none .nil (.mk [] none (.mk [] none (.mk [] none .nil (.mk [] none (.mk [] none (.mk [.join [{ e := .n, j := { regs := [(0, .one .keep), (3, .one .keep), (9, .one .keep), (10, .one .keep), (29, .one (.data (.bool)))], vars := [], arrs := [] } }]] none .nil .nil) .nil) (.mk [] none .nil (.mk [] none (.mk [] (some ({ regs := [(0, .one .keep), (3, .one .keep), (4, .one (.data (.int .i64))), (9, .one .keep), (10, .one .keep)], vars := [], arrs := [] }, [{ e := .x 2, j := { regs := [(0, .one .keep), (9, .one .keep), (10, .one .keep)], vars := [], arrs := [] } }, { e := .r, j := { regs := [(2, .one (.data (.bool)))], vars := [], arrs := [] } }])) (.mk [] none .nil (.mk [] none (.mk [] none (.mk [] none (.mk [.join [{ e := .n, j := { regs := [(0, .one .keep), (3, .one .keep), (4, .one .keep), (9, .one .keep), (10, .one .keep), (54, .one (.data (.bool)))], vars := [], arrs := [] } }]] none .nil .nil) .nil) .nil) .nil)) .nil) .nil)))) .nil) .nil))) .nil) .nil)) .nil))))
    Tryd.func27 rfl nmr27 rfl rfl rfl rfl types_ok ⟨trivial, trivial⟩ mx (fun x => by kernel_rfl)

noncomputable def ref03_Line_L0 (w : List (List UInt8)) (s : List UInt8) (v : Int) : Option ((List UInt8 × Int) ⊕ (List UInt8)) :=
  bif decide (v < (w.length : Int)) then (
   Option.bind (α := List UInt8) (
     bif decide (0 < v) then (
      gd (Nat.ble (s.length + [32].length) 9223372036854775807) <|
      some (s ++ [32]))
     else (
      some s)) fun s2 =>
   gd (inB v w.length) <|
   gd (Nat.ble (s2.length + (w.getD v.toNat []).length) 9223372036854775807) <|
   some (.inl (s2 ++ (w.getD v.toNat []), wi64 (v + 1))))
  else (
   some (.inr s))

noncomputable def ref03_Line (w : List (List UInt8)) : Option (List UInt8) :=
  (iter (fun x => ref03_Line_L0 w x.1 x.2) ([], 0)).bind fun s3 =>
  some s3

noncomputable def fn_ref03_Line : Fun :=
  { f := 28, np := 1, nr := 1,
    ji := { regs := [(0, .one (.data (.sl (.str))))], vars := [], arrs := [] },
    jo := { regs := [(0, .one (.data (.str)))], vars := [], arrs := [] },
    tw := fun x => ref03_Line x }
noncomputable def cx_ref03_Line : Cx := { Γ := types, ow := [], fs := [], N := 22 }
theorem ok_ref03_Line : FunOk Tryd.prog fn_ref03_Line :=
  FunOk.intro (C := cx_ref03_Line) (p := (.mk [] none .nil (.mk [] none .nil (.mk [] none (.mk [] none .nil (.mk [] none (.mk [] (some ({ regs := [(0, .one .keep), (3, .one (.data (.str))), (6, .one .keep), (7, .one (.data (.int .i64)))], vars := [], arrs := [] }, [{ e := .x 0, j := { regs := [(3, .one (.data (.str)))], vars := [], arrs := [] } }])) (.mk [] none .nil (.mk [] none .nil (.mk [] none (.mk [] none (.mk [] none .nil (.mk [] none (.mk [] none .nil (.mk [.join [{ e := .n, j := { regs := [(0, .one .keep), (3, .one (.data (.str))), (4, .one .keep), (6, .one .keep), (7, .one .keep)], vars := [], arrs := [] } }]] none .nil .nil)) .nil)) .nil) .nil))) .nil) .nil)) .nil))))
    Tryd.func28 rfl nmr28 rfl rfl rfl rfl types_ok ⟨trivial, trivial⟩ mx (fun x => by kernel_rfl)

noncomputable def ref03_Join_L0 (l : List (List (List UInt8))) (v : Int) : Option (Int ⊕ (Unit ⊕ (List UInt8 × Int))) :=
  bif decide (v < (l.length : Int)) then (
   gd (inB v l.length) <|
   (ref03_proper (l.getD v.toNat [])).bind fun r =>
   bif !r then (
    some (.inr (.inr ([], 3))))
   else (
    some (.inl (wi64 (v + 1)))))
  else (
   some (.inr (.inl ())))

noncomputable def ref03_Join_L1 (l : List (List (List UInt8))) (s4 : List UInt8) (v2 : Int) : Option ((List UInt8 × Int) ⊕ ((List UInt8) ⊕ (List UInt8 × Int))) :=
  bif decide (v2 < (l.length : Int)) then (
   gd (inB v2 l.length) <|
   (ref03_Line (l.getD v2.toNat [])).bind fun r2 =>
   gd (Nat.ble (r2.length + [10].length) 9223372036854775807) <|
   gd (Nat.ble (s4.length + (r2 ++ [10]).length) 9223372036854775807) <|
   bif decide (16384 < ((s4 ++ (r2 ++ [10])).length : Int)) then (
    some (.inr (.inr ([], 4))))
   else (
    some (.inl (s4 ++ (r2 ++ [10]), wi64 (v2 + 1)))))
  else (
   some (.inr (.inl s4)))

noncomputable def ref03_Join (l : List (List (List UInt8))) : Option (List UInt8 × Int) :=
  bif decide (400 < (l.length : Int)) then (
   some ([], 4))
  else (
   (iter (fun x => ref03_Join_L0 l x) 0).bind fun s =>
   s.elim (fun s2 =>
    (iter (fun x2 => ref03_Join_L1 l x2.1 x2.2) ([], 0)).bind fun s5 =>
    s5.elim (fun s6 =>
     some (s6, 0))
    (fun s7 =>
     some (s7.1, s7.2)))
   (fun s3 =>
    some (s3.1, s3.2)))

noncomputable def fn_ref03_Join : Fun :=
  { f := 13, np := 1, nr := 2,
    ji := { regs := [(0, .one (.data (.sl (.sl (.str)))))], vars := [], arrs := [] },
    jo := { regs := [(0, .one (.data (.str))), (1, .one (.data (.int .i64)))], vars := [], arrs := [] },
    tw := fun x => ref03_Join x }
noncomputable def cx_ref03_Join : Cx := { Γ := types, ow := [], fs := [fn_ref03_proper, fn_ref03_Line], N := 40 }
theorem ok_ref03_Join : FunOk Tryd.prog fn_ref03_Join :=
  FunOk.intro (C := cx_ref03_Join) (p := (.mk [] none .nil (.mk [] none .nil (.mk [] none .nil (.mk [] none (.mk [] none .nil (.mk [] none (.mk [] (some ({ regs := [(0, .one .keep), (4, .one .keep), (11, .one .keep), (12, .one (.data (.int .i64)))], vars := [], arrs := [] }, [{ e := .x 0, j := { regs := [(0, .one .keep), (4, .one .keep)], vars := [], arrs := [] } }, { e := .r, j := { regs := [(2, .one (.data (.str))), (3, .one (.data (.int .i64)))], vars := [], arrs := [] } }])) .nil .nil) .nil)) (.mk [] none (.mk [] none .nil (.mk [] none (.mk [] (some ({ regs := [(0, .one .keep), (4, .one (.data (.str))), (23, .one .keep), (24, .one (.data (.int .i64)))], vars := [], arrs := [] }, [{ e := .x 2, j := { regs := [(4, .one (.data (.str)))], vars := [], arrs := [] } }, { e := .r, j := { regs := [(2, .one (.data (.str))), (3, .one (.data (.int .i64)))], vars := [], arrs := [] } }])) .nil .nil) .nil)) .nil))))))
    Tryd.func13 rfl nmr13 rfl rfl rfl rfl types_ok ⟨⟨ok_ref03_proper, ok_ref03_Line, trivial⟩, trivial⟩ mx (fun x => by kernel_rfl)

noncomputable def ref03_Lines_L0 (text : List UInt8) (vfrom : Int) (i : Int) (out : List (List UInt8)) : Option ((Int × Int × List (List UInt8)) ⊕ (Int × List (List UInt8))) :=
  bif decide (i < (text.length : Int)) then (
   gd (inB i text.length) <|
   Option.bind (α := Int × List (List UInt8)) (
     bif decide ((Int.ofNat (text.getD i.toNat 0).toNat) = 10) then (
      gd (inR vfrom i text.length) <|
      gd (fits (out.length + 1) 16) <|
      some (wi64 (i + 1), out ++ [(text.take i.toNat).drop vfrom.toNat]))
     else (
      some (vfrom, out))) fun s =>
   some (.inl (s.1, wi64 (i + 1), s.2)))
  else (
   some (.inr (vfrom, out)))

noncomputable def ref03_Lines (text : List UInt8) : Option (List (List UInt8)) :=
  (iter (fun x => ref03_Lines_L0 text x.1 x.2.1 x.2.2) (0, 0, [])).bind fun s2 =>
  bif decide (s2.1 < (text.length : Int)) then (
   gd (cutG (some (.i64, s2.1)) none text.length) <|
   gd (fits (s2.2.length + 1) 16) <|
   some (s2.2 ++ [text.drop s2.1.toNat]))
  else (
   some s2.2)

noncomputable def fn_ref03_Lines : Fun :=
  { f := 34, np := 1, nr := 1,
    ji := { regs := [(0, .one (.data (.str)))], vars := [], arrs := [] },
    jo := { regs := [(0, .one (.own 0))], vars := [], arrs := [(0, .arr 9 (.str))] },
    tw := fun x => ref03_Lines x }
noncomputable def cx_ref03_Lines : Cx := { Γ := types, ow := [], fs := [], N := 36 }
theorem ok_ref03_Lines : FunOk Tryd.prog fn_ref03_Lines :=
  FunOk.intro (C := cx_ref03_Lines) (p := (.mk [] none .nil (.mk [] none .nil (.mk [] none .nil (.mk [] none (.mk [] none .nil (.mk [] none (.mk [] (some ({ regs := [(0, .one .keep), (3, .one (.own 75)), (4, .one (.data (.int .i64))), (5, .one (.data (.int .i64)))], vars := [], arrs := [(75, .arr 9 (.str))] }, [{ e := .x 0, j := { regs := [(0, .one .keep), (3, .one (.own 75)), (4, .one (.data (.int .i64)))], vars := [], arrs := [(75, .arr 9 (.str))] } }])) (.mk [] none .nil (.mk [] none (.mk [] none (.mk [] none .nil (.mk [.join [{ e := .n, j := { regs := [(0, .one .keep), (3, .one (.own 75)), (4, .one (.data (.int .i64))), (5, .one .keep)], vars := [], arrs := [(75, .arr 9 (.str))] } }]] none .nil .nil)) .nil) .nil)) .nil) .nil)) .nil)))))
    Tryd.func34 rfl nmr34 rfl rfl rfl rfl types_ok ⟨trivial, trivial⟩ mx (fun x => by kernel_rfl)

noncomputable def ref03_cut_L0 (s : List UInt8) (vfrom : Int) (i : Int) (out : List (List UInt8)) : Option ((Int × Int × List (List UInt8)) ⊕ (List (List UInt8))) :=
  bif decide (i ≤ (s.length : Int)) then (
   Option.bind (α := Bool × List (List UInt8)) (
     bif decide (i = (s.length : Int)) then (
      some (true, out))
     else (
      gd (inB i s.length) <|
      some (decide ((Int.ofNat (s.getD i.toNat 0).toNat) = 32), out))) fun s2 =>
   Option.bind (α := Int × List (List UInt8)) (
     bif s2.1 then (
      gd (inR vfrom i s.length) <|
      gd (fits (s2.2.length + 1) 16) <|
      some (wi64 (i + 1), s2.2 ++ [(s.take i.toNat).drop vfrom.toNat]))
     else (
      some (vfrom, s2.2))) fun s3 =>
   some (.inl (s3.1, wi64 (i + 1), s3.2)))
  else (
   some (.inr out))

noncomputable def ref03_cut (s : List UInt8) : Option (List (List UInt8)) :=
  (iter (fun x => ref03_cut_L0 s x.1 x.2.1 x.2.2) (0, 0, [])).bind fun s4 =>
  some s4

noncomputable def fn_ref03_cut : Fun :=
  { f := 35, np := 1, nr := 1,
    ji := { regs := [(0, .one (.data (.str)))], vars := [], arrs := [] },
    jo := { regs := [(0, .one (.own 0))], vars := [], arrs := [(0, .arr 9 (.str))] },
    tw := fun x => ref03_cut x }
noncomputable def cx_ref03_cut : Cx := { Γ := types, ow := [], fs := [], N := 32 }
theorem ok_ref03_cut : FunOk Tryd.prog fn_ref03_cut :=
  FunOk.intro (C := cx_ref03_cut) (p := (.mk [] none .nil (.mk [] none .nil (.mk [] none .nil (.mk [] none (.mk [] none .nil (.mk [] none (.mk [] (some ({ regs := [(0, .one .keep), (3, .one (.own 75)), (4, .one (.data (.int .i64))), (5, .one (.data (.int .i64)))], vars := [], arrs := [(75, .arr 9 (.str))] }, [{ e := .x 0, j := { regs := [(3, .one (.own 75))], vars := [], arrs := [(75, .arr 9 (.str))] } }])) (.mk [] none .nil (.mk [] none (.mk [] none (.mk [] none (.mk [.join [{ e := .n, j := { regs := [(0, .one .keep), (3, .one (.own 75)), (4, .one .keep), (5, .one .keep), (21, .one (.data (.bool)))], vars := [], arrs := [(75, .arr 9 (.str))] } }]] none .nil .nil) (.mk [.join [{ e := .n, j := { regs := [(0, .one .keep), (3, .one (.own 75)), (4, .one (.data (.int .i64))), (5, .one .keep)], vars := [], arrs := [(75, .arr 9 (.str))] } }]] none .nil .nil)) .nil) .nil)) .nil) .nil)) .nil)))))
    Tryd.func35 rfl nmr35 rfl rfl rfl rfl types_ok ⟨trivial, trivial⟩ mx (fun x => by kernel_rfl)

noncomputable def ref03_Split_L0 (r : List (List UInt8)) (v : Int) (l : List (List UInt8)) (out : List (List (List UInt8))) : Option ((Int × List (List UInt8) × List (List (List UInt8))) ⊕ ((List (List (List UInt8))) ⊕ (List (List (List UInt8)) × Int))) :=
  bif decide (v < (r.length : Int)) then (
   Option.bind (α := (List (List UInt8) × List (List (List UInt8))) ⊕ (List (List (List UInt8)) × Int)) (
     Option.bind (α := Bool × List (List UInt8) × List (List (List UInt8))) (
       gd (inB v l.length) <|
       bif decide (l.getD v.toNat [] = []) then (
        some (true, l, out))
       else (
        gd (inB v l.length) <|
        gd (inB 0 (l.getD v.toNat []).length) <|
        some (decide ((Int.ofNat ((l.getD v.toNat []).getD 0 0).toNat) = 35), l, out))) fun s =>
     bif s.1 then (
      gd (fits (s.2.2.length + 1) 24) <|
      some (.inl (s.2.1, s.2.2 ++ [[]])))
     else (
      gd (inB v s.2.1.length) <|
      (ref03_cut (s.2.1.getD v.toNat [])).bind fun r2 =>
      (ref03_proper r2).bind fun r3 =>
      bif !r3 then (
       some (.inr ([], 3)))
      else (
       gd (fits (s.2.2.length + 1) 24) <|
       some (.inl (s.2.1, s.2.2 ++ [r2]))))) fun s2 =>
   s2.elim (fun s3 =>
    some (.inl (wi64 (v + 1), s3.1, s3.2)))
   (fun s4 =>
    some (.inr (.inr (s4.1, s4.2)))))
  else (
   some (.inr (.inl out)))

noncomputable def ref03_Split (text : List UInt8) : Option (List (List (List UInt8)) × Int) :=
  bif decide (16384 < (text.length : Int)) then (
   some ([], 4))
  else (
   (ref03_Lines text).bind fun r =>
   bif decide (400 < (r.length : Int)) then (
    some ([], 4))
   else (
    (iter (fun x => ref03_Split_L0 r x.1 x.2.1 x.2.2) (0, r, [])).bind fun s5 =>
    s5.elim (fun s6 =>
     some (s6, 0))
    (fun s7 =>
     some (s7.1, s7.2))))

noncomputable def fn_ref03_Split : Fun :=
  { f := 15, np := 1, nr := 2,
    ji := { regs := [(0, .one (.data (.str)))], vars := [], arrs := [] },
    jo := { regs := [(0, .one (.data (.sl (.sl (.str))))), (1, .one (.data (.int .i64)))], vars := [], arrs := [] },
    tw := fun x => ref03_Split x }
noncomputable def cx_ref03_Split : Cx := { Γ := types, ow := [], fs := [fn_ref03_Lines, fn_ref03_cut, fn_ref03_proper], N := 51 }
theorem ok_ref03_Split : FunOk Tryd.prog fn_ref03_Split :=
  FunOk.intro (C := cx_ref03_Split) (p := (.mk [] none .nil (.mk [] none .nil (.mk [] none .nil (.mk [] none .nil (.mk [] none .nil (.mk [] none (.mk [] none .nil (.mk [] none (.mk [] (some ({ regs := [(4, .one (.own 208)), (5, .one (.own 107)), (17, .one .keep), (18, .one (.data (.int .i64)))], vars := [], arrs := [(208, .arr 9 (.str)), (107, .arr 30 (.sl (.str)))] }, [{ e := .x 0, j := { regs := [(5, .one (.own 107))], vars := [], arrs := [(107, .arr 30 (.sl (.str)))] } }, { e := .r, j := { regs := [(2, .one (.data (.sl (.sl (.str))))), (3, .one (.data (.int .i64)))], vars := [], arrs := [] } }])) (.mk [] none .nil (.mk [] none .nil (.mk [] none (.mk [.join [{ e := .n, j := { regs := [(4, .one (.own 208)), (5, .one (.own 107)), (17, .one .keep), (18, .one .keep)], vars := [], arrs := [(208, .arr 9 (.str)), (107, .arr 30 (.sl (.str)))] } }, { e := .r, j := { regs := [(2, .one (.data (.sl (.sl (.str))))), (3, .one (.data (.int .i64)))], vars := [], arrs := [] } }]] none (.mk [] none .nil (.mk [] none (.mk [] none (.mk [.join [{ e := .n, j := { regs := [(4, .one (.own 208)), (5, .one (.own 107)), (6, .one .keep), (17, .one .keep), (18, .one .keep), (33, .one (.data (.bool)))], vars := [], arrs := [(208, .arr 9 (.str)), (107, .arr 30 (.sl (.str)))] } }]] none .nil .nil) .nil) (.mk [] none .nil (.mk [] none .nil (.mk [.fz [7]] none .nil .nil))))) .nil) .nil))) .nil) .nil)) .nil)))))))
    Tryd.func15 rfl nmr15 rfl rfl rfl rfl types_ok ⟨⟨ok_ref03_Lines, ok_ref03_cut, ok_ref03_proper, trivial⟩, trivial⟩ mx (fun x => by kernel_rfl)

noncomputable def fn_strings_Join : Fun := funJoin 37
theorem ok_strings_Join : FunOk Tryd.prog fn_strings_Join := join_ok ⟨_, Tryd.func37, nmr37, rfl⟩ Tryd.strings_Join_none Tryd.strings_Join

def ccT (l : List Int) : Option (List Int) := some l
noncomputable def fn_strings_Builder_copyCheck : Fun := funCC 51 66 5
theorem ok_strings_Builder_copyCheck : FunOk Tryd.prog fn_strings_Builder_copyCheck := cc_ok ⟨_, Tryd.func51, nmr51, rfl⟩ Tryd.cc_fresh Tryd.cc_used

noncomputable def strings_Builder_WriteString (s : List UInt8) (b : List Int) : Option (Int × Bool × List Int) :=
  (ccT b).bind fun r =>
  gd (Nat.blt 0 s.length && fits (r.length + s.length) 1) <|
  some ((s.length : Int), false, r ++ ofBytes s)

noncomputable def fn_strings_Builder_WriteString : Fun :=
  { f := 36, np := 2, nr := 2,
    ji := { regs := [(0, .one (.ptr 0 0)), (1, .one (.data (.str)))], vars := [(0, 66, [.nptr 0 0, .own 1])], arrs := [(1, .arr 5 (.int .u8))] },
    jo := { regs := [(0, .one (.data (.int .i64))), (1, .one (.data (.err)))], vars := [(0, 66, [.ptr 0 0, .own 2])], arrs := [(2, .arr 5 (.int .u8))] },
    tw := fun x => strings_Builder_WriteString x.1 x.2 }
noncomputable def cx_strings_Builder_WriteString : Cx := { Γ := types, ow := [], fs := [fn_strings_Builder_copyCheck], N := 19 }
theorem ok_strings_Builder_WriteString : FunOk Tryd.prog fn_strings_Builder_WriteString :=
  FunOk.intro (C := cx_strings_Builder_WriteString) (p := .nil)
    Tryd.func36 rfl nmr36 rfl rfl rfl rfl types_ok ⟨⟨ok_strings_Builder_copyCheck, trivial⟩, trivial⟩ mx (fun x => by kernel_rfl)

noncomputable def strings_Builder_Len (b : List Int) : Option (Int × List Int) :=
  some ((b.length : Int), b)

noncomputable def fn_strings_Builder_Len : Fun :=
  { f := 38, np := 1, nr := 1,
    ji := { regs := [(0, .one (.ptr 0 0))], vars := [(0, 66, [.nptr 0 0, .own 1])], arrs := [(1, .arr 5 (.int .u8))] },
    jo := { regs := [(0, .one (.data (.int .i64)))], vars := [(0, 66, [.nptr 0 0, .own 1])], arrs := [(1, .arr 5 (.int .u8))] },
    tw := fun x => strings_Builder_Len x }
noncomputable def cx_strings_Builder_Len : Cx := { Γ := types, ow := [], fs := [], N := 8 }
theorem ok_strings_Builder_Len : FunOk Tryd.prog fn_strings_Builder_Len :=
  FunOk.intro (C := cx_strings_Builder_Len) (p := .nil)
    Tryd.func38 rfl nmr38 rfl rfl rfl rfl types_ok ⟨trivial, trivial⟩ mx (fun x => by kernel_rfl)

noncomputable def strings_Builder_String (b : List Int) : Option (List UInt8) :=
  gd (Nat.blt 0 b.length) <|
  gd (Nat.blt 0 b.length && (decide ((b.length : Int) = (b.length : Int)) && decide (ofBytes (toBytes b) = b))) <|
  some (toBytes b)

noncomputable def fn_strings_Builder_String : Fun :=
  { f := 39, np := 1, nr := 1,
    ji := { regs := [(0, .one (.ptr 0 0))], vars := [(0, 66, [.nptr 0 0, .own 1])], arrs := [(1, .arr 5 (.int .u8))] },
    jo := { regs := [(0, .one (.data (.str)))], vars := [], arrs := [] },
    tw := fun x => strings_Builder_String x }
noncomputable def cx_strings_Builder_String : Cx := { Γ := types, ow := [], fs := [], N := 14 }
theorem ok_strings_Builder_String : FunOk Tryd.prog fn_strings_Builder_String :=
  FunOk.intro (C := cx_strings_Builder_String) (p := .nil)
    Tryd.func39 rfl nmr39 rfl rfl rfl rfl types_ok ⟨trivial, trivial⟩ mx (fun x => by kernel_rfl)

noncomputable def strings_Builder_String_nil : Option (List UInt8) :=
  gd (decide (0 = 0)) <|
  some []

noncomputable def fn_strings_Builder_String_nil : Fun :=
  { f := 39, np := 1, nr := 1,
    ji := { regs := [(0, .one (.ptr 0 0))], vars := [(0, 66, [.nptr 0 0, .nil])], arrs := [] },
    jo := { regs := [(0, .one (.data (.str)))], vars := [], arrs := [] },
    tw := fun x => strings_Builder_String_nil }
noncomputable def cx_strings_Builder_String_nil : Cx := { Γ := types, ow := [], fs := [], N := 14 }
theorem ok_strings_Builder_String_nil : FunOk Tryd.prog fn_strings_Builder_String_nil :=
  FunOk.intro (C := cx_strings_Builder_String_nil) (p := .nil)
    Tryd.func39 rfl nmr39 rfl rfl rfl rfl types_ok ⟨trivial, trivial⟩ mx (fun x => by kernel_rfl)

noncomputable def strings_Builder_Len_nil : Option (Int) :=
  some 0

noncomputable def fn_strings_Builder_Len_nil : Fun :=
  { f := 38, np := 1, nr := 1,
    ji := { regs := [(0, .one (.ptr 0 0))], vars := [(0, 66, [.nptr 0 0, .nil])], arrs := [] },
    jo := { regs := [(0, .one (.data (.int .i64)))], vars := [(0, 66, [.nptr 0 0, .nil])], arrs := [] },
    tw := fun x => strings_Builder_Len_nil }
noncomputable def cx_strings_Builder_Len_nil : Cx := { Γ := types, ow := [], fs := [], N := 8 }
theorem ok_strings_Builder_Len_nil : FunOk Tryd.prog fn_strings_Builder_Len_nil :=
  FunOk.intro (C := cx_strings_Builder_Len_nil) (p := .nil)
    Tryd.func38 rfl nmr38 rfl rfl rfl rfl types_ok ⟨trivial, trivial⟩ mx (fun x => by kernel_rfl)

noncomputable def lines_JoinE_L1 (l : List (List (List UInt8))) (v : Int) (n2 : Int) (v2 : Int) : Option ((Int × Int) ⊕ Int) :=
  bif decide (v2 < ((l.getD v.toNat []).length : Int)) then (
   gd (inB v2 (l.getD v.toNat []).length) <|
   Option.bind (α := Int) (
     bif decide (32768 < wi64 (n2 + (((l.getD v.toNat []).getD v2.toNat []).length : Int))) then (
      some 32768)
     else (
      some (wi64 (n2 + (((l.getD v.toNat []).getD v2.toNat []).length : Int))))) fun s2 =>
   some (.inl (s2, wi64 (v2 + 1))))
  else (
   some (.inr n2))

noncomputable def lines_JoinE_L0 (l : List (List (List UInt8))) (n : Int) (v : Int) : Option ((Int × Int) ⊕ (Int ⊕ (List UInt8 × Int))) :=
  bif decide (v < (l.length : Int)) then (
   gd (inB v l.length) <|
   Option.bind (α := Bool) (
     bif decide (0 < ((l.getD v.toNat []).length : Int)) then (
      (lines_words (l.getD v.toNat [])).bind fun r =>
      some (!r))
     else (
      some false)) fun s =>
   bif s then (
    some (.inr (.inr ([], 3))))
   else (
    (iter (fun x => lines_JoinE_L1 l v x.1 x.2) (wi64 (n + ((l.getD v.toNat []).length : Int)), 0)).bind fun s3 =>
    some (.inl (s3, wi64 (v + 1)))))
  else (
   some (.inr (.inl n)))

noncomputable def lines_JoinE_L2 (l : List (List (List UInt8))) (s5 : Int) (v3 : Int) : Option (Int ⊕ Unit) :=
  bif decide (v3 < (l.length : Int)) then (
   gd (inB v3 l.length) <|
   Option.bind (α := Unit) (
     bif decide (s5 < 32768) then (
      (joinT (l.getD v3.toNat []) [32]).bind fun r2 =>
      gd (Nat.ble (r2.length + [10].length) 9223372036854775807) <|
      none)
     else (
      some ())) fun s7 =>
   some (.inl (wi64 (v3 + 1))))
  else (
   some (.inr ()))

noncomputable def lines_JoinE (l : List (List (List UInt8))) : Option (List UInt8 × Int) :=
  bif decide (400 < (l.length : Int)) then (
   some ([], 4))
  else (
   (iter (fun x2 => lines_JoinE_L0 l x2.1 x2.2) (0, 0)).bind fun s4 =>
   s4.elim (fun s5 =>
    (iter (fun x3 => lines_JoinE_L2 l s5 x3) 0).bind fun s8 =>
    Option.bind (α := Bool) (
      bif decide (s5 = 32768) then (
       some true)
      else (
       (strings_Builder_Len_nil).bind fun r3 =>
       some (decide (16384 < r3)))) fun s9 =>
    bif s9 then (
     some ([], 4))
    else (
     (strings_Builder_String_nil).bind fun r4 =>
     some (r4, 0)))
   (fun s6 =>
    some (s6.1, s6.2)))

noncomputable def fn_lines_JoinE : Fun :=
  { f := 17, np := 1, nr := 2,
    ji := { regs := [(0, .one (.data (.sl (.sl (.str)))))], vars := [], arrs := [] },
    jo := { regs := [(0, .one (.data (.str))), (1, .one (.data (.int .i64)))], vars := [], arrs := [] },
    tw := fun x => lines_JoinE x }
noncomputable def cx_lines_JoinE : Cx := { Γ := types, ow := [], fs := [fn_lines_words, fn_strings_Join, fn_strings_Builder_Len_nil, fn_strings_Builder_String_nil], N := 67 }
theorem ok_lines_JoinE : FunOk Tryd.prog fn_lines_JoinE :=
  FunOk.intro (C := cx_lines_JoinE) (p := (.mk [] none .nil (.mk [] none .nil (.mk [] none .nil (.mk [] none (.mk [] none .nil (.mk [] none (.mk [] (some ({ regs := [(0, .one .keep), (4, .one (.data (.int .i64))), (15, .one .keep), (16, .one .keep), (17, .one (.data (.int .i64)))], vars := [], arrs := [] }, [{ e := .x 0, j := { regs := [(0, .one .keep), (4, .one (.data (.int .i64)))], vars := [], arrs := [] } }, { e := .r, j := { regs := [(2, .one (.data (.str))), (3, .one (.data (.int .i64)))], vars := [], arrs := [] } }])) (.mk [] none .nil (.mk [] none .nil (.mk [] none (.mk [] none (.mk [] none .nil (.mk [] none (.mk [] none (.mk [.join [{ e := .n, j := { regs := [(0, .one .keep), (4, .one .keep), (6, .one .keep), (15, .one .keep), (16, .one .keep), (17, .one .keep), (28, .one (.data (.bool)))], vars := [], arrs := [] } }]] none .nil .nil) .nil) (.mk [] none .nil (.mk [] none .nil (.mk [] none (.mk [] (some ({ regs := [(0, .one .keep), (4, .one (.data (.int .i64))), (15, .one .keep), (16, .one .keep), (17, .one .keep), (33, .one .keep), (34, .one .keep), (35, .one (.data (.int .i64)))], vars := [], arrs := [] }, [{ e := .x 2, j := { regs := [(0, .one .keep), (4, .one (.data (.int .i64))), (15, .one .keep), (16, .one .keep), (17, .one .keep)], vars := [], arrs := [] } }])) (.mk [] none .nil (.mk [] none .nil (.mk [] none (.mk [] none (.mk [] none .nil (.mk [] none .nil (.mk [] none .nil (.mk [.join [{ e := .n, j := { regs := [(0, .one .keep), (4, .one (.data (.int .i64))), (15, .one .keep), (16, .one .keep), (17, .one .keep), (33, .one .keep), (34, .one .keep), (35, .one .keep)], vars := [], arrs := [] } }]] none .nil .nil)))) .nil) .nil))) .nil) .nil))))) .nil) .nil))) .nil) .nil)) (.mk [] none .nil (.mk [] none (.mk [] none .nil (.mk [] none (.mk [] (some ({ regs := [(4, .one .keep), (9, .one (.ptr 160 0)), (47, .one .keep), (48, .one .keep), (49, .one (.data (.int .i64)))], vars := [(160, 66, [.keep, .nil])], arrs := [] }, [{ e := .x 4, j := { regs := [(4, .one .keep), (9, .one (.ptr 160 0))], vars := [(160, 66, [.keep, .nil])], arrs := [] } }])) (.mk [] none .nil (.mk [] none .nil (.mk [] none (.mk [] none (.mk [] none .nil (.mk [] none .nil (.mk [.join [{ e := .n, j := { regs := [(4, .one .keep), (9, .one (.ptr 160 0)), (47, .one .keep), (48, .one .keep), (49, .one .keep)], vars := [(160, 66, [.keep, .nil])], arrs := [] } }]] none .nil .nil))) .nil) .nil))) .nil) .nil)) (.mk [] none (.mk [] none (.mk [.join [{ e := .n, j := { regs := [(9, .one (.ptr 160 0)), (65, .one (.data (.bool)))], vars := [(160, 66, [.nptr 160 0, .nil])], arrs := [] } }]] none .nil .nil) .nil) .nil))))))))
    Tryd.func17 rfl nmr17 rfl rfl rfl rfl types_ok ⟨⟨ok_lines_words, ok_strings_Join, ok_strings_Builder_Len_nil, ok_strings_Builder_String_nil, trivial⟩, trivial⟩ mx (fun x => by kernel_rfl)

noncomputable def lines_JoinB_L1 (l : List (List (List UInt8))) (v : Int) (n2 : Int) (v2 : Int) : Option ((Int × Int) ⊕ Int) :=
  bif decide (v2 < ((l.getD v.toNat []).length : Int)) then (
   gd (inB v2 (l.getD v.toNat []).length) <|
   Option.bind (α := Int) (
     bif decide (32768 < wi64 (n2 + (((l.getD v.toNat []).getD v2.toNat []).length : Int))) then (
      some 32768)
     else (
      some (wi64 (n2 + (((l.getD v.toNat []).getD v2.toNat []).length : Int))))) fun s2 =>
   some (.inl (s2, wi64 (v2 + 1))))
  else (
   some (.inr n2))

noncomputable def lines_JoinB_L0 (l : List (List (List UInt8))) (n : Int) (v : Int) : Option ((Int × Int) ⊕ (Int ⊕ (List UInt8 × Int))) :=
  bif decide (v < (l.length : Int)) then (
   gd (inB v l.length) <|
   Option.bind (α := Bool) (
     bif decide (0 < ((l.getD v.toNat []).length : Int)) then (
      (lines_words (l.getD v.toNat [])).bind fun r =>
      some (!r))
     else (
      some false)) fun s =>
   bif s then (
    some (.inr (.inr ([], 3))))
   else (
    (iter (fun x => lines_JoinB_L1 l v x.1 x.2) (wi64 (n + ((l.getD v.toNat []).length : Int)), 0)).bind fun s3 =>
    some (.inl (s3, wi64 (v + 1)))))
  else (
   some (.inr (.inl n)))

noncomputable def lines_JoinB_L2 (l : List (List (List UInt8))) (s5 : Int) (v3 : Int) (b : List Int) : Option ((Int × List Int) ⊕ (List Int)) :=
  bif decide (v3 < (l.length : Int)) then (
   gd (inB v3 l.length) <|
   Option.bind (α := List Int) (
     bif decide (s5 < 32768) then (
      (joinT (l.getD v3.toNat []) [32]).bind fun r2 =>
      gd (Nat.ble (r2.length + [10].length) 9223372036854775807) <|
      (strings_Builder_WriteString (r2 ++ [10]) b).bind fun r3 =>
      some r3.2.2)
     else (
      some b)) fun s7 =>
   some (.inl (wi64 (v3 + 1), s7)))
  else (
   some (.inr b))

noncomputable def lines_JoinB (l : List (List (List UInt8))) : Option (List UInt8 × Int) :=
  bif decide (400 < (l.length : Int)) then (
   some ([], 4))
  else (
   (iter (fun x2 => lines_JoinB_L0 l x2.1 x2.2) (0, 0)).bind fun s4 =>
   s4.elim (fun s5 =>
    (iter (fun x3 => lines_JoinB_L2 l s5 x3.1 x3.2) (0, [])).bind fun s8 =>
    Option.bind (α := Bool × List Int) (
      bif decide (s5 = 32768) then (
       some (true, s8))
      else (
       (strings_Builder_Len s8).bind fun r4 =>
       some (decide (16384 < r4.1), r4.2))) fun s9 =>
    bif s9.1 then (
     some ([], 4))
    else (
     (strings_Builder_String s9.2).bind fun r5 =>
     some (r5, 0)))
   (fun s6 =>
    some (s6.1, s6.2)))

noncomputable def fn_lines_JoinB : Fun :=
  { f := 17, np := 1, nr := 2,
    ji := { regs := [(0, .one (.data (.sl (.sl (.str)))))], vars := [], arrs := [] },
    jo := { regs := [(0, .one (.data (.str))), (1, .one (.data (.int .i64)))], vars := [], arrs := [] },
    tw := fun x => lines_JoinB x }
noncomputable def cx_lines_JoinB : Cx := { Γ := types, ow := [], fs := [fn_lines_words, fn_strings_Join, fn_strings_Builder_WriteString, fn_strings_Builder_Len, fn_strings_Builder_String], N := 67 }
theorem ok_lines_JoinB : FunOk Tryd.prog fn_lines_JoinB :=
  FunOk.intro (C := cx_lines_JoinB) (p := (.mk [] none .nil (.mk [] none .nil (.mk [] none .nil (.mk [] none (.mk [] none .nil (.mk [] none (.mk [] (some ({ regs := [(0, .one .keep), (4, .one (.data (.int .i64))), (15, .one .keep), (16, .one .keep), (17, .one (.data (.int .i64)))], vars := [], arrs := [] }, [{ e := .x 0, j := { regs := [(0, .one .keep), (4, .one (.data (.int .i64)))], vars := [], arrs := [] } }, { e := .r, j := { regs := [(2, .one (.data (.str))), (3, .one (.data (.int .i64)))], vars := [], arrs := [] } }])) (.mk [] none .nil (.mk [] none .nil (.mk [] none (.mk [] none (.mk [] none .nil (.mk [] none (.mk [] none (.mk [.join [{ e := .n, j := { regs := [(0, .one .keep), (4, .one .keep), (6, .one .keep), (15, .one .keep), (16, .one .keep), (17, .one .keep), (28, .one (.data (.bool)))], vars := [], arrs := [] } }]] none .nil .nil) .nil) (.mk [] none .nil (.mk [] none .nil (.mk [] none (.mk [] (some ({ regs := [(0, .one .keep), (4, .one (.data (.int .i64))), (15, .one .keep), (16, .one .keep), (17, .one .keep), (33, .one .keep), (34, .one .keep), (35, .one (.data (.int .i64)))], vars := [], arrs := [] }, [{ e := .x 2, j := { regs := [(0, .one .keep), (4, .one (.data (.int .i64))), (15, .one .keep), (16, .one .keep), (17, .one .keep)], vars := [], arrs := [] } }])) (.mk [] none .nil (.mk [] none .nil (.mk [] none (.mk [] none (.mk [] none .nil (.mk [] none .nil (.mk [] none .nil (.mk [.join [{ e := .n, j := { regs := [(0, .one .keep), (4, .one (.data (.int .i64))), (15, .one .keep), (16, .one .keep), (17, .one .keep), (33, .one .keep), (34, .one .keep), (35, .one .keep)], vars := [], arrs := [] } }]] none .nil .nil)))) .nil) .nil))) .nil) .nil))))) .nil) .nil))) .nil) .nil)) (.mk [] none .nil (.mk [] none (.mk [] none .nil (.mk [] none (.mk [] (some ({ regs := [(4, .one .keep), (9, .one (.ptr 160 0)), (47, .one .keep), (48, .one .keep), (49, .one (.data (.int .i64)))], vars := [(160, 66, [.nptr 160 0, .own 2601])], arrs := [(2601, .arr 5 (.int .u8))] }, [{ e := .x 4, j := { regs := [(4, .one .keep), (9, .one (.ptr 160 0))], vars := [(160, 66, [.nptr 160 0, .own 2601])], arrs := [(2601, .arr 5 (.int .u8))] } }])) (.mk [] none .nil (.mk [] none .nil (.mk [] none (.mk [] none (.mk [] none .nil (.mk [] none .nil (.mk [.join [{ e := .n, j := { regs := [(4, .one .keep), (9, .one (.ptr 160 0)), (47, .one .keep), (48, .one .keep), (49, .one .keep)], vars := [(160, 66, [.nptr 160 0, .own 2601])], arrs := [(2601, .arr 5 (.int .u8))] } }]] none .nil .nil))) .nil) .nil))) .nil) .nil)) (.mk [] none (.mk [] none (.mk [.join [{ e := .n, j := { regs := [(9, .one (.ptr 160 0)), (65, .one (.data (.bool)))], vars := [(160, 66, [.nptr 160 0, .own 2601])], arrs := [(2601, .arr 5 (.int .u8))] } }]] none .nil .nil) .nil) .nil))))))))
    Tryd.func17 rfl nmr17 rfl rfl rfl rfl types_ok ⟨⟨ok_lines_words, ok_strings_Join, ok_strings_Builder_WriteString, ok_strings_Builder_Len, ok_strings_Builder_String, trivial⟩, trivial⟩ mx (fun x => by kernel_rfl)

noncomputable def lines_Join (l : List (List (List UInt8))) : Option (List UInt8 × Int) := bif isNilL l then lines_JoinE l else lines_JoinB l
noncomputable def fn_lines_Join : Fun := { f := fn_lines_JoinE.f, np := fn_lines_JoinE.np, nr := fn_lines_JoinE.nr, ji := fn_lines_JoinE.ji, jo := fn_lines_JoinE.jo, tw := fun x => lines_Join x }
theorem ok_lines_Join : FunOk Tryd.prog fn_lines_Join := FunOk.bif (e0 := fn_lines_JoinE) ok_lines_JoinE (c := fun x => isNilL x) (tw := fun x => lines_JoinB x) ok_lines_JoinB

noncomputable def ref03_Number_L0 (s3 : List UInt8) (i : Int) : Option (Int ⊕ (Unit ⊕ (Int × Int))) :=
  bif decide (i < (s3.length : Int)) then (
   Option.bind (α := Bool) (
     gd (inB i s3.length) <|
     bif decide ((Int.ofNat (s3.getD i.toNat 0).toNat) < 48) then (
      some true)
     else (
      gd (inB i s3.length) <|
      some (decide (57 < (Int.ofNat (s3.getD i.toNat 0).toNat))))) fun s5 =>
   bif s5 then (
    some (.inr (.inr (0, 3))))
   else (
    some (.inl (wi64 (i + 1)))))
  else (
   some (.inr (.inl ())))

noncomputable def ref03_Number_L1 (s3 : List UInt8) (n : Int) (i2 : Int) : Option ((Int × Int) ⊕ (Int ⊕ (Int × Int))) :=
  bif decide (i2 < (s3.length : Int)) then (
   gd (inB i2 s3.length) <|
   bif decide (9007199254740992 < wi64 ((wi64 (n * 10)) + (wi64 (wu8 ((Int.ofNat (s3.getD i2.toNat 0).toNat) - 48))))) then (
    some (.inr (.inr (0, 1))))
   else (
    some (.inl (wi64 ((wi64 (n * 10)) + (wi64 (wu8 ((Int.ofNat (s3.getD i2.toNat 0).toNat) - 48)))), wi64 (i2 + 1)))))
  else (
   some (.inr (.inl n)))

noncomputable def ref03_Number (s : List UInt8) : Option (Int × Int) :=
  Option.bind (α := Bool) (
    bif decide (0 < (s.length : Int)) then (
     gd (inB 0 s.length) <|
     some (decide ((Int.ofNat (s.getD 0 0).toNat) = 45)))
    else (
     some false)) fun s2 =>
  Option.bind (α := List UInt8) (
    bif s2 then (
     gd (cutG (some (.i64, 1)) none s.length) <|
     some (s.drop 1))
    else (
     some s)) fun s3 =>
  Option.bind (α := Bool) (
    bif decide (s3 = []) then (
     some true)
    else (
     gd (inB 0 s3.length) <|
     bif decide ((Int.ofNat (s3.getD 0 0).toNat) = 48) then (
      bif decide (1 < (s3.length : Int)) then (
       some true)
      else (
       some s2))
     else (
      some false))) fun s4 =>
  bif s4 then (
   some (0, 3))
  else (
   (iter (fun x => ref03_Number_L0 s3 x) 0).bind fun s6 =>
   s6.elim (fun s7 =>
    (iter (fun x2 => ref03_Number_L1 s3 x2.1 x2.2) (0, 0)).bind fun s9 =>
    s9.elim (fun s10 =>
     Option.bind (α := Int) (
       bif s2 then (
        some (wi64 (0 - s10)))
       else (
        some s10)) fun s12 =>
     some (s12, 0))
    (fun s11 =>
     some (s11.1, s11.2)))
   (fun s8 =>
    some (s8.1, s8.2)))

noncomputable def fn_ref03_Number : Fun :=
  { f := 19, np := 1, nr := 2,
    ji := { regs := [(0, .one (.data (.str)))], vars := [], arrs := [] },
    jo := { regs := [(0, .one (.data (.int .i64))), (1, .one (.data (.int .i64)))], vars := [], arrs := [] },
    tw := fun x => ref03_Number x }
noncomputable def cx_ref03_Number : Cx := { Γ := types, ow := [], fs := [], N := 72 }
theorem ok_ref03_Number : FunOk Tryd.prog fn_ref03_Number :=
  FunOk.intro (C := cx_ref03_Number) (p := (.mk [] none .nil (.mk [] none (.mk [.join [{ e := .n, j := { regs := [(0, .one .keep), (4, .one (.data (.bool)))], vars := [], arrs := [] } }]] none .nil .nil) (.mk [] none .nil (.mk [] none (.mk [] none .nil (.mk [.join [{ e := .n, j := { regs := [(4, .one .keep), (5, .one (.data (.str)))], vars := [], arrs := [] } }]] none .nil .nil)) (.mk [] none (.mk [] none (.mk [.join [{ e := .n, j := { regs := [(4, .one .keep), (5, .one .keep), (35, .one (.data (.bool)))], vars := [], arrs := [] } }]] none .nil .nil) .nil) (.mk [] none (.mk [] none .nil (.mk [] none (.mk [] (some ({ regs := [(4, .one .keep), (5, .one .keep), (6, .one (.data (.int .i64)))], vars := [], arrs := [] }, [{ e := .x 0, j := { regs := [(4, .one .keep), (5, .one .keep)], vars := [], arrs := [] } }, { e := .r, j := { regs := [(2, .one (.data (.int .i64))), (3, .one (.data (.int .i64)))], vars := [], arrs := [] } }])) (.mk [] none .nil (.mk [] none (.mk [] none (.mk [] none (.mk [.join [{ e := .n, j := { regs := [(4, .one .keep), (5, .one .keep), (6, .one .keep), (51, .one (.data (.bool)))], vars := [], arrs := [] } }]] none .nil .nil) .nil) .nil) .nil)) .nil) .nil)) (.mk [] none .nil (.mk [] none (.mk [] none .nil (.mk [] none (.mk [] (some ({ regs := [(4, .one .keep), (5, .one .keep), (7, .one (.data (.int .i64))), (8, .one (.data (.int .i64)))], vars := [], arrs := [] }, [{ e := .x 2, j := { regs := [(4, .one .keep), (7, .one (.data (.int .i64)))], vars := [], arrs := [] } }, { e := .r, j := { regs := [(2, .one (.data (.int .i64))), (3, .one (.data (.int .i64)))], vars := [], arrs := [] } }])) .nil .nil) .nil)) (.mk [] none (.mk [] none .nil (.mk [.join [{ e := .n, j := { regs := [(7, .one (.data (.int .i64)))], vars := [], arrs := [] } }]] none .nil .nil)) .nil))))))))))
    Tryd.func19 rfl nmr19 rfl rfl rfl rfl types_ok ⟨trivial, trivial⟩ mx (fun x => by kernel_rfl)

noncomputable def ref03_Name_L0 (s : List UInt8) (i : Int) : Option (Int ⊕ (Unit ⊕ Bool)) :=
  bif decide (i < (s.length : Int)) then (
   Option.bind (α := Bool) (
     gd (inB i s.length) <|
     bif decide ((Int.ofNat (s.getD i.toNat 0).toNat) < 97) then (
      gd (inB i s.length) <|
      bif decide ((Int.ofNat (s.getD i.toNat 0).toNat) < 48) then (
       gd (inB i s.length) <|
       some (!decide ((Int.ofNat (s.getD i.toNat 0).toNat) = 45)))
      else (
       gd (inB i s.length) <|
       bif decide (57 < (Int.ofNat (s.getD i.toNat 0).toNat)) then (
        gd (inB i s.length) <|
        some (!decide ((Int.ofNat (s.getD i.toNat 0).toNat) = 45)))
       else (
        some false)))
     else (
      gd (inB i s.length) <|
      bif decide (122 < (Int.ofNat (s.getD i.toNat 0).toNat)) then (
       gd (inB i s.length) <|
       bif decide ((Int.ofNat (s.getD i.toNat 0).toNat) < 48) then (
        gd (inB i s.length) <|
        some (!decide ((Int.ofNat (s.getD i.toNat 0).toNat) = 45)))
       else (
        gd (inB i s.length) <|
        bif decide (57 < (Int.ofNat (s.getD i.toNat 0).toNat)) then (
         gd (inB i s.length) <|
         some (!decide ((Int.ofNat (s.getD i.toNat 0).toNat) = 45)))
        else (
         some false)))
      else (
       some false))) fun s3 =>
   bif s3 then (
    some (.inr (.inr false)))
   else (
    some (.inl (wi64 (i + 1)))))
  else (
   some (.inr (.inl ())))

noncomputable def ref03_Name (s : List UInt8) : Option (Bool) :=
  Option.bind (α := Bool) (
    bif decide ((s.length : Int) < 1) then (
     some true)
    else (
     bif decide (12 < (s.length : Int)) then (
      some true)
     else (
      gd (inB 0 s.length) <|
      bif decide ((Int.ofNat (s.getD 0 0).toNat) < 97) then (
       some true)
      else (
       gd (inB 0 s.length) <|
       some (decide (122 < (Int.ofNat (s.getD 0 0).toNat))))))) fun s2 =>
  bif s2 then (
   some false)
  else (
   (iter (fun x => ref03_Name_L0 s x) 0).bind fun s4 =>
   s4.elim (fun s5 =>
    some true)
   (fun s6 =>
    some s6))

noncomputable def fn_ref03_Name : Fun :=
  { f := 21, np := 1, nr := 1,
    ji := { regs := [(0, .one (.data (.str)))], vars := [], arrs := [] },
    jo := { regs := [(0, .one (.data (.bool)))], vars := [], arrs := [] },
    tw := fun x => ref03_Name x }
noncomputable def cx_ref03_Name : Cx := { Γ := types, ow := [], fs := [], N := 56 }
theorem ok_ref03_Name : FunOk Tryd.prog fn_ref03_Name :=
  FunOk.intro (C := cx_ref03_Name) (p := (.mk [] none .nil (.mk [] none (.mk [] none (.mk [.join [{ e := .n, j := { regs := [(0, .one .keep), (21, .one (.data (.bool)))], vars := [], arrs := [] } }]] none .nil .nil) .nil) (.mk [] none (.mk [] none .nil (.mk [] none (.mk [] (some ({ regs := [(0, .one .keep), (3, .one (.data (.int .i64)))], vars := [], arrs := [] }, [{ e := .x 0, j := { regs := [], vars := [], arrs := [] } }, { e := .r, j := { regs := [(2, .one (.data (.bool)))], vars := [], arrs := [] } }])) (.mk [] none .nil (.mk [] none (.mk [] none (.mk [] none (.mk [.join [{ e := .n, j := { regs := [(0, .one .keep), (3, .one .keep), (55, .one (.data (.bool)))], vars := [], arrs := [] } }]] none .nil .nil) .nil) .nil) .nil)) .nil) .nil)) .nil))))
    Tryd.func21 rfl nmr21 rfl rfl rfl rfl types_ok ⟨trivial, trivial⟩ mx (fun x => by kernel_rfl)

noncomputable def law03_LinesAnswers_L1 (raw : List (List (List UInt8))) (v : Int) (v2 : Int) : Option (Int ⊕ (Unit ⊕ Bool)) :=
  bif decide (v2 < ((raw.getD v.toNat []).length : Int)) then (
   gd (inB v raw.length) <|
   gd (inB v2 (raw.getD v.toNat []).length) <|
   bif decide (60 < (((raw.getD v.toNat []).getD v2.toNat []).length : Int)) then (
    (law03_awake).bind fun r3 =>
    some (.inr (.inr r3)))
   else (
    some (.inl (wi64 (v2 + 1)))))
  else (
   some (.inr (.inl ())))

noncomputable def law03_LinesAnswers_L0 (raw : List (List (List UInt8))) (v : Int) : Option (Int ⊕ (Unit ⊕ Bool)) :=
  bif decide (v < (raw.length : Int)) then (
   gd (inB v raw.length) <|
   bif decide (30 < ((raw.getD v.toNat []).length : Int)) then (
    (law03_awake).bind fun r2 =>
    some (.inr (.inr r2)))
   else (
    gd (inB v raw.length) <|
    (iter (fun x => law03_LinesAnswers_L1 raw v x) 0).bind fun s3 =>
    s3.elim (fun s4 =>
     some (.inl (wi64 (v + 1))))
    (fun s5 =>
     some (.inr (.inr s5)))))
  else (
   some (.inr (.inl ())))

noncomputable def law03_LinesAnswers_L2 (s : List UInt8) (r7 : List UInt8 × Int) (v3 : Int) (a : List (List (List UInt8))) (b : List (List (List UInt8))) : Option ((Int × List (List (List UInt8)) × List (List (List UInt8))) ⊕ ((List (List (List UInt8)) × List (List (List UInt8))) ⊕ Bool)) :=
  bif decide (v3 < ([s, r7.1, r7.1 ++ s, r7.1 ++ [32], [35, 32] ++ s, r7.1 ++ [35]].length : Int)) then (
   gd (inB v3 [s, r7.1, r7.1 ++ s, r7.1 ++ [32], [35, 32] ++ s, r7.1 ++ [35]].length) <|
   (lines_Split ([s, r7.1, r7.1 ++ s, r7.1 ++ [32], [35, 32] ++ s, r7.1 ++ [35]].getD v3.toNat [])).bind fun r8 =>
   (ref03_Split ([s, r7.1, r7.1 ++ s, r7.1 ++ [32], [35, 32] ++ s, r7.1 ++ [35]].getD v3.toNat [])).bind fun r9 =>
   Option.bind (α := Bool × List (List (List UInt8)) × List (List (List UInt8))) (
     (ref03_Same r8.1 r9.1).bind fun r10 =>
     bif !r10 then (
      some (true, a, b))
     else (
      some ((!decide (r8.2 = r9.2)), a, b))) fun s9 =>
   bif s9.1 then (
    some (.inr (.inr false)))
   else (
    some (.inl (wi64 (v3 + 1), s9.2.1, s9.2.2))))
  else (
   some (.inr (.inl (a, b))))

noncomputable def law03_LinesAnswers_L3 (raw : List (List (List UInt8))) (s11 : List (List (List UInt8)) × List (List (List UInt8))) (v4 : Int) : Option (Int ⊕ (Unit ⊕ Bool)) :=
  bif decide (v4 < ([raw, s11.1, s11.2, [[[97], [98], [99], [100], [101], [102], [103], [104], [105], [106], [107], [108], [109], [110], [111], [112], [113]]]].length : Int)) then (
   gd (inB v4 [raw, s11.1, s11.2, [[[97], [98], [99], [100], [101], [102], [103], [104], [105], [106], [107], [108], [109], [110], [111], [112], [113]]]].length) <|
   (lines_Join ([raw, s11.1, s11.2, [[[97], [98], [99], [100], [101], [102], [103], [104], [105], [106], [107], [108], [109], [110], [111], [112], [113]]]].getD v4.toNat [])).bind fun r11 =>
   (ref03_Join ([raw, s11.1, s11.2, [[[97], [98], [99], [100], [101], [102], [103], [104], [105], [106], [107], [108], [109], [110], [111], [112], [113]]]].getD v4.toNat [])).bind fun r12 =>
   Option.bind (α := Bool) (
     bif !decide (r11.1 = r12.1) then (
      some true)
     else (
      some (!decide (r11.2 = r12.2)))) fun s13 =>
   bif s13 then (
    some (.inr (.inr false)))
   else (
    some (.inl (wi64 (v4 + 1)))))
  else (
   some (.inr (.inl ())))

noncomputable def law03_LinesAnswers_L4 (s : List UInt8) (r14 : List UInt8) (v5 : Int) : Option (Int ⊕ (Unit ⊕ Bool)) :=
  bif decide (v5 < ([s, r14, [57, 48, 48, 55, 49, 57, 57, 50, 53, 52, 55, 52, 48, 57, 57, 50], [57, 48, 48, 55, 49, 57, 57, 50, 53, 52, 55, 52, 48, 57, 57, 51], [45, 57, 48, 48, 55, 49, 57, 57, 50, 53, 52, 55, 52, 48, 57, 57, 50], [45, 57, 48, 48, 55, 49, 57, 57, 50, 53, 52, 55, 52, 48, 57, 57, 51], [97], [45], [48, 49], [97, 45, 98, 45, 99, 45, 100, 45, 101, 45, 102, 45], [97, 98, 99, 100, 101, 102, 103, 104, 105, 106, 107, 108, 109]].length : Int)) then (
   gd (inB v5 [s, r14, [57, 48, 48, 55, 49, 57, 57, 50, 53, 52, 55, 52, 48, 57, 57, 50], [57, 48, 48, 55, 49, 57, 57, 50, 53, 52, 55, 52, 48, 57, 57, 51], [45, 57, 48, 48, 55, 49, 57, 57, 50, 53, 52, 55, 52, 48, 57, 57, 50], [45, 57, 48, 48, 55, 49, 57, 57, 50, 53, 52, 55, 52, 48, 57, 57, 51], [97], [45], [48, 49], [97, 45, 98, 45, 99, 45, 100, 45, 101, 45, 102, 45], [97, 98, 99, 100, 101, 102, 103, 104, 105, 106, 107, 108, 109]].length) <|
   (lines_Number ([s, r14, [57, 48, 48, 55, 49, 57, 57, 50, 53, 52, 55, 52, 48, 57, 57, 50], [57, 48, 48, 55, 49, 57, 57, 50, 53, 52, 55, 52, 48, 57, 57, 51], [45, 57, 48, 48, 55, 49, 57, 57, 50, 53, 52, 55, 52, 48, 57, 57, 50], [45, 57, 48, 48, 55, 49, 57, 57, 50, 53, 52, 55, 52, 48, 57, 57, 51], [97], [45], [48, 49], [97, 45, 98, 45, 99, 45, 100, 45, 101, 45, 102, 45], [97, 98, 99, 100, 101, 102, 103, 104, 105, 106, 107, 108, 109]].getD v5.toNat [])).bind fun r15 =>
   (ref03_Number ([s, r14, [57, 48, 48, 55, 49, 57, 57, 50, 53, 52, 55, 52, 48, 57, 57, 50], [57, 48, 48, 55, 49, 57, 57, 50, 53, 52, 55, 52, 48, 57, 57, 51], [45, 57, 48, 48, 55, 49, 57, 57, 50, 53, 52, 55, 52, 48, 57, 57, 50], [45, 57, 48, 48, 55, 49, 57, 57, 50, 53, 52, 55, 52, 48, 57, 57, 51], [97], [45], [48, 49], [97, 45, 98, 45, 99, 45, 100, 45, 101, 45, 102, 45], [97, 98, 99, 100, 101, 102, 103, 104, 105, 106, 107, 108, 109]].getD v5.toNat [])).bind fun r16 =>
   Option.bind (α := Bool) (
     bif !decide (r15.1 = r16.1) then (
      some true)
     else (
      bif !decide (r15.2 = r16.2) then (
       some true)
      else (
       (lines_Name ([s, r14, [57, 48, 48, 55, 49, 57, 57, 50, 53, 52, 55, 52, 48, 57, 57, 50], [57, 48, 48, 55, 49, 57, 57, 50, 53, 52, 55, 52, 48, 57, 57, 51], [45, 57, 48, 48, 55, 49, 57, 57, 50, 53, 52, 55, 52, 48, 57, 57, 50], [45, 57, 48, 48, 55, 49, 57, 57, 50, 53, 52, 55, 52, 48, 57, 57, 51], [97], [45], [48, 49], [97, 45, 98, 45, 99, 45, 100, 45, 101, 45, 102, 45], [97, 98, 99, 100, 101, 102, 103, 104, 105, 106, 107, 108, 109]].getD v5.toNat [])).bind fun r17 =>
       (ref03_Name ([s, r14, [57, 48, 48, 55, 49, 57, 57, 50, 53, 52, 55, 52, 48, 57, 57, 50], [57, 48, 48, 55, 49, 57, 57, 50, 53, 52, 55, 52, 48, 57, 57, 51], [45, 57, 48, 48, 55, 49, 57, 57, 50, 53, 52, 55, 52, 48, 57, 57, 50], [45, 57, 48, 48, 55, 49, 57, 57, 50, 53, 52, 55, 52, 48, 57, 57, 51], [97], [45], [48, 49], [97, 45, 98, 45, 99, 45, 100, 45, 101, 45, 102, 45], [97, 98, 99, 100, 101, 102, 103, 104, 105, 106, 107, 108, 109]].getD v5.toNat [])).bind fun r18 =>
       some (!(r17 == r18))))) fun s17 =>
   bif s17 then (
    some (.inr (.inr false)))
   else (
    some (.inl (wi64 (v5 + 1)))))
  else (
   some (.inr (.inl ())))

noncomputable def law03_LinesAnswers (s : List UInt8) (raw : List (List (List UInt8))) (l : List Int) : Option (Bool) :=
  Option.bind (α := Bool) (
    bif decide (2000 < (s.length : Int)) then (
     some true)
    else (
     some (decide (60 < (raw.length : Int))))) fun s2 =>
  bif s2 then (
   (law03_awake).bind fun r =>
   some r)
  else (
   (iter (fun x2 => law03_LinesAnswers_L0 raw x2) 0).bind fun s6 =>
   s6.elim (fun s7 =>
    (keep_New l).bind fun r4 =>
    (law03_made 0 r4.1 r4.2).bind fun r5 =>
    (law03_made 1 r5.1 r5.2.1).bind fun r6 =>
    (ref03_Join r5.2.2).bind fun r7 =>
    gd (Nat.ble (r7.1.length + s.length) 9223372036854775807) <|
    gd (Nat.ble (r7.1.length + [32].length) 9223372036854775807) <|
    gd (Nat.ble ([35, 32].length + s.length) 9223372036854775807) <|
    gd (Nat.ble (r7.1.length + [35].length) 9223372036854775807) <|
    (iter (fun x3 => law03_LinesAnswers_L2 s r7 x3.1 x3.2.1 x3.2.2) (0, r5.2.2, r6.2.2)).bind fun s10 =>
    s10.elim (fun s11 =>
     (iter (fun x4 => law03_LinesAnswers_L3 raw s11 x4) 0).bind fun s14 =>
     s14.elim (fun s15 =>
      (keep_Src_Raw r6.1 r6.2.1).bind fun r13 =>
      (ref03_Text (Int.tmod r13.1 4611686018427387904)).bind fun r14 =>
      (iter (fun x5 => law03_LinesAnswers_L4 s r14 x5) 0).bind fun s18 =>
      s18.elim (fun s19 =>
       (law03_awake).bind fun r19 =>
       some r19)
      (fun s20 =>
       some s20))
     (fun s16 =>
      some s16))
    (fun s12 =>
     some s12))
   (fun s8 =>
    some s8))

noncomputable def fn_law03_LinesAnswers : Fun :=
  { f := 4, np := 3, nr := 1,
    ji := { regs := [(0, .one (.data (.str))), (1, .one (.data (.sl (.sl (.str))))), (2, .one (.data (.sl (.int .i64))))], vars := [], arrs := [] },
    jo := { regs := [(0, .one (.data (.bool)))], vars := [], arrs := [] },
    tw := fun x => law03_LinesAnswers x.1 x.2.1 x.2.2 }
noncomputable def cx_law03_LinesAnswers : Cx := { Γ := types, ow := [], fs := [fn_law03_awake, fn_keep_New, fn_law03_made, fn_ref03_Join, fn_lines_Split, fn_ref03_Split, fn_ref03_Same, fn_lines_Join, fn_keep_Src_Raw, fn_ref03_Text, fn_lines_Number, fn_ref03_Number, fn_lines_Name, fn_ref03_Name], N := 189 }
theorem ok_law03_LinesAnswers : FunOk Tryd.prog fn_law03_LinesAnswers :=
  FunOk.intro (C := cx_law03_LinesAnswers) (p := (.mk [] none .nil (.mk [] none (.mk [] none (.mk [.join [{ e := .n, j := { regs := [(0, .one .keep), (1, .one .keep), (2, .one .keep), (39, .one (.data (.bool)))], vars := [], arrs := [] } }]] none .nil .nil) .nil) (.mk [] none (.mk [] none .nil (.mk [] none (.mk [] (some ({ regs := [(0, .one .keep), (1, .one .keep), (2, .one .keep), (42, .one .keep), (43, .one (.data (.int .i64)))], vars := [], arrs := [] }, [{ e := .x 0, j := { regs := [(0, .one .keep), (1, .one .keep), (2, .one .keep)], vars := [], arrs := [] } }, { e := .r, j := { regs := [(6, .one (.data (.bool)))], vars := [], arrs := [] } }])) (.mk [] none .nil (.mk [] none .nil (.mk [] none (.mk [] none (.mk [] none .nil (.mk [] none .nil (.mk [] none .nil (.mk [] none (.mk [] (some ({ regs := [(0, .one .keep), (1, .one .keep), (2, .one .keep), (7, .one .keep), (42, .one .keep), (43, .one .keep), (57, .one .keep), (58, .one (.data (.int .i64)))], vars := [], arrs := [] }, [{ e := .x 2, j := { regs := [(0, .one .keep), (1, .one .keep), (2, .one .keep), (42, .one .keep), (43, .one .keep)], vars := [], arrs := [] } }, { e := .r, j := { regs := [(6, .one (.data (.bool)))], vars := [], arrs := [] } }])) .nil .nil) .nil)))) .nil) .nil))) .nil) .nil)) (.mk [] none .nil (.mk [] none .nil (.mk [] none .nil (.mk [] none (.mk [] none .nil (.mk [] none (.mk [] (some ({ regs := [(0, .one .keep), (1, .one .keep), (9, .one (.ptr 1200 0)), (10, .one (.own 1232)), (11, .one (.own 1264)), (95, .one .keep), (96, .one .keep), (97, .one (.data (.int .i64)))], vars := [(1200, 54, [.keep, .keep])], arrs := [(1232, .arr 30 (.sl (.str))), (1264, .arr 30 (.sl (.str)))] }, [{ e := .x 4, j := { regs := [(0, .one .keep), (1, .one .keep), (9, .one (.ptr 1200 0)), (10, .one (.own 1232)), (11, .one (.own 1264))], vars := [(1200, 54, [.keep, .keep])], arrs := [(1232, .arr 30 (.sl (.str))), (1264, .arr 30 (.sl (.str)))] } }, { e := .r, j := { regs := [(6, .one (.data (.bool)))], vars := [], arrs := [] } }])) (.mk [] none .nil (.mk [] none .nil (.mk [] none (.mk [] none (.mk [] none .nil (.mk [] none .nil (.mk [] none .nil (.mk [] none (.mk [.join [{ e := .n, j := { regs := [(0, .one .keep), (1, .one .keep), (9, .one (.ptr 1200 0)), (10, .one (.own 1232)), (11, .one (.own 1264)), (95, .one .keep), (96, .one .keep), (97, .one .keep), (119, .one (.data (.bool)))], vars := [(1200, 54, [.keep, .keep])], arrs := [(1232, .arr 30 (.sl (.str))), (1264, .arr 30 (.sl (.str)))] } }]] none .nil .nil) .nil)))) .nil) .nil))) .nil) .nil)) (.mk [] none (.mk [] none (.mk [.fz [10, 11]] none .nil .nil) (.mk [] none (.mk [] (some ({ regs := [(0, .one .keep), (9, .one (.ptr 1200 0)), (126, .one .keep), (127, .one .keep), (128, .one (.data (.int .i64)))], vars := [(1200, 54, [.keep, .keep])], arrs := [] }, [{ e := .x 6, j := { regs := [(0, .one .keep), (9, .one (.ptr 1200 0))], vars := [(1200, 54, [.keep, .keep])], arrs := [] } }, { e := .r, j := { regs := [(6, .one (.data (.bool)))], vars := [], arrs := [] } }])) (.mk [] none .nil (.mk [] none .nil (.mk [] none (.mk [] none (.mk [] none .nil (.mk [] none .nil (.mk [] none .nil (.mk [] none (.mk [.join [{ e := .n, j := { regs := [(0, .one .keep), (9, .one (.ptr 1200 0)), (126, .one .keep), (127, .one .keep), (128, .one .keep), (149, .one (.data (.bool)))], vars := [(1200, 54, [.keep, .keep])], arrs := [] } }]] none .nil .nil) .nil)))) .nil) .nil))) .nil) .nil)) (.mk [] none (.mk [] none .nil (.mk [] none (.mk [] (some ({ regs := [(156, .one .keep), (157, .one .keep), (158, .one (.data (.int .i64)))], vars := [], arrs := [] }, [{ e := .x 8, j := { regs := [], vars := [], arrs := [] } }, { e := .r, j := { regs := [(6, .one (.data (.bool)))], vars := [], arrs := [] } }])) (.mk [] none .nil (.mk [] none .nil (.mk [] none (.mk [] none (.mk [] none .nil (.mk [] none .nil (.mk [] none .nil (.mk [] none (.mk [.join [{ e := .n, j := { regs := [(156, .one .keep), (157, .one .keep), (158, .one .keep), (186, .one (.data (.bool)))], vars := [], arrs := [] } }]] none .nil .nil) .nil)))) .nil) .nil))) .nil) .nil)) .nil))))))))))
    Tryd.func4 rfl nmr4 rfl rfl rfl rfl types_ok ⟨⟨ok_law03_awake, ok_keep_New, ok_law03_made, ok_ref03_Join, ok_lines_Split, ok_ref03_Split, ok_ref03_Same, ok_lines_Join, ok_keep_Src_Raw, ok_ref03_Text, ok_lines_Number, ok_ref03_Number, ok_lines_Name, ok_ref03_Name, trivial⟩, trivial⟩ mx (fun x => by kernel_rfl)

noncomputable def law03_LinesBack (l : List Int) (s : List UInt8) : Option (Bool) :=
  bif decide (2000 < (s.length : Int)) then (
   (law03_awake).bind fun r =>
   some r)
  else (
   (keep_New l).bind fun r2 =>
   (law03_made 0 r2.1 r2.2).bind fun r3 =>
   (lines_Join r3.2.2).bind fun r4 =>
   (lines_Split r4.1).bind fun r5 =>
   Option.bind (α := Bool) (
     bif !decide (r4.2 = 0) then (
      some true)
     else (
      bif !decide (r5.2 = 0) then (
       some true)
      else (
       (ref03_Same r3.2.2 r5.1).bind fun r6 =>
       some (!r6)))) fun s2 =>
   bif s2 then (
    some false)
   else (
    (lines_Split s).bind fun r7 =>
    bif !decide (r7.2 = 0) then (
     (law03_awake).bind fun r8 =>
     some r8)
    else (
     (lines_Join r7.1).bind fun r9 =>
     (lines_Split r9.1).bind fun r10 =>
     bif decide (r9.2 = 0) then (
      bif decide (r10.2 = 0) then (
       (ref03_Same r7.1 r10.1).bind fun r11 =>
       bif r11 then (
        (law03_awake).bind fun r12 =>
        some r12)
       else (
        some false))
      else (
       some false))
     else (
      some false))))

noncomputable def fn_law03_LinesBack : Fun :=
  { f := 5, np := 2, nr := 1,
    ji := { regs := [(0, .one (.data (.sl (.int .i64)))), (1, .one (.data (.str)))], vars := [], arrs := [] },
    jo := { regs := [(0, .one (.data (.bool)))], vars := [], arrs := [] },
    tw := fun x => law03_LinesBack x.1 x.2 }
noncomputable def cx_law03_LinesBack : Cx := { Γ := types, ow := [], fs := [fn_law03_awake, fn_keep_New, fn_law03_made, fn_lines_Join, fn_lines_Split, fn_ref03_Same], N := 77 }
theorem ok_law03_LinesBack : FunOk Tryd.prog fn_law03_LinesBack :=
  FunOk.intro (C := cx_law03_LinesBack) (p := (.mk [] none .nil (.mk [] none .nil (.mk [] none .nil (.mk [] none .nil (.mk [] none .nil (.mk [] none (.mk [] none (.mk [.join [{ e := .n, j := { regs := [(1, .one .keep), (44, .one (.data (.bool)))], vars := [], arrs := [] } }]] none .nil .nil) .nil) .nil)))))))
    Tryd.func5 rfl nmr5 rfl rfl rfl rfl types_ok ⟨⟨ok_law03_awake, ok_keep_New, ok_law03_made, ok_lines_Join, ok_lines_Split, ok_ref03_Same, trivial⟩, trivial⟩ mx (fun x => by kernel_rfl)

noncomputable def law03_LinesParts (l : List Int) (m : List Int) : Option (Bool) :=
  (keep_New l).bind fun r =>
  (law03_made 0 r.1 r.2).bind fun r2 =>
  (keep_New m).bind fun r3 =>
  (law03_made 0 r3.1 r3.2).bind fun r4 =>
  (lines_Join r2.2.2).bind fun r5 =>
  (lines_Join r4.2.2).bind fun r6 =>
  gd (Nat.ble (r5.1.length + r6.1.length) 9223372036854775807) <|
  (lines_Split (r5.1 ++ r6.1)).bind fun r7 =>
  bif decide (r5.2 = 0) then (
   bif decide (r6.2 = 0) then (
    bif decide (r7.2 = 0) then (
     gd (fits (0 + r2.2.2.length) 24) <|
     gd (fits (([] ++ r2.2.2).length + r4.2.2.length) 24) <|
     (ref03_Same r7.1 (([] ++ r2.2.2) ++ r4.2.2)).bind fun r8 =>
     bif r8 then (
      (law03_awake).bind fun r9 =>
      some r9)
     else (
      some false))
    else (
     some false))
   else (
    some false))
  else (
   some false)

noncomputable def fn_law03_LinesParts : Fun :=
  { f := 6, np := 2, nr := 1,
    ji := { regs := [(0, .one (.data (.sl (.int .i64)))), (1, .one (.data (.sl (.int .i64))))], vars := [], arrs := [] },
    jo := { regs := [(0, .one (.data (.bool)))], vars := [], arrs := [] },
    tw := fun x => law03_LinesParts x.1 x.2 }
noncomputable def cx_law03_LinesParts : Cx := { Γ := types, ow := [48], fs := [fn_keep_New, fn_law03_made, fn_lines_Join, fn_lines_Split, fn_ref03_Same, fn_law03_awake], N := 58 }
theorem ok_law03_LinesParts : FunOk Tryd.prog fn_law03_LinesParts :=
  FunOk.intro (C := cx_law03_LinesParts) (p := .nil)
    Tryd.func6 rfl nmr6 rfl rfl rfl rfl types_ok ⟨⟨ok_keep_New, ok_law03_made, ok_lines_Join, ok_lines_Split, ok_ref03_Same, ok_law03_awake, trivial⟩, trivial⟩ mx (fun x => by kernel_rfl)

noncomputable def law03_LinesComments_L0 (comment : List UInt8) (i : Int) : Option (Int ⊕ (Unit ⊕ Bool)) :=
  bif decide (i < (comment.length : Int)) then (
   gd (inB i comment.length) <|
   bif decide ((Int.ofNat (comment.getD i.toNat 0).toNat) = 10) then (
    (law03_awake).bind fun r2 =>
    some (.inr (.inr r2)))
   else (
    some (.inl (wi64 (i + 1)))))
  else (
   some (.inr (.inl ())))

noncomputable def law03_LinesComments (l : List Int) (vat : Int) (comment : List UInt8) : Option (Bool) :=
  bif decide (100 < (comment.length : Int)) then (
   (law03_awake).bind fun r =>
   some r)
  else (
   (iter (fun x => law03_LinesComments_L0 comment x) 0).bind fun s =>
   s.elim (fun s2 =>
    (keep_New l).bind fun r3 =>
    (law03_made 0 r3.1 r3.2).bind fun r4 =>
    (keep_Mod (wi64 vat) (wi64 ((r4.2.2.length : Int) + 1))).bind fun r5 =>
    gd (cutG none (some (.i64, r5)) r4.2.2.length) <|
    (lines_Join (r4.2.2.take r5.toNat)).bind fun r6 =>
    gd (cutG (some (.i64, r5)) none r4.2.2.length) <|
    (lines_Join (r4.2.2.drop r5.toNat)).bind fun r7 =>
    gd (Nat.ble (r6.1.length + [35].length) 9223372036854775807) <|
    gd (Nat.ble ((r6.1 ++ [35]).length + comment.length) 9223372036854775807) <|
    gd (Nat.ble (((r6.1 ++ [35]) ++ comment).length + [10].length) 9223372036854775807) <|
    gd (Nat.ble ((((r6.1 ++ [35]) ++ comment) ++ [10]).length + r7.1.length) 9223372036854775807) <|
    (lines_Split ((((r6.1 ++ [35]) ++ comment) ++ [10]) ++ r7.1)).bind fun r8 =>
    gd (cutG none (some (.i64, r5)) r4.2.2.length) <|
    gd (fits (0 + (r4.2.2.take r5.toNat).length) 24) <|
    gd (fits (([] ++ (r4.2.2.take r5.toNat)).length + 1) 24) <|
    gd (cutG (some (.i64, r5)) none r4.2.2.length) <|
    gd (fits ((([] ++ (r4.2.2.take r5.toNat)) ++ [[]]).length + (r4.2.2.drop r5.toNat).length) 24) <|
    bif decide (r6.2 = 0) then (
     bif decide (r7.2 = 0) then (
      bif decide (r8.2 = 0) then (
       (ref03_Same r8.1 ((([] ++ (r4.2.2.take r5.toNat)) ++ [[]]) ++ (r4.2.2.drop r5.toNat))).bind fun r9 =>
       bif r9 then (
        (law03_awake).bind fun r10 =>
        some r10)
       else (
        some false))
      else (
       some false))
     else (
      some false))
    else (
     some false))
   (fun s3 =>
    some s3))

noncomputable def fn_law03_LinesComments : Fun :=
  { f := 7, np := 3, nr := 1,
    ji := { regs := [(0, .one (.data (.sl (.int .i64)))), (1, .one (.data (.int .u8))), (2, .one (.data (.str)))], vars := [], arrs := [] },
    jo := { regs := [(0, .one (.data (.bool)))], vars := [], arrs := [] },
    tw := fun x => law03_LinesComments x.1 x.2.1 x.2.2 }
noncomputable def cx_law03_LinesComments : Cx := { Γ := types, ow := [66], fs := [fn_law03_awake, fn_keep_New, fn_law03_made, fn_keep_Mod, fn_lines_Join, fn_lines_Split, fn_ref03_Same], N := 95 }
theorem ok_law03_LinesComments : FunOk Tryd.prog fn_law03_LinesComments :=
  FunOk.intro (C := cx_law03_LinesComments) (p := (.mk [] none .nil (.mk [] none .nil (.mk [] none (.mk [] none .nil (.mk [] none (.mk [] (some ({ regs := [(0, .one .keep), (1, .one .keep), (2, .one .keep), (7, .one (.data (.int .i64)))], vars := [], arrs := [] }, [{ e := .x 0, j := { regs := [(0, .one .keep), (1, .one .keep), (2, .one .keep)], vars := [], arrs := [] } }, { e := .r, j := { regs := [(6, .one (.data (.bool)))], vars := [], arrs := [] } }])) .nil .nil) .nil)) (.mk [] none .nil (.mk [] none .nil (.mk [] none (.mk [.fz [8]] none .nil .nil) .nil)))))))
    Tryd.func7 rfl nmr7 rfl rfl rfl rfl types_ok ⟨⟨ok_law03_awake, ok_keep_New, ok_law03_made, ok_keep_Mod, ok_lines_Join, ok_lines_Split, ok_ref03_Same, trivial⟩, trivial⟩ mx (fun x => by kernel_rfl)


end Go.Proofs.YtmhoomlmmecmdaaDoor
