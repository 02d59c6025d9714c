/- Functions, evaluated. No condition. -/
import Derived.Test.YtmleldfhkangbaaProg
import Derived.Test.YtmleldfhkangbaaSqY
namespace Go.Proofs.Ytmleldfhkangbaa
open Go Go.Sq
def ti3 : TI := { t := 3, desc := .int .i64, size := 1, bytes := 8, zero := .int .i64 0, τ := .int .i64, eq := false }
theorem tk3 : ti3.ok Try.prog := ⟨Try.underlying3, by kernel_rfl, fun h => by cases h⟩
def ti5 : TI := { t := 5, desc := .int .u8, size := 1, bytes := 1, zero := .int .u8 0, τ := .int .u8, eq := false }
theorem tk5 : ti5.ok Try.prog := ⟨Try.underlying5, by kernel_rfl, fun h => by cases h⟩
def ti9 : TI := { t := 9, desc := .string, size := 1, bytes := 16, zero := .string ⟨#[]⟩, τ := .str, eq := false }
theorem tk9 : ti9.ok Try.prog := ⟨Try.underlying9, by kernel_rfl, fun h => by cases h⟩
def ti22 : TI := { t := 22, desc := .slice 3, size := 1, bytes := 24, zero := .slice none 0 0, τ := .sl (.int .i64), eq := false }
theorem tk22 : ti22.ok Try.prog := ⟨Try.underlying22, by kernel_rfl, fun h => by cases h⟩
def ti27 : TI := { t := 27, desc := .slice 35, size := 1, bytes := 24, zero := .slice none 0 0, τ := .sl (.pair (.str) (.pair (.int .i64) (.int .i64))), eq := false }
theorem tk27 : ti27.ok Try.prog := ⟨Try.underlying27, by kernel_rfl, fun h => by cases h⟩
def ti35 : TI := { t := 35, desc := .struct #[{ name := "Shipper", type := 9, offset := 0, embedded := false, tag := "", pkgPath := "", byteOffset := 0 }, { name := "Kind", type := 3, offset := 1, embedded := false, tag := "", pkgPath := "", byteOffset := 16 }, { name := "Volume", type := 3, offset := 2, embedded := false, tag := "", pkgPath := "", byteOffset := 24 }], size := 3, bytes := 32, zero := .agg #[.string ⟨#[]⟩, .int .i64 0, .int .i64 0], τ := .pair (.str) (.pair (.int .i64) (.int .i64)), eq := true }
theorem tk35 : ti35.ok Try.prog := ⟨Try.underlying35, by kernel_rfl, fun _ => ⟨Try.eqGuardType35, Try.stoodInHeld35⟩⟩
def ti43 : TI := { t := 43, desc := .slice 9, size := 1, bytes := 24, zero := .slice none 0 0, τ := .sl (.str), eq := false }
theorem tk43 : ti43.ok Try.prog := ⟨Try.underlying43, by kernel_rfl, fun h => by cases h⟩
def ti66 : TI := { t := 66, desc := .struct #[{ name := "L", type := 22, offset := 0, embedded := false, tag := "", pkgPath := "", byteOffset := 0 }, { name := "At", type := 3, offset := 1, embedded := false, tag := "", pkgPath := "", byteOffset := 24 }], size := 2, bytes := 32, zero := .agg #[.slice none 0 0, .int .i64 0], τ := .pair (.sl (.int .i64)) (.int .i64), eq := true }
theorem tk66 : ti66.ok Try.prog := ⟨Try.underlying66, by kernel_rfl, fun _ => ⟨Try.eqGuardType66, Try.stoodInHeld66⟩⟩
def ti80 : TI := { t := 80, desc := .map 9 3, size := 1, bytes := 8, zero := .map none, τ := .map (.str) (.int .i64), eq := false }
theorem tk80 : ti80.ok Try.prog := ⟨Try.underlying80, by kernel_rfl, fun h => by cases h⟩
def ti92 : TI := { t := 92, desc := .int .u64, size := 1, bytes := 8, zero := .int .u64 0, τ := .int .u64, eq := false }
theorem tk92 : ti92.ok Try.prog := ⟨Try.underlying92, by kernel_rfl, fun h => by cases h⟩
def ti103 : TI := { t := 103, desc := .int .u32, size := 1, bytes := 4, zero := .int .u32 0, τ := .int .u32, eq := false }
theorem tk103 : ti103.ok Try.prog := ⟨Try.underlying103, by kernel_rfl, fun h => by cases h⟩
def ti105 : TI := { t := 105, desc := .int .u64, size := 1, bytes := 8, zero := .int .u64 0, τ := .int .u64, eq := false }
theorem tk105 : ti105.ok Try.prog := ⟨Try.underlying105, by kernel_rfl, fun h => by cases h⟩
def ti108 : TI := { t := 108, desc := .int .u64, size := 1, bytes := 8, zero := .int .u64 0, τ := .int .u64, eq := false }
theorem tk108 : ti108.ok Try.prog := ⟨Try.underlying108, by kernel_rfl, fun h => by cases h⟩
def types : List TI := [ti3, ti5, ti9, ti22, ti27, ti35, ti43, ti66, ti80, ti92, ti103, ti105, ti108]
theorem types_ok : Tys Try.prog types := ⟨tk3, tk5, tk9, tk22, tk27, tk35, tk43, tk66, tk80, tk92, tk103, tk105, tk108, trivial⟩
def xt83 : Ext := extCmp 83
theorem xk83 : ExtOk Try.prog xt83 := extCmp_ok Try.func83 (by kernel_rfl) (by kernel_rfl) (by kernel_rfl) (by kernel_rfl)
abbrev str_0 : List UInt8 := [0, 1, 2, 2, 3, 3, 3, 3, 4, 4, 4, 4, 4, 4, 4, 4, 5, 5, 5, 5, 5, 5, 5, 5, 5, 5, 5, 5, 5, 5, 5, 5, 6, 6, 6, 6, 6, 6, 6, 6, 6, 6, 6, 6, 6, 6, 6, 6, 6, 6, 6, 6, 6, 6, 6, 6, 6, 6, 6, 6, 6, 6, 6, 6, 7, 7, 7, 7, 7, 7, 7, 7, 7, 7, 7, 7, 7, 7, 7, 7, 7, 7, 7, 7, 7, 7, 7, 7, 7, 7, 7, 7, 7, 7, 7, 7, 7, 7, 7, 7, 7, 7, 7, 7, 7, 7, 7, 7, 7, 7, 7, 7, 7, 7, 7, 7, 7, 7, 7, 7, 7, 7, 7, 7, 7, 7, 7, 7, 8, 8, 8, 8, 8, 8, 8, 8, 8, 8, 8, 8, 8, 8, 8, 8, 8, 8, 8, 8, 8, 8, 8, 8, 8, 8, 8, 8, 8, 8, 8, 8, 8, 8, 8, 8, 8, 8, 8, 8, 8, 8, 8, 8, 8, 8, 8, 8, 8, 8, 8, 8, 8, 8, 8, 8, 8, 8, 8, 8, 8, 8, 8, 8, 8, 8, 8, 8, 8, 8, 8, 8, 8, 8, 8, 8, 8, 8, 8, 8, 8, 8, 8, 8, 8, 8, 8, 8, 8, 8, 8, 8, 8, 8, 8, 8, 8, 8, 8, 8, 8, 8, 8, 8, 8, 8, 8, 8, 8, 8, 8, 8, 8, 8, 8, 8, 8, 8, 8, 8, 8, 8, 8, 8, 8, 8, 8, 8]
theorem mx : Try.prog.follows .mixedOrders = true := by kernel_rfl
theorem nmr10 : (Try.f10.name == "runtime.NumGoroutine") = false := by kernel_rfl
theorem nmr55 : (Try.f55.name == "runtime.NumGoroutine") = false := by kernel_rfl
theorem nmr71 : (Try.f71.name == "runtime.NumGoroutine") = false := by kernel_rfl
theorem nmr61 : (Try.f61.name == "runtime.NumGoroutine") = false := by kernel_rfl
theorem nmr62 : (Try.f62.name == "runtime.NumGoroutine") = false := by kernel_rfl
theorem nmr63 : (Try.f63.name == "runtime.NumGoroutine") = false := by kernel_rfl
theorem nmr65 : (Try.f65.name == "runtime.NumGoroutine") = false := by kernel_rfl
theorem nmr84 : (Try.f84.name == "runtime.NumGoroutine") = false := by kernel_rfl
theorem nmr93 : (Try.f93.name == "runtime.NumGoroutine") = false := by kernel_rfl
theorem nmr91 : (Try.f91.name == "runtime.NumGoroutine") = false := by kernel_rfl
theorem nmr85 : (Try.f85.name == "runtime.NumGoroutine") = false := by kernel_rfl
theorem nmr72 : (Try.f72.name == "runtime.NumGoroutine") = false := by kernel_rfl
theorem nmr64 : (Try.f64.name == "runtime.NumGoroutine") = false := by kernel_rfl
theorem nmr51 : (Try.f51.name == "runtime.NumGoroutine") = false := by kernel_rfl
theorem nmr38 : (Try.f38.name == "runtime.NumGoroutine") = false := by kernel_rfl
theorem nmr30 : (Try.f30.name == "runtime.NumGoroutine") = false := by kernel_rfl
theorem nmr12 : (Try.f12.name == "runtime.NumGoroutine") = false := by kernel_rfl
theorem nmr47 : (Try.f47.name == "runtime.NumGoroutine") = false := by kernel_rfl
theorem nmr46 : (Try.f46.name == "runtime.NumGoroutine") = false := by kernel_rfl
theorem nmr18 : (Try.f18.name == "runtime.NumGoroutine") = false := by kernel_rfl
theorem nmr39 : (Try.f39.name == "runtime.NumGoroutine") = false := by kernel_rfl
theorem nmr40 : (Try.f40.name == "runtime.NumGoroutine") = false := by kernel_rfl
theorem nmr13 : (Try.f13.name == "runtime.NumGoroutine") = false := by kernel_rfl
theorem nmr31 : (Try.f31.name == "runtime.NumGoroutine") = false := by kernel_rfl
theorem nmr19 : (Try.f19.name == "runtime.NumGoroutine") = false := by kernel_rfl
theorem nmr50 : (Try.f50.name == "runtime.NumGoroutine") = false := by kernel_rfl
theorem nmr67 : (Try.f67.name == "runtime.NumGoroutine") = false := by kernel_rfl
theorem nmr53 : (Try.f53.name == "runtime.NumGoroutine") = false := by kernel_rfl
theorem nmr42 : (Try.f42.name == "runtime.NumGoroutine") = false := by kernel_rfl
theorem nmr32 : (Try.f32.name == "runtime.NumGoroutine") = false := by kernel_rfl
theorem nmr54 : (Try.f54.name == "runtime.NumGoroutine") = false := by kernel_rfl
theorem nmr48 : (Try.f48.name == "runtime.NumGoroutine") = false := by kernel_rfl
theorem nmr33 : (Try.f33.name == "runtime.NumGoroutine") = false := by kernel_rfl
theorem nmr81 : (Try.f81.name == "runtime.NumGoroutine") = false := by kernel_rfl
theorem nmr82 : (Try.f82.name == "runtime.NumGoroutine") = false := by kernel_rfl
theorem nmr69 : (Try.f69.name == "runtime.NumGoroutine") = false := by kernel_rfl
theorem nmr73 : (Try.f73.name == "runtime.NumGoroutine") = false := by kernel_rfl
theorem nmr86 : (Try.f86.name == "runtime.NumGoroutine") = false := by kernel_rfl
theorem nmr74 : (Try.f74.name == "runtime.NumGoroutine") = false := by kernel_rfl
theorem nmr87 : (Try.f87.name == "runtime.NumGoroutine") = false := by kernel_rfl
theorem nmr88 : (Try.f88.name == "runtime.NumGoroutine") = false := by kernel_rfl
theorem nmr75 : (Try.f75.name == "runtime.NumGoroutine") = false := by kernel_rfl
theorem nmr92 : (Try.f92.name == "runtime.NumGoroutine") = false := by kernel_rfl
theorem nmr90 : (Try.f90.name == "runtime.NumGoroutine") = false := by kernel_rfl
theorem nmr89 : (Try.f89.name == "runtime.NumGoroutine") = false := by kernel_rfl
theorem nmr76 : (Try.f76.name == "runtime.NumGoroutine") = false := by kernel_rfl
theorem nmr77 : (Try.f77.name == "runtime.NumGoroutine") = false := by kernel_rfl
theorem nmr78 : (Try.f78.name == "runtime.NumGoroutine") = false := by kernel_rfl
theorem nmr79 : (Try.f79.name == "runtime.NumGoroutine") = false := by kernel_rfl
theorem nmr80 : (Try.f80.name == "runtime.NumGoroutine") = false := by kernel_rfl
theorem nmr68 : (Try.f68.name == "runtime.NumGoroutine") = false := by kernel_rfl
theorem nmr56 : (Try.f56.name == "runtime.NumGoroutine") = false := by kernel_rfl
theorem nmr70 : (Try.f70.name == "runtime.NumGoroutine") = false := by kernel_rfl
theorem nmr58 : (Try.f58.name == "runtime.NumGoroutine") = false := by kernel_rfl
theorem nmr57 : (Try.f57.name == "runtime.NumGoroutine") = false := by kernel_rfl
theorem nmr36 : (Try.f36.name == "runtime.NumGoroutine") = false := by kernel_rfl
theorem nmr34 : (Try.f34.name == "runtime.NumGoroutine") = false := by kernel_rfl
theorem nmr37 : (Try.f37.name == "runtime.NumGoroutine") = false := by kernel_rfl
theorem nmr66 : (Try.f66.name == "runtime.NumGoroutine") = false := by kernel_rfl
theorem nmr52 : (Try.f52.name == "runtime.NumGoroutine") = false := by kernel_rfl
theorem nmr35 : (Try.f35.name == "runtime.NumGoroutine") = false := by kernel_rfl
theorem nmr25 : (Try.f25.name == "runtime.NumGoroutine") = false := by kernel_rfl
theorem nmr8 : (Try.f8.name == "runtime.NumGoroutine") = false := by kernel_rfl

noncomputable def second_Few (l : List Int) : Option (Bool) :=
  some (decide ((l.length : Int) ≤ 400))

noncomputable def fn_second_Few : Fun :=
  { f := 10, np := 1, nr := 1,
    ji := { regs := [(0, .one (.data (.sl (.int .i64))))], vars := [], arrs := [] },
    jo := { regs := [(0, .one (.data (.bool)))], vars := [], arrs := [] },
    tw := fun x => second_Few x }
noncomputable def cx_second_Few : Cx := { Γ := types, ow := [], fs := [], N := 6 }
theorem ok_second_Few : FunOk Try.prog fn_second_Few :=
  FunOk.intro (C := cx_second_Few) (p := .nil)
    Try.func10 rfl nmr10 rfl rfl rfl rfl types_ok ⟨trivial, trivial⟩ mx (fun x => by kernel_rfl)

noncomputable def allocate_Signed (n : Int) : Option (Bool) :=
  bif decide ((-1099511627776) ≤ n) then (
   some (decide (n ≤ 1099511627776)))
  else (
   some false)

noncomputable def fn_allocate_Signed : Fun :=
  { f := 55, np := 1, nr := 1,
    ji := { regs := [(0, .one (.data (.int .i64)))], vars := [], arrs := [] },
    jo := { regs := [(0, .one (.data (.bool)))], vars := [], arrs := [] },
    tw := fun x => allocate_Signed x }
noncomputable def cx_allocate_Signed : Cx := { Γ := types, ow := [], fs := [], N := 9 }
theorem ok_allocate_Signed : FunOk Try.prog fn_allocate_Signed :=
  FunOk.intro (C := cx_allocate_Signed) (p := .nil)
    Try.func55 rfl nmr55 rfl rfl rfl rfl types_ok ⟨trivial, trivial⟩ mx (fun x => by kernel_rfl)

noncomputable def slices_IndexFunc_int_int_L0 (s : List Int) (f : Int × Unit → Option Bool) (v : Int) : Option (Int ⊕ (Unit ⊕ Int)) :=
  bif decide (v < (s.length : Int)) then (
   gd (inB v s.length) <|
   (f (s.getD v.toNat 0, ())).bind fun r =>
   bif r then (
    some (.inr (.inr v)))
   else (
    some (.inl (wi64 (v + 1)))))
  else (
   some (.inr (.inl ())))

noncomputable def slices_IndexFunc_int_int (s : List Int) (f : Int × Unit → Option Bool) : Option (Int) :=
  (iter (fun x => slices_IndexFunc_int_int_L0 s f x) 0).bind fun s2 =>
  s2.elim (fun s3 =>
   some (-1))
  (fun s4 =>
   some s4)

noncomputable def fn_slices_IndexFunc_int_int : Fun :=
  { f := 71, np := 2, nr := 1,
    ji := { regs := [(0, .one (.data (.sl (.int .i64)))), (1, .one (.fn [.int .i64] (.bool)))], vars := [], arrs := [] },
    jo := { regs := [(0, .one (.data (.int .i64)))], vars := [], arrs := [] },
    tw := fun x => slices_IndexFunc_int_int x.1 x.2 }
noncomputable def cx_slices_IndexFunc_int_int : Cx := { Γ := types, ow := [], fs := [], N := 19 }
theorem ok_slices_IndexFunc_int_int : FunOk Try.prog fn_slices_IndexFunc_int_int :=
  FunOk.intro (C := cx_slices_IndexFunc_int_int) (p := (.mk [] none .nil (.mk [] none (.mk [] none .nil (.mk [] none (.mk [] (some ({ regs := [(0, .one .keep), (1, .one .keep), (7, .one .keep), (8, .one (.data (.int .i64)))], vars := [], arrs := [] }, [{ e := .x 0, j := { regs := [], vars := [], arrs := [] } }, { e := .r, j := { regs := [(4, .one (.data (.int .i64)))], vars := [], arrs := [] } }])) .nil .nil) .nil)) .nil)))
    Try.func71 rfl nmr71 rfl rfl rfl rfl types_ok ⟨trivial, trivial⟩ mx (fun x => by kernel_rfl)

noncomputable def slices_ContainsFunc_int_int (s : List Int) (f : Int × Unit → Option Bool) : Option (Bool) :=
  (slices_IndexFunc_int_int s f).bind fun r =>
  some (decide (0 ≤ r))

noncomputable def fn_slices_ContainsFunc_int_int : Fun :=
  { f := 61, np := 2, nr := 1,
    ji := { regs := [(0, .one (.data (.sl (.int .i64)))), (1, .one (.fn [.int .i64] (.bool)))], vars := [], arrs := [] },
    jo := { regs := [(0, .one (.data (.bool)))], vars := [], arrs := [] },
    tw := fun x => slices_ContainsFunc_int_int x.1 x.2 }
noncomputable def cx_slices_ContainsFunc_int_int : Cx := { Γ := types, ow := [], fs := [fn_slices_IndexFunc_int_int], N := 9 }
theorem ok_slices_ContainsFunc_int_int : FunOk Try.prog fn_slices_ContainsFunc_int_int :=
  FunOk.intro (C := cx_slices_ContainsFunc_int_int) (p := .nil)
    Try.func61 rfl nmr61 rfl rfl rfl rfl types_ok ⟨⟨ok_slices_IndexFunc_int_int, trivial⟩, trivial⟩ mx (fun x => by kernel_rfl)

noncomputable def allocate_Share_1 (w : Int) : Option (Bool) :=
  bif decide (w < 0) then (
   some true)
  else (
   some (decide (1125899906842624 < w)))

noncomputable def fn_allocate_Share_1 : Fun :=
  { f := 62, np := 1, nr := 1,
    ji := { regs := [(0, .one (.data (.int .i64)))], vars := [], arrs := [] },
    jo := { regs := [(0, .one (.data (.bool)))], vars := [], arrs := [] },
    tw := fun x => allocate_Share_1 x }
noncomputable def cx_allocate_Share_1 : Cx := { Γ := types, ow := [], fs := [], N := 9 }
theorem ok_allocate_Share_1 : FunOk Try.prog fn_allocate_Share_1 :=
  FunOk.intro (C := cx_allocate_Share_1) (p := .nil)
    Try.func62 rfl nmr62 rfl rfl rfl rfl types_ok ⟨trivial, trivial⟩ mx (fun x => by kernel_rfl)

noncomputable def allocate_part_L1 (sum : Int) (share2 : Int) (rest2 : Int) : Option ((Int × Int) ⊕ (Int × Int)) :=
  bif decide (sum ≤ rest2) then (
   some (.inl (wi64 (share2 + 1), wi64 (rest2 - sum))))
  else (
   some (.inr (share2, rest2)))

noncomputable def allocate_part_L0 (amount : Int) (weight : Int) (sum : Int) (share : Int) (rest : Int) (bit : Int) : Option ((Int × Int × Int) ⊕ (Int × Int)) :=
  bif decide (0 < bit) then (
   Option.bind (α := Int) (
     bif !decide (bitAnd .i64 amount bit = 0) then (
      some (wi64 ((wi64 (2 * rest)) + weight)))
     else (
      some (wi64 (2 * rest)))) fun s =>
   (iter (fun x => allocate_part_L1 sum x.1 x.2) (wi64 (2 * share), s)).bind fun s2 =>
   some (.inl (s2.1, s2.2, Int.fdiv bit (2 ^ shAmt .i64 1))))
  else (
   some (.inr (share, rest)))

noncomputable def allocate_part (amount : Int) (weight : Int) (sum : Int) : Option (Int × Int) :=
  (iter (fun x2 => allocate_part_L0 amount weight sum x2.1 x2.2.1 x2.2.2) (0, 0, 1099511627776)).bind fun s3 =>
  some (s3.1, s3.2)

noncomputable def fn_allocate_part : Fun :=
  { f := 63, np := 3, nr := 2,
    ji := { regs := [(0, .one (.data (.int .i64))), (1, .one (.data (.int .i64))), (2, .one (.data (.int .i64)))], vars := [], arrs := [] },
    jo := { regs := [(0, .one (.data (.int .i64))), (1, .one (.data (.int .i64)))], vars := [], arrs := [] },
    tw := fun x => allocate_part x.1 x.2.1 x.2.2 }
noncomputable def cx_allocate_part : Cx := { Γ := types, ow := [], fs := [], N := 34 }
theorem ok_allocate_part : FunOk Try.prog fn_allocate_part :=
  FunOk.intro (C := cx_allocate_part) (p := (.mk [] none .nil (.mk [] none (.mk [] none .nil (.mk [] none (.mk [] (some ({ regs := [(0, .one .keep), (1, .one .keep), (2, .one .keep), (6, .one (.data (.int .i64))), (7, .one (.data (.int .i64))), (8, .one (.data (.int .i64)))], vars := [], arrs := [] }, [{ e := .x 0, j := { regs := [(6, .one (.data (.int .i64))), (7, .one (.data (.int .i64)))], vars := [], arrs := [] } }])) (.mk [] none .nil (.mk [] none (.mk [] none (.mk [] none .nil (.mk [] none (.mk [] none .nil (.mk [.join [{ e := .n, j := { regs := [(0, .one .keep), (1, .one .keep), (2, .one .keep), (6, .one .keep), (7, .one (.data (.int .i64))), (8, .one .keep)], vars := [], arrs := [] } }]] none .nil .nil)) (.mk [] none (.mk [] (some ({ regs := [(0, .one .keep), (1, .one .keep), (2, .one .keep), (6, .one (.data (.int .i64))), (7, .one (.data (.int .i64))), (8, .one .keep)], vars := [], arrs := [] }, [{ e := .x 2, j := { regs := [(0, .one .keep), (1, .one .keep), (2, .one .keep), (6, .one (.data (.int .i64))), (7, .one (.data (.int .i64))), (8, .one .keep)], vars := [], arrs := [] } }])) .nil .nil) .nil))) .nil) .nil)) .nil) .nil)) .nil)))
    Try.func63 rfl nmr63 rfl rfl rfl rfl types_ok ⟨trivial, trivial⟩ mx (fun x => by kernel_rfl)

noncomputable def allocate_Share_2 (i : Int) (k : Int) (v : List Int) : Option (Int) :=
  gd (inB k v.length) <|
  gd (inB i v.length) <|
  some (wi64 ((v.getD k.toNat 0) - (v.getD i.toNat 0)))

noncomputable def fn_allocate_Share_2 : Fun :=
  { f := 65, np := 3, nr := 1,
    ji := { regs := [(0, .one (.data (.int .i64))), (1, .one (.data (.int .i64))), (2, .one (.sel (.sl (.int .i64))))], vars := [], arrs := [] },
    jo := { regs := [(0, .one (.data (.int .i64)))], vars := [], arrs := [] },
    tw := fun x => allocate_Share_2 x.1 x.2.1 x.2.2 }
noncomputable def cx_allocate_Share_2 : Cx := { Γ := types, ow := [], fs := [], N := 15 }
theorem ok_allocate_Share_2 : FunOk Try.prog fn_allocate_Share_2 :=
  FunOk.intro (C := cx_allocate_Share_2) (p := .nil)
    Try.func65 rfl nmr65 rfl rfl rfl rfl types_ok ⟨trivial, trivial⟩ mx (fun x => by kernel_rfl)

noncomputable def slices_insertionSortCmpFunc_int_L1 (a : Int) (cmp : Int × Int × Unit → Option Int) (j : Int) (data3 : List Int) : Option ((Int × List Int) ⊕ (List Int)) :=
  Option.bind (α := Bool × List Int) (
    bif decide (a < j) then (
     gd (inB j data3.length) <|
     gd (inB (wi64 (j - 1)) data3.length) <|
     (cmp (data3.getD j.toNat 0, data3.getD ((wi64 (j - 1)).toNat) 0, ())).bind fun r =>
     some (decide (r < 0), data3))
    else (
     some (false, data3))) fun s =>
  bif s.1 then (
   gd (inB (wi64 (j - 1)) s.2.length) <|
   gd (inB j s.2.length) <|
   gd (inB j s.2.length) <|
   gd (inB (wi64 (j - 1)) (s.2.set j.toNat (s.2.getD ((wi64 (j - 1)).toNat) 0)).length) <|
   some (.inl (wi64 (j - 1), (s.2.set j.toNat (s.2.getD ((wi64 (j - 1)).toNat) 0)).set ((wi64 (j - 1)).toNat) (s.2.getD j.toNat 0))))
  else (
   some (.inr s.2))

noncomputable def slices_insertionSortCmpFunc_int_L0 (a : Int) (b : Int) (cmp : Int × Int × Unit → Option Int) (i : Int) (data2 : List Int) : Option ((Int × List Int) ⊕ (List Int)) :=
  bif decide (i < b) then (
   (iter (fun x => slices_insertionSortCmpFunc_int_L1 a cmp x.1 x.2) (i, data2)).bind fun s2 =>
   some (.inl (wi64 (i + 1), s2)))
  else (
   some (.inr data2))

noncomputable def slices_insertionSortCmpFunc_int (a : Int) (b : Int) (cmp : Int × Int × Unit → Option Int) (data : List Int) : Option (List Int) :=
  (iter (fun x2 => slices_insertionSortCmpFunc_int_L0 a b cmp x2.1 x2.2) (wi64 (a + 1), data)).bind fun s3 =>
  some s3

noncomputable def fn_slices_insertionSortCmpFunc_int : Fun :=
  { f := 84, np := 4, nr := 0,
    ji := { regs := [(0, .one (.own 0)), (1, .one (.data (.int .i64))), (2, .one (.data (.int .i64))), (3, .one (.fn [.int .i64, .int .i64] (.int .i64)))], vars := [], arrs := [(0, .arr 3 (.int .i64))] },
    jo := { regs := [], vars := [], arrs := [(0, .arr 3 (.int .i64))] },
    tw := fun x => slices_insertionSortCmpFunc_int x.1 x.2.1 x.2.2.1 x.2.2.2 }
noncomputable def cx_slices_insertionSortCmpFunc_int : Cx := { Γ := types, ow := [], fs := [], N := 53 }
theorem ok_slices_insertionSortCmpFunc_int : FunOk Try.prog fn_slices_insertionSortCmpFunc_int :=
  FunOk.intro (C := cx_slices_insertionSortCmpFunc_int) (p := (.mk [] none .nil (.mk [] none (.mk [] (some ({ regs := [(0, .one (.own 0)), (1, .one .keep), (2, .one .keep), (3, .one .keep), (8, .one (.data (.int .i64)))], vars := [], arrs := [(0, .arr 3 (.int .i64))] }, [{ e := .x 0, j := { regs := [], vars := [], arrs := [(0, .arr 3 (.int .i64))] } }])) (.mk [] none .nil (.mk [] none (.mk [] none (.mk [] none .nil (.mk [] none (.mk [] (some ({ regs := [(0, .one (.own 0)), (1, .one .keep), (2, .one .keep), (3, .one .keep), (8, .one .keep), (9, .one (.data (.int .i64)))], vars := [], arrs := [(0, .arr 3 (.int .i64))] }, [{ e := .x 2, j := { regs := [(0, .one (.own 0)), (1, .one .keep), (2, .one .keep), (3, .one .keep), (8, .one .keep)], vars := [], arrs := [(0, .arr 3 (.int .i64))] } }])) (.mk [] none (.mk [] none (.mk [.join [{ e := .n, j := { regs := [(0, .one (.own 0)), (1, .one .keep), (2, .one .keep), (3, .one .keep), (8, .one .keep), (9, .one .keep), (34, .one (.data (.bool)))], vars := [], arrs := [(0, .arr 3 (.int .i64))] } }]] none .nil .nil) .nil) .nil) .nil) .nil)) .nil) .nil)) .nil) .nil)))
    Try.func84 rfl nmr84 rfl rfl rfl rfl types_ok ⟨trivial, trivial⟩ mx (fun x => by kernel_rfl)

noncomputable def slices_swapRangeCmpFunc_int_L0 (a : Int) (b : Int) (n : Int) (i : Int) (data2 : List Int) : Option ((Int × List Int) ⊕ (List Int)) :=
  bif decide (i < n) then (
   gd (inB (wi64 (b + i)) data2.length) <|
   gd (inB (wi64 (a + i)) data2.length) <|
   gd (inB (wi64 (a + i)) data2.length) <|
   gd (inB (wi64 (b + i)) (data2.set ((wi64 (a + i)).toNat) (data2.getD ((wi64 (b + i)).toNat) 0)).length) <|
   some (.inl (wi64 (i + 1), (data2.set ((wi64 (a + i)).toNat) (data2.getD ((wi64 (b + i)).toNat) 0)).set ((wi64 (b + i)).toNat) (data2.getD ((wi64 (a + i)).toNat) 0))))
  else (
   some (.inr data2))

noncomputable def slices_swapRangeCmpFunc_int (a : Int) (b : Int) (n : Int) (cmp : Int × Int × Unit → Option Int) (data : List Int) : Option (List Int) :=
  (iter (fun x => slices_swapRangeCmpFunc_int_L0 a b n x.1 x.2) (0, data)).bind fun s =>
  some s

noncomputable def fn_slices_swapRangeCmpFunc_int : Fun :=
  { f := 93, np := 5, nr := 0,
    ji := { regs := [(0, .one (.own 0)), (1, .one (.data (.int .i64))), (2, .one (.data (.int .i64))), (3, .one (.data (.int .i64))), (4, .one (.fn [.int .i64, .int .i64] (.int .i64)))], vars := [], arrs := [(0, .arr 3 (.int .i64))] },
    jo := { regs := [], vars := [], arrs := [(0, .arr 3 (.int .i64))] },
    tw := fun x => slices_swapRangeCmpFunc_int x.1 x.2.1 x.2.2.1 x.2.2.2.1 x.2.2.2.2 }
noncomputable def cx_slices_swapRangeCmpFunc_int : Cx := { Γ := types, ow := [], fs := [], N := 38 }
theorem ok_slices_swapRangeCmpFunc_int : FunOk Try.prog fn_slices_swapRangeCmpFunc_int :=
  FunOk.intro (C := cx_slices_swapRangeCmpFunc_int) (p := (.mk [] none .nil (.mk [] none (.mk [] (some ({ regs := [(0, .one (.own 0)), (1, .one .keep), (2, .one .keep), (3, .one .keep), (10, .one (.data (.int .i64)))], vars := [], arrs := [(0, .arr 3 (.int .i64))] }, [{ e := .x 0, j := { regs := [], vars := [], arrs := [(0, .arr 3 (.int .i64))] } }])) .nil .nil) .nil)))
    Try.func93 rfl nmr93 rfl rfl rfl rfl types_ok ⟨trivial, trivial⟩ mx (fun x => by kernel_rfl)

noncomputable def slices_rotateCmpFunc_int_L0 (m : Int) (cmp : Int × Int × Unit → Option Int) (i : Int) (j : Int) (data2 : List Int) : Option ((Int × Int × List Int) ⊕ (Int × List Int)) :=
  bif !decide (i = j) then (
   bif decide (j < i) then (
    (slices_swapRangeCmpFunc_int (wi64 (m - i)) m j cmp data2).bind fun r =>
    some (.inl (wi64 (i - j), j, r)))
   else (
    (slices_swapRangeCmpFunc_int (wi64 (m - i)) (wi64 ((wi64 (m + j)) - i)) i cmp data2).bind fun r2 =>
    some (.inl (i, wi64 (j - i), r2))))
  else (
   some (.inr (i, data2)))

noncomputable def slices_rotateCmpFunc_int (a : Int) (m : Int) (b : Int) (cmp : Int × Int × Unit → Option Int) (data : List Int) : Option (List Int) :=
  (iter (fun x => slices_rotateCmpFunc_int_L0 m cmp x.1 x.2.1 x.2.2) (wi64 (m - a), wi64 (b - m), data)).bind fun s =>
  (slices_swapRangeCmpFunc_int (wi64 (m - s.1)) m s.1 cmp s.2).bind fun r3 =>
  some r3

noncomputable def fn_slices_rotateCmpFunc_int : Fun :=
  { f := 91, np := 5, nr := 0,
    ji := { regs := [(0, .one (.own 0)), (1, .one (.data (.int .i64))), (2, .one (.data (.int .i64))), (3, .one (.data (.int .i64))), (4, .one (.fn [.int .i64, .int .i64] (.int .i64)))], vars := [], arrs := [(0, .arr 3 (.int .i64))] },
    jo := { regs := [], vars := [], arrs := [(0, .arr 3 (.int .i64))] },
    tw := fun x => slices_rotateCmpFunc_int x.1 x.2.1 x.2.2.1 x.2.2.2.1 x.2.2.2.2 }
noncomputable def cx_slices_rotateCmpFunc_int : Cx := { Γ := types, ow := [], fs := [fn_slices_swapRangeCmpFunc_int], N := 58 }
theorem ok_slices_rotateCmpFunc_int : FunOk Try.prog fn_slices_rotateCmpFunc_int :=
  FunOk.intro (C := cx_slices_rotateCmpFunc_int) (p := (.mk [] none .nil (.mk [] none .nil (.mk [] none (.mk [] none (.mk [] (some ({ regs := [(0, .one (.own 0)), (2, .one .keep), (4, .one .keep), (10, .one (.data (.int .i64))), (11, .one (.data (.int .i64)))], vars := [], arrs := [(0, .arr 3 (.int .i64))] }, [{ e := .x 0, j := { regs := [(0, .one (.own 0)), (2, .one .keep), (4, .one .keep), (10, .one (.data (.int .i64)))], vars := [], arrs := [(0, .arr 3 (.int .i64))] } }])) .nil .nil) .nil) .nil))))
    Try.func91 rfl nmr91 rfl rfl rfl rfl types_ok ⟨⟨ok_slices_swapRangeCmpFunc_int, trivial⟩, trivial⟩ mx (fun x => by kernel_rfl)

noncomputable def slices_symMergeCmpFunc_int_L0 (a : Int) (cmp : Int × Int × Unit → Option Int) (i : Int) (j : Int) (data2 : List Int) : Option ((Int × Int × List Int) ⊕ (Int × List Int)) :=
  bif decide (i < j) then (
   gd (inB (wi64 (Int.fdiv (wu64 (wi64 (i + j))) (2 ^ shAmt .u64 1))) data2.length) <|
   gd (inB a data2.length) <|
   (cmp (data2.getD ((wi64 (Int.fdiv (wu64 (wi64 (i + j))) (2 ^ shAmt .u64 1))).toNat) 0, data2.getD a.toNat 0, ())).bind fun r =>
   bif decide (r < 0) then (
    some (.inl (wi64 ((wi64 (Int.fdiv (wu64 (wi64 (i + j))) (2 ^ shAmt .u64 1))) + 1), j, data2)))
   else (
    some (.inl (i, wi64 (Int.fdiv (wu64 (wi64 (i + j))) (2 ^ shAmt .u64 1)), data2))))
  else (
   some (.inr (i, data2)))

noncomputable def slices_symMergeCmpFunc_int_L1 (s : Int × List Int) (k : Int) (data3 : List Int) : Option ((Int × List Int) ⊕ (List Int)) :=
  bif decide (k < wi64 (s.1 - 1)) then (
   gd (inB (wi64 (k + 1)) data3.length) <|
   gd (inB k data3.length) <|
   gd (inB k data3.length) <|
   gd (inB (wi64 (k + 1)) (data3.set k.toNat (data3.getD ((wi64 (k + 1)).toNat) 0)).length) <|
   some (.inl (wi64 (k + 1), (data3.set k.toNat (data3.getD ((wi64 (k + 1)).toNat) 0)).set ((wi64 (k + 1)).toNat) (data3.getD k.toNat 0))))
  else (
   some (.inr data3))

noncomputable def slices_symMergeCmpFunc_int_L2 (m : Int) (cmp : Int × Int × Unit → Option Int) (i2 : Int) (j2 : Int) (data4 : List Int) : Option ((Int × Int × List Int) ⊕ (Int × List Int)) :=
  bif decide (i2 < j2) then (
   gd (inB m data4.length) <|
   gd (inB (wi64 (Int.fdiv (wu64 (wi64 (i2 + j2))) (2 ^ shAmt .u64 1))) data4.length) <|
   (cmp (data4.getD m.toNat 0, data4.getD ((wi64 (Int.fdiv (wu64 (wi64 (i2 + j2))) (2 ^ shAmt .u64 1))).toNat) 0, ())).bind fun r2 =>
   bif !(decide (r2 < 0)) then (
    some (.inl (wi64 ((wi64 (Int.fdiv (wu64 (wi64 (i2 + j2))) (2 ^ shAmt .u64 1))) + 1), j2, data4)))
   else (
    some (.inl (i2, wi64 (Int.fdiv (wu64 (wi64 (i2 + j2))) (2 ^ shAmt .u64 1)), data4))))
  else (
   some (.inr (i2, data4)))

noncomputable def slices_symMergeCmpFunc_int_L3 (s3 : Int × List Int) (k2 : Int) (data5 : List Int) : Option ((Int × List Int) ⊕ (List Int)) :=
  bif decide (s3.1 < k2) then (
   gd (inB (wi64 (k2 - 1)) data5.length) <|
   gd (inB k2 data5.length) <|
   gd (inB k2 data5.length) <|
   gd (inB (wi64 (k2 - 1)) (data5.set k2.toNat (data5.getD ((wi64 (k2 - 1)).toNat) 0)).length) <|
   some (.inl (wi64 (k2 - 1), (data5.set k2.toNat (data5.getD ((wi64 (k2 - 1)).toNat) 0)).set ((wi64 (k2 - 1)).toNat) (data5.getD k2.toNat 0))))
  else (
   some (.inr data5))

noncomputable def slices_symMergeCmpFunc_int_L4 (a : Int) (m : Int) (b : Int) (cmp : Int × Int × Unit → Option Int) (start : Int) (r3 : Int) (data6 : List Int) : Option ((Int × Int × List Int) ⊕ (Int × List Int)) :=
  bif decide (start < r3) then (
   gd (inB (wi64 ((wi64 ((wi64 ((wi64 (Int.fdiv (wu64 (wi64 (a + b))) (2 ^ shAmt .u64 1))) + m)) - 1)) - (wi64 (Int.fdiv (wu64 (wi64 (start + r3))) (2 ^ shAmt .u64 1))))) data6.length) <|
   gd (inB (wi64 (Int.fdiv (wu64 (wi64 (start + r3))) (2 ^ shAmt .u64 1))) data6.length) <|
   (cmp (data6.getD ((wi64 ((wi64 ((wi64 ((wi64 (Int.fdiv (wu64 (wi64 (a + b))) (2 ^ shAmt .u64 1))) + m)) - 1)) - (wi64 (Int.fdiv (wu64 (wi64 (start + r3))) (2 ^ shAmt .u64 1))))).toNat) 0, data6.getD ((wi64 (Int.fdiv (wu64 (wi64 (start + r3))) (2 ^ shAmt .u64 1))).toNat) 0, ())).bind fun r4 =>
   bif !(decide (r4 < 0)) then (
    some (.inl (wi64 ((wi64 (Int.fdiv (wu64 (wi64 (start + r3))) (2 ^ shAmt .u64 1))) + 1), r3, data6)))
   else (
    some (.inl (start, wi64 (Int.fdiv (wu64 (wi64 (start + r3))) (2 ^ shAmt .u64 1)), data6))))
  else (
   some (.inr (start, data6)))

noncomputable def slices_symMergeCmpFunc_int_S (rec : Int → Int → Int → (Int × Int × Unit → Option Int) → List Int → Option (List Int)) (a : Int) (m : Int) (b : Int) (cmp : Int × Int × Unit → Option Int) (data : List Int) : Option (List Int) :=
  bif decide (wi64 (m - a) = 1) then (
   (iter (fun x => slices_symMergeCmpFunc_int_L0 a cmp x.1 x.2.1 x.2.2) (m, b, data)).bind fun s =>
   (iter (fun x2 => slices_symMergeCmpFunc_int_L1 s x2.1 x2.2) (a, s.2)).bind fun s2 =>
   some s2)
  else (
   bif decide (wi64 (b - m) = 1) then (
    (iter (fun x3 => slices_symMergeCmpFunc_int_L2 m cmp x3.1 x3.2.1 x3.2.2) (a, m, data)).bind fun s3 =>
    (iter (fun x4 => slices_symMergeCmpFunc_int_L3 s3 x4.1 x4.2) (m, s3.2)).bind fun s4 =>
    some s4)
   else (
    Option.bind (α := Int × Int × List Int) (
      bif decide (wi64 (Int.fdiv (wu64 (wi64 (a + b))) (2 ^ shAmt .u64 1)) < m) then (
       some (wi64 ((wi64 ((wi64 (Int.fdiv (wu64 (wi64 (a + b))) (2 ^ shAmt .u64 1))) + m)) - b), wi64 (Int.fdiv (wu64 (wi64 (a + b))) (2 ^ shAmt .u64 1)), data))
      else (
       some (a, m, data))) fun s5 =>
    (iter (fun x5 => slices_symMergeCmpFunc_int_L4 a m b cmp x5.1 x5.2.1 x5.2.2) (s5.1, s5.2.1, s5.2.2)).bind fun s6 =>
    Option.bind (α := Bool × List Int) (
      bif decide (s6.1 < m) then (
       some (decide (m < wi64 ((wi64 ((wi64 (Int.fdiv (wu64 (wi64 (a + b))) (2 ^ shAmt .u64 1))) + m)) - s6.1)), s6.2))
      else (
       some (false, s6.2))) fun s7 =>
    Option.bind (α := List Int) (
      bif s7.1 then (
       (slices_rotateCmpFunc_int s6.1 m (wi64 ((wi64 ((wi64 (Int.fdiv (wu64 (wi64 (a + b))) (2 ^ shAmt .u64 1))) + m)) - s6.1)) cmp s7.2).bind fun r5 =>
       some r5)
      else (
       some s7.2)) fun s8 =>
    Option.bind (α := Bool × List Int) (
      bif decide (a < s6.1) then (
       some (decide (s6.1 < wi64 (Int.fdiv (wu64 (wi64 (a + b))) (2 ^ shAmt .u64 1))), s8))
      else (
       some (false, s8))) fun s9 =>
    Option.bind (α := List Int) (
      bif s9.1 then (
       (rec a s6.1 (wi64 (Int.fdiv (wu64 (wi64 (a + b))) (2 ^ shAmt .u64 1))) cmp s9.2).bind fun r6 =>
       some r6)
      else (
       some s9.2)) fun s10 =>
    Option.bind (α := Bool × List Int) (
      bif decide (wi64 (Int.fdiv (wu64 (wi64 (a + b))) (2 ^ shAmt .u64 1)) < wi64 ((wi64 ((wi64 (Int.fdiv (wu64 (wi64 (a + b))) (2 ^ shAmt .u64 1))) + m)) - s6.1)) then (
       some (decide (wi64 ((wi64 ((wi64 (Int.fdiv (wu64 (wi64 (a + b))) (2 ^ shAmt .u64 1))) + m)) - s6.1) < b), s10))
      else (
       some (false, s10))) fun s11 =>
    bif s11.1 then (
     (rec (wi64 (Int.fdiv (wu64 (wi64 (a + b))) (2 ^ shAmt .u64 1))) (wi64 ((wi64 ((wi64 (Int.fdiv (wu64 (wi64 (a + b))) (2 ^ shAmt .u64 1))) + m)) - s6.1)) b cmp s11.2).bind fun r7 =>
     some r7)
    else (
     some s11.2)))

noncomputable def slices_symMergeCmpFunc_int_F : Nat → Int → Int → Int → (Int × Int × Unit → Option Int) → List Int → Option (List Int)
  | 0 => fun _ _ _ _ _ => none
  | n + 1 => slices_symMergeCmpFunc_int_S (slices_symMergeCmpFunc_int_F n)

noncomputable def slices_symMergeCmpFunc_int (a : Int) (m : Int) (b : Int) (cmp : Int × Int × Unit → Option Int) (data : List Int) : Option (List Int) := slices_symMergeCmpFunc_int_F 18446744073709551616 a m b cmp data

noncomputable def fn_slices_symMergeCmpFunc_int_F (n : Nat) : Fun :=
  { f := 85, np := 5, nr := 0,
    ji := { regs := [(0, .one (.own 0)), (1, .one (.data (.int .i64))), (2, .one (.data (.int .i64))), (3, .one (.data (.int .i64))), (4, .one (.fn [.int .i64, .int .i64] (.int .i64)))], vars := [], arrs := [(0, .arr 3 (.int .i64))] },
    jo := { regs := [], vars := [], arrs := [(0, .arr 3 (.int .i64))] },
    tw := fun x => slices_symMergeCmpFunc_int_F n x.1 x.2.1 x.2.2.1 x.2.2.2.1 x.2.2.2.2 }
noncomputable def fn_slices_symMergeCmpFunc_int : Fun := fn_slices_symMergeCmpFunc_int_F 18446744073709551616
noncomputable def cx_slices_symMergeCmpFunc_int (n : Nat) : Cx := { Γ := types, ow := [], fs := [fn_slices_rotateCmpFunc_int, fn_slices_symMergeCmpFunc_int_F n], N := 220 }
theorem ok_slices_symMergeCmpFunc_int_F : ∀ n : Nat, FunOk Try.prog (fn_slices_symMergeCmpFunc_int_F n)
  | 0 => FunOk.nothing Try.func85 rfl nmr85 (fun x => rfl)
  | n + 1 => FunOk.intro (C := cx_slices_symMergeCmpFunc_int n) (p := (.mk [] none (.mk [] none .nil (.mk [] none (.mk [] none .nil (.mk [] none .nil (.mk [] none (.mk [] none (.mk [] (some ({ regs := [(0, .one (.own 0)), (1, .one .keep), (4, .one .keep), (10, .one (.data (.int .i64))), (11, .one (.data (.int .i64)))], vars := [], arrs := [(0, .arr 3 (.int .i64))] }, [{ e := .x 0, j := { regs := [(0, .one (.own 0)), (1, .one .keep), (10, .one (.data (.int .i64)))], vars := [], arrs := [(0, .arr 3 (.int .i64))] } }])) .nil .nil) .nil) (.mk [] none (.mk [] none .nil (.mk [] none (.mk [] (some ({ regs := [(0, .one (.own 0)), (10, .one .keep), (13, .one (.data (.int .i64)))], vars := [], arrs := [(0, .arr 3 (.int .i64))] }, [{ e := .x 2, j := { regs := [], vars := [], arrs := [(0, .arr 3 (.int .i64))] } }])) .nil .nil) .nil)) .nil)))) .nil)) (.mk [] none (.mk [] none .nil (.mk [] none (.mk [] none .nil (.mk [] none .nil (.mk [] none (.mk [] none (.mk [] (some ({ regs := [(0, .one (.own 0)), (2, .one .keep), (4, .one .keep), (14, .one (.data (.int .i64))), (15, .one (.data (.int .i64)))], vars := [], arrs := [(0, .arr 3 (.int .i64))] }, [{ e := .x 4, j := { regs := [(0, .one (.own 0)), (2, .one .keep), (14, .one (.data (.int .i64)))], vars := [], arrs := [(0, .arr 3 (.int .i64))] } }])) .nil .nil) .nil) (.mk [] none (.mk [] none .nil (.mk [] none (.mk [] (some ({ regs := [(0, .one (.own 0)), (14, .one .keep), (17, .one (.data (.int .i64)))], vars := [], arrs := [(0, .arr 3 (.int .i64))] }, [{ e := .x 6, j := { regs := [], vars := [], arrs := [(0, .arr 3 (.int .i64))] } }])) .nil .nil) .nil)) .nil)))) .nil)) (.mk [] none .nil (.mk [] none .nil (.mk [] none .nil (.mk [] none (.mk [] none .nil (.mk [.join [{ e := .n, j := { regs := [(0, .one (.own 0)), (1, .one .keep), (2, .one .keep), (3, .one .keep), (4, .one .keep), (18, .one .keep), (19, .one .keep), (20, .one (.data (.int .i64))), (21, .one (.data (.int .i64)))], vars := [], arrs := [(0, .arr 3 (.int .i64))] } }]] none .nil .nil)) (.mk [] none .nil (.mk [] none (.mk [] none (.mk [] (some ({ regs := [(0, .one (.own 0)), (1, .one .keep), (2, .one .keep), (3, .one .keep), (4, .one .keep), (18, .one .keep), (19, .one .keep), (20, .one (.data (.int .i64))), (21, .one (.data (.int .i64))), (22, .one .keep)], vars := [], arrs := [(0, .arr 3 (.int .i64))] }, [{ e := .x 8, j := { regs := [(0, .one (.own 0)), (1, .one .keep), (2, .one .keep), (3, .one .keep), (4, .one .keep), (18, .one .keep), (19, .one .keep), (20, .one (.data (.int .i64)))], vars := [], arrs := [(0, .arr 3 (.int .i64))] } }])) .nil .nil) .nil) (.mk [] none .nil (.mk [] none (.mk [] none (.mk [.join [{ e := .n, j := { regs := [(0, .one (.own 0)), (1, .one .keep), (2, .one .keep), (3, .one .keep), (4, .one .keep), (18, .one .keep), (20, .one .keep), (24, .one .keep), (185, .one (.data (.bool)))], vars := [], arrs := [(0, .arr 3 (.int .i64))] } }]] none .nil .nil) (.mk [.join [{ e := .n, j := { regs := [(0, .one (.own 0)), (1, .one .keep), (3, .one .keep), (4, .one .keep), (18, .one .keep), (20, .one .keep), (24, .one .keep)], vars := [], arrs := [(0, .arr 3 (.int .i64))] } }]] none .nil .nil)) (.mk [] none (.mk [] none (.mk [.join [{ e := .n, j := { regs := [(0, .one (.own 0)), (1, .one .keep), (3, .one .keep), (4, .one .keep), (18, .one .keep), (20, .one .keep), (24, .one .keep), (199, .one (.data (.bool)))], vars := [], arrs := [(0, .arr 3 (.int .i64))] } }]] none .nil .nil) (.mk [.join [{ e := .n, j := { regs := [(0, .one (.own 0)), (3, .one .keep), (4, .one .keep), (18, .one .keep), (24, .one .keep)], vars := [], arrs := [(0, .arr 3 (.int .i64))] } }]] none .nil .nil)) (.mk [] none (.mk [.join [{ e := .n, j := { regs := [(0, .one (.own 0)), (3, .one .keep), (4, .one .keep), (18, .one .keep), (24, .one .keep), (213, .one (.data (.bool)))], vars := [], arrs := [(0, .arr 3 (.int .i64))] } }]] none .nil .nil) .nil)))))))))))))
    Try.func85 rfl nmr85 rfl rfl rfl rfl types_ok ⟨⟨ok_slices_rotateCmpFunc_int, ok_slices_symMergeCmpFunc_int_F n, trivial⟩, trivial⟩ mx (fun x => by kernel_rfl)
theorem ok_slices_symMergeCmpFunc_int : FunOk Try.prog fn_slices_symMergeCmpFunc_int := ok_slices_symMergeCmpFunc_int_F 18446744073709551616

noncomputable def slices_stableCmpFunc_int_L0 (n : Int) (cmp : Int × Int × Unit → Option Int) (a : Int) (b : Int) (data2 : List Int) : Option ((Int × Int × List Int) ⊕ (Int × List Int)) :=
  bif decide (b ≤ n) then (
   (slices_insertionSortCmpFunc_int a b cmp data2).bind fun r =>
   some (.inl (b, wi64 (b + 20), r)))
  else (
   some (.inr (a, data2)))

noncomputable def slices_stableCmpFunc_int_L2 (n : Int) (cmp : Int × Int × Unit → Option Int) (blockSize : Int) (a2 : Int) (b2 : Int) (data4 : List Int) : Option ((Int × Int × List Int) ⊕ (Int × List Int)) :=
  bif decide (b2 ≤ n) then (
   (slices_symMergeCmpFunc_int a2 (wi64 (a2 + blockSize)) b2 cmp data4).bind fun r3 =>
   some (.inl (b2, wi64 (b2 + (wi64 (2 * blockSize))), r3)))
  else (
   some (.inr (a2, data4)))

noncomputable def slices_stableCmpFunc_int_L1 (n : Int) (cmp : Int × Int × Unit → Option Int) (blockSize : Int) (data3 : List Int) : Option ((Int × List Int) ⊕ (List Int)) :=
  bif decide (blockSize < n) then (
   (iter (fun x2 => slices_stableCmpFunc_int_L2 n cmp blockSize x2.1 x2.2.1 x2.2.2) (0, wi64 (2 * blockSize), data3)).bind fun s2 =>
   Option.bind (α := List Int) (
     bif decide (wi64 (s2.1 + blockSize) < n) then (
      (slices_symMergeCmpFunc_int s2.1 (wi64 (s2.1 + blockSize)) n cmp s2.2).bind fun r4 =>
      some r4)
     else (
      some s2.2)) fun s3 =>
   some (.inl (wi64 (blockSize * 2), s3)))
  else (
   some (.inr data3))

noncomputable def slices_stableCmpFunc_int (n : Int) (cmp : Int × Int × Unit → Option Int) (data : List Int) : Option (List Int) :=
  (iter (fun x => slices_stableCmpFunc_int_L0 n cmp x.1 x.2.1 x.2.2) (0, 20, data)).bind fun s =>
  (slices_insertionSortCmpFunc_int s.1 n cmp s.2).bind fun r2 =>
  (iter (fun x3 => slices_stableCmpFunc_int_L1 n cmp x3.1 x3.2) (20, r2)).bind fun s4 =>
  some s4

noncomputable def fn_slices_stableCmpFunc_int : Fun :=
  { f := 72, np := 3, nr := 0,
    ji := { regs := [(0, .one (.own 0)), (1, .one (.data (.int .i64))), (2, .one (.fn [.int .i64, .int .i64] (.int .i64)))], vars := [], arrs := [(0, .arr 3 (.int .i64))] },
    jo := { regs := [], vars := [], arrs := [(0, .arr 3 (.int .i64))] },
    tw := fun x => slices_stableCmpFunc_int x.1 x.2.1 x.2.2 }
noncomputable def cx_slices_stableCmpFunc_int : Cx := { Γ := types, ow := [], fs := [fn_slices_insertionSortCmpFunc_int, fn_slices_symMergeCmpFunc_int], N := 63 }
theorem ok_slices_stableCmpFunc_int : FunOk Try.prog fn_slices_stableCmpFunc_int :=
  FunOk.intro (C := cx_slices_stableCmpFunc_int) (p := (.mk [] none .nil (.mk [] none .nil (.mk [] none (.mk [] none (.mk [] (some ({ regs := [(0, .one (.own 0)), (1, .one .keep), (2, .one .keep), (6, .one .keep), (7, .one (.data (.int .i64))), (8, .one (.data (.int .i64)))], vars := [], arrs := [(0, .arr 3 (.int .i64))] }, [{ e := .x 0, j := { regs := [(0, .one (.own 0)), (1, .one .keep), (2, .one .keep), (6, .one .keep), (7, .one (.data (.int .i64)))], vars := [], arrs := [(0, .arr 3 (.int .i64))] } }])) .nil .nil) .nil) (.mk [] none .nil (.mk [] none (.mk [] (some ({ regs := [(0, .one (.own 0)), (1, .one .keep), (2, .one .keep), (6, .one (.data (.int .i64)))], vars := [], arrs := [(0, .arr 3 (.int .i64))] }, [{ e := .x 2, j := { regs := [], vars := [], arrs := [(0, .arr 3 (.int .i64))] } }])) (.mk [] none .nil (.mk [] none (.mk [] none .nil (.mk [] none (.mk [] none (.mk [] (some ({ regs := [(0, .one (.own 0)), (1, .one .keep), (2, .one .keep), (6, .one .keep), (7, .one (.data (.int .i64))), (8, .one (.data (.int .i64)))], vars := [], arrs := [(0, .arr 3 (.int .i64))] }, [{ e := .x 4, j := { regs := [(0, .one (.own 0)), (1, .one .keep), (2, .one .keep), (6, .one .keep), (7, .one (.data (.int .i64)))], vars := [], arrs := [(0, .arr 3 (.int .i64))] } }])) .nil .nil) .nil) (.mk [] none (.mk [] none .nil (.mk [] none .nil (.mk [.join [{ e := .n, j := { regs := [(0, .one (.own 0)), (1, .one .keep), (2, .one .keep), (6, .one .keep)], vars := [], arrs := [(0, .arr 3 (.int .i64))] } }]] none .nil .nil))) .nil))) .nil)) .nil) .nil))))))
    Try.func72 rfl nmr72 rfl rfl rfl rfl types_ok ⟨⟨ok_slices_insertionSortCmpFunc_int, ok_slices_symMergeCmpFunc_int, trivial⟩, trivial⟩ mx (fun x => by kernel_rfl)

noncomputable def slices_SortStableFunc_int_int (cmp : Int × Int × Unit → Option Int) (x : List Int) : Option (List Int) :=
  (slices_stableCmpFunc_int (x.length : Int) cmp x).bind fun r =>
  some r

noncomputable def fn_slices_SortStableFunc_int_int : Fun :=
  { f := 64, np := 2, nr := 0,
    ji := { regs := [(0, .one (.own 0)), (1, .one (.fn [.int .i64, .int .i64] (.int .i64)))], vars := [], arrs := [(0, .arr 3 (.int .i64))] },
    jo := { regs := [], vars := [], arrs := [(0, .arr 3 (.int .i64))] },
    tw := fun x => slices_SortStableFunc_int_int x.1 x.2 }
noncomputable def cx_slices_SortStableFunc_int_int : Cx := { Γ := types, ow := [], fs := [fn_slices_stableCmpFunc_int], N := 9 }
theorem ok_slices_SortStableFunc_int_int : FunOk Try.prog fn_slices_SortStableFunc_int_int :=
  FunOk.intro (C := cx_slices_SortStableFunc_int_int) (p := .nil)
    Try.func64 rfl nmr64 rfl rfl rfl rfl types_ok ⟨⟨ok_slices_stableCmpFunc_int, trivial⟩, trivial⟩ mx (fun x => by kernel_rfl)

noncomputable def allocate_Share_L0 (weights : List Int) (sum : Int) (v : Int) : Option ((Int × Int) ⊕ Int) :=
  bif decide (v < (weights.length : Int)) then (
   gd (inB v weights.length) <|
   some (.inl (wi64 (sum + (weights.getD v.toNat 0)), wi64 (v + 1))))
  else (
   some (.inr sum))

noncomputable def allocate_Share_L1 (total : Int) (weights : List Int) (s2 : Int) (left : Int) (v2 : Int) (out : List Int) (order : List Int) (rests : List Int) : Option ((Int × Int × List Int × List Int × List Int) ⊕ (Int × List Int × List Int × List Int)) :=
  bif decide (v2 < (weights.length : Int)) then (
   gd (inB v2 weights.length) <|
   gd (inB v2 order.length) <|
   (allocate_part (max total (wi64 (0 - total))) (weights.getD v2.toNat 0) s2).bind fun r3 =>
   gd (inB v2 out.length) <|
   gd (inB v2 rests.length) <|
   gd (inB v2 (out.set v2.toNat r3.1).length) <|
   some (.inl (wi64 (left - ((out.set v2.toNat r3.1).getD v2.toNat 0)), wi64 (v2 + 1), out.set v2.toNat r3.1, order.set v2.toNat v2, rests.set v2.toNat r3.2)))
  else (
   some (.inr (left, out, order, rests)))

noncomputable def allocate_Share_L2 (s4 : Int × List Int × List Int × List Int) (r4 : List Int) (v3 : Int) (out2 : List Int) : Option ((Int × List Int) ⊕ (List Int)) :=
  bif decide (v3 < ((r4.take s4.1.toNat).length : Int)) then (
   gd (inB v3 (r4.take s4.1.toNat).length) <|
   gd (inB ((r4.take s4.1.toNat).getD v3.toNat 0) out2.length) <|
   gd (inB ((r4.take s4.1.toNat).getD v3.toNat 0) out2.length) <|
   some (.inl (wi64 (v3 + 1), out2.set (((r4.take s4.1.toNat).getD v3.toNat 0).toNat) (wi64 ((out2.getD (((r4.take s4.1.toNat).getD v3.toNat 0).toNat) 0) + 1)))))
  else (
   some (.inr out2))

noncomputable def allocate_Share_L3 (s3 : Int × List Int) (s5 : List Int) (v4 : Int) (out3 : List Int) : Option ((Int × List Int) ⊕ (List Int)) :=
  bif decide (v4 < (s5.length : Int)) then (
   gd (inB v4 out3.length) <|
   gd (inB v4 out3.length) <|
   some (.inl (wi64 (v4 + 1), out3.set v4.toNat (wi64 ((out3.getD v4.toNat 0) * s3.1)))))
  else (
   some (.inr out3))

noncomputable def allocate_Share (total : Int) (weights : List Int) : Option (List Int × Int) :=
  bif decide (64 < (weights.length : Int)) then (
   some ([], 4))
  else (
   Option.bind (α := Bool) (
     (allocate_Signed total).bind fun r =>
     bif !r then (
      some true)
     else (
      (slices_ContainsFunc_int_int weights (fun h => (allocate_Share_1 h.1).bind fun y => some y)).bind fun r2 =>
      some r2)) fun s =>
   bif s then (
    some ([], 1))
   else (
    (iter (fun x => allocate_Share_L0 weights x.1 x.2) (0, 0)).bind fun s2 =>
    gd (makeG 8 (weights.length : Int)) <|
    bif decide (total = 0) then (
     some (List.replicate (weights.length : Int).toNat 0, 0))
    else (
     bif decide (s2 = 0) then (
      some ([], 9))
     else (
      Option.bind (α := Int × List Int) (
        bif decide (total < 0) then (
         some ((-1), List.replicate (weights.length : Int).toNat 0))
        else (
         some (1, List.replicate (weights.length : Int).toNat 0))) fun s3 =>
      gd (makeG 8 (weights.length : Int)) <|
      gd (makeG 8 (weights.length : Int)) <|
      (iter (fun x2 => allocate_Share_L1 total weights s2 x2.1 x2.2.1 x2.2.2.1 x2.2.2.2.1 x2.2.2.2.2) (max total (wi64 (0 - total)), 0, s3.2, List.replicate (weights.length : Int).toNat 0, List.replicate (weights.length : Int).toNat 0)).bind fun s4 =>
      (slices_SortStableFunc_int_int (fun h2 => (allocate_Share_2 h2.1 h2.2.1 s4.2.2.2).bind fun y => some y) s4.2.2.1).bind fun r4 =>
      gd (cutG none (some (.i64, s4.1)) r4.length) <|
      (iter (fun x3 => allocate_Share_L2 s4 r4 x3.1 x3.2) (0, s4.2.1)).bind fun s5 =>
      (iter (fun x4 => allocate_Share_L3 s3 s5 x4.1 x4.2) (0, s5)).bind fun s6 =>
      some (s6, 0)))))

noncomputable def fn_allocate_Share : Fun :=
  { f := 51, np := 2, nr := 2,
    ji := { regs := [(0, .one (.data (.int .i64))), (1, .one (.data (.sl (.int .i64))))], vars := [], arrs := [] },
    jo := { regs := [(0, .one (.data (.sl (.int .i64)))), (1, .one (.data (.int .i64)))], vars := [], arrs := [] },
    tw := fun x => allocate_Share x.1 x.2 }
noncomputable def cx_allocate_Share : Cx := { Γ := types, ow := [], fs := [fn_allocate_Signed, fn_slices_ContainsFunc_int_int, fn_allocate_Share_1, fn_allocate_part, fn_slices_SortStableFunc_int_int, fn_allocate_Share_2], N := 128 }
theorem ok_allocate_Share : FunOk Try.prog fn_allocate_Share :=
  FunOk.intro (C := cx_allocate_Share) (p := (.mk [] none .nil (.mk [] none (.mk [] none (.mk [] none .nil (.mk [] none .nil (.mk [] none (.mk [.join [{ e := .n, j := { regs := [(0, .one .keep), (1, .one .keep), (24, .one (.data (.bool)))], vars := [], arrs := [] } }]] none .nil .nil) .nil))) .nil) (.mk [] none .nil (.mk [] none (.mk [] none .nil (.mk [] none (.mk [] (some ({ regs := [(0, .one .keep), (1, .one .keep), (6, .one (.data (.int .i64))), (32, .one .keep), (33, .one .keep), (34, .one (.data (.int .i64)))], vars := [], arrs := [] }, [{ e := .x 1, j := { regs := [(0, .one .keep), (1, .one .keep), (6, .one (.data (.int .i64)))], vars := [], arrs := [] } }])) .nil .nil) .nil)) (.mk [] none .nil (.mk [] none .nil (.mk [] none .nil (.mk [] none (.mk [] none .nil (.mk [.join [{ e := .n, j := { regs := [(1, .one .keep), (6, .one .keep), (9, .one (.own 720)), (10, .one .keep), (11, .one (.data (.int .i64)))], vars := [], arrs := [(720, .arr 3 (.int .i64))] } }]] none .nil .nil)) (.mk [] none .nil (.mk [] none .nil (.mk [] none (.mk [] none .nil (.mk [] none (.mk [] (some ({ regs := [(6, .one .keep), (9, .one (.own 720)), (10, .one .keep), (11, .one .keep), (12, .one (.own 976)), (13, .one (.ptr 224 0)), (14, .one (.data (.int .i64))), (65, .one .keep), (66, .one .keep), (67, .one (.data (.int .i64)))], vars := [(224, 22, [.own 1024])], arrs := [(720, .arr 3 (.int .i64)), (976, .arr 3 (.int .i64)), (1024, .arr 3 (.int .i64))] }, [{ e := .x 4, j := { regs := [(9, .one (.own 720)), (11, .one .keep), (12, .one (.own 976)), (13, .one (.ptr 224 0)), (14, .one (.data (.int .i64)))], vars := [(224, 22, [.own 1024])], arrs := [(720, .arr 3 (.int .i64)), (976, .arr 3 (.int .i64)), (1024, .arr 3 (.int .i64))] } }])) .nil .nil) .nil)) (.mk [] none (.mk [.fv [(13, .sl (.int .i64))]] none .nil .nil) (.mk [] none (.mk [] none (.mk [.fz [12]] none .nil .nil) (.mk [] none (.mk [] (some ({ regs := [(9, .one (.own 720)), (11, .one .keep), (101, .one .keep), (102, .one .keep), (103, .one (.data (.int .i64)))], vars := [], arrs := [(720, .arr 3 (.int .i64))] }, [{ e := .x 6, j := { regs := [(9, .one (.own 720)), (11, .one .keep)], vars := [], arrs := [(720, .arr 3 (.int .i64))] } }])) .nil .nil) .nil)) (.mk [] none (.mk [] none .nil (.mk [] none (.mk [] (some ({ regs := [(9, .one (.own 720)), (11, .one .keep), (115, .one .keep), (116, .one (.data (.int .i64)))], vars := [], arrs := [(720, .arr 3 (.int .i64))] }, [{ e := .x 8, j := { regs := [(9, .one (.own 720))], vars := [], arrs := [(720, .arr 3 (.int .i64))] } }])) .nil .nil) .nil)) .nil)))))))))))))))
    Try.func51 rfl nmr51 rfl rfl rfl rfl types_ok ⟨⟨ok_allocate_Signed, ok_slices_ContainsFunc_int_int, ok_allocate_Share_1, ok_allocate_part, ok_slices_SortStableFunc_int_int, ok_allocate_Share_2, trivial⟩, trivial⟩ mx (fun x => by kernel_rfl)

noncomputable def ref23_SameInts_L0 (a : List Int) (b : List Int) (i : Int) : Option (Int ⊕ (Unit ⊕ Bool)) :=
  bif decide (i < (a.length : Int)) then (
   gd (inB i a.length) <|
   gd (inB i b.length) <|
   bif !decide (a.getD i.toNat 0 = b.getD i.toNat 0) then (
    some (.inr (.inr false)))
   else (
    some (.inl (wi64 (i + 1)))))
  else (
   some (.inr (.inl ())))

noncomputable def ref23_SameInts (a : List Int) (b : List Int) : Option (Bool) :=
  bif !decide ((a.length : Int) = (b.length : Int)) then (
   some false)
  else (
   (iter (fun x => ref23_SameInts_L0 a b x) 0).bind fun s =>
   s.elim (fun s2 =>
    some true)
   (fun s3 =>
    some s3))

noncomputable def fn_ref23_SameInts : Fun :=
  { f := 38, np := 2, nr := 1,
    ji := { regs := [(0, .one (.data (.sl (.int .i64)))), (1, .one (.data (.sl (.int .i64))))], vars := [], arrs := [] },
    jo := { regs := [(0, .one (.data (.bool)))], vars := [], arrs := [] },
    tw := fun x => ref23_SameInts x.1 x.2 }
noncomputable def cx_ref23_SameInts : Cx := { Γ := types, ow := [], fs := [], N := 26 }
theorem ok_ref23_SameInts : FunOk Try.prog fn_ref23_SameInts :=
  FunOk.intro (C := cx_ref23_SameInts) (p := (.mk [] none .nil (.mk [] none .nil (.mk [] none (.mk [] none .nil (.mk [] none (.mk [] (some ({ regs := [(0, .one .keep), (1, .one .keep), (5, .one (.data (.int .i64)))], vars := [], arrs := [] }, [{ e := .x 0, j := { regs := [], vars := [], arrs := [] } }, { e := .r, j := { regs := [(4, .one (.data (.bool)))], vars := [], arrs := [] } }])) .nil .nil) .nil)) .nil))))
    Try.func38 rfl nmr38 rfl rfl rfl rfl types_ok ⟨trivial, trivial⟩ mx (fun x => by kernel_rfl)

noncomputable def law38_awake : Option (Bool) :=
  (allocate_Share (-10) [50, 30, 20]).bind fun r =>
  bif decide (r.2 = 0) then (
   (ref23_SameInts r.1 [(-5), (-3), (-2)]).bind fun r2 =>
   some r2)
  else (
   some false)

noncomputable def fn_law38_awake : Fun :=
  { f := 30, np := 0, nr := 1,
    ji := { regs := [], vars := [], arrs := [] },
    jo := { regs := [(0, .one (.data (.bool)))], vars := [], arrs := [] },
    tw := fun x => law38_awake }
noncomputable def cx_law38_awake : Cx := { Γ := types, ow := [], fs := [fn_allocate_Share, fn_ref23_SameInts], N := 15 }
theorem ok_law38_awake : FunOk Try.prog fn_law38_awake :=
  FunOk.intro (C := cx_law38_awake) (p := .nil)
    Try.func30 rfl nmr30 rfl rfl rfl rfl types_ok ⟨⟨ok_allocate_Share, ok_ref23_SameInts, trivial⟩, trivial⟩ mx (fun x => by kernel_rfl)

noncomputable def keep_New (l : List Int) : Option (List Int × Int) :=
  gd (cutG none (some (.i64, min (l.length : Int) 2000)) l.length) <|
  some (l.take (min (l.length : Int) 2000).toNat, 0)

noncomputable def fn_keep_New : Fun :=
  { f := 12, np := 1, nr := 1,
    ji := { regs := [(0, .one (.data (.sl (.int .i64))))], vars := [], arrs := [] },
    jo := { regs := [(0, .one (.ptr 0 0))], vars := [(0, 66, [.data (.sl (.int .i64)), .data (.int .i64)])], arrs := [] },
    tw := fun x => keep_New x }
noncomputable def cx_keep_New : Cx := { Γ := types, ow := [], fs := [], N := 10 }
theorem ok_keep_New : FunOk Try.prog fn_keep_New :=
  FunOk.intro (C := cx_keep_New) (p := .nil)
    Try.func12 rfl nmr12 rfl rfl rfl rfl types_ok ⟨trivial, trivial⟩ mx (fun x => by kernel_rfl)

noncomputable def keep_Src_Raw (s : List Int) (s2 : Int) : Option (Int × List Int × Int) :=
  bif decide ((s.length : Int) ≤ s2) then (
   some (0, s, s2))
  else (
   gd (inB (wi64 ((wi64 (s2 + 1)) - 1)) s.length) <|
   some (s.getD (wi64 ((wi64 (s2 + 1)) - 1)).toNat 0, s, wi64 (s2 + 1)))

noncomputable def fn_keep_Src_Raw : Fun :=
  { f := 47, np := 1, nr := 1,
    ji := { regs := [(0, .one (.ptr 0 0))], vars := [(0, 66, [.data (.sl (.int .i64)), .data (.int .i64)])], arrs := [] },
    jo := { regs := [(0, .one (.data (.int .i64)))], vars := [(0, 66, [.data (.sl (.int .i64)), .data (.int .i64)])], arrs := [] },
    tw := fun x => keep_Src_Raw x.1 x.2 }
noncomputable def cx_keep_Src_Raw : Cx := { Γ := types, ow := [], fs := [], N := 31 }
theorem ok_keep_Src_Raw : FunOk Try.prog fn_keep_Src_Raw :=
  FunOk.intro (C := cx_keep_Src_Raw) (p := .nil)
    Try.func47 rfl nmr47 rfl rfl rfl rfl types_ok ⟨trivial, trivial⟩ mx (fun x => by kernel_rfl)

noncomputable def keep_Mod (x : Int) (n : Int) : Option (Int) :=
  bif decide (n < 1) then (
   some 0)
  else (
   gd (!decide (n = 0)) <|
   bif decide (Int.tmod x n < 0) then (
    some (wi64 ((Int.tmod x n) + n)))
   else (
    some (Int.tmod x n)))

noncomputable def fn_keep_Mod : Fun :=
  { f := 46, np := 2, nr := 1,
    ji := { regs := [(0, .one (.data (.int .i64))), (1, .one (.data (.int .i64)))], vars := [], arrs := [] },
    jo := { regs := [(0, .one (.data (.int .i64)))], vars := [], arrs := [] },
    tw := fun x => keep_Mod x.1 x.2 }
noncomputable def cx_keep_Mod : Cx := { Γ := types, ow := [], fs := [], N := 16 }
theorem ok_keep_Mod : FunOk Try.prog fn_keep_Mod :=
  FunOk.intro (C := cx_keep_Mod) (p := .nil)
    Try.func46 rfl nmr46 rfl rfl rfl rfl types_ok ⟨trivial, trivial⟩ mx (fun x => by kernel_rfl)

noncomputable def keep_Src_N (n : Int) (s : List Int) (s2 : Int) : Option (Int × List Int × Int) :=
  (keep_Src_Raw s s2).bind fun r =>
  (keep_Mod r.1 n).bind fun r2 =>
  some (r2, r.2.1, r.2.2)

noncomputable def fn_keep_Src_N : Fun :=
  { f := 18, np := 2, nr := 1,
    ji := { regs := [(0, .one (.ptr 0 0)), (1, .one (.data (.int .i64)))], vars := [(0, 66, [.data (.sl (.int .i64)), .data (.int .i64)])], arrs := [] },
    jo := { regs := [(0, .one (.data (.int .i64)))], vars := [(0, 66, [.data (.sl (.int .i64)), .data (.int .i64)])], arrs := [] },
    tw := fun x => keep_Src_N x.1 x.2.1 x.2.2 }
noncomputable def cx_keep_Src_N : Cx := { Γ := types, ow := [], fs := [fn_keep_Src_Raw, fn_keep_Mod], N := 9 }
theorem ok_keep_Src_N : FunOk Try.prog fn_keep_Src_N :=
  FunOk.intro (C := cx_keep_Src_N) (p := .nil)
    Try.func18 rfl nmr18 rfl rfl rfl rfl types_ok ⟨⟨ok_keep_Src_Raw, ok_keep_Mod, trivial⟩, trivial⟩ mx (fun x => by kernel_rfl)

noncomputable def keep_Src_Text (l : List (List UInt8)) (s : List Int) (s2 : Int) : Option (List UInt8 × List Int × Int) :=
  (keep_Src_N (l.length : Int) s s2).bind fun r =>
  gd (inB r.1 l.length) <|
  some (l.getD r.1.toNat [], r.2.1, r.2.2)

noncomputable def fn_keep_Src_Text : Fun :=
  { f := 39, np := 2, nr := 1,
    ji := { regs := [(0, .one (.ptr 0 0)), (1, .one (.data (.sl (.str))))], vars := [(0, 66, [.data (.sl (.int .i64)), .data (.int .i64)])], arrs := [] },
    jo := { regs := [(0, .one (.data (.str)))], vars := [(0, 66, [.data (.sl (.int .i64)), .data (.int .i64)])], arrs := [] },
    tw := fun x => keep_Src_Text x.1 x.2.1 x.2.2 }
noncomputable def cx_keep_Src_Text : Cx := { Γ := types, ow := [], fs := [fn_keep_Src_N], N := 12 }
theorem ok_keep_Src_Text : FunOk Try.prog fn_keep_Src_Text :=
  FunOk.intro (C := cx_keep_Src_Text) (p := .nil)
    Try.func39 rfl nmr39 rfl rfl rfl rfl types_ok ⟨⟨ok_keep_Src_N, trivial⟩, trivial⟩ mx (fun x => by kernel_rfl)

noncomputable def keep_Src_Pick (l : List Int) (s : List Int) (s2 : Int) : Option (Int × List Int × Int) :=
  (keep_Src_N (l.length : Int) s s2).bind fun r =>
  gd (inB r.1 l.length) <|
  some (l.getD r.1.toNat 0, r.2.1, r.2.2)

noncomputable def fn_keep_Src_Pick : Fun :=
  { f := 40, np := 2, nr := 1,
    ji := { regs := [(0, .one (.ptr 0 0)), (1, .one (.data (.sl (.int .i64))))], vars := [(0, 66, [.data (.sl (.int .i64)), .data (.int .i64)])], arrs := [] },
    jo := { regs := [(0, .one (.data (.int .i64)))], vars := [(0, 66, [.data (.sl (.int .i64)), .data (.int .i64)])], arrs := [] },
    tw := fun x => keep_Src_Pick x.1 x.2.1 x.2.2 }
noncomputable def cx_keep_Src_Pick : Cx := { Γ := types, ow := [], fs := [fn_keep_Src_N], N := 12 }
theorem ok_keep_Src_Pick : FunOk Try.prog fn_keep_Src_Pick :=
  FunOk.intro (C := cx_keep_Src_Pick) (p := .nil)
    Try.func40 rfl nmr40 rfl rfl rfl rfl types_ok ⟨⟨ok_keep_Src_N, trivial⟩, trivial⟩ mx (fun x => by kernel_rfl)

noncomputable def second_Entries_L0 (i : Int) (s3 : List Int) (s4 : Int) (l : List (List UInt8 × Int × Int)) : Option ((Int × List Int × Int × List (List UInt8 × Int × Int)) ⊕ (List Int × Int × List (List UInt8 × Int × Int))) :=
  bif decide (0 < i) then (
   (keep_Src_Text [[97], [98, 111], [99, 51], [100, 101, 108, 116, 97], [101]] s3 s4).bind fun r2 =>
   (keep_Src_N 4 r2.2.1 r2.2.2).bind fun r3 =>
   (keep_Src_N 1000 r3.2.1 r3.2.2).bind fun r4 =>
   (keep_Src_Pick [0, 1, 50, r4.1, 1073741824] r4.2.1 r4.2.2).bind fun r5 =>
   Option.bind (α := Bool × List Int × Int × List (List UInt8 × Int × Int)) (
     bif decide (wi64 (1 + r3.1) = 4) then (
      (keep_Src_N 2 r5.2.1 r5.2.2).bind fun r6 =>
      some (decide (r6.1 = 0), r6.2.1, r6.2.2, l))
     else (
      some (false, r5.2.1, r5.2.2, l))) fun s5 =>
   Option.bind (α := Int × List (List UInt8 × Int × Int)) (
     bif s5.1 then (
      some (wi64 (0 - r5.1), s5.2.2.2))
     else (
      some (r5.1, s5.2.2.2))) fun s6 =>
   gd (fits (s6.2.length + 1) 32) <|
   some (.inl (wi64 (i - 1), s5.2.1, s5.2.2.1, s6.2 ++ [(r2.1, (wi64 (1 + r3.1), s6.1))])))
  else (
   some (.inr (s3, s4, l)))

noncomputable def second_Entries (most : Int) (s : List Int) (s2 : Int) : Option (List Int × Int × List (List UInt8 × Int × Int)) :=
  (keep_Src_N (wi64 (most + 1)) s s2).bind fun r =>
  (iter (fun x => second_Entries_L0 x.1 x.2.1 x.2.2.1 x.2.2.2) (r.1, r.2.1, r.2.2, [])).bind fun s7 =>
  some (s7.1, s7.2.1, s7.2.2)

noncomputable def fn_second_Entries : Fun :=
  { f := 13, np := 2, nr := 1,
    ji := { regs := [(0, .one (.ptr 0 0)), (1, .one (.data (.int .i64)))], vars := [(0, 66, [.data (.sl (.int .i64)), .data (.int .i64)])], arrs := [] },
    jo := { regs := [(0, .one (.own 1))], vars := [(0, 66, [.data (.sl (.int .i64)), .data (.int .i64)])], arrs := [(1, .arr 35 (.pair (.str) (.pair (.int .i64) (.int .i64))))] },
    tw := fun x => second_Entries x.1 x.2.1 x.2.2 }
noncomputable def cx_second_Entries : Cx := { Γ := types, ow := [], fs := [fn_keep_Src_N, fn_keep_Src_Text, fn_keep_Src_Pick], N := 45 }
theorem ok_second_Entries : FunOk Try.prog fn_second_Entries :=
  FunOk.intro (C := cx_second_Entries) (p := (.mk [] none .nil (.mk [] none .nil (.mk [] none (.mk [] none .nil (.mk [] none (.mk [] (some ({ regs := [(0, .one (.ptr 0 0)), (5, .one (.own 107)), (6, .one (.data (.int .i64)))], vars := [(0, 66, [.data (.sl (.int .i64)), .data (.int .i64)])], arrs := [(107, .arr 35 (.pair (.str) (.pair (.int .i64) (.int .i64))))] }, [{ e := .x 0, j := { regs := [(5, .one (.own 107))], vars := [(0, 66, [.data (.sl (.int .i64)), .data (.int .i64)])], arrs := [(107, .arr 35 (.pair (.str) (.pair (.int .i64) (.int .i64))))] } }])) (.mk [] none .nil (.mk [] none (.mk [] none (.mk [] none .nil (.mk [] none (.mk [] none (.mk [.join [{ e := .n, j := { regs := [(0, .one (.ptr 0 0)), (5, .one (.own 107)), (6, .one .keep), (7, .one (.ptr 128 0)), (35, .one (.data (.bool)))], vars := [(0, 66, [.data (.sl (.int .i64)), .data (.int .i64)]), (128, 35, [.keep, .keep, .keep])], arrs := [(107, .arr 35 (.pair (.str) (.pair (.int .i64) (.int .i64))))] } }]] none .nil .nil) (.mk [.join [{ e := .n, j := { regs := [(0, .one (.ptr 0 0)), (5, .one (.own 107)), (6, .one .keep), (7, .one (.ptr 128 0))], vars := [(0, 66, [.keep, .keep]), (128, 35, [.keep, .keep, .data (.int .i64)])], arrs := [(107, .arr 35 (.pair (.str) (.pair (.int .i64) (.int .i64))))] } }]] none .nil .nil)) .nil)) .nil) .nil)) .nil) .nil)) .nil))))
    Try.func13 rfl nmr13 rfl rfl rfl rfl types_ok ⟨⟨ok_keep_Src_N, ok_keep_Src_Text, ok_keep_Src_Pick, trivial⟩, trivial⟩ mx (fun x => by kernel_rfl)

noncomputable def keep_Src_Range (lo : Int) (hi : Int) (s : List Int) (s2 : Int) : Option (Int × List Int × Int) :=
  (keep_Src_N (wi64 ((wi64 (hi - lo)) + 1)) s s2).bind fun r =>
  some (wi64 (lo + r.1), r.2.1, r.2.2)

noncomputable def fn_keep_Src_Range : Fun :=
  { f := 31, np := 3, nr := 1,
    ji := { regs := [(0, .one (.ptr 0 0)), (1, .one (.data (.int .i64))), (2, .one (.data (.int .i64)))], vars := [(0, 66, [.data (.sl (.int .i64)), .data (.int .i64)])], arrs := [] },
    jo := { regs := [(0, .one (.data (.int .i64)))], vars := [(0, 66, [.data (.sl (.int .i64)), .data (.int .i64)])], arrs := [] },
    tw := fun x => keep_Src_Range x.1 x.2.1 x.2.2.1 x.2.2.2 }
noncomputable def cx_keep_Src_Range : Cx := { Γ := types, ow := [], fs := [fn_keep_Src_N], N := 15 }
theorem ok_keep_Src_Range : FunOk Try.prog fn_keep_Src_Range :=
  FunOk.intro (C := cx_keep_Src_Range) (p := .nil)
    Try.func31 rfl nmr31 rfl rfl rfl rfl types_ok ⟨⟨ok_keep_Src_N, trivial⟩, trivial⟩ mx (fun x => by kernel_rfl)

noncomputable def second_Mod (n : Int) (k : Int) : Option (Int) :=
  (keep_Mod n k).bind fun r =>
  some r

noncomputable def fn_second_Mod : Fun :=
  { f := 19, np := 2, nr := 1,
    ji := { regs := [(0, .one (.data (.int .i64))), (1, .one (.data (.int .i64)))], vars := [], arrs := [] },
    jo := { regs := [(0, .one (.data (.int .i64)))], vars := [], arrs := [] },
    tw := fun x => second_Mod x.1 x.2 }
noncomputable def cx_second_Mod : Cx := { Γ := types, ow := [], fs := [fn_keep_Mod], N := 8 }
theorem ok_second_Mod : FunOk Try.prog fn_second_Mod :=
  FunOk.intro (C := cx_second_Mod) (p := .nil)
    Try.func19 rfl nmr19 rfl rfl rfl rfl types_ok ⟨⟨ok_keep_Mod, trivial⟩, trivial⟩ mx (fun x => by kernel_rfl)

noncomputable def allocate_Volume (n : Int) : Option (Bool) :=
  bif decide (0 ≤ n) then (
   some (decide (n ≤ 1099511627776)))
  else (
   some false)

noncomputable def fn_allocate_Volume : Fun :=
  { f := 50, np := 1, nr := 1,
    ji := { regs := [(0, .one (.data (.int .i64)))], vars := [], arrs := [] },
    jo := { regs := [(0, .one (.data (.bool)))], vars := [], arrs := [] },
    tw := fun x => allocate_Volume x }
noncomputable def cx_allocate_Volume : Cx := { Γ := types, ow := [], fs := [], N := 9 }
theorem ok_allocate_Volume : FunOk Try.prog fn_allocate_Volume :=
  FunOk.intro (C := cx_allocate_Volume) (p := .nil)
    Try.func50 rfl nmr50 rfl rfl rfl rfl types_ok ⟨trivial, trivial⟩ mx (fun x => by kernel_rfl)

noncomputable def lines_place (c : Int) : Option (Int) :=
  Option.bind (α := Unit ⊕ Unit ⊕ Int) (
    Option.bind (α := Bool) (
      bif decide (97 ≤ c) then (
       some (decide (c ≤ 122)))
      else (
       some false)) fun s =>
    bif s then (
     some (.inr (.inr 1)))
    else (
     Option.bind (α := Bool) (
       bif decide (48 ≤ c) then (
        some (decide (c ≤ 57)))
       else (
        some false)) fun s2 =>
     bif s2 then (
      some (.inl ()))
     else (
      bif decide (c = 45) then (
       some (.inl ()))
      else (
       some (.inr (.inl ())))))) fun s3 =>
  s3.elim (fun s4 =>
   some 2)
  (fun s5 =>
   s5.elim (fun s6 =>
    some 0)
   (fun s7 =>
    some s7))

noncomputable def fn_lines_place : Fun :=
  { f := 67, np := 1, nr := 1,
    ji := { regs := [(0, .one (.data (.int .u8)))], vars := [], arrs := [] },
    jo := { regs := [(0, .one (.data (.int .i64)))], vars := [], arrs := [] },
    tw := fun x => lines_place x }
noncomputable def cx_lines_place : Cx := { Γ := types, ow := [], fs := [], N := 20 }
theorem ok_lines_place : FunOk Try.prog fn_lines_place :=
  FunOk.intro (C := cx_lines_place) (p := (.mk [] none .nil (.mk [] none (.mk [] none (.mk [] none (.mk [.join [{ e := .n, j := { regs := [], vars := [], arrs := [] } }, { e := .x 0, j := { regs := [], vars := [], arrs := [] } }, { e := .r, j := { regs := [(2, .one (.data (.int .i64)))], vars := [], arrs := [] } }]] none (.mk [] none (.mk [] none (.mk [] none (.mk [] none (.mk [] none (.mk [] none (.mk [.join [{ e := .n, j := { regs := [(0, .one .keep), (3, .one (.data (.bool)))], vars := [], arrs := [] } }]] none .nil .nil) .nil) (.mk [] none (.mk [] none (.mk [.join [{ e := .n, j := { regs := [(0, .one .keep), (10, .one (.data (.bool)))], vars := [], arrs := [] } }]] none .nil .nil) .nil) .nil)) .nil) .nil) .nil) .nil) .nil) .nil) .nil) .nil)))
    Try.func67 rfl nmr67 rfl rfl rfl rfl types_ok ⟨trivial, trivial⟩ mx (fun x => by kernel_rfl)

noncomputable def lines_Name_L0 (s : List UInt8) (v : Int) : Option (Int ⊕ (Unit ⊕ Bool)) :=
  bif decide (v < (s.length : Int)) then (
   gd (inB v s.length) <|
   (lines_place (Int.ofNat (s.getD v.toNat 0).toNat)).bind fun r2 =>
   bif decide (r2 = 0) then (
    some (.inr (.inr false)))
   else (
    some (.inl (wi64 (v + 1)))))
  else (
   some (.inr (.inl ())))

noncomputable def lines_Name (s : List UInt8) : Option (Bool) :=
  Option.bind (α := Bool) (
    bif decide ((s.length : Int) < 1) then (
     some true)
    else (
     bif decide (12 < (s.length : Int)) then (
      some true)
     else (
      gd (inB 0 s.length) <|
      (lines_place (Int.ofNat (s.getD 0 0).toNat)).bind fun r =>
      some (!decide (r = 1))))) fun s2 =>
  bif s2 then (
   some false)
  else (
   (iter (fun x => lines_Name_L0 s x) 0).bind fun s3 =>
   s3.elim (fun s4 =>
    some true)
   (fun s5 =>
    some s5))

noncomputable def fn_lines_Name : Fun :=
  { f := 53, np := 1, nr := 1,
    ji := { regs := [(0, .one (.data (.str)))], vars := [], arrs := [] },
    jo := { regs := [(0, .one (.data (.bool)))], vars := [], arrs := [] },
    tw := fun x => lines_Name x }
noncomputable def cx_lines_Name : Cx := { Γ := types, ow := [], fs := [fn_lines_place], N := 29 }
theorem ok_lines_Name : FunOk Try.prog fn_lines_Name :=
  FunOk.intro (C := cx_lines_Name) (p := (.mk [] none .nil (.mk [] none (.mk [] none (.mk [.join [{ e := .n, j := { regs := [(0, .one .keep), (17, .one (.data (.bool)))], vars := [], arrs := [] } }]] none .nil .nil) .nil) (.mk [] none (.mk [] none .nil (.mk [] none (.mk [] (some ({ regs := [(0, .one .keep), (19, .one .keep), (20, .one (.data (.int .i64)))], vars := [], arrs := [] }, [{ e := .x 0, j := { regs := [], vars := [], arrs := [] } }, { e := .r, j := { regs := [(2, .one (.data (.bool)))], vars := [], arrs := [] } }])) .nil .nil) .nil)) .nil))))
    Try.func53 rfl nmr53 rfl rfl rfl rfl types_ok ⟨⟨ok_lines_place, trivial⟩, trivial⟩ mx (fun x => by kernel_rfl)

noncomputable def allocate_Entry (e : List UInt8 × Int × Int) : Option (Bool) :=
  Option.bind (α := Bool) (
    bif decide (e.2.1 = 1) then (
     some (decide (e.2.1 = 1)))
    else (
     Option.bind (α := Bool) (
       bif decide (e.2.1 = 2) then (
        some (decide (e.2.1 = 2)))
       else (
        some (decide (e.2.1 = 3)))) fun s =>
     some s)) fun s2 =>
  bif s2 then (
   (allocate_Volume e.2.2).bind fun r =>
   bif r then (
    (lines_Name e.1).bind fun r2 =>
    some r2)
   else (
    some false))
  else (
   bif decide (e.2.1 = 4) then (
    (allocate_Signed e.2.2).bind fun r3 =>
    bif r3 then (
     (lines_Name e.1).bind fun r4 =>
     some r4)
    else (
     some false))
   else (
    some false))

noncomputable def fn_allocate_Entry : Fun :=
  { f := 42, np := 1, nr := 1,
    ji := { regs := [(0, .one (.data (.pair (.str) (.pair (.int .i64) (.int .i64)))))], vars := [], arrs := [] },
    jo := { regs := [(0, .one (.data (.bool)))], vars := [], arrs := [] },
    tw := fun x => allocate_Entry x }
noncomputable def cx_allocate_Entry : Cx := { Γ := types, ow := [], fs := [fn_allocate_Volume, fn_lines_Name, fn_allocate_Signed], N := 27 }
theorem ok_allocate_Entry : FunOk Try.prog fn_allocate_Entry :=
  FunOk.intro (C := cx_allocate_Entry) (p := (.mk [] none .nil (.mk [] none (.mk [] none .nil (.mk [] none (.mk [] none (.mk [] none .nil (.mk [.join [{ e := .n, j := { regs := [(1, .one (.ptr 32 0)), (4, .one .keep), (5, .one (.data (.bool)))], vars := [(32, 35, [.keep, .keep, .keep])], arrs := [] } }]] none .nil (.mk [] none .nil (.mk [.join [{ e := .n, j := { regs := [(1, .one (.ptr 32 0)), (4, .one .keep), (5, .one (.data (.bool)))], vars := [(32, 35, [.keep, .keep, .keep])], arrs := [] } }]] none .nil .nil)))) .nil) .nil)) .nil)))
    Try.func42 rfl nmr42 rfl rfl rfl rfl types_ok ⟨⟨ok_allocate_Volume, ok_lines_Name, ok_allocate_Signed, trivial⟩, trivial⟩ mx (fun x => by kernel_rfl)

noncomputable def allocate_Measured_L0 (l : List (List UInt8 × Int × Int)) (sum : Int) (v : Int) : Option ((Int × Int) ⊕ (Int ⊕ (Int × Int))) :=
  bif decide (v < (l.length : Int)) then (
   gd (inB v l.length) <|
   (allocate_Entry ((l.getD v.toNat ([], (0, 0))).1, (((l.getD v.toNat ([], (0, 0))).2).1, ((l.getD v.toNat ([], (0, 0))).2).2))).bind fun r =>
   bif !r then (
    some (.inr (.inr (0, 27))))
   else (
    Option.bind (α := Int) (
      bif decide (((l.getD v.toNat ([], (0, 0))).2).1 = 1) then (
       some (wi64 (sum - (((l.getD v.toNat ([], (0, 0))).2).2))))
      else (
       Option.bind (α := Bool) (
         bif decide (((l.getD v.toNat ([], (0, 0))).2).1 = 2) then (
          some (decide (((l.getD v.toNat ([], (0, 0))).2).1 = 2)))
         else (
          some (decide (((l.getD v.toNat ([], (0, 0))).2).1 = 3)))) fun s =>
       Option.bind (α := Int) (
         bif s then (
          some (wi64 (sum + (((l.getD v.toNat ([], (0, 0))).2).2))))
         else (
          some sum)) fun s2 =>
       some s2)) fun s3 =>
    some (.inl (s3, wi64 (v + 1)))))
  else (
   some (.inr (.inl sum)))

noncomputable def allocate_Measured (l : List (List UInt8 × Int × Int)) : Option (Int × Int) :=
  bif decide (1000 < (l.length : Int)) then (
   some (0, 4))
  else (
   (iter (fun x => allocate_Measured_L0 l x.1 x.2) (0, 0)).bind fun s4 =>
   s4.elim (fun s5 =>
    some (s5, 0))
   (fun s6 =>
    some (s6.1, s6.2)))

noncomputable def fn_allocate_Measured : Fun :=
  { f := 32, np := 1, nr := 2,
    ji := { regs := [(0, .one (.data (.sl (.pair (.str) (.pair (.int .i64) (.int .i64))))))], vars := [], arrs := [] },
    jo := { regs := [(0, .one (.data (.int .i64))), (1, .one (.data (.int .i64)))], vars := [], arrs := [] },
    tw := fun x => allocate_Measured x }
noncomputable def cx_allocate_Measured : Cx := { Γ := types, ow := [], fs := [fn_allocate_Entry], N := 36 }
theorem ok_allocate_Measured : FunOk Try.prog fn_allocate_Measured :=
  FunOk.intro (C := cx_allocate_Measured) (p := (.mk [] none .nil (.mk [] none .nil (.mk [] none .nil (.mk [] none (.mk [] none .nil (.mk [] none (.mk [] (some ({ regs := [(4, .one (.data (.int .i64))), (10, .one .keep), (11, .one .keep), (12, .one (.data (.int .i64)))], vars := [], arrs := [] }, [{ e := .x 0, j := { regs := [(4, .one (.data (.int .i64)))], vars := [], arrs := [] } }, { e := .r, j := { regs := [(2, .one (.data (.int .i64))), (3, .one (.data (.int .i64)))], vars := [], arrs := [] } }])) (.mk [] none .nil (.mk [] none .nil (.mk [] none (.mk [] none (.mk [] none .nil (.mk [] none .nil (.mk [] none .nil (.mk [] none (.mk [] none .nil (.mk [.join [{ e := .n, j := { regs := [(4, .one (.data (.int .i64))), (10, .one .keep), (11, .one .keep), (12, .one .keep)], vars := [], arrs := [] } }]] none .nil (.mk [] none (.mk [] none .nil (.mk [.join [{ e := .n, j := { regs := [(4, .one .keep), (6, .one (.ptr 112 0)), (10, .one .keep), (11, .one .keep), (12, .one .keep), (27, .one (.data (.bool)))], vars := [(112, 35, [.keep, .keep, .keep])], arrs := [] } }]] none .nil .nil)) (.mk [.join [{ e := .n, j := { regs := [(4, .one (.data (.int .i64))), (10, .one .keep), (11, .one .keep), (12, .one .keep)], vars := [], arrs := [] } }]] none .nil .nil)))) .nil)))) .nil) .nil))) .nil) .nil)) .nil)))))
    Try.func32 rfl nmr32 rfl rfl rfl rfl types_ok ⟨⟨ok_allocate_Entry, trivial⟩, trivial⟩ mx (fun x => by kernel_rfl)

noncomputable def ref03_Name_L0 (s : List UInt8) (i : Int) : Option (Int ⊕ (Unit ⊕ Bool)) :=
  bif decide (i < (s.length : Int)) then (
   Option.bind (α := Bool) (
     gd (inB i s.length) <|
     bif decide ((Int.ofNat (s.getD i.toNat 0).toNat) < 97) then (
      gd (inB i s.length) <|
      bif decide ((Int.ofNat (s.getD i.toNat 0).toNat) < 48) then (
       gd (inB i s.length) <|
       some (!decide ((Int.ofNat (s.getD i.toNat 0).toNat) = 45)))
      else (
       gd (inB i s.length) <|
       bif decide (57 < (Int.ofNat (s.getD i.toNat 0).toNat)) then (
        gd (inB i s.length) <|
        some (!decide ((Int.ofNat (s.getD i.toNat 0).toNat) = 45)))
       else (
        some false)))
     else (
      gd (inB i s.length) <|
      bif decide (122 < (Int.ofNat (s.getD i.toNat 0).toNat)) then (
       gd (inB i s.length) <|
       bif decide ((Int.ofNat (s.getD i.toNat 0).toNat) < 48) then (
        gd (inB i s.length) <|
        some (!decide ((Int.ofNat (s.getD i.toNat 0).toNat) = 45)))
       else (
        gd (inB i s.length) <|
        bif decide (57 < (Int.ofNat (s.getD i.toNat 0).toNat)) then (
         gd (inB i s.length) <|
         some (!decide ((Int.ofNat (s.getD i.toNat 0).toNat) = 45)))
        else (
         some false)))
      else (
       some false))) fun s3 =>
   bif s3 then (
    some (.inr (.inr false)))
   else (
    some (.inl (wi64 (i + 1)))))
  else (
   some (.inr (.inl ())))

noncomputable def ref03_Name (s : List UInt8) : Option (Bool) :=
  Option.bind (α := Bool) (
    bif decide ((s.length : Int) < 1) then (
     some true)
    else (
     bif decide (12 < (s.length : Int)) then (
      some true)
     else (
      gd (inB 0 s.length) <|
      bif decide ((Int.ofNat (s.getD 0 0).toNat) < 97) then (
       some true)
      else (
       gd (inB 0 s.length) <|
       some (decide (122 < (Int.ofNat (s.getD 0 0).toNat))))))) fun s2 =>
  bif s2 then (
   some false)
  else (
   (iter (fun x => ref03_Name_L0 s x) 0).bind fun s4 =>
   s4.elim (fun s5 =>
    some true)
   (fun s6 =>
    some s6))

noncomputable def fn_ref03_Name : Fun :=
  { f := 54, np := 1, nr := 1,
    ji := { regs := [(0, .one (.data (.str)))], vars := [], arrs := [] },
    jo := { regs := [(0, .one (.data (.bool)))], vars := [], arrs := [] },
    tw := fun x => ref03_Name x }
noncomputable def cx_ref03_Name : Cx := { Γ := types, ow := [], fs := [], N := 56 }
theorem ok_ref03_Name : FunOk Try.prog fn_ref03_Name :=
  FunOk.intro (C := cx_ref03_Name) (p := (.mk [] none .nil (.mk [] none (.mk [] none (.mk [.join [{ e := .n, j := { regs := [(0, .one .keep), (21, .one (.data (.bool)))], vars := [], arrs := [] } }]] none .nil .nil) .nil) (.mk [] none (.mk [] none .nil (.mk [] none (.mk [] (some ({ regs := [(0, .one .keep), (3, .one (.data (.int .i64)))], vars := [], arrs := [] }, [{ e := .x 0, j := { regs := [], vars := [], arrs := [] } }, { e := .r, j := { regs := [(2, .one (.data (.bool)))], vars := [], arrs := [] } }])) (.mk [] none .nil (.mk [] none (.mk [] none (.mk [] none (.mk [.join [{ e := .n, j := { regs := [(0, .one .keep), (3, .one .keep), (55, .one (.data (.bool)))], vars := [], arrs := [] } }]] none .nil .nil) .nil) .nil) .nil)) .nil) .nil)) .nil))))
    Try.func54 rfl nmr54 rfl rfl rfl rfl types_ok ⟨trivial, trivial⟩ mx (fun x => by kernel_rfl)

noncomputable def ref38_Right (e : List UInt8 × Int × Int) : Option (Bool) :=
  (ref03_Name e.1).bind fun r =>
  bif !r then (
   some false)
  else (
   Option.bind (α := Bool) (
     bif decide (e.2.1 = 1) then (
      some (decide (e.2.1 = 1)))
     else (
      Option.bind (α := Bool) (
        bif decide (e.2.1 = 2) then (
         some (decide (e.2.1 = 2)))
        else (
         some (decide (e.2.1 = 3)))) fun s =>
      some s)) fun s2 =>
   bif s2 then (
    bif decide (0 ≤ e.2.2) then (
     some (decide (e.2.2 ≤ 1099511627776)))
    else (
     some false))
   else (
    bif decide (e.2.1 = 4) then (
     bif decide ((-1099511627776) ≤ e.2.2) then (
      some (decide (e.2.2 ≤ 1099511627776)))
     else (
      some false))
    else (
     some false)))

noncomputable def fn_ref38_Right : Fun :=
  { f := 48, np := 1, nr := 1,
    ji := { regs := [(0, .one (.data (.pair (.str) (.pair (.int .i64) (.int .i64)))))], vars := [], arrs := [] },
    jo := { regs := [(0, .one (.data (.bool)))], vars := [], arrs := [] },
    tw := fun x => ref38_Right x }
noncomputable def cx_ref38_Right : Cx := { Γ := types, ow := [], fs := [fn_ref03_Name], N := 31 }
theorem ok_ref38_Right : FunOk Try.prog fn_ref38_Right :=
  FunOk.intro (C := cx_ref38_Right) (p := (.mk [] none .nil (.mk [] none .nil (.mk [] none (.mk [] none .nil (.mk [] none (.mk [] none (.mk [] none .nil (.mk [.join [{ e := .n, j := { regs := [(1, .one (.ptr 32 0)), (8, .one .keep), (9, .one (.data (.bool)))], vars := [(32, 35, [.keep, .keep, .keep])], arrs := [] } }]] none .nil (.mk [] none .nil (.mk [.join [{ e := .n, j := { regs := [(1, .one (.ptr 32 0)), (8, .one .keep), (9, .one (.data (.bool)))], vars := [(32, 35, [.keep, .keep, .keep])], arrs := [] } }]] none .nil .nil)))) .nil) .nil)) .nil))))
    Try.func48 rfl nmr48 rfl rfl rfl rfl types_ok ⟨⟨ok_ref03_Name, trivial⟩, trivial⟩ mx (fun x => by kernel_rfl)

noncomputable def ref38_Measured_L0 (l : List (List UInt8 × Int × Int)) (n : Int) (i : Int) : Option ((Int × Int) ⊕ (Int ⊕ (Int × Int))) :=
  bif decide (i < (l.length : Int)) then (
   gd (inB i l.length) <|
   (ref38_Right (l.getD i.toNat ([], (0, 0)))).bind fun r =>
   bif !r then (
    some (.inr (.inr (0, 27))))
   else (
    gd (inB i l.length) <|
    Option.bind (α := Int) (
      bif decide (((l.getD i.toNat ([], (0, 0))).2).1 = 1) then (
       gd (inB i l.length) <|
       some (wi64 (n - (((l.getD i.toNat ([], (0, 0))).2).2))))
      else (
       Option.bind (α := Bool) (
         bif decide (((l.getD i.toNat ([], (0, 0))).2).1 = 2) then (
          some (decide (((l.getD i.toNat ([], (0, 0))).2).1 = 2)))
         else (
          some (decide (((l.getD i.toNat ([], (0, 0))).2).1 = 3)))) fun s =>
       Option.bind (α := Int) (
         bif s then (
          gd (inB i l.length) <|
          some (wi64 (n + (((l.getD i.toNat ([], (0, 0))).2).2))))
         else (
          some n)) fun s2 =>
       some s2)) fun s3 =>
    some (.inl (s3, wi64 (i + 1)))))
  else (
   some (.inr (.inl n)))

noncomputable def ref38_Measured (l : List (List UInt8 × Int × Int)) : Option (Int × Int) :=
  bif decide (1000 < (l.length : Int)) then (
   some (0, 4))
  else (
   (iter (fun x => ref38_Measured_L0 l x.1 x.2) (0, 0)).bind fun s4 =>
   s4.elim (fun s5 =>
    some (s5, 0))
   (fun s6 =>
    some (s6.1, s6.2)))

noncomputable def fn_ref38_Measured : Fun :=
  { f := 33, np := 1, nr := 2,
    ji := { regs := [(0, .one (.data (.sl (.pair (.str) (.pair (.int .i64) (.int .i64))))))], vars := [], arrs := [] },
    jo := { regs := [(0, .one (.data (.int .i64))), (1, .one (.data (.int .i64)))], vars := [], arrs := [] },
    tw := fun x => ref38_Measured x }
noncomputable def cx_ref38_Measured : Cx := { Γ := types, ow := [], fs := [fn_ref38_Right], N := 46 }
theorem ok_ref38_Measured : FunOk Try.prog fn_ref38_Measured :=
  FunOk.intro (C := cx_ref38_Measured) (p := (.mk [] none .nil (.mk [] none .nil (.mk [] none .nil (.mk [] none (.mk [] none .nil (.mk [] none (.mk [] (some ({ regs := [(0, .one .keep), (4, .one (.data (.int .i64))), (5, .one (.data (.int .i64)))], vars := [], arrs := [] }, [{ e := .x 0, j := { regs := [(4, .one (.data (.int .i64)))], vars := [], arrs := [] } }, { e := .r, j := { regs := [(2, .one (.data (.int .i64))), (3, .one (.data (.int .i64)))], vars := [], arrs := [] } }])) (.mk [] none .nil (.mk [] none (.mk [] none (.mk [] none .nil (.mk [] none .nil (.mk [] none (.mk [] none .nil (.mk [.join [{ e := .n, j := { regs := [(0, .one .keep), (4, .one (.data (.int .i64))), (5, .one .keep)], vars := [], arrs := [] } }]] none .nil (.mk [] none (.mk [] none .nil (.mk [.join [{ e := .n, j := { regs := [(0, .one .keep), (4, .one .keep), (5, .one .keep), (35, .one (.data (.bool)))], vars := [], arrs := [] } }]] none .nil .nil)) (.mk [.join [{ e := .n, j := { regs := [(0, .one .keep), (4, .one (.data (.int .i64))), (5, .one .keep)], vars := [], arrs := [] } }]] none .nil .nil)))) .nil))) .nil) .nil)) .nil) .nil)) .nil)))))
    Try.func33 rfl nmr33 rfl rfl rfl rfl types_ok ⟨⟨ok_ref38_Right, trivial⟩, trivial⟩ mx (fun x => by kernel_rfl)

noncomputable def math_bits_Len32 (x : Int) : Option (Int) :=
  Option.bind (α := Int × Int) (
    bif decide (65536 ≤ x) then (
     some (Int.fdiv x (2 ^ shAmt .u32 16), 16))
    else (
     some (x, 0))) fun s =>
  Option.bind (α := Int × Int) (
    bif decide (256 ≤ s.1) then (
     some (Int.fdiv s.1 (2 ^ shAmt .u32 8), wi64 (s.2 + 8)))
    else (
     some (s.1, s.2))) fun s2 =>
  gd (inB (wu8 s2.1) str_0.length) <|
  some (wi64 (s2.2 + (wi64 (Int.ofNat (str_0.getD (wu8 s2.1).toNat 0).toNat))))

noncomputable def fn_math_bits_Len32 : Fun :=
  { f := 81, np := 1, nr := 1,
    ji := { regs := [(0, .one (.data (.int .u32)))], vars := [], arrs := [] },
    jo := { regs := [(0, .one (.data (.int .i64)))], vars := [], arrs := [] },
    tw := fun x => math_bits_Len32 x }
noncomputable def cx_math_bits_Len32 : Cx := { Γ := types, ow := [], fs := [], N := 19 }
set_option maxRecDepth 100000 in
theorem ok_math_bits_Len32 : FunOk Try.prog fn_math_bits_Len32 :=
  FunOk.intro (C := cx_math_bits_Len32) (p := (.mk [] none .nil (.mk [] none (.mk [] none .nil (.mk [.join [{ e := .n, j := { regs := [(0, .one (.data (.int .u32))), (2, .one (.data (.int .i64)))], vars := [], arrs := [] } }]] none .nil .nil)) (.mk [] none (.mk [] none .nil (.mk [.join [{ e := .n, j := { regs := [(0, .one (.data (.int .u32))), (2, .one (.data (.int .i64)))], vars := [], arrs := [] } }]] none .nil .nil)) .nil))))
    Try.func81 rfl nmr81 rfl rfl rfl rfl types_ok ⟨trivial, trivial⟩ mx (fun x => by kernel_rfl)

noncomputable def math_bits_Len64 (x : Int) : Option (Int) :=
  Option.bind (α := Int × Int) (
    bif decide (4294967296 ≤ x) then (
     some (Int.fdiv x (2 ^ shAmt .u64 32), 32))
    else (
     some (x, 0))) fun s =>
  Option.bind (α := Int × Int) (
    bif decide (65536 ≤ s.1) then (
     some (Int.fdiv s.1 (2 ^ shAmt .u64 16), wi64 (s.2 + 16)))
    else (
     some (s.1, s.2))) fun s2 =>
  Option.bind (α := Int × Int) (
    bif decide (256 ≤ s2.1) then (
     some (Int.fdiv s2.1 (2 ^ shAmt .u64 8), wi64 (s2.2 + 8)))
    else (
     some (s2.1, s2.2))) fun s3 =>
  gd (inB (wu8 s3.1) str_0.length) <|
  some (wi64 (s3.2 + (wi64 (Int.ofNat (str_0.getD (wu8 s3.1).toNat 0).toNat))))

noncomputable def fn_math_bits_Len64 : Fun :=
  { f := 82, np := 1, nr := 1,
    ji := { regs := [(0, .one (.data (.int .u64)))], vars := [], arrs := [] },
    jo := { regs := [(0, .one (.data (.int .i64)))], vars := [], arrs := [] },
    tw := fun x => math_bits_Len64 x }
noncomputable def cx_math_bits_Len64 : Cx := { Γ := types, ow := [], fs := [], N := 25 }
set_option maxRecDepth 100000 in
theorem ok_math_bits_Len64 : FunOk Try.prog fn_math_bits_Len64 :=
  FunOk.intro (C := cx_math_bits_Len64) (p := (.mk [] none .nil (.mk [] none (.mk [] none .nil (.mk [.join [{ e := .n, j := { regs := [(0, .one (.data (.int .u64))), (2, .one (.data (.int .i64)))], vars := [], arrs := [] } }]] none .nil .nil)) (.mk [] none (.mk [] none .nil (.mk [.join [{ e := .n, j := { regs := [(0, .one (.data (.int .u64))), (2, .one (.data (.int .i64)))], vars := [], arrs := [] } }]] none .nil .nil)) (.mk [] none (.mk [] none .nil (.mk [.join [{ e := .n, j := { regs := [(0, .one (.data (.int .u64))), (2, .one (.data (.int .i64)))], vars := [], arrs := [] } }]] none .nil .nil)) .nil)))))
    Try.func82 rfl nmr82 rfl rfl rfl rfl types_ok ⟨trivial, trivial⟩ mx (fun x => by kernel_rfl)

noncomputable def math_bits_Len (x : Int) : Option (Int) :=
  (math_bits_Len64 x).bind fun r =>
  some r

noncomputable def fn_math_bits_Len : Fun :=
  { f := 69, np := 1, nr := 1,
    ji := { regs := [(0, .one (.data (.int .u64)))], vars := [], arrs := [] },
    jo := { regs := [(0, .one (.data (.int .i64)))], vars := [], arrs := [] },
    tw := fun x => math_bits_Len x }
noncomputable def cx_math_bits_Len : Cx := { Γ := types, ow := [], fs := [fn_math_bits_Len64], N := 8 }
theorem ok_math_bits_Len : FunOk Try.prog fn_math_bits_Len :=
  FunOk.intro (C := cx_math_bits_Len) (p := .nil)
    Try.func69 rfl nmr69 rfl rfl rfl rfl types_ok ⟨⟨ok_math_bits_Len64, trivial⟩, trivial⟩ mx (fun x => by kernel_rfl)

noncomputable def slices_insertionSortCmpFunc_string_L1 (a : Int) (cmp : List UInt8 × List UInt8 × Unit → Option Int) (j : Int) (data3 : List (List UInt8)) : Option ((Int × List (List UInt8)) ⊕ (List (List UInt8))) :=
  Option.bind (α := Bool × List (List UInt8)) (
    bif decide (a < j) then (
     gd (inB j data3.length) <|
     gd (inB (wi64 (j - 1)) data3.length) <|
     (cmp (data3.getD j.toNat [], data3.getD ((wi64 (j - 1)).toNat) [], ())).bind fun r =>
     some (decide (r < 0), data3))
    else (
     some (false, data3))) fun s =>
  bif s.1 then (
   gd (inB (wi64 (j - 1)) s.2.length) <|
   gd (inB j s.2.length) <|
   gd (inB j s.2.length) <|
   gd (inB (wi64 (j - 1)) (s.2.set j.toNat (s.2.getD ((wi64 (j - 1)).toNat) [])).length) <|
   some (.inl (wi64 (j - 1), (s.2.set j.toNat (s.2.getD ((wi64 (j - 1)).toNat) [])).set ((wi64 (j - 1)).toNat) (s.2.getD j.toNat []))))
  else (
   some (.inr s.2))

noncomputable def slices_insertionSortCmpFunc_string_L0 (a : Int) (b : Int) (cmp : List UInt8 × List UInt8 × Unit → Option Int) (i : Int) (data2 : List (List UInt8)) : Option ((Int × List (List UInt8)) ⊕ (List (List UInt8))) :=
  bif decide (i < b) then (
   (iter (fun x => slices_insertionSortCmpFunc_string_L1 a cmp x.1 x.2) (i, data2)).bind fun s2 =>
   some (.inl (wi64 (i + 1), s2)))
  else (
   some (.inr data2))

noncomputable def slices_insertionSortCmpFunc_string (a : Int) (b : Int) (cmp : List UInt8 × List UInt8 × Unit → Option Int) (data : List (List UInt8)) : Option (List (List UInt8)) :=
  (iter (fun x2 => slices_insertionSortCmpFunc_string_L0 a b cmp x2.1 x2.2) (wi64 (a + 1), data)).bind fun s3 =>
  some s3

noncomputable def fn_slices_insertionSortCmpFunc_string : Fun :=
  { f := 73, np := 4, nr := 0,
    ji := { regs := [(0, .one (.own 0)), (1, .one (.data (.int .i64))), (2, .one (.data (.int .i64))), (3, .one (.fn [.str, .str] (.int .i64)))], vars := [], arrs := [(0, .arr 9 (.str))] },
    jo := { regs := [], vars := [], arrs := [(0, .arr 9 (.str))] },
    tw := fun x => slices_insertionSortCmpFunc_string x.1 x.2.1 x.2.2.1 x.2.2.2 }
noncomputable def cx_slices_insertionSortCmpFunc_string : Cx := { Γ := types, ow := [], fs := [], N := 53 }
theorem ok_slices_insertionSortCmpFunc_string : FunOk Try.prog fn_slices_insertionSortCmpFunc_string :=
  FunOk.intro (C := cx_slices_insertionSortCmpFunc_string) (p := (.mk [] none .nil (.mk [] none (.mk [] (some ({ regs := [(0, .one (.own 0)), (1, .one .keep), (2, .one .keep), (3, .one .keep), (8, .one (.data (.int .i64)))], vars := [], arrs := [(0, .arr 9 (.str))] }, [{ e := .x 0, j := { regs := [], vars := [], arrs := [(0, .arr 9 (.str))] } }])) (.mk [] none .nil (.mk [] none (.mk [] none (.mk [] none .nil (.mk [] none (.mk [] (some ({ regs := [(0, .one (.own 0)), (1, .one .keep), (2, .one .keep), (3, .one .keep), (8, .one .keep), (9, .one (.data (.int .i64)))], vars := [], arrs := [(0, .arr 9 (.str))] }, [{ e := .x 2, j := { regs := [(0, .one (.own 0)), (1, .one .keep), (2, .one .keep), (3, .one .keep), (8, .one .keep)], vars := [], arrs := [(0, .arr 9 (.str))] } }])) (.mk [] none (.mk [] none (.mk [.join [{ e := .n, j := { regs := [(0, .one (.own 0)), (1, .one .keep), (2, .one .keep), (3, .one .keep), (8, .one .keep), (9, .one .keep), (34, .one (.data (.bool)))], vars := [], arrs := [(0, .arr 9 (.str))] } }]] none .nil .nil) .nil) .nil) .nil) .nil)) .nil) .nil)) .nil) .nil)))
    Try.func73 rfl nmr73 rfl rfl rfl rfl types_ok ⟨trivial, trivial⟩ mx (fun x => by kernel_rfl)

noncomputable def slices_siftDownCmpFunc_string_L0 (hi : Int) (first : Int) (cmp : List UInt8 × List UInt8 × Unit → Option Int) (root : Int) (data2 : List (List UInt8)) : Option ((Int × List (List UInt8)) ⊕ ((List (List UInt8)) ⊕ (List (List UInt8)))) :=
  bif decide (hi ≤ wi64 ((wi64 (2 * root)) + 1)) then (
   some (.inr (.inl data2)))
  else (
   Option.bind (α := Bool × List (List UInt8)) (
     bif decide (wi64 ((wi64 ((wi64 (2 * root)) + 1)) + 1) < hi) then (
      gd (inB (wi64 (first + (wi64 ((wi64 (2 * root)) + 1)))) data2.length) <|
      gd (inB (wi64 ((wi64 (first + (wi64 ((wi64 (2 * root)) + 1)))) + 1)) data2.length) <|
      (cmp (data2.getD ((wi64 (first + (wi64 ((wi64 (2 * root)) + 1)))).toNat) [], data2.getD ((wi64 ((wi64 (first + (wi64 ((wi64 (2 * root)) + 1)))) + 1)).toNat) [], ())).bind fun r =>
      some (decide (r < 0), data2))
     else (
      some (false, data2))) fun s =>
   Option.bind (α := Int × List (List UInt8)) (
     bif s.1 then (
      some (wi64 ((wi64 ((wi64 (2 * root)) + 1)) + 1), s.2))
     else (
      some (wi64 ((wi64 (2 * root)) + 1), s.2))) fun s2 =>
   gd (inB (wi64 (first + root)) s2.2.length) <|
   gd (inB (wi64 (first + s2.1)) s2.2.length) <|
   (cmp (s2.2.getD ((wi64 (first + root)).toNat) [], s2.2.getD ((wi64 (first + s2.1)).toNat) [], ())).bind fun r2 =>
   bif !(decide (r2 < 0)) then (
    some (.inr (.inr s2.2)))
   else (
    gd (inB (wi64 (first + s2.1)) s2.2.length) <|
    gd (inB (wi64 (first + root)) s2.2.length) <|
    gd (inB (wi64 (first + root)) s2.2.length) <|
    gd (inB (wi64 (first + s2.1)) (s2.2.set ((wi64 (first + root)).toNat) (s2.2.getD ((wi64 (first + s2.1)).toNat) [])).length) <|
    some (.inl (s2.1, (s2.2.set ((wi64 (first + root)).toNat) (s2.2.getD ((wi64 (first + s2.1)).toNat) [])).set ((wi64 (first + s2.1)).toNat) (s2.2.getD ((wi64 (first + root)).toNat) [])))))

noncomputable def slices_siftDownCmpFunc_string (lo : Int) (hi : Int) (first : Int) (cmp : List UInt8 × List UInt8 × Unit → Option Int) (data : List (List UInt8)) : Option (List (List UInt8)) :=
  (iter (fun x => slices_siftDownCmpFunc_string_L0 hi first cmp x.1 x.2) (lo, data)).bind fun s3 =>
  s3.elim (fun s4 =>
   some s4)
  (fun s5 =>
   some s5)

noncomputable def fn_slices_siftDownCmpFunc_string : Fun :=
  { f := 86, np := 5, nr := 0,
    ji := { regs := [(0, .one (.own 0)), (1, .one (.data (.int .i64))), (2, .one (.data (.int .i64))), (3, .one (.data (.int .i64))), (4, .one (.fn [.str, .str] (.int .i64)))], vars := [], arrs := [(0, .arr 9 (.str))] },
    jo := { regs := [], vars := [], arrs := [(0, .arr 9 (.str))] },
    tw := fun x => slices_siftDownCmpFunc_string x.1 x.2.1 x.2.2.1 x.2.2.2.1 x.2.2.2.2 }
noncomputable def cx_slices_siftDownCmpFunc_string : Cx := { Γ := types, ow := [], fs := [], N := 82 }
theorem ok_slices_siftDownCmpFunc_string : FunOk Try.prog fn_slices_siftDownCmpFunc_string :=
  FunOk.intro (C := cx_slices_siftDownCmpFunc_string) (p := (.mk [] none .nil (.mk [] none (.mk [] (some ({ regs := [(0, .one (.own 0)), (2, .one .keep), (3, .one .keep), (4, .one .keep), (10, .one (.data (.int .i64)))], vars := [], arrs := [(0, .arr 9 (.str))] }, [{ e := .x 0, j := { regs := [], vars := [], arrs := [(0, .arr 9 (.str))] } }, { e := .r, j := { regs := [], vars := [], arrs := [(0, .arr 9 (.str))] } }])) (.mk [] none (.mk [] none .nil (.mk [] none .nil (.mk [] none (.mk [] none (.mk [.join [{ e := .n, j := { regs := [(0, .one (.own 0)), (2, .one .keep), (3, .one .keep), (4, .one .keep), (10, .one .keep), (11, .one .keep), (40, .one (.data (.bool)))], vars := [], arrs := [(0, .arr 9 (.str))] } }]] none .nil .nil) (.mk [.join [{ e := .n, j := { regs := [(0, .one (.own 0)), (2, .one .keep), (3, .one .keep), (4, .one .keep), (10, .one .keep), (11, .one (.data (.int .i64)))], vars := [], arrs := [(0, .arr 9 (.str))] } }]] none .nil .nil)) .nil))) .nil) .nil) .nil)))
    Try.func86 rfl nmr86 rfl rfl rfl rfl types_ok ⟨trivial, trivial⟩ mx (fun x => by kernel_rfl)

noncomputable def slices_heapSortCmpFunc_string_L0 (a : Int) (b : Int) (cmp : List UInt8 × List UInt8 × Unit → Option Int) (i : Int) (data2 : List (List UInt8)) : Option ((Int × List (List UInt8)) ⊕ (List (List UInt8))) :=
  bif decide (0 ≤ i) then (
   (slices_siftDownCmpFunc_string i (wi64 (b - a)) a cmp data2).bind fun r =>
   some (.inl (wi64 (i - 1), r)))
  else (
   some (.inr data2))

noncomputable def slices_heapSortCmpFunc_string_L1 (a : Int) (cmp : List UInt8 × List UInt8 × Unit → Option Int) (i2 : Int) (data3 : List (List UInt8)) : Option ((Int × List (List UInt8)) ⊕ (List (List UInt8))) :=
  bif decide (0 ≤ i2) then (
   gd (inB (wi64 (a + i2)) data3.length) <|
   gd (inB a data3.length) <|
   gd (inB a data3.length) <|
   gd (inB (wi64 (a + i2)) (data3.set a.toNat (data3.getD ((wi64 (a + i2)).toNat) [])).length) <|
   (slices_siftDownCmpFunc_string 0 i2 a cmp ((data3.set a.toNat (data3.getD ((wi64 (a + i2)).toNat) [])).set ((wi64 (a + i2)).toNat) (data3.getD a.toNat []))).bind fun r2 =>
   some (.inl (wi64 (i2 - 1), r2)))
  else (
   some (.inr data3))

noncomputable def slices_heapSortCmpFunc_string (a : Int) (b : Int) (cmp : List UInt8 × List UInt8 × Unit → Option Int) (data : List (List UInt8)) : Option (List (List UInt8)) :=
  (iter (fun x => slices_heapSortCmpFunc_string_L0 a b cmp x.1 x.2) (wi64 (Int.tdiv (wi64 ((wi64 (b - a)) - 1)) 2), data)).bind fun s =>
  (iter (fun x2 => slices_heapSortCmpFunc_string_L1 a cmp x2.1 x2.2) (wi64 ((wi64 (b - a)) - 1), s)).bind fun s2 =>
  some s2

noncomputable def fn_slices_heapSortCmpFunc_string : Fun :=
  { f := 74, np := 4, nr := 0,
    ji := { regs := [(0, .one (.own 0)), (1, .one (.data (.int .i64))), (2, .one (.data (.int .i64))), (3, .one (.fn [.str, .str] (.int .i64)))], vars := [], arrs := [(0, .arr 9 (.str))] },
    jo := { regs := [], vars := [], arrs := [(0, .arr 9 (.str))] },
    tw := fun x => slices_heapSortCmpFunc_string x.1 x.2.1 x.2.2.1 x.2.2.2 }
noncomputable def cx_slices_heapSortCmpFunc_string : Cx := { Γ := types, ow := [], fs := [fn_slices_siftDownCmpFunc_string], N := 60 }
theorem ok_slices_heapSortCmpFunc_string : FunOk Try.prog fn_slices_heapSortCmpFunc_string :=
  FunOk.intro (C := cx_slices_heapSortCmpFunc_string) (p := (.mk [] none .nil (.mk [] none .nil (.mk [] none .nil (.mk [] none (.mk [] none .nil (.mk [] none (.mk [] (some ({ regs := [(0, .one (.own 0)), (3, .one .keep), (8, .one .keep), (9, .one .keep), (10, .one .keep), (11, .one (.data (.int .i64)))], vars := [], arrs := [(0, .arr 9 (.str))] }, [{ e := .x 0, j := { regs := [(0, .one (.own 0)), (3, .one .keep), (8, .one .keep), (9, .one .keep), (10, .one .keep)], vars := [], arrs := [(0, .arr 9 (.str))] } }])) .nil .nil) .nil)) (.mk [] none .nil (.mk [] none (.mk [] (some ({ regs := [(0, .one (.own 0)), (3, .one .keep), (8, .one .keep), (9, .one .keep), (12, .one (.data (.int .i64)))], vars := [], arrs := [(0, .arr 9 (.str))] }, [{ e := .x 2, j := { regs := [], vars := [], arrs := [(0, .arr 9 (.str))] } }])) .nil .nil) .nil)))))))
    Try.func74 rfl nmr74 rfl rfl rfl rfl types_ok ⟨⟨ok_slices_siftDownCmpFunc_string, trivial⟩, trivial⟩ mx (fun x => by kernel_rfl)

noncomputable def slices_nextPowerOfTwo (length : Int) : Option (Int) :=
  (math_bits_Len (wu64 length)).bind fun r =>
  gd (!decide (r < 0)) <|
  some (wu64 (1 * 2 ^ shAmt .u64 r))

noncomputable def fn_slices_nextPowerOfTwo : Fun :=
  { f := 87, np := 1, nr := 1,
    ji := { regs := [(0, .one (.data (.int .i64)))], vars := [], arrs := [] },
    jo := { regs := [(0, .one (.data (.int .u64)))], vars := [], arrs := [] },
    tw := fun x => slices_nextPowerOfTwo x }
noncomputable def cx_slices_nextPowerOfTwo : Cx := { Γ := types, ow := [], fs := [fn_math_bits_Len], N := 7 }
theorem ok_slices_nextPowerOfTwo : FunOk Try.prog fn_slices_nextPowerOfTwo :=
  FunOk.intro (C := cx_slices_nextPowerOfTwo) (p := .nil)
    Try.func87 rfl nmr87 rfl rfl rfl rfl types_ok ⟨⟨ok_math_bits_Len, trivial⟩, trivial⟩ mx (fun x => by kernel_rfl)

noncomputable def slices_xorshift_Next (r : Int) : Option (Int × Int) :=
  some (bitXor .u64 (bitXor .u64 (bitXor .u64 r (wu64 (r * 2 ^ shAmt .u64 13))) (Int.fdiv (bitXor .u64 r (wu64 (r * 2 ^ shAmt .u64 13))) (2 ^ shAmt .u64 7))) (wu64 ((bitXor .u64 (bitXor .u64 r (wu64 (r * 2 ^ shAmt .u64 13))) (Int.fdiv (bitXor .u64 r (wu64 (r * 2 ^ shAmt .u64 13))) (2 ^ shAmt .u64 7))) * 2 ^ shAmt .u64 17)), bitXor .u64 (bitXor .u64 (bitXor .u64 r (wu64 (r * 2 ^ shAmt .u64 13))) (Int.fdiv (bitXor .u64 r (wu64 (r * 2 ^ shAmt .u64 13))) (2 ^ shAmt .u64 7))) (wu64 ((bitXor .u64 (bitXor .u64 r (wu64 (r * 2 ^ shAmt .u64 13))) (Int.fdiv (bitXor .u64 r (wu64 (r * 2 ^ shAmt .u64 13))) (2 ^ shAmt .u64 7))) * 2 ^ shAmt .u64 17)))

noncomputable def fn_slices_xorshift_Next : Fun :=
  { f := 88, np := 1, nr := 1,
    ji := { regs := [(0, .one (.ptr 0 0))], vars := [(0, 108, [.data (.int .u64)])], arrs := [] },
    jo := { regs := [(0, .one (.data (.int .u64)))], vars := [(0, 108, [.data (.int .u64)])], arrs := [] },
    tw := fun x => slices_xorshift_Next x }
noncomputable def cx_slices_xorshift_Next : Cx := { Γ := types, ow := [], fs := [], N := 33 }
theorem ok_slices_xorshift_Next : FunOk Try.prog fn_slices_xorshift_Next :=
  FunOk.intro (C := cx_slices_xorshift_Next) (p := .nil)
    Try.func88 rfl nmr88 rfl rfl rfl rfl types_ok ⟨trivial, trivial⟩ mx (fun x => by kernel_rfl)

noncomputable def slices_breakPatternsCmpFunc_string_L0 (a : Int) (b : Int) (r : Int) (idx : Int) (random : Int) (data2 : List (List UInt8)) : Option ((Int × Int × List (List UInt8)) ⊕ (List (List UInt8))) :=
  bif decide (idx ≤ wi64 ((wi64 (a + (wi64 ((wi64 (Int.tdiv (wi64 (b - a)) 4)) * 2)))) + 1)) then (
   (slices_xorshift_Next random).bind fun r2 =>
   Option.bind (α := Int × List (List UInt8)) (
     bif decide (wi64 (b - a) ≤ wi64 (bitAnd .u64 r2.1 (wu64 (r - 1)))) then (
      some (wi64 ((wi64 (bitAnd .u64 r2.1 (wu64 (r - 1)))) - (wi64 (b - a))), data2))
     else (
      some (wi64 (bitAnd .u64 r2.1 (wu64 (r - 1))), data2))) fun s =>
   gd (inB (wi64 (a + s.1)) s.2.length) <|
   gd (inB idx s.2.length) <|
   gd (inB idx s.2.length) <|
   gd (inB (wi64 (a + s.1)) (s.2.set idx.toNat (s.2.getD ((wi64 (a + s.1)).toNat) [])).length) <|
   some (.inl (wi64 (idx + 1), r2.2, (s.2.set idx.toNat (s.2.getD ((wi64 (a + s.1)).toNat) [])).set ((wi64 (a + s.1)).toNat) (s.2.getD idx.toNat []))))
  else (
   some (.inr data2))

noncomputable def slices_breakPatternsCmpFunc_string (a : Int) (b : Int) (cmp : List UInt8 × List UInt8 × Unit → Option Int) (data : List (List UInt8)) : Option (List (List UInt8)) :=
  bif decide (8 ≤ wi64 (b - a)) then (
   (slices_nextPowerOfTwo (wi64 (b - a))).bind fun r =>
   (iter (fun x => slices_breakPatternsCmpFunc_string_L0 a b r x.1 x.2.1 x.2.2) (wi64 ((wi64 (a + (wi64 ((wi64 (Int.tdiv (wi64 (b - a)) 4)) * 2)))) - 1), wu64 (wi64 (b - a)), data)).bind fun s2 =>
   some s2)
  else (
   some data)

noncomputable def fn_slices_breakPatternsCmpFunc_string : Fun :=
  { f := 75, np := 4, nr := 0,
    ji := { regs := [(0, .one (.own 0)), (1, .one (.data (.int .i64))), (2, .one (.data (.int .i64))), (3, .one (.fn [.str, .str] (.int .i64)))], vars := [], arrs := [(0, .arr 9 (.str))] },
    jo := { regs := [], vars := [], arrs := [(0, .arr 9 (.str))] },
    tw := fun x => slices_breakPatternsCmpFunc_string x.1 x.2.1 x.2.2.1 x.2.2.2 }
noncomputable def cx_slices_breakPatternsCmpFunc_string : Cx := { Γ := types, ow := [], fs := [fn_slices_nextPowerOfTwo, fn_slices_xorshift_Next], N := 67 }
theorem ok_slices_breakPatternsCmpFunc_string : FunOk Try.prog fn_slices_breakPatternsCmpFunc_string :=
  FunOk.intro (C := cx_slices_breakPatternsCmpFunc_string) (p := (.mk [] none .nil (.mk [] none .nil (.mk [] none (.mk [] none .nil (.mk [] none .nil (.mk [] none .nil (.mk [] none (.mk [] (some ({ regs := [(0, .one (.own 0)), (1, .one .keep), (8, .one .keep), (9, .one (.ptr 160 0)), (10, .one .keep), (11, .one (.data (.int .i64)))], vars := [(160, 108, [.data (.int .u64)])], arrs := [(0, .arr 9 (.str))] }, [{ e := .x 0, j := { regs := [], vars := [], arrs := [(0, .arr 9 (.str))] } }])) (.mk [] none .nil (.mk [] none (.mk [] none (.mk [] none .nil (.mk [] none (.mk [] none .nil (.mk [.join [{ e := .n, j := { regs := [(0, .one (.own 0)), (1, .one .keep), (8, .one .keep), (9, .one (.ptr 160 0)), (10, .one .keep), (11, .one .keep), (12, .one (.data (.int .i64)))], vars := [(160, 108, [.keep])], arrs := [(0, .arr 9 (.str))] } }]] none .nil .nil)) .nil)) .nil) .nil)) .nil) .nil)))) .nil))))
    Try.func75 rfl nmr75 rfl rfl rfl rfl types_ok ⟨⟨ok_slices_nextPowerOfTwo, ok_slices_xorshift_Next, trivial⟩, trivial⟩ mx (fun x => by kernel_rfl)

noncomputable def slices_order2CmpFunc_string (data : List (List UInt8)) (a : Int) (b : Int) (cmp : List UInt8 × List UInt8 × Unit → Option Int) (swaps : Int) : Option (Int × Int × Int) :=
  gd (inB b data.length) <|
  gd (inB a data.length) <|
  (cmp (data.getD b.toNat [], data.getD a.toNat [], ())).bind fun r =>
  bif decide (r < 0) then (
   some (b, a, wi64 (swaps + 1)))
  else (
   some (a, b, swaps))

noncomputable def fn_slices_order2CmpFunc_string : Fun :=
  { f := 92, np := 5, nr := 2,
    ji := { regs := [(0, .one (.data (.sl (.str)))), (1, .one (.data (.int .i64))), (2, .one (.data (.int .i64))), (3, .one (.ptr 0 0)), (4, .one (.fn [.str, .str] (.int .i64)))], vars := [(0, 3, [.data (.int .i64)])], arrs := [] },
    jo := { regs := [(0, .one (.data (.int .i64))), (1, .one (.data (.int .i64)))], vars := [(0, 3, [.data (.int .i64)])], arrs := [] },
    tw := fun x => slices_order2CmpFunc_string x.1 x.2.1 x.2.2.1 x.2.2.2.1 x.2.2.2.2 }
noncomputable def cx_slices_order2CmpFunc_string : Cx := { Γ := types, ow := [], fs := [], N := 32 }
theorem ok_slices_order2CmpFunc_string : FunOk Try.prog fn_slices_order2CmpFunc_string :=
  FunOk.intro (C := cx_slices_order2CmpFunc_string) (p := .nil)
    Try.func92 rfl nmr92 rfl rfl rfl rfl types_ok ⟨trivial, trivial⟩ mx (fun x => by kernel_rfl)

noncomputable def slices_medianCmpFunc_string (data : List (List UInt8)) (a : Int) (b : Int) (c : Int) (cmp : List UInt8 × List UInt8 × Unit → Option Int) (swaps : Int) : Option (Int × Int) :=
  (slices_order2CmpFunc_string data a b cmp swaps).bind fun r =>
  (slices_order2CmpFunc_string data r.2.1 c cmp r.2.2).bind fun r2 =>
  (slices_order2CmpFunc_string data r.1 r2.1 cmp r2.2.2).bind fun r3 =>
  some (r3.2.1, r3.2.2)

noncomputable def fn_slices_medianCmpFunc_string : Fun :=
  { f := 90, np := 6, nr := 1,
    ji := { regs := [(0, .one (.data (.sl (.str)))), (1, .one (.data (.int .i64))), (2, .one (.data (.int .i64))), (3, .one (.data (.int .i64))), (4, .one (.ptr 0 0)), (5, .one (.fn [.str, .str] (.int .i64)))], vars := [(0, 3, [.data (.int .i64)])], arrs := [] },
    jo := { regs := [(0, .one (.data (.int .i64)))], vars := [(0, 3, [.data (.int .i64)])], arrs := [] },
    tw := fun x => slices_medianCmpFunc_string x.1 x.2.1 x.2.2.1 x.2.2.2.1 x.2.2.2.2.1 x.2.2.2.2.2 }
noncomputable def cx_slices_medianCmpFunc_string : Cx := { Γ := types, ow := [], fs := [fn_slices_order2CmpFunc_string], N := 41 }
theorem ok_slices_medianCmpFunc_string : FunOk Try.prog fn_slices_medianCmpFunc_string :=
  FunOk.intro (C := cx_slices_medianCmpFunc_string) (p := .nil)
    Try.func90 rfl nmr90 rfl rfl rfl rfl types_ok ⟨⟨ok_slices_order2CmpFunc_string, trivial⟩, trivial⟩ mx (fun x => by kernel_rfl)

noncomputable def slices_medianAdjacentCmpFunc_string (data : List (List UInt8)) (a : Int) (cmp : List UInt8 × List UInt8 × Unit → Option Int) (swaps : Int) : Option (Int × Int) :=
  (slices_medianCmpFunc_string data (wi64 (a - 1)) a (wi64 (a + 1)) cmp swaps).bind fun r =>
  some (r.1, r.2)

noncomputable def fn_slices_medianAdjacentCmpFunc_string : Fun :=
  { f := 89, np := 4, nr := 1,
    ji := { regs := [(0, .one (.data (.sl (.str)))), (1, .one (.data (.int .i64))), (2, .one (.ptr 0 0)), (3, .one (.fn [.str, .str] (.int .i64)))], vars := [(0, 3, [.data (.int .i64)])], arrs := [] },
    jo := { regs := [(0, .one (.data (.int .i64)))], vars := [(0, 3, [.data (.int .i64)])], arrs := [] },
    tw := fun x => slices_medianAdjacentCmpFunc_string x.1 x.2.1 x.2.2.1 x.2.2.2 }
noncomputable def cx_slices_medianAdjacentCmpFunc_string : Cx := { Γ := types, ow := [], fs := [fn_slices_medianCmpFunc_string], N := 18 }
theorem ok_slices_medianAdjacentCmpFunc_string : FunOk Try.prog fn_slices_medianAdjacentCmpFunc_string :=
  FunOk.intro (C := cx_slices_medianAdjacentCmpFunc_string) (p := .nil)
    Try.func89 rfl nmr89 rfl rfl rfl rfl types_ok ⟨⟨ok_slices_medianCmpFunc_string, trivial⟩, trivial⟩ mx (fun x => by kernel_rfl)

noncomputable def slices_choosePivotCmpFunc_string (data : List (List UInt8)) (a : Int) (b : Int) (cmp : List UInt8 × List UInt8 × Unit → Option Int) : Option (Int × Int) :=
  Option.bind (α := Int × Int) (
    bif decide (8 ≤ wi64 (b - a)) then (
     Option.bind (α := Int × Int × Int × Int) (
       bif decide (50 ≤ wi64 (b - a)) then (
        (slices_medianAdjacentCmpFunc_string data (wi64 (a + (wi64 ((wi64 (Int.tdiv (wi64 (b - a)) 4)) * 1)))) cmp 0).bind fun r =>
        (slices_medianAdjacentCmpFunc_string data (wi64 (a + (wi64 ((wi64 (Int.tdiv (wi64 (b - a)) 4)) * 2)))) cmp r.2).bind fun r2 =>
        (slices_medianAdjacentCmpFunc_string data (wi64 (a + (wi64 ((wi64 (Int.tdiv (wi64 (b - a)) 4)) * 3)))) cmp r2.2).bind fun r3 =>
        some (r.1, r2.1, r3.1, r3.2))
       else (
        some (wi64 (a + (wi64 ((wi64 (Int.tdiv (wi64 (b - a)) 4)) * 1))), wi64 (a + (wi64 ((wi64 (Int.tdiv (wi64 (b - a)) 4)) * 2))), wi64 (a + (wi64 ((wi64 (Int.tdiv (wi64 (b - a)) 4)) * 3))), 0))) fun s =>
     (slices_medianCmpFunc_string data s.1 s.2.1 s.2.2.1 cmp s.2.2.2).bind fun r4 =>
     some (r4.1, r4.2))
    else (
     some (wi64 (a + (wi64 ((wi64 (Int.tdiv (wi64 (b - a)) 4)) * 2))), 0))) fun s2 =>
  bif decide (s2.2 = 0) then (
   some (s2.1, 1))
  else (
   bif decide (s2.2 = 12) then (
    some (s2.1, 2))
   else (
    some (s2.1, 0)))

noncomputable def fn_slices_choosePivotCmpFunc_string : Fun :=
  { f := 76, np := 4, nr := 2,
    ji := { regs := [(0, .one (.data (.sl (.str)))), (1, .one (.data (.int .i64))), (2, .one (.data (.int .i64))), (3, .one (.fn [.str, .str] (.int .i64)))], vars := [], arrs := [] },
    jo := { regs := [(0, .one (.data (.int .i64))), (1, .one (.data (.int .i64)))], vars := [], arrs := [] },
    tw := fun x => slices_choosePivotCmpFunc_string x.1 x.2.1 x.2.2.1 x.2.2.2 }
noncomputable def cx_slices_choosePivotCmpFunc_string : Cx := { Γ := types, ow := [], fs := [fn_slices_medianAdjacentCmpFunc_string, fn_slices_medianCmpFunc_string], N := 63 }
theorem ok_slices_choosePivotCmpFunc_string : FunOk Try.prog fn_slices_choosePivotCmpFunc_string :=
  FunOk.intro (C := cx_slices_choosePivotCmpFunc_string) (p := (.mk [] none .nil (.mk [] none .nil (.mk [] none .nil (.mk [] none .nil (.mk [] none .nil (.mk [] none .nil (.mk [] none (.mk [] none .nil (.mk [.join [{ e := .n, j := { regs := [(11, .one (.ptr 192 0)), (13, .one (.data (.int .i64)))], vars := [(192, 3, [.data (.int .i64)])], arrs := [] } }]] none (.mk [] none (.mk [] none .nil (.mk [.join [{ e := .n, j := { regs := [(0, .one .keep), (3, .one .keep), (11, .one (.ptr 192 0)), (12, .one (.data (.int .i64))), (13, .one (.data (.int .i64))), (14, .one (.data (.int .i64)))], vars := [(192, 3, [.data (.int .i64)])], arrs := [] } }]] none .nil .nil)) .nil) .nil)) .nil))))))))
    Try.func76 rfl nmr76 rfl rfl rfl rfl types_ok ⟨⟨ok_slices_medianAdjacentCmpFunc_string, ok_slices_medianCmpFunc_string, trivial⟩, trivial⟩ mx (fun x => by kernel_rfl)

noncomputable def slices_reverseRangeCmpFunc_string_L0 (i : Int) (j : Int) (data2 : List (List UInt8)) : Option ((Int × Int × List (List UInt8)) ⊕ (List (List UInt8))) :=
  bif decide (i < j) then (
   gd (inB j data2.length) <|
   gd (inB i data2.length) <|
   gd (inB i data2.length) <|
   gd (inB j (data2.set i.toNat (data2.getD j.toNat [])).length) <|
   some (.inl (wi64 (i + 1), wi64 (j - 1), (data2.set i.toNat (data2.getD j.toNat [])).set j.toNat (data2.getD i.toNat []))))
  else (
   some (.inr data2))

noncomputable def slices_reverseRangeCmpFunc_string (a : Int) (b : Int) (cmp : List UInt8 × List UInt8 × Unit → Option Int) (data : List (List UInt8)) : Option (List (List UInt8)) :=
  (iter (fun x => slices_reverseRangeCmpFunc_string_L0 x.1 x.2.1 x.2.2) (a, wi64 (b - 1), data)).bind fun s =>
  some s

noncomputable def fn_slices_reverseRangeCmpFunc_string : Fun :=
  { f := 77, np := 4, nr := 0,
    ji := { regs := [(0, .one (.own 0)), (1, .one (.data (.int .i64))), (2, .one (.data (.int .i64))), (3, .one (.fn [.str, .str] (.int .i64)))], vars := [], arrs := [(0, .arr 9 (.str))] },
    jo := { regs := [], vars := [], arrs := [(0, .arr 9 (.str))] },
    tw := fun x => slices_reverseRangeCmpFunc_string x.1 x.2.1 x.2.2.1 x.2.2.2 }
noncomputable def cx_slices_reverseRangeCmpFunc_string : Cx := { Γ := types, ow := [], fs := [], N := 34 }
theorem ok_slices_reverseRangeCmpFunc_string : FunOk Try.prog fn_slices_reverseRangeCmpFunc_string :=
  FunOk.intro (C := cx_slices_reverseRangeCmpFunc_string) (p := (.mk [] none .nil (.mk [] none .nil (.mk [] none (.mk [] (some ({ regs := [(0, .one (.own 0)), (8, .one (.data (.int .i64))), (9, .one (.data (.int .i64)))], vars := [], arrs := [(0, .arr 9 (.str))] }, [{ e := .x 0, j := { regs := [], vars := [], arrs := [(0, .arr 9 (.str))] } }])) .nil .nil) .nil))))
    Try.func77 rfl nmr77 rfl rfl rfl rfl types_ok ⟨trivial, trivial⟩ mx (fun x => by kernel_rfl)

noncomputable def slices_partialInsertionSortCmpFunc_string_L1 (b : Int) (cmp : List UInt8 × List UInt8 × Unit → Option Int) (i2 : Int) (data3 : List (List UInt8)) : Option ((Int × List (List UInt8)) ⊕ (Int × List (List UInt8))) :=
  Option.bind (α := Bool × List (List UInt8)) (
    bif decide (i2 < b) then (
     gd (inB i2 data3.length) <|
     gd (inB (wi64 (i2 - 1)) data3.length) <|
     (cmp (data3.getD i2.toNat [], data3.getD ((wi64 (i2 - 1)).toNat) [], ())).bind fun r =>
     some ((!(decide (r < 0))), data3))
    else (
     some (false, data3))) fun s =>
  bif s.1 then (
   some (.inl (wi64 (i2 + 1), s.2)))
  else (
   some (.inr (i2, s.2)))

noncomputable def slices_partialInsertionSortCmpFunc_string_L2 (cmp : List UInt8 × List UInt8 × Unit → Option Int) (j2 : Int) (data4 : List (List UInt8)) : Option ((Int × List (List UInt8)) ⊕ (List (List UInt8))) :=
  bif decide (1 ≤ j2) then (
   gd (inB j2 data4.length) <|
   gd (inB (wi64 (j2 - 1)) data4.length) <|
   (cmp (data4.getD j2.toNat [], data4.getD ((wi64 (j2 - 1)).toNat) [], ())).bind fun r2 =>
   bif !(decide (r2 < 0)) then (
    some (.inr data4))
   else (
    gd (inB (wi64 (j2 - 1)) data4.length) <|
    gd (inB j2 data4.length) <|
    gd (inB j2 data4.length) <|
    gd (inB (wi64 (j2 - 1)) (data4.set j2.toNat (data4.getD ((wi64 (j2 - 1)).toNat) [])).length) <|
    some (.inl (wi64 (j2 - 1), (data4.set j2.toNat (data4.getD ((wi64 (j2 - 1)).toNat) [])).set ((wi64 (j2 - 1)).toNat) (data4.getD j2.toNat [])))))
  else (
   some (.inr data4))

noncomputable def slices_partialInsertionSortCmpFunc_string_L3 (b : Int) (cmp : List UInt8 × List UInt8 × Unit → Option Int) (j3 : Int) (data5 : List (List UInt8)) : Option ((Int × List (List UInt8)) ⊕ (List (List UInt8))) :=
  bif decide (j3 < b) then (
   gd (inB j3 data5.length) <|
   gd (inB (wi64 (j3 - 1)) data5.length) <|
   (cmp (data5.getD j3.toNat [], data5.getD ((wi64 (j3 - 1)).toNat) [], ())).bind fun r3 =>
   bif !(decide (r3 < 0)) then (
    some (.inr data5))
   else (
    gd (inB (wi64 (j3 - 1)) data5.length) <|
    gd (inB j3 data5.length) <|
    gd (inB j3 data5.length) <|
    gd (inB (wi64 (j3 - 1)) (data5.set j3.toNat (data5.getD ((wi64 (j3 - 1)).toNat) [])).length) <|
    some (.inl (wi64 (j3 + 1), (data5.set j3.toNat (data5.getD ((wi64 (j3 - 1)).toNat) [])).set ((wi64 (j3 - 1)).toNat) (data5.getD j3.toNat [])))))
  else (
   some (.inr data5))

noncomputable def slices_partialInsertionSortCmpFunc_string_L0 (a : Int) (b : Int) (cmp : List UInt8 × List UInt8 × Unit → Option Int) (i : Int) (j : Int) (data2 : List (List UInt8)) : Option ((Int × Int × List (List UInt8)) ⊕ ((List (List UInt8)) ⊕ (Bool × List (List UInt8)))) :=
  bif decide (j < 5) then (
   (iter (fun x => slices_partialInsertionSortCmpFunc_string_L1 b cmp x.1 x.2) (i, data2)).bind fun s2 =>
   bif decide (s2.1 = b) then (
    some (.inr (.inr (true, s2.2))))
   else (
    bif decide (wi64 (b - a) < 50) then (
     some (.inr (.inr (false, s2.2))))
    else (
     gd (inB (wi64 (s2.1 - 1)) s2.2.length) <|
     gd (inB s2.1 s2.2.length) <|
     gd (inB s2.1 s2.2.length) <|
     gd (inB (wi64 (s2.1 - 1)) (s2.2.set s2.1.toNat (s2.2.getD ((wi64 (s2.1 - 1)).toNat) [])).length) <|
     Option.bind (α := List (List UInt8)) (
       bif decide (2 ≤ wi64 (s2.1 - a)) then (
        (iter (fun x2 => slices_partialInsertionSortCmpFunc_string_L2 cmp x2.1 x2.2) (wi64 (s2.1 - 1), (s2.2.set s2.1.toNat (s2.2.getD ((wi64 (s2.1 - 1)).toNat) [])).set ((wi64 (s2.1 - 1)).toNat) (s2.2.getD s2.1.toNat []))).bind fun s3 =>
        some s3)
       else (
        some ((s2.2.set s2.1.toNat (s2.2.getD ((wi64 (s2.1 - 1)).toNat) [])).set ((wi64 (s2.1 - 1)).toNat) (s2.2.getD s2.1.toNat [])))) fun s4 =>
     Option.bind (α := List (List UInt8)) (
       bif decide (2 ≤ wi64 (b - s2.1)) then (
        (iter (fun x3 => slices_partialInsertionSortCmpFunc_string_L3 b cmp x3.1 x3.2) (wi64 (s2.1 + 1), s4)).bind fun s5 =>
        some s5)
       else (
        some s4)) fun s6 =>
     some (.inl (s2.1, wi64 (j + 1), s6)))))
  else (
   some (.inr (.inl data2)))

noncomputable def slices_partialInsertionSortCmpFunc_string (a : Int) (b : Int) (cmp : List UInt8 × List UInt8 × Unit → Option Int) (data : List (List UInt8)) : Option (Bool × List (List UInt8)) :=
  (iter (fun x4 => slices_partialInsertionSortCmpFunc_string_L0 a b cmp x4.1 x4.2.1 x4.2.2) (wi64 (a + 1), 0, data)).bind fun s7 =>
  s7.elim (fun s8 =>
   some (false, s8))
  (fun s9 =>
   some (s9.1, s9.2))

noncomputable def fn_slices_partialInsertionSortCmpFunc_string : Fun :=
  { f := 78, np := 4, nr := 1,
    ji := { regs := [(0, .one (.own 0)), (1, .one (.data (.int .i64))), (2, .one (.data (.int .i64))), (3, .one (.fn [.str, .str] (.int .i64)))], vars := [], arrs := [(0, .arr 9 (.str))] },
    jo := { regs := [(0, .one (.data (.bool)))], vars := [], arrs := [(0, .arr 9 (.str))] },
    tw := fun x => slices_partialInsertionSortCmpFunc_string x.1 x.2.1 x.2.2.1 x.2.2.2 }
noncomputable def cx_slices_partialInsertionSortCmpFunc_string : Cx := { Γ := types, ow := [], fs := [], N := 141 }
theorem ok_slices_partialInsertionSortCmpFunc_string : FunOk Try.prog fn_slices_partialInsertionSortCmpFunc_string :=
  FunOk.intro (C := cx_slices_partialInsertionSortCmpFunc_string) (p := (.mk [] none .nil (.mk [] none .nil (.mk [] none (.mk [] none .nil (.mk [] none (.mk [] (some ({ regs := [(0, .one (.own 0)), (1, .one .keep), (2, .one .keep), (3, .one .keep), (9, .one (.data (.int .i64))), (10, .one (.data (.int .i64)))], vars := [], arrs := [(0, .arr 9 (.str))] }, [{ e := .x 0, j := { regs := [], vars := [], arrs := [(0, .arr 9 (.str))] } }, { e := .r, j := { regs := [(8, .one (.data (.bool)))], vars := [], arrs := [(0, .arr 9 (.str))] } }])) (.mk [] none .nil (.mk [] none (.mk [] none (.mk [] none (.mk [] none (.mk [] (some ({ regs := [(0, .one (.own 0)), (1, .one .keep), (2, .one .keep), (3, .one .keep), (9, .one (.data (.int .i64))), (10, .one .keep)], vars := [], arrs := [(0, .arr 9 (.str))] }, [{ e := .x 2, j := { regs := [(0, .one (.own 0)), (1, .one .keep), (2, .one .keep), (3, .one .keep), (9, .one (.data (.int .i64))), (10, .one .keep)], vars := [], arrs := [(0, .arr 9 (.str))] } }])) (.mk [] none (.mk [] none (.mk [.join [{ e := .n, j := { regs := [(0, .one (.own 0)), (1, .one .keep), (2, .one .keep), (3, .one .keep), (9, .one .keep), (10, .one .keep), (36, .one (.data (.bool)))], vars := [], arrs := [(0, .arr 9 (.str))] } }]] none .nil .nil) .nil) .nil) .nil) .nil) (.mk [] none .nil (.mk [] none .nil (.mk [] none .nil (.mk [] none (.mk [] none .nil (.mk [.join [{ e := .n, j := { regs := [(0, .one (.own 0)), (1, .one .keep), (2, .one .keep), (3, .one .keep), (9, .one .keep), (10, .one .keep)], vars := [], arrs := [(0, .arr 9 (.str))] } }]] none (.mk [] none .nil (.mk [] none (.mk [] (some ({ regs := [(0, .one (.own 0)), (1, .one .keep), (2, .one .keep), (3, .one .keep), (9, .one .keep), (10, .one .keep), (11, .one (.data (.int .i64)))], vars := [], arrs := [(0, .arr 9 (.str))] }, [{ e := .x 4, j := { regs := [(0, .one (.own 0)), (1, .one .keep), (2, .one .keep), (3, .one .keep), (9, .one .keep), (10, .one .keep)], vars := [], arrs := [(0, .arr 9 (.str))] } }])) .nil .nil) .nil)) .nil)) (.mk [] none .nil (.mk [.join [{ e := .n, j := { regs := [(0, .one (.own 0)), (1, .one .keep), (2, .one .keep), (3, .one .keep), (9, .one .keep), (10, .one .keep)], vars := [], arrs := [(0, .arr 9 (.str))] } }]] none (.mk [] none .nil (.mk [] none (.mk [] (some ({ regs := [(0, .one (.own 0)), (1, .one .keep), (2, .one .keep), (3, .one .keep), (9, .one .keep), (10, .one .keep), (12, .one (.data (.int .i64)))], vars := [], arrs := [(0, .arr 9 (.str))] }, [{ e := .x 6, j := { regs := [(0, .one (.own 0)), (1, .one .keep), (2, .one .keep), (3, .one .keep), (9, .one .keep), (10, .one .keep)], vars := [], arrs := [(0, .arr 9 (.str))] } }])) .nil .nil) .nil)) .nil))))))) .nil) .nil)) .nil) .nil)) .nil))))
    Try.func78 rfl nmr78 rfl rfl rfl rfl types_ok ⟨trivial, trivial⟩ mx (fun x => by kernel_rfl)

noncomputable def slices_partitionEqualCmpFunc_string_L1 (a : Int) (cmp : List UInt8 × List UInt8 × Unit → Option Int) (j : Int) (i2 : Int) (data3 : List (List UInt8)) : Option ((Int × List (List UInt8)) ⊕ (Int × List (List UInt8))) :=
  Option.bind (α := Bool × List (List UInt8)) (
    bif decide (i2 ≤ j) then (
     gd (inB a data3.length) <|
     gd (inB i2 data3.length) <|
     (cmp (data3.getD a.toNat [], data3.getD i2.toNat [], ())).bind fun r =>
     some ((!(decide (r < 0))), data3))
    else (
     some (false, data3))) fun s =>
  bif s.1 then (
   some (.inl (wi64 (i2 + 1), s.2)))
  else (
   some (.inr (i2, s.2)))

noncomputable def slices_partitionEqualCmpFunc_string_L2 (a : Int) (cmp : List UInt8 × List UInt8 × Unit → Option Int) (s2 : Int × List (List UInt8)) (j2 : Int) (data4 : List (List UInt8)) : Option ((Int × List (List UInt8)) ⊕ (Int × List (List UInt8))) :=
  Option.bind (α := Bool × List (List UInt8)) (
    bif decide (s2.1 ≤ j2) then (
     gd (inB a data4.length) <|
     gd (inB j2 data4.length) <|
     (cmp (data4.getD a.toNat [], data4.getD j2.toNat [], ())).bind fun r2 =>
     some (decide (r2 < 0), data4))
    else (
     some (false, data4))) fun s3 =>
  bif s3.1 then (
   some (.inl (wi64 (j2 - 1), s3.2)))
  else (
   some (.inr (j2, s3.2)))

noncomputable def slices_partitionEqualCmpFunc_string_L0 (a : Int) (cmp : List UInt8 × List UInt8 × Unit → Option Int) (i : Int) (j : Int) (data2 : List (List UInt8)) : Option ((Int × Int × List (List UInt8)) ⊕ (Int × List (List UInt8))) :=
  (iter (fun x => slices_partitionEqualCmpFunc_string_L1 a cmp j x.1 x.2) (i, data2)).bind fun s2 =>
  (iter (fun x2 => slices_partitionEqualCmpFunc_string_L2 a cmp s2 x2.1 x2.2) (j, s2.2)).bind fun s4 =>
  bif decide (s4.1 < s2.1) then (
   some (.inr (s2.1, s4.2)))
  else (
   gd (inB s4.1 s4.2.length) <|
   gd (inB s2.1 s4.2.length) <|
   gd (inB s2.1 s4.2.length) <|
   gd (inB s4.1 (s4.2.set s2.1.toNat (s4.2.getD s4.1.toNat [])).length) <|
   some (.inl (wi64 (s2.1 + 1), wi64 (s4.1 - 1), (s4.2.set s2.1.toNat (s4.2.getD s4.1.toNat [])).set s4.1.toNat (s4.2.getD s2.1.toNat []))))

noncomputable def slices_partitionEqualCmpFunc_string (a : Int) (b : Int) (pivot : Int) (cmp : List UInt8 × List UInt8 × Unit → Option Int) (data : List (List UInt8)) : Option (Int × List (List UInt8)) :=
  gd (inB pivot data.length) <|
  gd (inB a data.length) <|
  gd (inB a data.length) <|
  gd (inB pivot (data.set a.toNat (data.getD pivot.toNat [])).length) <|
  (iter (fun x3 => slices_partitionEqualCmpFunc_string_L0 a cmp x3.1 x3.2.1 x3.2.2) (wi64 (a + 1), wi64 (b - 1), (data.set a.toNat (data.getD pivot.toNat [])).set pivot.toNat (data.getD a.toNat []))).bind fun s5 =>
  some (s5.1, s5.2)

noncomputable def fn_slices_partitionEqualCmpFunc_string : Fun :=
  { f := 79, np := 5, nr := 1,
    ji := { regs := [(0, .one (.own 0)), (1, .one (.data (.int .i64))), (2, .one (.data (.int .i64))), (3, .one (.data (.int .i64))), (4, .one (.fn [.str, .str] (.int .i64)))], vars := [], arrs := [(0, .arr 9 (.str))] },
    jo := { regs := [(0, .one (.data (.int .i64)))], vars := [], arrs := [(0, .arr 9 (.str))] },
    tw := fun x => slices_partitionEqualCmpFunc_string x.1 x.2.1 x.2.2.1 x.2.2.2.1 x.2.2.2.2 }
noncomputable def cx_slices_partitionEqualCmpFunc_string : Cx := { Γ := types, ow := [], fs := [], N := 90 }
theorem ok_slices_partitionEqualCmpFunc_string : FunOk Try.prog fn_slices_partitionEqualCmpFunc_string :=
  FunOk.intro (C := cx_slices_partitionEqualCmpFunc_string) (p := (.mk [] none .nil (.mk [] none .nil (.mk [] none .nil (.mk [] none (.mk [] none (.mk [] (some ({ regs := [(0, .one (.own 0)), (1, .one .keep), (4, .one .keep), (11, .one (.data (.int .i64))), (12, .one (.data (.int .i64)))], vars := [], arrs := [(0, .arr 9 (.str))] }, [{ e := .x 0, j := { regs := [(11, .one (.data (.int .i64)))], vars := [], arrs := [(0, .arr 9 (.str))] } }])) (.mk [] none (.mk [] none (.mk [] none (.mk [] (some ({ regs := [(0, .one (.own 0)), (1, .one .keep), (4, .one .keep), (11, .one (.data (.int .i64))), (12, .one .keep)], vars := [], arrs := [(0, .arr 9 (.str))] }, [{ e := .x 2, j := { regs := [(0, .one (.own 0)), (1, .one .keep), (4, .one .keep), (11, .one (.data (.int .i64))), (12, .one .keep)], vars := [], arrs := [(0, .arr 9 (.str))] } }])) (.mk [] none (.mk [] none (.mk [.join [{ e := .n, j := { regs := [(0, .one (.own 0)), (1, .one .keep), (4, .one .keep), (11, .one .keep), (12, .one .keep), (47, .one (.data (.bool)))], vars := [], arrs := [(0, .arr 9 (.str))] } }]] none .nil .nil) .nil) .nil) .nil) .nil) (.mk [] none (.mk [] none (.mk [] (some ({ regs := [(0, .one (.own 0)), (1, .one .keep), (4, .one .keep), (11, .one .keep), (12, .one (.data (.int .i64)))], vars := [], arrs := [(0, .arr 9 (.str))] }, [{ e := .x 4, j := { regs := [(0, .one (.own 0)), (1, .one .keep), (4, .one .keep), (11, .one .keep), (12, .one (.data (.int .i64)))], vars := [], arrs := [(0, .arr 9 (.str))] } }])) (.mk [] none (.mk [] none (.mk [.join [{ e := .n, j := { regs := [(0, .one (.own 0)), (1, .one .keep), (4, .one .keep), (11, .one .keep), (12, .one .keep), (65, .one (.data (.bool)))], vars := [], arrs := [(0, .arr 9 (.str))] } }]] none .nil .nil) .nil) .nil) .nil) .nil) .nil)) .nil) .nil) .nil) .nil)))))
    Try.func79 rfl nmr79 rfl rfl rfl rfl types_ok ⟨trivial, trivial⟩ mx (fun x => by kernel_rfl)

noncomputable def slices_partitionCmpFunc_string_L0 (a : Int) (b : Int) (cmp : List UInt8 × List UInt8 × Unit → Option Int) (i : Int) (data2 : List (List UInt8)) : Option ((Int × List (List UInt8)) ⊕ (Int × List (List UInt8))) :=
  Option.bind (α := Bool × List (List UInt8)) (
    bif decide (i ≤ wi64 (b - 1)) then (
     gd (inB i data2.length) <|
     gd (inB a data2.length) <|
     (cmp (data2.getD i.toNat [], data2.getD a.toNat [], ())).bind fun r =>
     some (decide (r < 0), data2))
    else (
     some (false, data2))) fun s =>
  bif s.1 then (
   some (.inl (wi64 (i + 1), s.2)))
  else (
   some (.inr (i, s.2)))

noncomputable def slices_partitionCmpFunc_string_L1 (a : Int) (cmp : List UInt8 × List UInt8 × Unit → Option Int) (s2 : Int × List (List UInt8)) (j : Int) (data3 : List (List UInt8)) : Option ((Int × List (List UInt8)) ⊕ (Int × List (List UInt8))) :=
  Option.bind (α := Bool × List (List UInt8)) (
    bif decide (s2.1 ≤ j) then (
     gd (inB j data3.length) <|
     gd (inB a data3.length) <|
     (cmp (data3.getD j.toNat [], data3.getD a.toNat [], ())).bind fun r2 =>
     some ((!(decide (r2 < 0))), data3))
    else (
     some (false, data3))) fun s3 =>
  bif s3.1 then (
   some (.inl (wi64 (j - 1), s3.2)))
  else (
   some (.inr (j, s3.2)))

noncomputable def slices_partitionCmpFunc_string_L3 (a : Int) (cmp : List UInt8 × List UInt8 × Unit → Option Int) (j2 : Int) (i3 : Int) (data5 : List (List UInt8)) : Option ((Int × List (List UInt8)) ⊕ (Int × List (List UInt8))) :=
  Option.bind (α := Bool × List (List UInt8)) (
    bif decide (i3 ≤ j2) then (
     gd (inB i3 data5.length) <|
     gd (inB a data5.length) <|
     (cmp (data5.getD i3.toNat [], data5.getD a.toNat [], ())).bind fun r3 =>
     some (decide (r3 < 0), data5))
    else (
     some (false, data5))) fun s5 =>
  bif s5.1 then (
   some (.inl (wi64 (i3 + 1), s5.2)))
  else (
   some (.inr (i3, s5.2)))

noncomputable def slices_partitionCmpFunc_string_L4 (a : Int) (cmp : List UInt8 × List UInt8 × Unit → Option Int) (s6 : Int × List (List UInt8)) (j3 : Int) (data6 : List (List UInt8)) : Option ((Int × List (List UInt8)) ⊕ (Int × List (List UInt8))) :=
  Option.bind (α := Bool × List (List UInt8)) (
    bif decide (s6.1 ≤ j3) then (
     gd (inB j3 data6.length) <|
     gd (inB a data6.length) <|
     (cmp (data6.getD j3.toNat [], data6.getD a.toNat [], ())).bind fun r4 =>
     some ((!(decide (r4 < 0))), data6))
    else (
     some (false, data6))) fun s7 =>
  bif s7.1 then (
   some (.inl (wi64 (j3 - 1), s7.2)))
  else (
   some (.inr (j3, s7.2)))

noncomputable def slices_partitionCmpFunc_string_L2 (a : Int) (cmp : List UInt8 × List UInt8 × Unit → Option Int) (i2 : Int) (j2 : Int) (data4 : List (List UInt8)) : Option ((Int × Int × List (List UInt8)) ⊕ (Int × List (List UInt8))) :=
  (iter (fun x3 => slices_partitionCmpFunc_string_L3 a cmp j2 x3.1 x3.2) (i2, data4)).bind fun s6 =>
  (iter (fun x4 => slices_partitionCmpFunc_string_L4 a cmp s6 x4.1 x4.2) (j2, s6.2)).bind fun s8 =>
  bif decide (s8.1 < s6.1) then (
   some (.inr (s8.1, s8.2)))
  else (
   gd (inB s8.1 s8.2.length) <|
   gd (inB s6.1 s8.2.length) <|
   gd (inB s6.1 s8.2.length) <|
   gd (inB s8.1 (s8.2.set s6.1.toNat (s8.2.getD s8.1.toNat [])).length) <|
   some (.inl (wi64 (s6.1 + 1), wi64 (s8.1 - 1), (s8.2.set s6.1.toNat (s8.2.getD s8.1.toNat [])).set s8.1.toNat (s8.2.getD s6.1.toNat []))))

noncomputable def slices_partitionCmpFunc_string (a : Int) (b : Int) (pivot : Int) (cmp : List UInt8 × List UInt8 × Unit → Option Int) (data : List (List UInt8)) : Option (Int × Bool × List (List UInt8)) :=
  gd (inB pivot data.length) <|
  gd (inB a data.length) <|
  gd (inB a data.length) <|
  gd (inB pivot (data.set a.toNat (data.getD pivot.toNat [])).length) <|
  (iter (fun x => slices_partitionCmpFunc_string_L0 a b cmp x.1 x.2) (wi64 (a + 1), (data.set a.toNat (data.getD pivot.toNat [])).set pivot.toNat (data.getD a.toNat []))).bind fun s2 =>
  (iter (fun x2 => slices_partitionCmpFunc_string_L1 a cmp s2 x2.1 x2.2) (wi64 (b - 1), s2.2)).bind fun s4 =>
  bif decide (s4.1 < s2.1) then (
   gd (inB a s4.2.length) <|
   gd (inB s4.1 s4.2.length) <|
   gd (inB s4.1 s4.2.length) <|
   gd (inB a (s4.2.set s4.1.toNat (s4.2.getD a.toNat [])).length) <|
   some (s4.1, true, (s4.2.set s4.1.toNat (s4.2.getD a.toNat [])).set a.toNat (s4.2.getD s4.1.toNat [])))
  else (
   gd (inB s4.1 s4.2.length) <|
   gd (inB s2.1 s4.2.length) <|
   gd (inB s2.1 s4.2.length) <|
   gd (inB s4.1 (s4.2.set s2.1.toNat (s4.2.getD s4.1.toNat [])).length) <|
   (iter (fun x5 => slices_partitionCmpFunc_string_L2 a cmp x5.1 x5.2.1 x5.2.2) (wi64 (s2.1 + 1), wi64 (s4.1 - 1), (s4.2.set s2.1.toNat (s4.2.getD s4.1.toNat [])).set s4.1.toNat (s4.2.getD s2.1.toNat []))).bind fun s9 =>
   gd (inB a s9.2.length) <|
   gd (inB s9.1 s9.2.length) <|
   gd (inB s9.1 s9.2.length) <|
   gd (inB a (s9.2.set s9.1.toNat (s9.2.getD a.toNat [])).length) <|
   some (s9.1, false, (s9.2.set s9.1.toNat (s9.2.getD a.toNat [])).set a.toNat (s9.2.getD s9.1.toNat [])))

noncomputable def fn_slices_partitionCmpFunc_string : Fun :=
  { f := 80, np := 5, nr := 2,
    ji := { regs := [(0, .one (.own 0)), (1, .one (.data (.int .i64))), (2, .one (.data (.int .i64))), (3, .one (.data (.int .i64))), (4, .one (.fn [.str, .str] (.int .i64)))], vars := [], arrs := [(0, .arr 9 (.str))] },
    jo := { regs := [(0, .one (.data (.int .i64))), (1, .one (.data (.bool)))], vars := [], arrs := [(0, .arr 9 (.str))] },
    tw := fun x => slices_partitionCmpFunc_string x.1 x.2.1 x.2.2.1 x.2.2.2.1 x.2.2.2.2 }
noncomputable def cx_slices_partitionCmpFunc_string : Cx := { Γ := types, ow := [], fs := [], N := 178 }
theorem ok_slices_partitionCmpFunc_string : FunOk Try.prog fn_slices_partitionCmpFunc_string :=
  FunOk.intro (C := cx_slices_partitionCmpFunc_string) (p := (.mk [] none .nil (.mk [] none .nil (.mk [] none .nil (.mk [] none (.mk [] none (.mk [] (some ({ regs := [(0, .one (.own 0)), (1, .one .keep), (4, .one .keep), (12, .one (.data (.int .i64))), (13, .one .keep)], vars := [], arrs := [(0, .arr 9 (.str))] }, [{ e := .x 0, j := { regs := [(0, .one (.own 0)), (1, .one .keep), (4, .one .keep), (12, .one (.data (.int .i64))), (13, .one .keep)], vars := [], arrs := [(0, .arr 9 (.str))] } }])) (.mk [] none (.mk [] none (.mk [.join [{ e := .n, j := { regs := [(0, .one (.own 0)), (1, .one .keep), (4, .one .keep), (12, .one .keep), (13, .one .keep), (47, .one (.data (.bool)))], vars := [], arrs := [(0, .arr 9 (.str))] } }]] none .nil .nil) .nil) .nil) .nil) .nil) (.mk [] none (.mk [] none (.mk [] (some ({ regs := [(0, .one (.own 0)), (1, .one .keep), (4, .one .keep), (12, .one .keep), (13, .one (.data (.int .i64)))], vars := [], arrs := [(0, .arr 9 (.str))] }, [{ e := .x 2, j := { regs := [(0, .one (.own 0)), (1, .one .keep), (4, .one .keep), (12, .one .keep), (13, .one (.data (.int .i64)))], vars := [], arrs := [(0, .arr 9 (.str))] } }])) (.mk [] none (.mk [] none (.mk [.join [{ e := .n, j := { regs := [(0, .one (.own 0)), (1, .one .keep), (4, .one .keep), (12, .one .keep), (13, .one .keep), (66, .one (.data (.bool)))], vars := [], arrs := [(0, .arr 9 (.str))] } }]] none .nil .nil) .nil) .nil) .nil) .nil) (.mk [] none .nil (.mk [] none .nil (.mk [] none .nil (.mk [] none .nil (.mk [] none (.mk [] none (.mk [] (some ({ regs := [(0, .one (.own 0)), (1, .one .keep), (4, .one .keep), (12, .one (.data (.int .i64))), (13, .one (.data (.int .i64)))], vars := [], arrs := [(0, .arr 9 (.str))] }, [{ e := .x 4, j := { regs := [(0, .one (.own 0)), (1, .one .keep), (13, .one (.data (.int .i64)))], vars := [], arrs := [(0, .arr 9 (.str))] } }])) (.mk [] none (.mk [] none (.mk [] none (.mk [] (some ({ regs := [(0, .one (.own 0)), (1, .one .keep), (4, .one .keep), (12, .one (.data (.int .i64))), (13, .one .keep)], vars := [], arrs := [(0, .arr 9 (.str))] }, [{ e := .x 6, j := { regs := [(0, .one (.own 0)), (1, .one .keep), (4, .one .keep), (12, .one (.data (.int .i64))), (13, .one .keep)], vars := [], arrs := [(0, .arr 9 (.str))] } }])) (.mk [] none (.mk [] none (.mk [.join [{ e := .n, j := { regs := [(0, .one (.own 0)), (1, .one .keep), (4, .one .keep), (12, .one .keep), (13, .one .keep), (120, .one (.data (.bool)))], vars := [], arrs := [(0, .arr 9 (.str))] } }]] none .nil .nil) .nil) .nil) .nil) .nil) (.mk [] none (.mk [] none (.mk [] (some ({ regs := [(0, .one (.own 0)), (1, .one .keep), (4, .one .keep), (12, .one .keep), (13, .one (.data (.int .i64)))], vars := [], arrs := [(0, .arr 9 (.str))] }, [{ e := .x 8, j := { regs := [(0, .one (.own 0)), (1, .one .keep), (4, .one .keep), (12, .one .keep), (13, .one (.data (.int .i64)))], vars := [], arrs := [(0, .arr 9 (.str))] } }])) (.mk [] none (.mk [] none (.mk [.join [{ e := .n, j := { regs := [(0, .one (.own 0)), (1, .one .keep), (4, .one .keep), (12, .one .keep), (13, .one .keep), (139, .one (.data (.bool)))], vars := [], arrs := [(0, .arr 9 (.str))] } }]] none .nil .nil) .nil) .nil) .nil) .nil) .nil)) .nil) .nil) .nil) .nil)))))))))))
    Try.func80 rfl nmr80 rfl rfl rfl rfl types_ok ⟨trivial, trivial⟩ mx (fun x => by kernel_rfl)

noncomputable def slices_pdqsortCmpFunc_string_L0 (cmp : List UInt8 × List UInt8 × Unit → Option Int) (rec : Int → Int → Int → (List UInt8 × List UInt8 × Unit → Option Int) → List (List UInt8) → Option (List (List UInt8))) (a2 : Int) (b2 : Int) (limit2 : Int) (wasBalanced : Bool) (wasPartitioned : Bool) (data2 : List (List UInt8)) : Option ((Int × Int × Int × Bool × Bool × List (List UInt8)) ⊕ (List (List UInt8))) :=
  bif decide (wi64 (b2 - a2) ≤ 12) then (
   (slices_insertionSortCmpFunc_string a2 b2 cmp data2).bind fun r =>
   some (.inr r))
  else (
   bif decide (limit2 = 0) then (
    (slices_heapSortCmpFunc_string a2 b2 cmp data2).bind fun r2 =>
    some (.inr r2))
   else (
    Option.bind (α := Int × List (List UInt8)) (
      bif !wasBalanced then (
       (slices_breakPatternsCmpFunc_string a2 b2 cmp data2).bind fun r3 =>
       some (wi64 (limit2 - 1), r3))
      else (
       some (limit2, data2))) fun s =>
    (slices_choosePivotCmpFunc_string s.2 a2 b2 cmp).bind fun r4 =>
    Option.bind (α := Int × Int × List (List UInt8)) (
      bif decide (r4.2 = 2) then (
       (slices_reverseRangeCmpFunc_string a2 b2 cmp s.2).bind fun r5 =>
       some (wi64 ((wi64 (b2 - 1)) - (wi64 (r4.1 - a2))), 1, r5))
      else (
       some (r4.1, r4.2, s.2))) fun s2 =>
    Option.bind (α := Bool × List (List UInt8)) (
      bif wasBalanced then (
       bif wasPartitioned then (
        some (decide (s2.2.1 = 1), s2.2.2))
       else (
        some (false, s2.2.2)))
      else (
       some (false, s2.2.2))) fun s3 =>
    Option.bind (α := (List (List UInt8)) ⊕ (List (List UInt8))) (
      bif s3.1 then (
       (slices_partialInsertionSortCmpFunc_string a2 b2 cmp s3.2).bind fun r6 =>
       bif r6.1 then (
        some (.inr r6.2))
       else (
        some (.inl r6.2)))
      else (
       some (.inl s3.2))) fun s4 =>
    s4.elim (fun s5 =>
     Option.bind (α := Bool × List (List UInt8)) (
       bif decide (0 < a2) then (
        gd (inB (wi64 (a2 - 1)) s5.length) <|
        gd (inB s2.1 s5.length) <|
        (cmp (s5.getD ((wi64 (a2 - 1)).toNat) [], s5.getD s2.1.toNat [], ())).bind fun r7 =>
        some ((!(decide (r7 < 0))), s5))
       else (
        some (false, s5))) fun s7 =>
     bif s7.1 then (
      (slices_partitionEqualCmpFunc_string a2 b2 s2.1 cmp s7.2).bind fun r8 =>
      some (.inl (r8.1, b2, s.1, wasBalanced, wasPartitioned, r8.2)))
     else (
      (slices_partitionCmpFunc_string a2 b2 s2.1 cmp s7.2).bind fun r9 =>
      bif decide (wi64 (r9.1 - a2) < wi64 (b2 - r9.1)) then (
       (rec a2 r9.1 s.1 cmp r9.2.2).bind fun r10 =>
       some (.inl (wi64 (r9.1 + 1), b2, s.1, decide (wi64 (Int.tdiv (wi64 (b2 - a2)) 8) ≤ wi64 (r9.1 - a2)), r9.2.1, r10)))
      else (
       (rec (wi64 (r9.1 + 1)) b2 s.1 cmp r9.2.2).bind fun r11 =>
       some (.inl (a2, r9.1, s.1, decide (wi64 (Int.tdiv (wi64 (b2 - a2)) 8) ≤ wi64 (b2 - r9.1)), r9.2.1, r11)))))
    (fun s6 =>
     some (.inr s6))))

noncomputable def slices_pdqsortCmpFunc_string_S (rec : Int → Int → Int → (List UInt8 × List UInt8 × Unit → Option Int) → List (List UInt8) → Option (List (List UInt8))) (a : Int) (b : Int) (limit : Int) (cmp : List UInt8 × List UInt8 × Unit → Option Int) (data : List (List UInt8)) : Option (List (List UInt8)) :=
  (iter (fun x => slices_pdqsortCmpFunc_string_L0 cmp rec x.1 x.2.1 x.2.2.1 x.2.2.2.1 x.2.2.2.2.1 x.2.2.2.2.2) (a, b, limit, true, true, data)).bind fun s8 =>
  some s8

noncomputable def slices_pdqsortCmpFunc_string_F : Nat → Int → Int → Int → (List UInt8 × List UInt8 × Unit → Option Int) → List (List UInt8) → Option (List (List UInt8))
  | 0 => fun _ _ _ _ _ => none
  | n + 1 => slices_pdqsortCmpFunc_string_S (slices_pdqsortCmpFunc_string_F n)

noncomputable def slices_pdqsortCmpFunc_string (a : Int) (b : Int) (limit : Int) (cmp : List UInt8 × List UInt8 × Unit → Option Int) (data : List (List UInt8)) : Option (List (List UInt8)) := slices_pdqsortCmpFunc_string_F 18446744073709551616 a b limit cmp data

noncomputable def fn_slices_pdqsortCmpFunc_string_F (n : Nat) : Fun :=
  { f := 68, np := 5, nr := 0,
    ji := { regs := [(0, .one (.own 0)), (1, .one (.data (.int .i64))), (2, .one (.data (.int .i64))), (3, .one (.data (.int .i64))), (4, .one (.fn [.str, .str] (.int .i64)))], vars := [], arrs := [(0, .arr 9 (.str))] },
    jo := { regs := [], vars := [], arrs := [(0, .arr 9 (.str))] },
    tw := fun x => slices_pdqsortCmpFunc_string_F n x.1 x.2.1 x.2.2.1 x.2.2.2.1 x.2.2.2.2 }
noncomputable def fn_slices_pdqsortCmpFunc_string : Fun := fn_slices_pdqsortCmpFunc_string_F 18446744073709551616
noncomputable def cx_slices_pdqsortCmpFunc_string (n : Nat) : Cx := { Γ := types, ow := [], fs := [fn_slices_insertionSortCmpFunc_string, fn_slices_heapSortCmpFunc_string, fn_slices_breakPatternsCmpFunc_string, fn_slices_choosePivotCmpFunc_string, fn_slices_reverseRangeCmpFunc_string, fn_slices_partialInsertionSortCmpFunc_string, fn_slices_partitionEqualCmpFunc_string, fn_slices_partitionCmpFunc_string, fn_slices_pdqsortCmpFunc_string_F n], N := 148 }
theorem ok_slices_pdqsortCmpFunc_string_F : ∀ n : Nat, FunOk Try.prog (fn_slices_pdqsortCmpFunc_string_F n)
  | 0 => FunOk.nothing Try.func68 rfl nmr68 (fun x => rfl)
  | n + 1 => FunOk.intro (C := cx_slices_pdqsortCmpFunc_string n) (p := (.mk [] none .nil (.mk [] none .nil (.mk [] none (.mk [] (some ({ regs := [(0, .one (.own 0)), (1, .one (.data (.int .i64))), (2, .one (.data (.int .i64))), (3, .one (.data (.int .i64))), (4, .one .keep), (10, .one (.data (.bool))), (11, .one (.data (.bool)))], vars := [], arrs := [(0, .arr 9 (.str))] }, [{ e := .r, j := { regs := [], vars := [], arrs := [(0, .arr 9 (.str))] } }])) (.mk [] none (.mk [] none .nil (.mk [] none .nil (.mk [] none .nil (.mk [] none (.mk [] none .nil (.mk [.join [{ e := .n, j := { regs := [(0, .one (.own 0)), (1, .one .keep), (2, .one .keep), (3, .one (.data (.int .i64))), (4, .one .keep), (10, .one .keep), (11, .one .keep), (12, .one .keep)], vars := [], arrs := [(0, .arr 9 (.str))] } }]] none .nil .nil)) (.mk [] none .nil (.mk [] none (.mk [] none .nil (.mk [.join [{ e := .n, j := { regs := [(0, .one (.own 0)), (1, .one .keep), (2, .one .keep), (3, .one .keep), (4, .one .keep), (10, .one .keep), (11, .one .keep), (12, .one .keep), (13, .one (.data (.int .i64))), (14, .one (.data (.int .i64)))], vars := [], arrs := [(0, .arr 9 (.str))] } }]] none .nil .nil)) (.mk [] none (.mk [] none (.mk [.join [{ e := .n, j := { regs := [(0, .one (.own 0)), (1, .one .keep), (2, .one .keep), (3, .one .keep), (4, .one .keep), (10, .one .keep), (11, .one .keep), (12, .one .keep), (13, .one .keep), (75, .one (.data (.bool)))], vars := [], arrs := [(0, .arr 9 (.str))] } }]] none .nil .nil) (.mk [.join [{ e := .n, j := { regs := [(0, .one (.own 0)), (1, .one .keep), (2, .one .keep), (3, .one .keep), (4, .one .keep), (10, .one .keep), (11, .one .keep), (12, .one .keep), (13, .one .keep)], vars := [], arrs := [(0, .arr 9 (.str))] } }, { e := .r, j := { regs := [], vars := [], arrs := [(0, .arr 9 (.str))] } }]] none .nil .nil)) (.mk [] none (.mk [] none (.mk [.join [{ e := .n, j := { regs := [(0, .one (.own 0)), (1, .one .keep), (2, .one .keep), (3, .one .keep), (4, .one .keep), (10, .one .keep), (11, .one .keep), (12, .one .keep), (13, .one .keep), (97, .one (.data (.bool)))], vars := [], arrs := [(0, .arr 9 (.str))] } }]] none .nil .nil) .nil) .nil)))))))) .nil) .nil) .nil))))
    Try.func68 rfl nmr68 rfl rfl rfl rfl types_ok ⟨⟨ok_slices_insertionSortCmpFunc_string, ok_slices_heapSortCmpFunc_string, ok_slices_breakPatternsCmpFunc_string, ok_slices_choosePivotCmpFunc_string, ok_slices_reverseRangeCmpFunc_string, ok_slices_partialInsertionSortCmpFunc_string, ok_slices_partitionEqualCmpFunc_string, ok_slices_partitionCmpFunc_string, ok_slices_pdqsortCmpFunc_string_F n, trivial⟩, trivial⟩ mx (fun x => by kernel_rfl)
theorem ok_slices_pdqsortCmpFunc_string : FunOk Try.prog fn_slices_pdqsortCmpFunc_string := ok_slices_pdqsortCmpFunc_string_F 18446744073709551616

noncomputable def slices_SortFunc_string_string (cmp : List UInt8 × List UInt8 × Unit → Option Int) (x : List (List UInt8)) : Option (List (List UInt8)) :=
  (math_bits_Len (wu64 (x.length : Int))).bind fun r =>
  (slices_pdqsortCmpFunc_string 0 (x.length : Int) r cmp x).bind fun r2 =>
  some r2

noncomputable def fn_slices_SortFunc_string_string : Fun :=
  { f := 56, np := 2, nr := 0,
    ji := { regs := [(0, .one (.own 0)), (1, .one (.fn [.str, .str] (.int .i64)))], vars := [], arrs := [(0, .arr 9 (.str))] },
    jo := { regs := [], vars := [], arrs := [(0, .arr 9 (.str))] },
    tw := fun x => slices_SortFunc_string_string x.1 x.2 }
noncomputable def cx_slices_SortFunc_string_string : Cx := { Γ := types, ow := [], fs := [fn_math_bits_Len, fn_slices_pdqsortCmpFunc_string], N := 14 }
theorem ok_slices_SortFunc_string_string : FunOk Try.prog fn_slices_SortFunc_string_string :=
  FunOk.intro (C := cx_slices_SortFunc_string_string) (p := .nil)
    Try.func56 rfl nmr56 rfl rfl rfl rfl types_ok ⟨⟨ok_math_bits_Len, ok_slices_pdqsortCmpFunc_string, trivial⟩, trivial⟩ mx (fun x => by kernel_rfl)

noncomputable def internal_bytealg_CompareString (a : List UInt8) (b : List UInt8) : Option (Int) :=
  (cmpStr a b).bind fun r =>
  some r

noncomputable def fn_internal_bytealg_CompareString : Fun :=
  { f := 70, np := 2, nr := 1,
    ji := { regs := [(0, .one (.data (.str))), (1, .one (.data (.str)))], vars := [], arrs := [] },
    jo := { regs := [(0, .one (.data (.int .i64)))], vars := [], arrs := [] },
    tw := fun x => internal_bytealg_CompareString x.1 x.2 }
noncomputable def cx_internal_bytealg_CompareString : Cx := { Γ := types, ow := [], fs := [], xs := [xt83], N := 8 }
theorem ok_internal_bytealg_CompareString : FunOk Try.prog fn_internal_bytealg_CompareString :=
  FunOk.intro (C := cx_internal_bytealg_CompareString) (p := .nil)
    Try.func70 rfl nmr70 rfl rfl rfl rfl types_ok ⟨trivial, ⟨xk83, trivial⟩⟩ mx (fun x => by kernel_rfl)

noncomputable def strings_Compare (a : List UInt8) (b : List UInt8) : Option (Int) :=
  (internal_bytealg_CompareString a b).bind fun r =>
  some r

noncomputable def fn_strings_Compare : Fun :=
  { f := 58, np := 2, nr := 1,
    ji := { regs := [(0, .one (.data (.str))), (1, .one (.data (.str)))], vars := [], arrs := [] },
    jo := { regs := [(0, .one (.data (.int .i64)))], vars := [], arrs := [] },
    tw := fun x => strings_Compare x.1 x.2 }
noncomputable def cx_strings_Compare : Cx := { Γ := types, ow := [], fs := [fn_internal_bytealg_CompareString], N := 8 }
theorem ok_strings_Compare : FunOk Try.prog fn_strings_Compare :=
  FunOk.intro (C := cx_strings_Compare) (p := .nil)
    Try.func58 rfl nmr58 rfl rfl rfl rfl types_ok ⟨⟨ok_internal_bytealg_CompareString, trivial⟩, trivial⟩ mx (fun x => by kernel_rfl)

noncomputable def allocate_Shippers_1 (a : List UInt8) (b : List UInt8) : Option (Int) :=
  (strings_Compare a b).bind fun r =>
  some r

noncomputable def fn_allocate_Shippers_1 : Fun :=
  { f := 57, np := 2, nr := 1,
    ji := { regs := [(0, .one (.data (.str))), (1, .one (.data (.str)))], vars := [], arrs := [] },
    jo := { regs := [(0, .one (.data (.int .i64)))], vars := [], arrs := [] },
    tw := fun x => allocate_Shippers_1 x.1 x.2 }
noncomputable def cx_allocate_Shippers_1 : Cx := { Γ := types, ow := [], fs := [fn_strings_Compare], N := 8 }
theorem ok_allocate_Shippers_1 : FunOk Try.prog fn_allocate_Shippers_1 :=
  FunOk.intro (C := cx_allocate_Shippers_1) (p := .nil)
    Try.func57 rfl nmr57 rfl rfl rfl rfl types_ok ⟨⟨ok_strings_Compare, trivial⟩, trivial⟩ mx (fun x => by kernel_rfl)

noncomputable def allocate_Shippers_L0 (l : List (List UInt8 × Int × Int)) (v : Int) (moved : List (List UInt8 × Int)) (names : List (List UInt8)) : Option ((Int × (List (List UInt8 × Int)) × List (List UInt8)) ⊕ ((List (List UInt8 × Int)) × List (List UInt8))) :=
  bif decide (v < (l.length : Int)) then (
   gd (inB v l.length) <|
   Option.bind (α := (List (List UInt8 × Int)) × List (List UInt8)) (
     bif !((mget keyS moved ((l.getD v.toNat ([], (0, 0))).1)).isSome) then (
      gd (fits (names.length + 1) 16) <|
      some (mput keyS moved ((l.getD v.toNat ([], (0, 0))).1) 0, names ++ [(l.getD v.toNat ([], (0, 0))).1]))
     else (
      some (moved, names))) fun s =>
   Option.bind (α := Bool × (List (List UInt8 × Int)) × List (List UInt8)) (
     bif decide (((l.getD v.toNat ([], (0, 0))).2).1 = 2) then (
      (allocate_Volume (((l.getD v.toNat ([], (0, 0))).2).2)).bind fun r =>
      some (r, s.1, s.2))
     else (
      some (false, s.1, s.2))) fun s2 =>
   Option.bind (α := (List (List UInt8 × Int)) × List (List UInt8)) (
     bif s2.1 then (
      some (mput keyS s2.2.1 ((l.getD v.toNat ([], (0, 0))).1) (wi64 (((mget keyS s2.2.1 ((l.getD v.toNat ([], (0, 0))).1)).getD 0) + (((l.getD v.toNat ([], (0, 0))).2).2))), s2.2.2))
     else (
      some (s2.2.1, s2.2.2))) fun s3 =>
   some (.inl (wi64 (v + 1), s3.1, s3.2)))
  else (
   some (.inr (moved, names)))

noncomputable def allocate_Shippers_L1 (r2 : List (List UInt8)) (v2 : Int) (moved2 : List (List UInt8 × Int)) (v3 : List (List UInt8)) (weights : List Int) : Option ((Int × (List (List UInt8 × Int)) × List (List UInt8) × List Int) ⊕ (List (List UInt8) × List Int)) :=
  bif decide (v2 < (r2.length : Int)) then (
   gd (inB v2 v3.length) <|
   gd (fits (weights.length + 1) 8) <|
   some (.inl (wi64 (v2 + 1), moved2, v3, weights ++ [(mget keyS moved2 (v3.getD v2.toNat [])).getD 0])))
  else (
   some (.inr (v3, weights)))

noncomputable def allocate_Shippers (l : List (List UInt8 × Int × Int)) : Option (List (List UInt8) × List Int) :=
  (iter (fun x => allocate_Shippers_L0 l x.1 x.2.1 x.2.2) (0, [], [])).bind fun s4 =>
  (slices_SortFunc_string_string (fun h => (allocate_Shippers_1 h.1 h.2.1).bind fun y => some y) s4.2).bind fun r2 =>
  (iter (fun x2 => allocate_Shippers_L1 r2 x2.1 x2.2.1 x2.2.2.1 x2.2.2.2) (0, s4.1, r2, [])).bind fun s5 =>
  some (s5.1, s5.2)

noncomputable def fn_allocate_Shippers : Fun :=
  { f := 36, np := 1, nr := 2,
    ji := { regs := [(0, .one (.data (.sl (.pair (.str) (.pair (.int .i64) (.int .i64))))))], vars := [], arrs := [] },
    jo := { regs := [(0, .one (.own 0)), (1, .one (.own 1))], vars := [], arrs := [(0, .arr 9 (.str)), (1, .arr 3 (.int .i64))] },
    tw := fun x => allocate_Shippers x }
noncomputable def cx_allocate_Shippers : Cx := { Γ := types, ow := [], fs := [fn_allocate_Volume, fn_slices_SortFunc_string_string, fn_allocate_Shippers_1], N := 70 }
theorem ok_allocate_Shippers : FunOk Try.prog fn_allocate_Shippers :=
  FunOk.intro (C := cx_allocate_Shippers) (p := (.mk [] none .nil (.mk [] none .nil (.mk [] none .nil (.mk [] none (.mk [] none .nil (.mk [] none (.mk [] (some ({ regs := [(4, .one (.own 224)), (5, .one (.own 107)), (14, .one .keep), (15, .one .keep), (16, .one (.data (.int .i64)))], vars := [], arrs := [(224, .map true 80 (.str) (.int .i64)), (107, .arr 9 (.str))] }, [{ e := .x 0, j := { regs := [(4, .one (.own 224)), (5, .one (.own 107))], vars := [], arrs := [(224, .map true 80 (.str) (.int .i64)), (107, .arr 9 (.str))] } }])) (.mk [] none .nil (.mk [] none .nil (.mk [] none (.mk [] none (.mk [] none .nil (.mk [] none (.mk [] none .nil (.mk [] none .nil (.mk [.join [{ e := .n, j := { regs := [(4, .one (.own 224)), (5, .one (.own 107)), (7, .one (.ptr 128 0)), (14, .one .keep), (15, .one .keep), (16, .one .keep)], vars := [(128, 35, [.keep, .keep, .keep])], arrs := [(224, .map true 80 (.str) (.int .i64)), (107, .arr 9 (.str))] } }]] none .nil .nil))) (.mk [] none (.mk [.join [{ e := .n, j := { regs := [(4, .one (.own 224)), (5, .one (.own 107)), (7, .one (.ptr 128 0)), (14, .one .keep), (15, .one .keep), (16, .one .keep), (44, .one (.data (.bool)))], vars := [(128, 35, [.keep, .keep, .keep])], arrs := [(224, .map true 80 (.str) (.int .i64)), (107, .arr 9 (.str))] } }]] none .nil .nil) (.mk [.join [{ e := .n, j := { regs := [(4, .one (.own 224)), (5, .one (.own 107)), (14, .one .keep), (15, .one .keep), (16, .one .keep)], vars := [], arrs := [(224, .map true 80 (.str) (.int .i64)), (107, .arr 9 (.str))] } }]] none .nil .nil)))) .nil) .nil))) .nil) .nil)) (.mk [] none .nil (.mk [] none .nil (.mk [] none (.mk [] none .nil (.mk [] none (.mk [] (some ({ regs := [(4, .one (.own 224)), (5, .one (.own 107)), (10, .one (.own 187)), (55, .one (.own 107)), (56, .one .keep), (57, .one (.data (.int .i64)))], vars := [], arrs := [(224, .map true 80 (.str) (.int .i64)), (107, .arr 9 (.str)), (187, .arr 3 (.int .i64))] }, [{ e := .x 2, j := { regs := [(5, .one (.own 107)), (10, .one (.own 187))], vars := [], arrs := [(107, .arr 9 (.str)), (187, .arr 3 (.int .i64))] } }])) .nil .nil) .nil)) .nil))))))))
    Try.func36 rfl nmr36 rfl rfl rfl rfl types_ok ⟨⟨ok_allocate_Volume, ok_slices_SortFunc_string_string, ok_allocate_Shippers_1, trivial⟩, trivial⟩ mx (fun x => by kernel_rfl)

noncomputable def allocate_Divide_L0 (r3 : List (List UInt8) × List Int) (r4 : List Int × Int) (v : Int) (out : List (List UInt8 × Int × Int)) (v2 : List (List UInt8)) : Option ((Int × (List (List UInt8 × Int × Int)) × List (List UInt8)) ⊕ (List (List UInt8 × Int × Int))) :=
  bif decide (v < (r3.1.length : Int)) then (
   gd (inB v v2.length) <|
   gd (inB v r4.1.length) <|
   gd (fits (out.length + 1) 32) <|
   some (.inl (wi64 (v + 1), out ++ [(v2.getD v.toNat [], (4, r4.1.getD v.toNat 0))], v2)))
  else (
   some (.inr out))

noncomputable def allocate_Divide (l : List (List UInt8 × Int × Int)) (difference : Int) : Option (Int × List (List UInt8 × Int × Int)) :=
  (allocate_Measured l).bind fun r =>
  bif !decide (r.2 = 0) then (
   some (r.2, []))
  else (
   (allocate_Signed difference).bind fun r2 =>
   bif !r2 then (
    some (1, []))
   else (
    (allocate_Shippers l).bind fun r3 =>
    bif decide (64 < (r3.1.length : Int)) then (
     some (4, []))
    else (
     (allocate_Share difference r3.2).bind fun r4 =>
     bif !decide (r4.2 = 0) then (
      some (r4.2, []))
     else (
      (iter (fun x => allocate_Divide_L0 r3 r4 x.1 x.2.1 x.2.2) (0, [], r3.1)).bind fun s =>
      some (0, s)))))

noncomputable def fn_allocate_Divide : Fun :=
  { f := 34, np := 2, nr := 2,
    ji := { regs := [(0, .one (.data (.sl (.pair (.str) (.pair (.int .i64) (.int .i64)))))), (1, .one (.data (.int .i64)))], vars := [], arrs := [] },
    jo := { regs := [(0, .one (.own 0)), (1, .one (.data (.int .i64)))], vars := [], arrs := [(0, .arr 35 (.pair (.str) (.pair (.int .i64) (.int .i64))))] },
    tw := fun x => allocate_Divide x.1 x.2 }
noncomputable def cx_allocate_Divide : Cx := { Γ := types, ow := [], fs := [fn_allocate_Measured, fn_allocate_Signed, fn_allocate_Shippers, fn_allocate_Share], N := 61 }
theorem ok_allocate_Divide : FunOk Try.prog fn_allocate_Divide :=
  FunOk.intro (C := cx_allocate_Divide) (p := (.mk [] none .nil (.mk [] none .nil (.mk [] none .nil (.mk [] none .nil (.mk [] none .nil (.mk [] none (.mk [.fz [9]] none .nil .nil) (.mk [] none .nil (.mk [] none .nil (.mk [] none (.mk [] none .nil (.mk [] none (.mk [] (some ({ regs := [(10, .one .keep), (12, .one (.own 219)), (43, .one (.own 464)), (44, .one .keep), (45, .one (.data (.int .i64)))], vars := [], arrs := [(219, .arr 35 (.pair (.str) (.pair (.int .i64) (.int .i64)))), (464, .arr 9 (.str))] }, [{ e := .x 0, j := { regs := [(12, .one (.own 219))], vars := [], arrs := [(219, .arr 35 (.pair (.str) (.pair (.int .i64) (.int .i64))))] } }])) .nil .nil) .nil)) .nil))))))))))
    Try.func34 rfl nmr34 rfl rfl rfl rfl types_ok ⟨⟨ok_allocate_Measured, ok_allocate_Signed, ok_allocate_Shippers, ok_allocate_Share, trivial⟩, trivial⟩ mx (fun x => by kernel_rfl)

noncomputable def ref38_Shippers_L1 (l : List (List UInt8 × Int × Int)) (i : Int) (k : Int) (names2 : List (List UInt8)) (moved2 : List Int) : Option ((Int × List (List UInt8) × List Int) ⊕ (Int × List (List UInt8) × List Int)) :=
  Option.bind (α := Bool × List (List UInt8) × List Int) (
    bif decide (k < (names2.length : Int)) then (
     gd (inB k names2.length) <|
     gd (inB i l.length) <|
     some (Op.bytesLess (names2.getD k.toNat []) ((l.getD i.toNat ([], (0, 0))).1), names2, moved2))
    else (
     some (false, names2, moved2))) fun s =>
  bif s.1 then (
   some (.inl (wi64 (k + 1), s.2.1, s.2.2)))
  else (
   some (.inr (k, s.2.1, s.2.2)))

noncomputable def ref38_Shippers_L0 (l : List (List UInt8 × Int × Int)) (i : Int) (names : List (List UInt8)) (moved : List Int) : Option ((Int × List (List UInt8) × List Int) ⊕ (List (List UInt8) × List Int)) :=
  bif decide (i < (l.length : Int)) then (
   (iter (fun x => ref38_Shippers_L1 l i x.1 x.2.1 x.2.2) (0, names, moved)).bind fun s2 =>
   Option.bind (α := Bool × List (List UInt8) × List Int) (
     bif decide (s2.1 = (s2.2.1.length : Int)) then (
      some (true, s2.2.1, s2.2.2))
     else (
      gd (inB s2.1 s2.2.1.length) <|
      gd (inB i l.length) <|
      some ((!decide (s2.2.1.getD s2.1.toNat [] = (l.getD i.toNat ([], (0, 0))).1)), s2.2.1, s2.2.2))) fun s3 =>
   Option.bind (α := List (List UInt8) × List Int) (
     bif s3.1 then (
      gd (fits (s3.2.1.length + 1) 16) <|
      gd (decide (0 < (s3.2.1 ++ [[]]).length) && inR (wi64 (s2.1 + 1)) ((s3.2.1 ++ [[]]).length : Int) (s3.2.1 ++ [[]]).length) <|
      gd (decide (0 < (s3.2.1 ++ [[]]).length) && inR s2.1 ((s3.2.1 ++ [[]]).length : Int) (s3.2.1 ++ [[]]).length) <|
      gd (decide ((s3.2.1 ++ [[]]).length = (s3.2.1 ++ [[]]).length) && (decide ((s3.2.1 ++ [[]]).length = (s3.2.1 ++ [[]]).length) && decide (0 < (s3.2.1 ++ [[]]).length))) <|
      gd (inB i l.length) <|
      gd (inB s2.1 (cpy (s3.2.1 ++ [[]]) ((wi64 (s2.1 + 1)).toNat) s2.1.toNat).length) <|
      gd (fits (s3.2.2.length + 1) 8) <|
      gd (decide (0 < (s3.2.2 ++ [0]).length) && inR (wi64 (s2.1 + 1)) ((s3.2.2 ++ [0]).length : Int) (s3.2.2 ++ [0]).length) <|
      gd (decide (0 < (s3.2.2 ++ [0]).length) && inR s2.1 ((s3.2.2 ++ [0]).length : Int) (s3.2.2 ++ [0]).length) <|
      gd (decide ((s3.2.2 ++ [0]).length = (s3.2.2 ++ [0]).length) && (decide ((s3.2.2 ++ [0]).length = (s3.2.2 ++ [0]).length) && decide (0 < (s3.2.2 ++ [0]).length))) <|
      gd (inB s2.1 (cpy (s3.2.2 ++ [0]) ((wi64 (s2.1 + 1)).toNat) s2.1.toNat).length) <|
      some ((cpy (s3.2.1 ++ [[]]) ((wi64 (s2.1 + 1)).toNat) s2.1.toNat).set s2.1.toNat ((l.getD i.toNat ([], (0, 0))).1), (cpy (s3.2.2 ++ [0]) ((wi64 (s2.1 + 1)).toNat) s2.1.toNat).set s2.1.toNat 0))
     else (
      some (s3.2.1, s3.2.2))) fun s4 =>
   Option.bind (α := Bool × List (List UInt8) × List Int) (
     gd (inB i l.length) <|
     bif decide (((l.getD i.toNat ([], (0, 0))).2).1 = 2) then (
      gd (inB i l.length) <|
      bif decide (0 ≤ ((l.getD i.toNat ([], (0, 0))).2).2) then (
       gd (inB i l.length) <|
       some (decide (((l.getD i.toNat ([], (0, 0))).2).2 ≤ 1099511627776), s4.1, s4.2))
      else (
       some (false, s4.1, s4.2)))
     else (
      some (false, s4.1, s4.2))) fun s5 =>
   Option.bind (α := List (List UInt8) × List Int) (
     bif s5.1 then (
      gd (inB s2.1 s5.2.2.length) <|
      gd (inB i l.length) <|
      gd (inB s2.1 s5.2.2.length) <|
      some (s5.2.1, s5.2.2.set s2.1.toNat (wi64 ((s5.2.2.getD s2.1.toNat 0) + (((l.getD i.toNat ([], (0, 0))).2).2)))))
     else (
      some (s5.2.1, s5.2.2))) fun s6 =>
   some (.inl (wi64 (i + 1), s6.1, s6.2)))
  else (
   some (.inr (names, moved)))

noncomputable def ref38_Shippers (l : List (List UInt8 × Int × Int)) : Option (List (List UInt8) × List Int) :=
  (iter (fun x2 => ref38_Shippers_L0 l x2.1 x2.2.1 x2.2.2) (0, [], [])).bind fun s7 =>
  some (s7.1, s7.2)

noncomputable def fn_ref38_Shippers : Fun :=
  { f := 37, np := 1, nr := 2,
    ji := { regs := [(0, .one (.data (.sl (.pair (.str) (.pair (.int .i64) (.int .i64))))))], vars := [], arrs := [] },
    jo := { regs := [(0, .one (.own 0)), (1, .one (.own 1))], vars := [], arrs := [(0, .arr 9 (.str)), (1, .arr 3 (.int .i64))] },
    tw := fun x => ref38_Shippers x }
noncomputable def cx_ref38_Shippers : Cx := { Γ := types, ow := [], fs := [], N := 118 }
theorem ok_ref38_Shippers : FunOk Try.prog fn_ref38_Shippers :=
  FunOk.intro (C := cx_ref38_Shippers) (p := (.mk [] none .nil (.mk [] none .nil (.mk [] none .nil (.mk [] none (.mk [] none .nil (.mk [] none (.mk [] (some ({ regs := [(0, .one .keep), (4, .one (.own 91)), (5, .one (.own 107)), (6, .one (.data (.int .i64)))], vars := [], arrs := [(91, .arr 9 (.str)), (107, .arr 3 (.int .i64))] }, [{ e := .x 0, j := { regs := [(4, .one (.own 91)), (5, .one (.own 107))], vars := [], arrs := [(91, .arr 9 (.str)), (107, .arr 3 (.int .i64))] } }])) (.mk [] none .nil (.mk [] none (.mk [] none (.mk [] none .nil (.mk [] none (.mk [] none (.mk [] (some ({ regs := [(0, .one .keep), (4, .one (.own 91)), (5, .one (.own 107)), (6, .one .keep), (7, .one (.data (.int .i64)))], vars := [], arrs := [(91, .arr 9 (.str)), (107, .arr 3 (.int .i64))] }, [{ e := .x 2, j := { regs := [(0, .one .keep), (4, .one (.own 91)), (5, .one (.own 107)), (6, .one .keep), (7, .one (.data (.int .i64)))], vars := [], arrs := [(91, .arr 9 (.str)), (107, .arr 3 (.int .i64))] } }])) (.mk [] none (.mk [] none (.mk [.join [{ e := .n, j := { regs := [(0, .one .keep), (4, .one (.own 91)), (5, .one (.own 107)), (6, .one .keep), (7, .one .keep), (29, .one (.data (.bool)))], vars := [], arrs := [(91, .arr 9 (.str)), (107, .arr 3 (.int .i64))] } }]] none .nil .nil) .nil) .nil) .nil) .nil) (.mk [] none (.mk [] none (.mk [.join [{ e := .n, j := { regs := [(0, .one .keep), (4, .one (.own 91)), (5, .one (.own 107)), (6, .one .keep), (7, .one .keep), (47, .one (.data (.bool)))], vars := [], arrs := [(91, .arr 9 (.str)), (107, .arr 3 (.int .i64))] } }]] none .nil .nil) (.mk [.join [{ e := .n, j := { regs := [(0, .one .keep), (4, .one (.own 91)), (5, .one (.own 107)), (6, .one .keep), (7, .one .keep)], vars := [], arrs := [(91, .arr 9 (.str)), (107, .arr 3 (.int .i64))] } }]] none .nil .nil)) (.mk [] none (.mk [.join [{ e := .n, j := { regs := [(0, .one .keep), (4, .one (.own 91)), (5, .one (.own 107)), (6, .one .keep), (7, .one .keep), (102, .one (.data (.bool)))], vars := [], arrs := [(91, .arr 9 (.str)), (107, .arr 3 (.int .i64))] } }]] none .nil .nil) (.mk [.join [{ e := .n, j := { regs := [(0, .one .keep), (4, .one (.own 91)), (5, .one (.own 107)), (6, .one .keep)], vars := [], arrs := [(91, .arr 9 (.str)), (107, .arr 3 (.int .i64))] } }]] none .nil .nil))))) .nil) .nil)) .nil) .nil)) .nil)))))
    Try.func37 rfl nmr37 rfl rfl rfl rfl types_ok ⟨trivial, trivial⟩ mx (fun x => by kernel_rfl)

noncomputable def ref38_part_L0 (total : Int) (weight : Int) (sum : Int) (q : Int) (r : Int) (i : Int) : Option ((Int × Int × Int) ⊕ (Int × Int)) :=
  bif decide (0 ≤ i) then (
   gd (!decide (wu64 i < 0)) <|
   Option.bind (α := Int) (
     bif decide (bitAnd .i64 (Int.fdiv total (2 ^ shAmt .i64 (wu64 i))) 1 = 1) then (
      some (wi64 ((wi64 (2 * r)) + weight)))
     else (
      some (wi64 (2 * r)))) fun s =>
   gd (!decide (sum = 0)) <|
   gd (!decide (sum = 0)) <|
   some (.inl (wi64 ((wi64 (2 * q)) + (wi64 (Int.tdiv s sum))), Int.tmod s sum, wi64 (i - 1))))
  else (
   some (.inr (q, r)))

noncomputable def ref38_part (total : Int) (weight : Int) (sum : Int) : Option (Int × Int) :=
  (iter (fun x => ref38_part_L0 total weight sum x.1 x.2.1 x.2.2) (0, 0, 40)).bind fun s2 =>
  some (s2.1, s2.2)

noncomputable def fn_ref38_part : Fun :=
  { f := 66, np := 3, nr := 2,
    ji := { regs := [(0, .one (.data (.int .i64))), (1, .one (.data (.int .i64))), (2, .one (.data (.int .i64)))], vars := [], arrs := [] },
    jo := { regs := [(0, .one (.data (.int .i64))), (1, .one (.data (.int .i64)))], vars := [], arrs := [] },
    tw := fun x => ref38_part x.1 x.2.1 x.2.2 }
noncomputable def cx_ref38_part : Cx := { Γ := types, ow := [], fs := [], N := 38 }
theorem ok_ref38_part : FunOk Try.prog fn_ref38_part :=
  FunOk.intro (C := cx_ref38_part) (p := (.mk [] none .nil (.mk [] none .nil (.mk [] none (.mk [] none .nil (.mk [] none (.mk [] (some ({ regs := [(0, .one .keep), (1, .one .keep), (2, .one .keep), (8, .one (.data (.int .i64))), (9, .one (.data (.int .i64))), (10, .one (.data (.int .i64)))], vars := [], arrs := [] }, [{ e := .x 0, j := { regs := [(8, .one (.data (.int .i64))), (9, .one (.data (.int .i64)))], vars := [], arrs := [] } }])) (.mk [] none .nil (.mk [] none (.mk [] none (.mk [] none .nil (.mk [] none (.mk [] none .nil (.mk [.join [{ e := .n, j := { regs := [(0, .one .keep), (1, .one .keep), (2, .one .keep), (8, .one .keep), (9, .one (.data (.int .i64))), (10, .one .keep)], vars := [], arrs := [] } }]] none .nil .nil)) .nil)) .nil) .nil)) .nil) .nil)) .nil))))
    Try.func66 rfl nmr66 rfl rfl rfl rfl types_ok ⟨trivial, trivial⟩ mx (fun x => by kernel_rfl)

noncomputable def ref38_Share_L0 (weights : List Int) (sum : Int) (i : Int) : Option ((Int × Int) ⊕ (Int ⊕ (List Int × Int))) :=
  bif decide (i < (weights.length : Int)) then (
   Option.bind (α := Bool) (
     gd (inB i weights.length) <|
     bif decide (weights.getD i.toNat 0 < 0) then (
      some true)
     else (
      gd (inB i weights.length) <|
      some (decide (1125899906842624 < weights.getD i.toNat 0)))) fun s2 =>
   bif s2 then (
    some (.inr (.inr ([], 1))))
   else (
    gd (inB i weights.length) <|
    some (.inl (wi64 (sum + (weights.getD i.toNat 0)), wi64 (i + 1)))))
  else (
   some (.inr (.inl sum)))

noncomputable def ref38_Share_L1 (total : Int) (weights : List Int) (s4 : Int) (left : Int) (i2 : Int) (out : List Int) (rest : List Int) : Option ((Int × Int × List Int × List Int) ⊕ (Int × List Int × List Int)) :=
  bif decide (i2 < (weights.length : Int)) then (
   gd (inB i2 weights.length) <|
   (ref38_part (max total (wi64 (0 - total))) (weights.getD i2.toNat 0) s4).bind fun r =>
   gd (inB i2 out.length) <|
   gd (inB i2 rest.length) <|
   gd (inB i2 (out.set i2.toNat r.1).length) <|
   some (.inl (wi64 (left - ((out.set i2.toNat r.1).getD i2.toNat 0)), wi64 (i2 + 1), out.set i2.toNat r.1, rest.set i2.toNat r.2)))
  else (
   some (.inr (left, out, rest)))

noncomputable def ref38_Share_L3 (k : Int) (i3 : Int) (out3 : List Int) (rest3 : List Int) : Option ((Int × Int × List Int × List Int) ⊕ (Int × List Int × List Int)) :=
  bif decide (i3 < (rest3.length : Int)) then (
   gd (inB i3 rest3.length) <|
   gd (inB k rest3.length) <|
   Option.bind (α := Int × List Int × List Int) (
     bif decide (rest3.getD k.toNat 0 < rest3.getD i3.toNat 0) then (
      some (i3, out3, rest3))
     else (
      some (k, out3, rest3))) fun s7 =>
   some (.inl (s7.1, wi64 (i3 + 1), s7.2.1, s7.2.2)))
  else (
   some (.inr (k, out3, rest3)))

noncomputable def ref38_Share_L2 (left2 : Int) (out2 : List Int) (rest2 : List Int) : Option ((Int × List Int × List Int) ⊕ (List Int)) :=
  bif decide (0 < left2) then (
   (iter (fun x3 => ref38_Share_L3 x3.1 x3.2.1 x3.2.2.1 x3.2.2.2) (0, 1, out2, rest2)).bind fun s8 =>
   gd (inB s8.1 s8.2.1.length) <|
   gd (inB s8.1 s8.2.1.length) <|
   gd (inB s8.1 s8.2.2.length) <|
   some (.inl (wi64 (left2 - 1), s8.2.1.set s8.1.toNat (wi64 ((s8.2.1.getD s8.1.toNat 0) + 1)), s8.2.2.set s8.1.toNat (-1))))
  else (
   some (.inr out2))

noncomputable def ref38_Share_L4 (total : Int) (i4 : Int) (out4 : List Int) : Option ((Int × List Int) ⊕ (List Int)) :=
  Option.bind (α := Bool × List Int) (
    bif decide (i4 < (out4.length : Int)) then (
     some (decide (total < 0), out4))
    else (
     some (false, out4))) fun s10 =>
  bif s10.1 then (
   gd (inB i4 s10.2.length) <|
   gd (inB i4 s10.2.length) <|
   some (.inl (wi64 (i4 + 1), s10.2.set i4.toNat (wi64 (0 - (s10.2.getD i4.toNat 0))))))
  else (
   some (.inr s10.2))

noncomputable def ref38_Share (total : Int) (weights : List Int) : Option (List Int × Int) :=
  bif decide (64 < (weights.length : Int)) then (
   some ([], 4))
  else (
   Option.bind (α := Bool) (
     bif decide (total < (-1099511627776)) then (
      some true)
     else (
      some (decide (1099511627776 < total)))) fun s =>
   bif s then (
    some ([], 1))
   else (
    (iter (fun x => ref38_Share_L0 weights x.1 x.2) (0, 0)).bind fun s3 =>
    s3.elim (fun s4 =>
     bif decide (total = 0) then (
      gd (makeG 8 (weights.length : Int)) <|
      some (List.replicate (weights.length : Int).toNat 0, 0))
     else (
      bif decide (s4 = 0) then (
       some ([], 9))
      else (
       gd (makeG 8 (weights.length : Int)) <|
       gd (makeG 8 (weights.length : Int)) <|
       (iter (fun x2 => ref38_Share_L1 total weights s4 x2.1 x2.2.1 x2.2.2.1 x2.2.2.2) (max total (wi64 (0 - total)), 0, List.replicate (weights.length : Int).toNat 0, List.replicate (weights.length : Int).toNat 0)).bind fun s6 =>
       (iter (fun x4 => ref38_Share_L2 x4.1 x4.2.1 x4.2.2) (s6.1, s6.2.1, s6.2.2)).bind fun s9 =>
       (iter (fun x5 => ref38_Share_L4 total x5.1 x5.2) (0, s9)).bind fun s11 =>
       some (s11, 0))))
    (fun s5 =>
     some (s5.1, s5.2))))

noncomputable def fn_ref38_Share : Fun :=
  { f := 52, np := 2, nr := 2,
    ji := { regs := [(0, .one (.data (.int .i64))), (1, .one (.data (.sl (.int .i64))))], vars := [], arrs := [] },
    jo := { regs := [(0, .one (.data (.sl (.int .i64)))), (1, .one (.data (.int .i64)))], vars := [], arrs := [] },
    tw := fun x => ref38_Share x.1 x.2 }
noncomputable def cx_ref38_Share : Cx := { Γ := types, ow := [], fs := [fn_ref38_part], N := 144 }
theorem ok_ref38_Share : FunOk Try.prog fn_ref38_Share :=
  FunOk.intro (C := cx_ref38_Share) (p := (.mk [] none .nil (.mk [] none .nil (.mk [] none (.mk [] none (.mk [.join [{ e := .n, j := { regs := [(0, .one .keep), (1, .one .keep), (23, .one (.data (.bool)))], vars := [], arrs := [] } }]] none .nil .nil) .nil) (.mk [] none .nil (.mk [] none (.mk [] none .nil (.mk [] none (.mk [] (some ({ regs := [(0, .one .keep), (1, .one .keep), (6, .one (.data (.int .i64))), (7, .one (.data (.int .i64)))], vars := [], arrs := [] }, [{ e := .x 0, j := { regs := [(0, .one .keep), (1, .one .keep), (6, .one (.data (.int .i64)))], vars := [], arrs := [] } }, { e := .r, j := { regs := [(4, .one (.data (.sl (.int .i64)))), (5, .one (.data (.int .i64)))], vars := [], arrs := [] } }])) (.mk [] none .nil (.mk [] none (.mk [] none (.mk [] none (.mk [] none (.mk [.join [{ e := .n, j := { regs := [(0, .one .keep), (1, .one .keep), (6, .one .keep), (7, .one .keep), (41, .one (.data (.bool)))], vars := [], arrs := [] } }]] none .nil .nil) .nil) .nil) .nil) .nil)) .nil) .nil)) (.mk [] none .nil (.mk [] none .nil (.mk [] none .nil (.mk [] none .nil (.mk [] none .nil (.mk [] none (.mk [] none .nil (.mk [] none (.mk [] (some ({ regs := [(0, .one .keep), (1, .one .keep), (6, .one .keep), (8, .one (.own 928)), (9, .one (.own 976)), (10, .one (.data (.int .i64))), (11, .one (.data (.int .i64)))], vars := [], arrs := [(928, .arr 3 (.int .i64)), (976, .arr 3 (.int .i64))] }, [{ e := .x 2, j := { regs := [(0, .one .keep), (8, .one (.own 928)), (9, .one (.own 976)), (10, .one (.data (.int .i64)))], vars := [], arrs := [(928, .arr 3 (.int .i64)), (976, .arr 3 (.int .i64))] } }])) .nil .nil) .nil)) (.mk [] none (.mk [] none (.mk [] (some ({ regs := [(0, .one .keep), (8, .one (.own 928)), (9, .one (.own 976)), (10, .one (.data (.int .i64)))], vars := [], arrs := [(928, .arr 3 (.int .i64)), (976, .arr 3 (.int .i64))] }, [{ e := .x 4, j := { regs := [(0, .one .keep), (8, .one (.own 928))], vars := [], arrs := [(928, .arr 3 (.int .i64))] } }])) (.mk [] none .nil (.mk [] none (.mk [] none (.mk [] none .nil (.mk [] none (.mk [] none .nil (.mk [] none (.mk [] (some ({ regs := [(0, .one .keep), (8, .one (.own 928)), (9, .one (.own 976)), (10, .one .keep), (12, .one (.data (.int .i64))), (13, .one (.data (.int .i64)))], vars := [], arrs := [(928, .arr 3 (.int .i64)), (976, .arr 3 (.int .i64))] }, [{ e := .x 6, j := { regs := [(0, .one .keep), (8, .one (.own 928)), (9, .one (.own 976)), (10, .one .keep), (12, .one (.data (.int .i64)))], vars := [], arrs := [(928, .arr 3 (.int .i64)), (976, .arr 3 (.int .i64))] } }])) (.mk [] none .nil (.mk [] none (.mk [] none (.mk [] none .nil (.mk [.join [{ e := .n, j := { regs := [(0, .one .keep), (8, .one (.own 928)), (9, .one (.own 976)), (10, .one .keep), (12, .one (.data (.int .i64))), (13, .one .keep)], vars := [], arrs := [(928, .arr 3 (.int .i64)), (976, .arr 3 (.int .i64))] } }]] none .nil .nil)) .nil) .nil)) .nil) .nil)) .nil)) .nil) .nil)) .nil) .nil) (.mk [] none (.mk [] none .nil (.mk [] none (.mk [] (some ({ regs := [(0, .one .keep), (8, .one (.own 928)), (14, .one (.data (.int .i64)))], vars := [], arrs := [(928, .arr 3 (.int .i64))] }, [{ e := .x 8, j := { regs := [(8, .one (.own 928))], vars := [], arrs := [(928, .arr 3 (.int .i64))] } }])) (.mk [] none (.mk [] none (.mk [.join [{ e := .n, j := { regs := [(0, .one .keep), (8, .one (.own 928)), (14, .one .keep), (132, .one (.data (.bool)))], vars := [], arrs := [(928, .arr 3 (.int .i64))] } }]] none .nil .nil) .nil) .nil) .nil) .nil)) .nil))))))))))))))
    Try.func52 rfl nmr52 rfl rfl rfl rfl types_ok ⟨⟨ok_ref38_part, trivial⟩, trivial⟩ mx (fun x => by kernel_rfl)

noncomputable def ref38_Divide_L0 (r3 : List Int × Int) (i : Int) (names : List (List UInt8)) (out : List (List UInt8 × Int × Int)) : Option ((Int × List (List UInt8) × List (List UInt8 × Int × Int)) ⊕ (List (List UInt8 × Int × Int))) :=
  bif decide (i < (names.length : Int)) then (
   gd (inB i names.length) <|
   gd (inB i r3.1.length) <|
   gd (fits (out.length + 1) 32) <|
   some (.inl (wi64 (i + 1), names, out ++ [(names.getD i.toNat [], (4, r3.1.getD i.toNat 0))])))
  else (
   some (.inr out))

noncomputable def ref38_Divide (l : List (List UInt8 × Int × Int)) (difference : Int) : Option (Int × List (List UInt8 × Int × Int)) :=
  (ref38_Measured l).bind fun r =>
  bif !decide (r.2 = 0) then (
   some (r.2, []))
  else (
   Option.bind (α := Bool) (
     bif decide (difference < (-1099511627776)) then (
      some true)
     else (
      some (decide (1099511627776 < difference)))) fun s =>
   bif s then (
    some (1, []))
   else (
    (ref38_Shippers l).bind fun r2 =>
    bif decide (64 < (r2.1.length : Int)) then (
     some (4, []))
    else (
     (ref38_Share difference r2.2).bind fun r3 =>
     bif !decide (r3.2 = 0) then (
      some (r3.2, []))
     else (
      (iter (fun x => ref38_Divide_L0 r3 x.1 x.2.1 x.2.2) (0, r2.1, [])).bind fun s2 =>
      some (0, s2)))))

noncomputable def fn_ref38_Divide : Fun :=
  { f := 35, np := 2, nr := 2,
    ji := { regs := [(0, .one (.data (.sl (.pair (.str) (.pair (.int .i64) (.int .i64)))))), (1, .one (.data (.int .i64)))], vars := [], arrs := [] },
    jo := { regs := [(0, .one (.own 0)), (1, .one (.data (.int .i64)))], vars := [], arrs := [(0, .arr 35 (.pair (.str) (.pair (.int .i64) (.int .i64))))] },
    tw := fun x => ref38_Divide x.1 x.2 }
noncomputable def cx_ref38_Divide : Cx := { Γ := types, ow := [], fs := [fn_ref38_Measured, fn_ref38_Shippers, fn_ref38_Share], N := 64 }
theorem ok_ref38_Divide : FunOk Try.prog fn_ref38_Divide :=
  FunOk.intro (C := cx_ref38_Divide) (p := (.mk [] none .nil (.mk [] none .nil (.mk [] none (.mk [] none (.mk [.join [{ e := .n, j := { regs := [(0, .one .keep), (1, .one .keep), (27, .one (.data (.bool)))], vars := [], arrs := [] } }]] none .nil .nil) .nil) (.mk [] none .nil (.mk [] none .nil (.mk [] none (.mk [.fz [9]] none .nil .nil) (.mk [] none .nil (.mk [] none .nil (.mk [] none (.mk [] none .nil (.mk [] none (.mk [] (some ({ regs := [(8, .one (.own 496)), (10, .one .keep), (12, .one (.own 219)), (13, .one (.data (.int .i64)))], vars := [], arrs := [(496, .arr 9 (.str)), (219, .arr 35 (.pair (.str) (.pair (.int .i64) (.int .i64))))] }, [{ e := .x 0, j := { regs := [(12, .one (.own 219))], vars := [], arrs := [(219, .arr 35 (.pair (.str) (.pair (.int .i64) (.int .i64))))] } }])) .nil .nil) .nil)) .nil))))))))))
    Try.func35 rfl nmr35 rfl rfl rfl rfl types_ok ⟨⟨ok_ref38_Measured, ok_ref38_Shippers, ok_ref38_Share, trivial⟩, trivial⟩ mx (fun x => by kernel_rfl)

noncomputable def ref38_Same_L0 (a : List (List UInt8 × Int × Int)) (b : List (List UInt8 × Int × Int)) (i : Int) : Option (Int ⊕ (Unit ⊕ Bool)) :=
  bif decide (i < (a.length : Int)) then (
   gd (inB i a.length) <|
   gd (inB i b.length) <|
   bif !(decide ((a.getD i.toNat ([], (0, 0))).1 = (b.getD i.toNat ([], (0, 0))).1) && (decide (((a.getD i.toNat ([], (0, 0))).2).1 = ((b.getD i.toNat ([], (0, 0))).2).1) && decide (((a.getD i.toNat ([], (0, 0))).2).2 = ((b.getD i.toNat ([], (0, 0))).2).2))) then (
    some (.inr (.inr false)))
   else (
    some (.inl (wi64 (i + 1)))))
  else (
   some (.inr (.inl ())))

noncomputable def ref38_Same (a : List (List UInt8 × Int × Int)) (b : List (List UInt8 × Int × Int)) : Option (Bool) :=
  bif !decide ((a.length : Int) = (b.length : Int)) then (
   some false)
  else (
   (iter (fun x => ref38_Same_L0 a b x) 0).bind fun s =>
   s.elim (fun s2 =>
    some true)
   (fun s3 =>
    some s3))

noncomputable def fn_ref38_Same : Fun :=
  { f := 25, np := 2, nr := 1,
    ji := { regs := [(0, .one (.data (.sl (.pair (.str) (.pair (.int .i64) (.int .i64)))))), (1, .one (.data (.sl (.pair (.str) (.pair (.int .i64) (.int .i64))))))], vars := [], arrs := [] },
    jo := { regs := [(0, .one (.data (.bool)))], vars := [], arrs := [] },
    tw := fun x => ref38_Same x.1 x.2 }
noncomputable def cx_ref38_Same : Cx := { Γ := types, ow := [], fs := [], N := 26 }
theorem ok_ref38_Same : FunOk Try.prog fn_ref38_Same :=
  FunOk.intro (C := cx_ref38_Same) (p := (.mk [] none .nil (.mk [] none .nil (.mk [] none (.mk [] none .nil (.mk [] none (.mk [] (some ({ regs := [(0, .one .keep), (1, .one .keep), (5, .one (.data (.int .i64)))], vars := [], arrs := [] }, [{ e := .x 0, j := { regs := [], vars := [], arrs := [] } }, { e := .r, j := { regs := [(4, .one (.data (.bool)))], vars := [], arrs := [] } }])) .nil .nil) .nil)) .nil))))
    Try.func25 rfl nmr25 rfl rfl rfl rfl types_ok ⟨trivial, trivial⟩ mx (fun x => by kernel_rfl)

noncomputable def law38_AllocateMade_L0 (i : Int) (u : List (List UInt8)) (y : List (List UInt8)) : Option ((Int × List (List UInt8) × List (List UInt8)) ⊕ (Unit ⊕ Bool)) :=
  bif decide (i < (u.length : Int)) then (
   gd (inB i u.length) <|
   gd (inB i y.length) <|
   bif !decide (u.getD i.toNat [] = y.getD i.toNat []) then (
    some (.inr (.inr false)))
   else (
    some (.inl (wi64 (i + 1), u, y))))
  else (
   some (.inr (.inl ())))

noncomputable def law38_AllocateMade (l : List Int) (raw : List (List UInt8 × Int × Int)) (odd : Int) (vby : Int) : Option (Bool) :=
  Option.bind (α := Bool) (
    (second_Few l).bind fun r =>
    bif !r then (
     some true)
    else (
     some (decide (100 < (raw.length : Int))))) fun s =>
  bif s then (
   (law38_awake).bind fun r2 =>
   some r2)
  else (
   (keep_New l).bind fun r3 =>
   (second_Entries 30 r3.1 r3.2).bind fun r4 =>
   (keep_Src_Range (-100) 100 r4.1 r4.2.1).bind fun r5 =>
   Option.bind (α := (List (List UInt8 × Int × Int)) × Int) (
     bif decide (0 < (r4.2.2.length : Int)) then (
      (second_Mod vby (r4.2.2.length : Int)).bind fun r6 =>
      gd (inB r6 r4.2.2.length) <|
      (second_Mod odd 10).bind fun r7 =>
      Option.bind (α := (List (List UInt8 × Int × Int)) × Int) (
        bif decide (r7 = 0) then (
         (second_Mod vby 7).bind fun r8 =>
         some (r4.2.2.set r6.toNat ((r4.2.2.getD r6.toNat ([], (0, 0))).1, (wi64 (r8 - 1), ((r4.2.2.getD r6.toNat ([], (0, 0))).2).2)), r5.1))
        else (
         Option.bind (α := (List (List UInt8 × Int × Int)) × Int) (
           bif decide (r7 = 1) then (
            some (r4.2.2.set r6.toNat ((r4.2.2.getD r6.toNat ([], (0, 0))).1, (((r4.2.2.getD r6.toNat ([], (0, 0))).2).1, vby)), r5.1))
           else (
            Option.bind (α := (List (List UInt8 × Int × Int)) × Int) (
              bif decide (r7 = 2) then (
               (second_Mod vby 5).bind fun r9 =>
               gd (inB r9 [[], [55], [97, 32, 98], [97, 98, 99, 100, 101, 102, 103, 104, 105, 106, 107, 108, 109], [65]].length) <|
               some (r4.2.2.set r6.toNat ([[], [55], [97, 32, 98], [97, 98, 99, 100, 101, 102, 103, 104, 105, 106, 107, 108, 109], [65]].getD r9.toNat [], (r4.2.2.getD r6.toNat ([], (0, 0))).2), r5.1))
              else (
               Option.bind (α := (List (List UInt8 × Int × Int)) × Int) (
                 bif decide (r7 = 3) then (
                  some (r4.2.2, vby))
                 else (
                  Option.bind (α := List (List UInt8 × Int × Int)) (
                    bif decide (r7 = 4) then (
                     gd (fits (r4.2.2.length + raw.length) 32) <|
                     some (r4.2.2 ++ raw))
                    else (
                     Option.bind (α := List (List UInt8 × Int × Int)) (
                       bif decide (r7 = 5) then (
                        some raw)
                       else (
                        some r4.2.2)) fun s2 =>
                     some s2)) fun s3 =>
                  some (s3, r5.1))) fun s4 =>
               some (s4.1, s4.2))) fun s5 =>
            some (s5.1, s5.2))) fun s6 =>
         some (s6.1, s6.2))) fun s7 =>
      some (s7.1, s7.2))
     else (
      some (r4.2.2, r5.1))) fun s8 =>
   (allocate_Measured s8.1).bind fun r10 =>
   (ref38_Measured s8.1).bind fun r11 =>
   (allocate_Divide s8.1 s8.2).bind fun r12 =>
   (ref38_Divide s8.1 s8.2).bind fun r13 =>
   (allocate_Shippers s8.1).bind fun r14 =>
   (ref38_Shippers s8.1).bind fun r15 =>
   Option.bind (α := Bool × List (List UInt8) × List (List UInt8)) (
     bif !decide (r10.2 = r11.2) then (
      some (true, r14.1, r15.1))
     else (
      bif !decide (r10.1 = r11.1) then (
       some (true, r14.1, r15.1))
      else (
       bif !decide (r12.1 = r13.1) then (
        some (true, r14.1, r15.1))
       else (
        (ref38_Same r12.2 r13.2).bind fun r16 =>
        bif !r16 then (
         some (true, r14.1, r15.1))
        else (
         bif !decide ((r14.1.length : Int) = (r15.1.length : Int)) then (
          some (true, r14.1, r15.1))
         else (
          (ref23_SameInts r14.2 r15.2).bind fun r17 =>
          some ((!r17), r14.1, r15.1))))))) fun s9 =>
   bif s9.1 then (
    some false)
   else (
    (iter (fun x => law38_AllocateMade_L0 x.1 x.2.1 x.2.2) (0, s9.2.1, s9.2.2)).bind fun s10 =>
    s10.elim (fun s11 =>
     (law38_awake).bind fun r18 =>
     some r18)
    (fun s12 =>
     some s12)))

noncomputable def fn_law38_AllocateMade : Fun :=
  { f := 8, np := 4, nr := 1,
    ji := { regs := [(0, .one (.data (.sl (.int .i64)))), (1, .one (.data (.sl (.pair (.str) (.pair (.int .i64) (.int .i64)))))), (2, .one (.data (.int .i64))), (3, .one (.data (.int .i64)))], vars := [], arrs := [] },
    jo := { regs := [(0, .one (.data (.bool)))], vars := [], arrs := [] },
    tw := fun x => law38_AllocateMade x.1 x.2.1 x.2.2.1 x.2.2.2 }
noncomputable def cx_law38_AllocateMade : Cx := { Γ := types, ow := [], fs := [fn_second_Few, fn_law38_awake, fn_keep_New, fn_second_Entries, fn_keep_Src_Range, fn_second_Mod, fn_allocate_Measured, fn_ref38_Measured, fn_allocate_Divide, fn_ref38_Divide, fn_allocate_Shippers, fn_ref38_Shippers, fn_ref38_Same, fn_ref23_SameInts], N := 167 }
theorem ok_law38_AllocateMade : FunOk Try.prog fn_law38_AllocateMade :=
  FunOk.intro (C := cx_law38_AllocateMade) (p := (.mk [] none .nil (.mk [] none (.mk [] none (.mk [.join [{ e := .n, j := { regs := [(0, .one .keep), (1, .one .keep), (2, .one .keep), (3, .one .keep), (33, .one (.data (.bool)))], vars := [], arrs := [] } }]] none .nil .nil) .nil) (.mk [] none .nil (.mk [] none .nil (.mk [] none .nil (.mk [] none (.mk [] none .nil (.mk [.join [{ e := .n, j := { regs := [(10, .one (.data (.sl (.pair (.str) (.pair (.int .i64) (.int .i64)))))), (11, .one (.data (.int .i64)))], vars := [], arrs := [] } }]] none (.mk [] none .nil (.mk [] none .nil (.mk [] none (.mk [] none .nil (.mk [.join [{ e := .n, j := { regs := [(10, .one (.data (.sl (.pair (.str) (.pair (.int .i64) (.int .i64)))))), (11, .one (.data (.int .i64)))], vars := [], arrs := [] } }]] none .nil (.mk [] none .nil (.mk [.join [{ e := .n, j := { regs := [(10, .one (.data (.sl (.pair (.str) (.pair (.int .i64) (.int .i64)))))), (11, .one (.data (.int .i64)))], vars := [], arrs := [] } }]] none .nil (.mk [] none .nil (.mk [.join [{ e := .n, j := { regs := [(10, .one (.data (.sl (.pair (.str) (.pair (.int .i64) (.int .i64)))))), (11, .one (.data (.int .i64)))], vars := [], arrs := [] } }]] none .nil (.mk [] none .nil (.mk [.join [{ e := .n, j := { regs := [(10, .one (.data (.sl (.pair (.str) (.pair (.int .i64) (.int .i64)))))), (11, .one (.data (.int .i64)))], vars := [], arrs := [] } }]] none .nil (.mk [] none .nil (.mk [.join [{ e := .n, j := { regs := [(10, .one (.data (.sl (.pair (.str) (.pair (.int .i64) (.int .i64)))))), (11, .one .keep)], vars := [], arrs := [] } }]] none .nil (.mk [] none .nil (.mk [.join [{ e := .n, j := { regs := [(10, .one (.data (.sl (.pair (.str) (.pair (.int .i64) (.int .i64)))))), (11, .one .keep)], vars := [], arrs := [] } }]] none .nil .nil)))))))))))) .nil))) .nil)) (.mk [] none .nil (.mk [] none .nil (.mk [] none .nil (.mk [] none .nil (.mk [] none .nil (.mk [] none .nil (.mk [] none (.mk [] none (.mk [.join [{ e := .n, j := { regs := [(21, .one (.own 1792)), (23, .one (.own 1872)), (150, .one (.data (.bool)))], vars := [], arrs := [(1792, .arr 9 (.str)), (1872, .arr 9 (.str))] } }]] none .nil .nil) .nil) (.mk [] none (.mk [] none .nil (.mk [] none (.mk [] (some ({ regs := [(21, .one (.own 1792)), (23, .one (.own 1872)), (25, .one (.data (.int .i64)))], vars := [], arrs := [(1792, .arr 9 (.str)), (1872, .arr 9 (.str))] }, [{ e := .x 1, j := { regs := [], vars := [], arrs := [] } }, { e := .r, j := { regs := [(8, .one (.data (.bool)))], vars := [], arrs := [] } }])) .nil .nil) .nil)) .nil)))))))))))))))
    Try.func8 rfl nmr8 rfl rfl rfl rfl types_ok ⟨⟨ok_second_Few, ok_law38_awake, ok_keep_New, ok_second_Entries, ok_keep_Src_Range, ok_second_Mod, ok_allocate_Measured, ok_ref38_Measured, ok_allocate_Divide, ok_ref38_Divide, ok_allocate_Shippers, ok_ref38_Shippers, ok_ref38_Same, ok_ref23_SameInts, trivial⟩, trivial⟩ mx (fun x => by kernel_rfl)

end Go.Proofs.Ytmleldfhkangbaa
